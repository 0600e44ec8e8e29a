/- Walks of functions of the program: a plain Lean function for each, and a proof that a call answers as it says. Written by a program (the kit's print with changes, then shortened). -/
import Derived.Test.YtpoogjcgjpkbeaaDoorXA2
namespace Go.Proofs.YtpoogjcgjpkbeaaDoor.XA
open Go.RowKit Go.Proofs.YtpoogjcgjpkbeaaDoorW.PrintWords Go.Proofs.YtpoogjcgjpkbeaaDoorW.PrintLast Go.Proofs.YtpoogjcgjpkbeaaDoorW.PrintMore Go.Proofs.YtpoogjcgjpkbeaaDoorW.Sq Go.Proofs.YtpoogjcgjpkbeaaDoorW.Sr Go.Proofs.YtpoogjcgjpkbeaaDoorW.Ss
attribute [local go_sem] max2_int min2_int max_two min_two max_three min_three max_four min_four   -- for this text's walks alone
set_option linter.unusedVariables false
set_option linter.unusedSimpArgs false
set_option maxHeartbeats 8000000
set_option maxRecDepth 100000
open Go.RowKit Go.Proofs.YtpoogjcgjpkbeaaDoorW.PrintWords Go.Proofs.YtpoogjcgjpkbeaaDoorW.PrintLast Go.Proofs.YtpoogjcgjpkbeaaDoorW.PrintMore Go.Proofs.YtpoogjcgjpkbeaaDoorW.Sq Go.Proofs.YtpoogjcgjpkbeaaDoorW.Sr
/-! ### ir_Valid: function 85 -/
def ir_Valid.j0 : Nat → Bool → Bool → ByteArray → ByteArray → Option (Bool)
 | 0, _, _, _, _ => none
 | k + 1, x21, x784000, x784001, x784002 => if x21 = true then (some false) else (if x784001.toList = ([] : List UInt8) then (if x784000 = true then (some false) else (some (x784002.toList == ([] : List UInt8)))) else (if x784002.toList = ([] : List UInt8) then (some true) else ((ir_GCD.f k x784001 x784002).bind fun t786 => (some (t786.toList == ([1] : List UInt8))))))
def ir_Valid.f (k : Nat) (a0_0 : Bool) (a0_1 : ByteArray) (a0_2 : ByteArray) : Option (Bool) := (ir_Normalize.f k a0_1).bind fun t784 => (if t784.toList = a0_1.toList then ((ir_Normalize.f k a0_2).bind fun t785 => (if t785.toList = a0_2.toList then (ir_Valid.j0 k (a0_2.toList == ([1] : List UInt8)) a0_0 a0_1 a0_2) else (ir_Valid.j0 k true a0_0 a0_1 a0_2))) else (ir_Valid.j0 k true a0_0 a0_1 a0_2))
theorem ir_Valid.mono_l : ∀ k, (∀ y0 y1 y2 y3, LeO (ir_Valid.j0 k y0 y1 y2 y3) (ir_Valid.j0 (k + 1) y0 y1 y2 y3))
 | 0 => fun _ _ _ _ r h => by simp [ir_Valid.j0] at h
 | k + 1 => by
  have ih0 := ir_Valid.mono_l k
  ·intro y0 y1 y2 y3
   unfold ir_Valid.j0
   have m0 := @ih0; have m1 := @ir_GCD.mono; have m2 := @ir_Normalize.mono; exact xM
theorem ir_Valid.mono : ∀ a0 a1 a2 k, LeO (ir_Valid.f k a0 a1 a2) (ir_Valid.f (k + 1) a0 a1 a2) := by
 intro a0 a1 a2 k
 have ih0 := ir_Valid.mono_l k
 unfold ir_Valid.f
 have m0 := @ih0; have m1 := @ir_GCD.mono; have m2 := @ir_Normalize.mono; exact xM
theorem ir_Valid.calls (k : Nat) (a0_0 : Bool) (a0_1 : ByteArray) (a0_2 : ByteArray) (r : Bool) (w : World) (h : ir_Valid.f k a0_0 a0_1 a0_2 = some r) :
  Calls Tryd.prog 85 #[.agg #[.bool a0_0, .string a0_1, .string a0_2]] w fun e w' => e = .returned (.bool r) ∧ Below w.heap.size w w' := by
 have hu25 := Tryd.underlying25
 have HB := Aside0.mk (Below.refl w.heap.size w)
 have H := h; clear h
 unfold ir_Valid.f at H
 have HC2 := Aside0.mk H
 clear H
 go_enter Tryd.func85, Tryd.ntmps85
 go_upto_region 1 with (refine xF (N := 1) #[.bool a0_0, .string a0_1, .string a0_2] 25 HB ?_; clear HB; intro gb783 hg w3 hb BK783 GW783 HB; clear hb hg)
 repeat (go_quiet (((with_reducible refine gate_dst (N := 1) rfl ?_); refine box_event ?hg (N := 1) ?hd (cs := #[.bool a0_0, .string a0_1, .string a0_2]) (t := 25) ?hr ?_; (case hd => rfl); (case hg => rfl); (case hr => first | (go_simp; done) | (go_simp; rfl)); intro gb783 hg w3 hbox hb; have n0_ := xS HB hb; have n1_ := Aside0.mk (hbox); have n2_ := (xG HB hg); have n3_ := (xG HB hg); clear HB; have HB := n0_; have BK783 := n1_; have GW783 := n2_; have GE783 := n3_; clear n0_ n1_ n2_ n3_; clear hb hbox hg)); go_upto_region 1 with (refine xF (N := 1) #[.bool a0_0, .string a0_1, .string a0_2] 25 HB ?_; clear HB; intro gb783 hg w3 hb BK783 GW783 HB; clear hb hg))
 go_cut [21] (fun v21 wc => ∃ (kq : Nat) (x21_1 : Bool), v21 = .bool x21_1 ∧ Aside0 (ir_Valid.j0 kq x21_1 a0_0 a0_1 a0_2 = some r) ∧ Aside0 (kq ≤ k) ∧ Aside0 (wc.heap[gb783]? = some (.cells #[.bool a0_0, .string a0_1, .string a0_2] 25 (0, 0))) ∧ Aside0 (Below w.heap.size w wc))
 case first =>
  have H := HC2.out
  clear HC2
  replace H := xH H; obtain ⟨t784, A4, H⟩ := H
  obtain ⟨c5, H⟩ | ⟨c5, H⟩ := xO H
  ·have c5b0 := beq_iff_eq.mpr c5
   have c5b1 := bne_eq_false_iff_eq.mpr c5
   clear c5
   skip
   replace H := xH H; obtain ⟨t785, A6, H⟩ := H
   obtain ⟨c7, H⟩ | ⟨c7, H⟩ := xO H
   ·have c7b0 := beq_iff_eq.mpr c7
    have c7b1 := bne_eq_false_iff_eq.mpr c7
    clear c7
    have H' := Aside0.mk H
    clear H
    obtain ⟨hcz8_0, hcz8_1, hcz8_2, hfz8_0, hfz8_1, hfz8_2⟩ := x6 BK783
    go_wp2_with (first | (go_at_call 89; (with_reducible refine (ir_Normalize.calls k a0_1 t784 _ A4.out).mono ?_); rintro e w' ⟨rfl, ⟨nd, rfl⟩⟩; (try first | exact ⟨rfl, _, World.drewN_drewN _ _ _⟩ | exact ⟨rfl, _, Eq.trans (World.drewN_drewN _ _ _) (congrArg (World.drewN _) (Nat.add_assoc _ _ _))⟩)) | (go_at_call 89; (with_reducible refine (ir_Normalize.calls k a0_2 t785 _ A6.out).mono ?_); rintro e w' ⟨rfl, ⟨nd, rfl⟩⟩; (try first | exact ⟨rfl, _, World.drewN_drewN _ _ _⟩ | exact ⟨rfl, _, Eq.trans (World.drewN_drewN _ _ _) (congrArg (World.drewN _) (Nat.add_assoc _ _ _))⟩)))
    repeat (go_quiet (first | (go_at_call 89; (with_reducible refine (ir_Normalize.calls k a0_1 t784 _ A4.out).mono ?_); rintro e w' ⟨rfl, ⟨nd, rfl⟩⟩; (try exact ⟨rfl, _, World.drewN_drewN _ _ _⟩)) | (go_at_call 89; (with_reducible refine (ir_Normalize.calls k a0_2 t785 _ A6.out).mono ?_); rintro e w' ⟨rfl, ⟨nd, rfl⟩⟩; (try exact ⟨rfl, _, World.drewN_drewN _ _ _⟩))); try go_wp2_with (first | (go_at_call 89; (with_reducible refine (ir_Normalize.calls k a0_1 t784 _ A4.out).mono ?_); rintro e w' ⟨rfl, ⟨nd, rfl⟩⟩; (try first | exact ⟨rfl, _, World.drewN_drewN _ _ _⟩ | exact ⟨rfl, _, Eq.trans (World.drewN_drewN _ _ _) (congrArg (World.drewN _) (Nat.add_assoc _ _ _))⟩)) | (go_at_call 89; (with_reducible refine (ir_Normalize.calls k a0_2 t785 _ A6.out).mono ?_); rintro e w' ⟨rfl, ⟨nd, rfl⟩⟩; (try first | exact ⟨rfl, _, World.drewN_drewN _ _ _⟩ | exact ⟨rfl, _, Eq.trans (World.drewN_drewN _ _ _) (congrArg (World.drewN _) (Nat.add_assoc _ _ _))⟩))))
    go_meet
    case rel => exact ⟨_, (a0_2.toList == ([1] : List UInt8)), xz, H', ⟨by omega⟩, ⟨xb BK783⟩, ⟨xs HB⟩⟩
   have c7b0 := beq_eq_false_iff_ne.mpr c7
   have c7b1 := bne_iff_ne.mpr c7
   have H' := Aside0.mk H
   clear H
   obtain ⟨hcz9_0, hcz9_1, hcz9_2, hfz9_0, hfz9_1, hfz9_2⟩ := x6 BK783
   go_wp2_with (first | (go_at_call 89; (with_reducible refine (ir_Normalize.calls k a0_1 t784 _ A4.out).mono ?_); rintro e w' ⟨rfl, ⟨nd, rfl⟩⟩; (try first | exact ⟨rfl, _, World.drewN_drewN _ _ _⟩ | exact ⟨rfl, _, Eq.trans (World.drewN_drewN _ _ _) (congrArg (World.drewN _) (Nat.add_assoc _ _ _))⟩)) | (go_at_call 89; (with_reducible refine (ir_Normalize.calls k a0_2 t785 _ A6.out).mono ?_); rintro e w' ⟨rfl, ⟨nd, rfl⟩⟩; (try first | exact ⟨rfl, _, World.drewN_drewN _ _ _⟩ | exact ⟨rfl, _, Eq.trans (World.drewN_drewN _ _ _) (congrArg (World.drewN _) (Nat.add_assoc _ _ _))⟩)))
   repeat (go_quiet (first | (go_at_call 89; (with_reducible refine (ir_Normalize.calls k a0_1 t784 _ A4.out).mono ?_); rintro e w' ⟨rfl, ⟨nd, rfl⟩⟩; (try exact ⟨rfl, _, World.drewN_drewN _ _ _⟩)) | (go_at_call 89; (with_reducible refine (ir_Normalize.calls k a0_2 t785 _ A6.out).mono ?_); rintro e w' ⟨rfl, ⟨nd, rfl⟩⟩; (try exact ⟨rfl, _, World.drewN_drewN _ _ _⟩))); try go_wp2_with (first | (go_at_call 89; (with_reducible refine (ir_Normalize.calls k a0_1 t784 _ A4.out).mono ?_); rintro e w' ⟨rfl, ⟨nd, rfl⟩⟩; (try first | exact ⟨rfl, _, World.drewN_drewN _ _ _⟩ | exact ⟨rfl, _, Eq.trans (World.drewN_drewN _ _ _) (congrArg (World.drewN _) (Nat.add_assoc _ _ _))⟩)) | (go_at_call 89; (with_reducible refine (ir_Normalize.calls k a0_2 t785 _ A6.out).mono ?_); rintro e w' ⟨rfl, ⟨nd, rfl⟩⟩; (try first | exact ⟨rfl, _, World.drewN_drewN _ _ _⟩ | exact ⟨rfl, _, Eq.trans (World.drewN_drewN _ _ _) (congrArg (World.drewN _) (Nat.add_assoc _ _ _))⟩))))
   go_meet
   case rel => exact ⟨_, (true), xz, H', ⟨by omega⟩, ⟨xb BK783⟩, ⟨xs HB⟩⟩
  have c5b0 := beq_eq_false_iff_ne.mpr c5
  have c5b1 := bne_iff_ne.mpr c5
  skip
  have H' := Aside0.mk H
  clear H
  obtain ⟨hcz10_0, hcz10_1, hcz10_2, hfz10_0, hfz10_1, hfz10_2⟩ := x6 BK783
  go_wp2_with (go_at_call 89; (with_reducible refine (ir_Normalize.calls k a0_1 t784 _ A4.out).mono ?_); rintro e w' ⟨rfl, ⟨nd, rfl⟩⟩; (try first | exact ⟨rfl, _, World.drewN_drewN _ _ _⟩ | exact ⟨rfl, _, Eq.trans (World.drewN_drewN _ _ _) (congrArg (World.drewN _) (Nat.add_assoc _ _ _))⟩))
  repeat (go_quiet ((go_at_call 89; (with_reducible refine (ir_Normalize.calls k a0_1 t784 _ A4.out).mono ?_); rintro e w' ⟨rfl, ⟨nd, rfl⟩⟩; (try exact ⟨rfl, _, World.drewN_drewN _ _ _⟩))); try go_wp2_with (go_at_call 89; (with_reducible refine (ir_Normalize.calls k a0_1 t784 _ A4.out).mono ?_); rintro e w' ⟨rfl, ⟨nd, rfl⟩⟩; (try first | exact ⟨rfl, _, World.drewN_drewN _ _ _⟩ | exact ⟨rfl, _, Eq.trans (World.drewN_drewN _ _ _) (congrArg (World.drewN _) (Nat.add_assoc _ _ _))⟩)))
  go_meet
  case rel => exact ⟨_, (true), xz, H', ⟨by omega⟩, ⟨xb BK783⟩, ⟨xs HB⟩⟩
 case rest =>
  clear HC2
  obtain ⟨kq, x21_1, rfl, HA, HJ1, BK783, HB⟩ := hcut
  cases kq with
  | zero => exact absurd HA.out (by simp [ir_Valid.j0])
  | succ kj1 =>
   have H := HA.out
   clear HA
   simp only [ir_Valid.j0] at H
   by_cases c11 : x21_1 = true
   ·subst c11
    replace H := xI H
    obtain rfl := Option.some.inj H
    go_wp2
    repeat (go_quiet (fail); try go_wp2)
    go_ret
    exact ⟨xy, xs HB⟩
   replace c11 := Bool.eq_false_iff.mpr c11
   subst c11
   have H1 : (if a0_1.toList = ([] : List UInt8) then (if a0_0 = true then (some false) else (some (a0_2.toList == ([] : List UInt8)))) else (if a0_2.toList = ([] : List UInt8) then (some true) else ((ir_GCD.f kj1 a0_1 a0_2).bind fun t786 => (some (t786.toList == ([1] : List UInt8)))))) = some r := by rw [if_neg (show ¬ (false = true) by decide)] at H; exact H
   clear H
   have H := H1
   clear H1
   obtain ⟨c12, H⟩ | ⟨c12, H⟩ := xO H
   ·have c12b0 := beq_iff_eq.mpr c12
    have c12b1 := bne_eq_false_iff_eq.mpr c12
    clear c12
    by_cases c13 : a0_0 = true
    ·subst c13
     replace H := xI H
     obtain rfl := Option.some.inj H
     obtain ⟨hcz14_0, hcz14_1, hcz14_2, hfz14_0, hfz14_1, hfz14_2⟩ := x6 BK783
     go_wp2
     repeat (go_quiet (fail); try go_wp2)
     go_ret
     exact ⟨xy, xs HB⟩
    replace c13 := Bool.eq_false_iff.mpr c13
    subst c13
    have H1 : (some (a0_2.toList == ([] : List UInt8))) = some r := by rw [if_neg (show ¬ (false = true) by decide)] at H; exact H
    clear H
    have H := H1
    clear H1
    obtain rfl := Option.some.inj H
    obtain ⟨hcz15_0, hcz15_1, hcz15_2, hfz15_0, hfz15_1, hfz15_2⟩ := x6 BK783
    go_wp2
    repeat (go_quiet (fail); try go_wp2)
    go_ret
    exact ⟨xy, xs HB⟩
   have c12b0 := beq_eq_false_iff_ne.mpr c12
   have c12b1 := bne_iff_ne.mpr c12
   obtain ⟨c16, H⟩ | ⟨c16, H⟩ := xO H
   ·have c16b0 := beq_iff_eq.mpr c16
    have c16b1 := bne_eq_false_iff_eq.mpr c16
    clear c16
    obtain rfl := Option.some.inj H
    obtain ⟨hcz17_0, hcz17_1, hcz17_2, hfz17_0, hfz17_1, hfz17_2⟩ := x6 BK783
    go_wp2
    repeat (go_quiet (fail); try go_wp2)
    go_ret
    exact ⟨xy, xs HB⟩
   have c16b0 := beq_eq_false_iff_ne.mpr c16
   have c16b1 := bne_iff_ne.mpr c16
   replace H := xH H; obtain ⟨t786, A18, H⟩ := H
   obtain rfl := Option.some.inj H
   obtain ⟨hcz19_0, hcz19_1, hcz19_2, hfz19_0, hfz19_1, hfz19_2⟩ := x6 BK783
   go_wp2_with (go_at_call 100; (with_reducible refine (ir_GCD.calls kj1 a0_1 a0_2 t786 _ A18.out).mono ?_); rintro e w20 ⟨rfl, hb⟩; replace BK783 := xB BK783 hb; replace HB := xS HB hb; clear hb)
   repeat (go_quiet ((go_at_call 100; (with_reducible refine (ir_GCD.calls kj1 a0_1 a0_2 t786 _ A18.out).mono ?_); rintro e w20 ⟨rfl, hb⟩; have n0_ := xB BK783 hb; have n1_ := xS HB hb; clear BK783; clear HB; have BK783 := n0_; have HB := n1_; clear n0_ n1_)); try go_wp2_with (go_at_call 100; (with_reducible refine (ir_GCD.calls kj1 a0_1 a0_2 t786 _ A18.out).mono ?_); rintro e w20 ⟨rfl, hb⟩; replace BK783 := xB BK783 hb; replace HB := xS HB hb; clear hb))
   go_ret
   exact ⟨xy, xs HB⟩
/-! ### ir_Fix: function 57 -/
def ir_Fix.f (k : Nat) (a0_0 : Bool) (a0_1 : ByteArray) (a0_2 : ByteArray) : Option (Bool × ByteArray × ByteArray) := (ir_Valid.f k a0_0 a0_1 a0_2).bind fun t789 => (if t789 = true then (some (a0_0, a0_1, a0_2)) else (some (false, (⟨#[]⟩ : ByteArray), (⟨#[]⟩ : ByteArray))))
theorem ir_Fix.mono : ∀ a0 a1 a2 k, LeO (ir_Fix.f k a0 a1 a2) (ir_Fix.f (k + 1) a0 a1 a2) := by
 intro a0 a1 a2 k
 unfold ir_Fix.f
 have m0 := @ir_Valid.mono; exact xM
theorem ir_Fix.calls (k : Nat) (a0_0 : Bool) (a0_1 : ByteArray) (a0_2 : ByteArray) (r1 : Bool) (r2 : ByteArray) (r3 : ByteArray) (w : World) (h : ir_Fix.f k a0_0 a0_1 a0_2 = some (r1, r2, r3)) :
  Calls Tryd.prog 57 #[.agg #[.bool a0_0, .string a0_1, .string a0_2]] w fun e w' => e = .returned (.agg #[.bool r1, .string r2, .string r3]) ∧ Below w.heap.size w w' := by
 have hu25 := Tryd.underlying25
 have HB := Aside0.mk (Below.refl w.heap.size w)
 have H := h; clear h
 unfold ir_Fix.f at H
 replace H := xH H; obtain ⟨t789, A2, H⟩ := H
 by_cases c3 : t789 = true
 ·subst c3
  replace H := xI H
  simp only [Option.some.injEq, Prod.mk.injEq] at H
  obtain ⟨rfl, rfl, rfl⟩ := H
  go_enter Tryd.func57, Tryd.ntmps57
  go_wp2_with (first | (refine xF (N := 1) #[.bool a0_0, .string a0_1, .string a0_2] 25 HB ?_; clear HB; intro gb787 hg w4 hb BK787 GW787 HB; clear hb hg) | (refine xF (N := 2) #[.bool false, .string (⟨#[]⟩ : ByteArray), .string (⟨#[]⟩ : ByteArray)] 25 HB ?_; clear HB; intro gb788 hg w5 hb BK788 GW788 HB; have NB787_788 := xL BK787 hg; have NB788_787 := xR BK787 hg; replace BK787 := xB BK787 hb; clear hb hg; have hnb6 := NB787_788.out; have hnc6 := NB788_787.out; obtain ⟨hcz7_0, hcz7_1, hcz7_2, hfz7_0, hfz7_1, hfz7_2⟩ := x6 BK787) | (refine xC Tryd.func85 (some 4) (ir_Valid.calls k a0_0 a0_1 a0_2 true _ A2.out) ?_; rintro w8 hb; replace BK787 := xB BK787 hb; replace BK788 := xB BK788 hb; replace HB := xS HB hb; clear hb; obtain ⟨hcz9_0, hcz9_1, hcz9_2, hfz9_0, hfz9_1, hfz9_2⟩ := x6 BK787; obtain ⟨hcz10_0, hcz10_1, hcz10_2, hfz10_0, hfz10_1, hfz10_2⟩ := x6 BK788))
  refine bodyPost_ret (results_cell_row rfl _ _ gb788 25 #[.bool a0_0, .string a0_1, .string a0_2] (0, 0) _ rfl (xp BK788) Tryd.underlying25 rfl (by kernel_rfl)) rfl ?_
  exact ⟨xy, xs HB⟩
 replace c3 := Bool.eq_false_iff.mpr c3
 subst c3
 have H1 : (some (false, (⟨#[]⟩ : ByteArray), (⟨#[]⟩ : ByteArray))) = some (r1, r2, r3) := by rw [if_neg (show ¬ (false = true) by decide)] at H; exact H
 clear H
 have H := H1
 clear H1
 simp only [Option.some.injEq, Prod.mk.injEq] at H
 obtain ⟨rfl, rfl, rfl⟩ := H
 go_enter Tryd.func57, Tryd.ntmps57
 go_wp2_with (first | (refine xF (N := 1) #[.bool a0_0, .string a0_1, .string a0_2] 25 HB ?_; clear HB; intro gb787 hg w11 hb BK787 GW787 HB; clear hb hg) | (refine xF (N := 2) #[.bool false, .string (⟨#[]⟩ : ByteArray), .string (⟨#[]⟩ : ByteArray)] 25 HB ?_; clear HB; intro gb788 hg w12 hb BK788 GW788 HB; have NB787_788 := xL BK787 hg; have NB788_787 := xR BK787 hg; replace BK787 := xB BK787 hb; clear hb hg; have hnb13 := NB787_788.out; have hnc13 := NB788_787.out; obtain ⟨hcz14_0, hcz14_1, hcz14_2, hfz14_0, hfz14_1, hfz14_2⟩ := x6 BK787) | (refine xC Tryd.func85 (some 4) (ir_Valid.calls k a0_0 a0_1 a0_2 false _ A2.out) ?_; rintro w15 hb; replace BK787 := xB BK787 hb; replace BK788 := xB BK788 hb; replace HB := xS HB hb; clear hb; obtain ⟨hcz16_0, hcz16_1, hcz16_2, hfz16_0, hfz16_1, hfz16_2⟩ := x6 BK788))
 refine bodyPost_ret (results_cell_row rfl _ _ gb788 25 #[.bool false, .string (⟨#[]⟩ : ByteArray), .string (⟨#[]⟩ : ByteArray)] (0, 0) _ rfl (xp BK788) Tryd.underlying25 rfl (by kernel_rfl)) rfl ?_
 exact ⟨xy, xs HB⟩
/-! ### ir_den: function 65 -/
def ir_den.f (k : Nat) (a0_0 : Bool) (a0_1 : ByteArray) (a0_2 : ByteArray) : Option (List Int) := if a0_2.toList = ([] : List UInt8) then (some ([1] : List Int)) else ((ir_limbs.f k a0_2).bind fun t802 => (some t802))
theorem ir_den.mono : ∀ a0 a1 a2 k, LeO (ir_den.f k a0 a1 a2) (ir_den.f (k + 1) a0 a1 a2) := by
 intro a0 a1 a2 k
 unfold ir_den.f
 have m0 := @ir_limbs.mono; exact xM
theorem ir_den.calls (k : Nat) (a0_0 : Bool) (a0_1 : ByteArray) (a0_2 : ByteArray) (r : List Int) (w : World) (h : ir_den.f k a0_0 a0_1 a0_2 = some r) :
  Calls Tryd.prog 65 #[.agg #[.bool a0_0, .string a0_1, .string a0_2]] w fun e w' => ∃ v0_ : Value, e = .returned (v0_) ∧ Kd.R (Kd.int .u32) 85 w' w.heap.size (fun _ => True) v0_ r ∧ Below w.heap.size w w' := by
 have hu25 := Tryd.underlying25
 have HB := Aside0.mk (Below.refl w.heap.size w)
 have H := h; clear h
 unfold ir_den.f at H
 obtain ⟨c2, H⟩ | ⟨c2, H⟩ := xO H
 ·have c2b0 := beq_iff_eq.mpr c2
  have c2b1 := bne_eq_false_iff_eq.mpr c2
  clear c2
  generalize hy799 : (([1] : List Int) : List Int) = y799 at H
  have Ny799 := Aside0.mk hy799.symm
  clear hy799
  obtain rfl := Option.some.inj H
  go_enter Tryd.func65, Tryd.ntmps65
  go_wp2_with (first | (refine xF (N := 1) #[.bool a0_0, .string a0_1, .string a0_2] 25 HB ?_; clear HB; intro gb798 hg w3 hb BK798 GW798 HB; clear hb hg; obtain ⟨hcz4_0, hcz4_1, hcz4_2, hfz4_0, hfz4_1, hfz4_2⟩ := x6 BK798) | ((with_reducible refine gate_dst (N := 6) rfl ?_); refine Kd.R_lit (Kd.int .u32) _ 85 ?hg (N := 6) ?hd (xs := ([1] : List Int)) (inner := [.int .u32 1]) (ok := fun _ => True) (okp := fun _ => True) ?hr ?hp (fun _ hk => hk) trivial (Below.refl _ _) (Nat.le_refl _) (by simp) ?_; (case hd => rfl); (case hg => rfl); (case hr => (go_simp; done)); (case hp => exact (Reps.one (show Kd.M (Kd.int .u32) _ _ _ 1 [.int .u32 1] from rfl) (Reps.none _ _))); intro v800 w5 ho6 hb hg_ hnew_; clear hg_ hnew_; (rw [← Ny799.out] at ho6); have HO801 := Aside0.mk (Kd.R_lower ho6 (below_size (xs HB))); replace BK798 := xB BK798 hb; replace HB := xS HB hb; clear hb ho6))
  go_ret
  exact ⟨_, xy, HO801.out, xs HB⟩
 have c2b0 := beq_eq_false_iff_ne.mpr c2
 have c2b1 := bne_iff_ne.mpr c2
 replace H := xH H; obtain ⟨t802, A7, H⟩ := H
 obtain rfl := Option.some.inj H
 go_enter Tryd.func65, Tryd.ntmps65
 go_wp2_with (first | (refine xF (N := 1) #[.bool a0_0, .string a0_1, .string a0_2] 25 HB ?_; clear HB; intro gb798 hg w8 hb BK798 GW798 HB; clear hb hg; obtain ⟨hcz9_0, hcz9_1, hcz9_2, hfz9_0, hfz9_1, hfz9_2⟩ := x6 BK798) | (refine xg Tryd.func67 (some 9) #[.string a0_2] ?_; (with_reducible refine (ir_limbs.calls k a0_2 t802 _ A7.out).mono ?_); rintro e w10 ⟨v803, rfl, ho0, hb⟩; refine ⟨_, rfl, ?_⟩; have HO804 := Aside0.mk (Kd.R_lower ho0 (below_size (xs HB))); replace BK798 := xB BK798 hb; replace HB := xS HB hb; clear hb ho0))
 go_ret
 exact ⟨_, xy, HO804.out, xs HB⟩
/-! ### ir_times: function 66 -/
mutual
def ir_times.l0 : Nat → List Int → List Int → List Int → Int → Option (List Int)
 | 0, _, _, _, _ => none
 | k + 1, x0, x1, x5, x6 => if x6 < (x0.length : Int) then (ir_times.l1 k x0 x1 x5 x6 0 0) else ((ir_strip.f k x5).bind fun t808 => (some t808))
def ir_times.l1 : Nat → List Int → List Int → List Int → Int → Int → Int → Option (List Int)
 | 0, _, _, _, _, _, _ => none
 | k + 1, x0, x1, x5, x6, x7, x8 => if x8 < (x1.length : Int) then (if 0 ≤ x6 then (if x6 < (x0.length : Int) then (if 0 ≤ x8 then (if 0 ≤ (wrap64 (x6 + x8)) then (if (wrap64 (x6 + x8)) < (x5.length : Int) then (ir_times.l1 k x0 x1 (x5.set ((wrap64 (x6 + x8)) : Int).toNat ((IntKind.u64.wrap ((IntKind.u64.wrap (x7 + (IntKind.u64.wrap ((IntKind.u64.wrap (rd x0 x6)) * (IntKind.u64.wrap (rd x1 x8)))))) + (IntKind.u64.wrap (rd x5 (wrap64 (x6 + x8)))))) % 4294967296)) x6 ((IntKind.u64.wrap ((IntKind.u64.wrap (x7 + (IntKind.u64.wrap ((IntKind.u64.wrap (rd x0 x6)) * (IntKind.u64.wrap (rd x1 x8)))))) + (IntKind.u64.wrap (rd x5 (wrap64 (x6 + x8)))))) / 4294967296) (wrap64 (x8 + 1))) else (none)) else (none)) else (none)) else (none)) else (none)) else (if 0 ≤ (wrap64 (x6 + (x1.length : Int))) then (if (wrap64 (x6 + (x1.length : Int))) < (x5.length : Int) then (ir_times.l0 k x0 x1 (x5.set ((wrap64 (x6 + (x1.length : Int))) : Int).toNat ((x7) % 4294967296)) (wrap64 (x6 + 1))) else (none)) else (none))
end
def ir_times.f (k : Nat) (l0 : List Int) (l1 : List Int) : Option (List Int) := if 0 ≤ (wrap64 ((l0.length : Int) + (l1.length : Int))) then (if (wrap64 ((l0.length : Int) + (l1.length : Int)) : Int).toNat ≤ 70368744177664 then (ir_times.l0 k l0 l1 (List.replicate (wrap64 ((l0.length : Int) + (l1.length : Int)) : Int).toNat 0) 0) else (none)) else (none)
theorem ir_times.mono_l : ∀ k, (∀ y0 y1 y2 y3, LeO (ir_times.l0 k y0 y1 y2 y3) (ir_times.l0 (k + 1) y0 y1 y2 y3)) ∧ (∀ y0 y1 y2 y3 y4 y5, LeO (ir_times.l1 k y0 y1 y2 y3 y4 y5) (ir_times.l1 (k + 1) y0 y1 y2 y3 y4 y5))
 | 0 => ⟨fun _ _ _ _ r h => by simp [ir_times.l0] at h, fun _ _ _ _ _ _ r h => by simp [ir_times.l1] at h⟩
 | k + 1 => by
  obtain ⟨ih0, ih1⟩ := ir_times.mono_l k
  refine ⟨?_, ?_⟩
  ·intro y0 y1 y2 y3
   unfold ir_times.l0
   have m0 := @ih0; have m1 := @ih1; have m2 := @ir_strip.mono; exact xM
  ·intro y0 y1 y2 y3 y4 y5
   unfold ir_times.l1
   have m0 := @ih0; have m1 := @ih1; have m2 := @ir_strip.mono; exact xM
theorem ir_times.mono : ∀ a0 a1 k, LeO (ir_times.f k a0 a1) (ir_times.f (k + 1) a0 a1) := by
 intro a0 a1 k
 obtain ⟨ih0, ih1⟩ := ir_times.mono_l k
 unfold ir_times.f
 have m0 := @ih0; have m1 := @ih1; have m2 := @ir_strip.mono; exact xM
theorem ir_times.calls (k : Nat) (A0 : Option Addr) (c0 : Nat) (l0 : List Int) (A1 : Option Addr) (c1 : Nat) (l1 : List Int) (r : List Int) (w : World) (hr0 : Kd.C (Kd.int .u32) w A0 l0.length l0) (hc0 : l0.length ≤ c0) (hr1 : Kd.C (Kd.int .u32) w A1 l1.length l1) (hc1 : l1.length ≤ c1) (h : ir_times.f k l0 l1 = some r) :
  Calls Tryd.prog 66 #[.slice A0 l0.length c0, .slice A1 l1.length c1] w fun e w' => ∃ v0_ : Value, e = .returned (v0_) ∧ Kd.V (Kd.int .u32) 85 w' w.heap.size (fun k_ => (w.heap.size ≤ k_)) v0_ r ∧ Below w.heap.size w w' := by
 have HR0 := Aside0.mk hr0
 have HC0 := Aside0.mk hc0
 clear hr0 hc0
 have HR1 := Aside0.mk hr1
 have HC1 := Aside0.mk hc1
 clear hr1 hc1
 have HB := Aside0.mk (Below.refl w.heap.size w)
 have H := h; clear h
 unfold ir_times.f at H
 generalize hji3 : (wrap64 ((l0.length : Int) + (l1.length : Int))) = ji3 at H
 have hji3w : (IntKind.i64.wrap ((l0.length : Int) + (l1.length : Int))) = ji3 := (i64_w _).trans hji3
 obtain ⟨c4b0, c4b1, H⟩ := xQt H
 obtain ⟨c5b0, c5b1, H⟩ := xQt H
 generalize hy805 : (List.replicate (ji3 : Int).toNat 0 : List Int) = y805 at H
 have Ny805 := Aside0.mk hy805.symm
 clear hy805
 have H' := Aside0.mk H
 clear H
 go_enter Tryd.func66, Tryd.ntmps66
 go_wp2_with ((with_reducible refine gate_dst (N := 14) rfl ?_); refine Kd.R_make (Kd.int .u32) _ 85 rfl (N := 14) rfl 73 _ _ rfl ji3 rfl rfl Tryd.underlying73 (.int .u32 0) 4 info85 rfl (by decide) (by omega) 0 (ok := fun _ => True) (okp := fun _ => True) rfl (fun _ hk => hk) trivial (xa) (Nat.le_trans (Nat.mul_le_mul_right _ (xa : ji3.toNat ≤ 70368744177664)) (by omega)) (Below.refl _ _) (Nat.le_refl _) ?_; intro v806 w6 ho7 hb hg_ hnew_; clear hg_ hnew_; (rw [← Ny805.out] at ho7); have HO807 := Aside0.mk (Kd.R_lower (Kd.R_newM (M := fun k_ => (w.heap.size ≤ k_)) ho7 (below_size (xs HB)) (fun k_ h_ => h_)) (below_size (xs HB))); replace HB := xS HB hb; clear hb ho7)
 repeat (go_quiet (((with_reducible refine gate_dst (N := 14) rfl ?_); refine Kd.R_make (Kd.int .u32) _ 85 rfl (N := 14) rfl 73 _ _ rfl ji3 rfl rfl Tryd.underlying73 (.int .u32 0) 4 info85 rfl (by decide) (by omega) 0 (ok := fun _ => True) (okp := fun _ => True) rfl (fun _ hk => hk) trivial (xa) (Nat.le_trans (Nat.mul_le_mul_right _ (xa : ji3.toNat ≤ 70368744177664)) (by omega)) (Below.refl _ _) (Nat.le_refl _) ?_; intro v806 w6 ho7 hb hg_ hnew_; clear hg_ hnew_; (first | rw [← Ny805.out] at ho7 | (simp only [Int.reduceToNat] at ho7; rw [← Ny805.out] at ho7)); have n0_ := Aside0.mk (Kd.R_lower (Kd.R_newM (M := fun k_ => (w.heap.size ≤ k_)) ho7 (below_size (xs HB)) (fun k_ h_ => h_)) (below_size (xs HB))); have n1_ := xS HB hb; clear HB; have HO807 := n0_; have HB := n1_; clear n0_ n1_; clear hb ho7)); try go_wp2_with ((with_reducible refine gate_dst (N := 14) rfl ?_); refine Kd.R_make (Kd.int .u32) _ 85 rfl (N := 14) rfl 73 _ _ rfl ji3 rfl rfl Tryd.underlying73 (.int .u32 0) 4 info85 rfl (by decide) (by omega) 0 (ok := fun _ => True) (okp := fun _ => True) rfl (fun _ hk => hk) trivial (xa) (Nat.le_trans (Nat.mul_le_mul_right _ (xa : ji3.toNat ≤ 70368744177664)) (by omega)) (Below.refl _ _) (Nat.le_refl _) ?_; intro v806 w6 ho7 hb hg_ hnew_; clear hg_ hnew_; (first | rw [← Ny805.out] at ho7 | (simp only [Int.reduceToNat] at ho7; rw [← Ny805.out] at ho7)); have HO807 := Aside0.mk (Kd.R_lower (Kd.R_newM (M := fun k_ => (w.heap.size ≤ k_)) ho7 (below_size (xs HB)) (fun k_ h_ => h_)) (below_size (xs HB))); replace HB := xS HB hb; clear hb ho7))
 go_loopg [6] k (fun kq v6 w' => ∃ (x5_1 : List Int) (x6_1 : Int), v6 = .int .i64 x6_1 ∧ Aside0 (ir_times.l0 kq l0 l1 x5_1 x6_1 = some r) ∧ Aside0 (kq ≤ k) ∧ Aside0 (Kd.R (Kd.int .u32) 85 w' w.heap.size (fun k_ => (w.heap.size ≤ k_)) v806 x5_1) ∧ Aside0 (Below w.heap.size w w'))
 case atStart => exact ⟨(y805), (0), xz, H', ⟨Nat.le_refl _⟩, ⟨by exact Kd.R_mono HO807.out (fun _ hk => hk.1)⟩, ⟨xs HB⟩⟩
 case round =>
  clear H'
  clear c4b0 c4b1 c5b0 c5b1
  obtain ⟨x5_1, x6_1, rfl, HA, HK1, HO_5, HB⟩ := hrel
  cases gk with
  | zero => exact absurd HA.out (by simp [ir_times.l0])
  | succ k1 =>
   have H := HA.out
   clear HA
   simp only [ir_times.l0] at H
   obtain ⟨c8b0, H⟩ | ⟨c8b0, H⟩ := xOd H
   ·have H' := Aside0.mk H
    clear H
    go_wp2
    repeat (go_quiet (fail); try go_wp2)
    go_loopg [7, 8] k1 (fun kq v7 v8 w' => ∃ (x5_2 : List Int) (x7_2 : Int) (x8_2 : Int), v7 = .int .u64 x7_2 ∧ v8 = .int .i64 x8_2 ∧ Aside0 (ir_times.l1 kq l0 l1 x5_2 x6_1 x7_2 x8_2 = some r) ∧ Aside0 (kq ≤ k1) ∧ Aside0 (Kd.R (Kd.int .u32) 85 w' w.heap.size (fun k_ => (w.heap.size ≤ k_)) v806 x5_2) ∧ Aside0 (Below w.heap.size w w'))
    case atStart => exact ⟨(x5_1), (0), (0), xz, xz, H', ⟨Nat.le_refl _⟩, ⟨xr HO_5.out⟩, ⟨xs HB⟩⟩
    case round =>
     clear H'
     clear c8b0
     obtain ⟨x5_2, x7_2, x8_2, rfl, rfl, HA, HK2, HO_5, HB⟩ := hrel
     cases gk with
     | zero => exact absurd HA.out (by simp [ir_times.l1])
     | succ k2 =>
      have H := HA.out
      clear HA
      simp only [ir_times.l1] at H
      obtain ⟨c9b0, H⟩ | ⟨c9b0, H⟩ := xOd H
      ·obtain ⟨c10b0, H⟩ := xQd H
       obtain ⟨c11b0, H⟩ := xQd H
       obtain ⟨c12b0, H⟩ := xQd H
       generalize hji13 : (wrap64 (x6_1 + x8_2)) = ji13 at H
       have hji13w : (IntKind.i64.wrap (x6_1 + x8_2)) = ji13 := (i64_w _).trans hji13
       obtain ⟨c14b0, H⟩ := xQd H
       obtain ⟨c15b0, H⟩ := xQd H
       generalize hy814 : (x5_2.set ((ji13) : Int).toNat ((IntKind.u64.wrap ((IntKind.u64.wrap (x7_2 + (IntKind.u64.wrap ((IntKind.u64.wrap (rd l0 x6_1)) * (IntKind.u64.wrap (rd l1 x8_2)))))) + (IntKind.u64.wrap (rd x5_2 (ji13))))) % 4294967296) : List Int) = y814 at H
       have Ny814 := Aside0.mk hy814.symm
       clear hy814
       have H' := Aside0.mk H
       clear H
       obtain ⟨p811, q811, ad811, e811, hx811_0⟩ := xA (Kd.at_int HR0.out x6_1)
       cases e811
       (try replace hx811_0 := xcl HB hx811_0)
       obtain ⟨p812, q812, ad812, e812, hx812_0⟩ := xA (Kd.at_int HR1.out x8_2)
       cases e812
       (try replace hx812_0 := xcl HB hx812_0)
       obtain ⟨Ao17, co17, eo17⟩ := Kd.R_slice HO_5.out
       subst eo17
       obtain ⟨p813, q813, ad813, e813, hx813_0⟩ := xA (Kd.at_int (Kd.R_reads' HO_5.out).2.2 (ji13))
       cases e813
       have p16 : 0 ≤ ((ji13) : Int) := xa
       have q16 : ((ji13) : Int) < ((x5_2.length : Int) : Int) := xa
       obtain ⟨go16, co16, eo16, gb16, gl16, cl16, HG16⟩ := Kd.R_form HO_5.out (by omega)
       cases eo16
       have GB16 := Aside0.mk gb16
       have GG16 := Aside0.mk HG16
       clear gb16 gl16 HG16
       simp only [add_plain] at hx813_0
       obtain ⟨hx16_0, hf16_0⟩ := Kd.R_celln 0 HO_5.out ((ji13) : Int) p16 q16
       replace p16 := eq_true p16
       replace q16 := eq_true q16
       have HP18 := Kd.R_putg HO_5.out ((ji13) : Int) ((IntKind.u64.wrap ((IntKind.u64.wrap (x7_2 + (IntKind.u64.wrap ((IntKind.u64.wrap (rd l0 x6_1)) * (IntKind.u64.wrap (rd l1 x8_2)))))) + (IntKind.u64.wrap (rd x5_2 (ji13))))) % 4294967296)
       go_wp2_with (refine xst 85 54 (wr.setCell ⟨go16, ((ji13) : Int).toNat, none⟩ (.int .u32 ((IntKind.u64.wrap ((IntKind.u64.wrap (x7_2 + (IntKind.u64.wrap ((IntKind.u64.wrap (rd l0 x6_1)) * (IntKind.u64.wrap (rd l1 x8_2)))))) + (IntKind.u64.wrap (rd x5_2 (ji13))))) % 4294967296))) ?_; intro w19 hw; have hg : wr.grownBy w19 (some go16) := (by rw [hw]; exact HP18.2); have hp_ : Kd.R (Kd.int .u32) 85 w19 w.heap.size (fun k_ => (w.heap.size ≤ k_)) (.slice (some ⟨go16, 0, none⟩) x5_2.length co17) y814 := (by rw [hw, Ny814.out]; exact HP18.1); clear HP18; replace HO_5 := Aside0.mk (hp_); replace HB := Aside0.mk (by rw [hw]; exact below_set (HB.out) GB16.out : Below w.heap.size w w19); clear hg hw hp_)
       repeat (go_quiet ((refine xst 85 54 (wr.setCell ⟨go16, ((ji13) : Int).toNat, none⟩ (.int .u32 ((IntKind.u64.wrap ((IntKind.u64.wrap (x7_2 + (IntKind.u64.wrap ((IntKind.u64.wrap (rd l0 x6_1)) * (IntKind.u64.wrap (rd l1 x8_2)))))) + (IntKind.u64.wrap (rd x5_2 (ji13))))) % 4294967296))) ?_; intro w19 hw; have hg : wr.grownBy w19 (some go16) := (by rw [hw]; exact HP18.2); have hp_ : Kd.R (Kd.int .u32) 85 w19 w.heap.size (fun k_ => (w.heap.size ≤ k_)) (.slice (some ⟨go16, 0, none⟩) x5_2.length co17) y814 := (by rw [hw, Ny814.out]; exact HP18.1); clear HP18; have n0_ := Aside0.mk (hp_); have n1_ := Aside0.mk (by rw [hw]; exact below_set (HB.out) GB16.out : Below w.heap.size w w19); clear HO_5; clear HB; have HO_5 := n0_; have HB := n1_; clear n0_ n1_; clear hg hw hp_)); try go_wp2_with ((with_reducible refine gate_store (t := 85) (p := 54) rfl ?_); (try (rw [drewN_self wr]; generalize hq_ : World.drewN wr _ = wr; have n0_ := Aside0.mk (Kd.R_at hq_ HO_5.out); have n1_ := Aside0.mk (below_at hq_ HB.out); clear hq_ HO_5 HB; have HO_5 := n0_; have HB := n1_; clear n0_ n1_; (try (have hc_ := Kd.R_celln 0 HO_5.out ((ji13) : Int) (of_eq_true p16) (of_eq_true q16); obtain ⟨hcx_, hcf_⟩ := hc_)); (try (have HP18 := Kd.R_putg HO_5.out ((ji13) : Int) ((IntKind.u64.wrap ((IntKind.u64.wrap (x7_2 + (IntKind.u64.wrap ((IntKind.u64.wrap (rd l0 x6_1)) * (IntKind.u64.wrap (rd l1 x8_2)))))) + (IntKind.u64.wrap (rd x5_2 (ji13))))) % 4294967296))))); refine xst 85 54 (wr.setCell ⟨go16, ((ji13) : Int).toNat, none⟩ (.int .u32 ((IntKind.u64.wrap ((IntKind.u64.wrap (x7_2 + (IntKind.u64.wrap ((IntKind.u64.wrap (rd l0 x6_1)) * (IntKind.u64.wrap (rd l1 x8_2)))))) + (IntKind.u64.wrap (rd x5_2 (ji13))))) % 4294967296))) ?_; intro w19 hw; have hg : wr.grownBy w19 (some go16) := (by rw [hw]; exact HP18.2); have hp_ : Kd.R (Kd.int .u32) 85 w19 w.heap.size (fun k_ => (w.heap.size ≤ k_)) (.slice (some ⟨go16, 0, none⟩) x5_2.length co17) y814 := (by rw [hw, Ny814.out]; exact HP18.1); clear HP18; replace HO_5 := Aside0.mk (hp_); replace HB := Aside0.mk (by rw [hw]; exact below_set (HB.out) GB16.out : Below w.heap.size w w19); clear hg hw hp_))
       go_roundg k2
       case measure => have := HK1.out; have := HK2.out; omega
       case rel => exact ⟨(y814), ((IntKind.u64.wrap ((IntKind.u64.wrap (x7_2 + (IntKind.u64.wrap ((IntKind.u64.wrap (rd l0 x6_1)) * (IntKind.u64.wrap (rd l1 x8_2)))))) + (IntKind.u64.wrap (rd x5_2 (ji13))))) / 4294967296), (wrap64 (x8_2 + 1)), (by rfl), xz, H', ⟨by have := HK1.out; have := HK2.out; omega⟩, ⟨xr HO_5.out⟩, ⟨xs HB⟩⟩
      generalize hji20 : (wrap64 (x6_1 + (l1.length : Int))) = ji20 at H
      have hji20w : (IntKind.i64.wrap (x6_1 + (l1.length : Int))) = ji20 := (i64_w _).trans hji20
      obtain ⟨c21b0, H⟩ := xQd H
      obtain ⟨c22b0, H⟩ := xQd H
      generalize hy815 : (x5_2.set ((ji20) : Int).toNat ((x7_2) % 4294967296) : List Int) = y815 at H
      have Ny815 := Aside0.mk hy815.symm
      clear hy815
      have H' := Aside0.mk H
      clear H
      have p23 : 0 ≤ ((ji20) : Int) := xa
      have q23 : ((ji20) : Int) < ((x5_2.length : Int) : Int) := xa
      obtain ⟨go23, co23, eo23, gb23, gl23, cl23, HG23⟩ := Kd.R_form HO_5.out (by omega)
      cases eo23
      have GB23 := Aside0.mk gb23
      have GG23 := Aside0.mk HG23
      clear gb23 gl23 HG23
      obtain ⟨hx23_0, hf23_0⟩ := Kd.R_celln 0 HO_5.out ((ji20) : Int) p23 q23
      replace p23 := eq_true p23
      replace q23 := eq_true q23
      have HP24 := Kd.R_putg HO_5.out ((ji20) : Int) ((x7_2) % 4294967296)
      go_wp2_with (refine xst 85 64 (wr.setCell ⟨go23, ((ji20) : Int).toNat, none⟩ (.int .u32 ((x7_2) % 4294967296))) ?_; intro w25 hw; have hg : wr.grownBy w25 (some go23) := (by rw [hw]; exact HP24.2); have hp_ : Kd.R (Kd.int .u32) 85 w25 w.heap.size (fun k_ => (w.heap.size ≤ k_)) (.slice (some ⟨go23, 0, none⟩) x5_2.length co23) y815 := (by rw [hw, Ny815.out]; exact HP24.1); clear HP24; replace HO_5 := Aside0.mk (hp_); replace HB := Aside0.mk (by rw [hw]; exact below_set (HB.out) GB23.out : Below w.heap.size w w25); clear hg hw hp_)
      repeat (go_quiet ((refine xst 85 64 (wr.setCell ⟨go23, ((ji20) : Int).toNat, none⟩ (.int .u32 ((x7_2) % 4294967296))) ?_; intro w25 hw; have hg : wr.grownBy w25 (some go23) := (by rw [hw]; exact HP24.2); have hp_ : Kd.R (Kd.int .u32) 85 w25 w.heap.size (fun k_ => (w.heap.size ≤ k_)) (.slice (some ⟨go23, 0, none⟩) x5_2.length co23) y815 := (by rw [hw, Ny815.out]; exact HP24.1); clear HP24; have n0_ := Aside0.mk (hp_); have n1_ := Aside0.mk (by rw [hw]; exact below_set (HB.out) GB23.out : Below w.heap.size w w25); clear HO_5; clear HB; have HO_5 := n0_; have HB := n1_; clear n0_ n1_; clear hg hw hp_)); try go_wp2_with (refine xst 85 64 (wr.setCell ⟨go23, ((ji20) : Int).toNat, none⟩ (.int .u32 ((x7_2) % 4294967296))) ?_; intro w25 hw; have hg : wr.grownBy w25 (some go23) := (by rw [hw]; exact HP24.2); have hp_ : Kd.R (Kd.int .u32) 85 w25 w.heap.size (fun k_ => (w.heap.size ≤ k_)) (.slice (some ⟨go23, 0, none⟩) x5_2.length co23) y815 := (by rw [hw, Ny815.out]; exact HP24.1); clear HP24; replace HO_5 := Aside0.mk (hp_); replace HB := Aside0.mk (by rw [hw]; exact below_set (HB.out) GB23.out : Below w.heap.size w w25); clear hg hw hp_))
      go_roundg k2
      case measure => have := HK1.out; have := HK2.out; omega
      case rel => exact ⟨(y815), (wrap64 (x6_1 + 1)), xz, H', ⟨by have := HK1.out; have := HK2.out; omega⟩, ⟨xr HO_5.out⟩, ⟨xs HB⟩⟩
   replace H := xH H; obtain ⟨t808, A26, H⟩ := H
   obtain rfl := Option.some.inj H
   obtain ⟨Ao27, co27, eo27⟩ := Kd.R_slice HO_5.out
   subst eo27
   go_wp2_with (go_at_call 88; (with_reducible refine (ir_strip.calls k1 (fun k_ => some k_ = (.slice Ao27 x5_1.length co27 : Value).ownBlock) _ _ x5_1 t808 _ ?side1 A26.out).mono ?_); (case side1 => exact Kd.R_V (Kd.R_tight rfl (HO_5.out))); rintro e w28 ⟨v809, rfl, ho0, hb⟩; have HO810 := xVm w (fun k_ => (w.heap.size ≤ k_)) ho0 (fun k_ hk_ => Or.elim hk_ (fun hs_ => ((HO_5.out).1 k_ hs_.symm)) (fun hn_ => (Nat.le_trans (below_size (xs HB)) hn_))); replace HO_5 := xRb HO_5 hb; replace HB := xS HB hb; clear hb ho0)
   repeat (go_quiet ((go_at_call 88; (with_reducible refine (ir_strip.calls k1 (fun k_ => some k_ = (.slice Ao27 x5_1.length co27 : Value).ownBlock) _ _ x5_1 t808 _ ?side1 A26.out).mono ?_); (case side1 => exact Kd.R_V (Kd.R_tight rfl (HO_5.out))); rintro e w28 ⟨v809, rfl, ho0, hb⟩; have n0_ := xRb HO_5 hb; have n1_ := xVm w (fun k_ => (w.heap.size ≤ k_)) ho0 (fun k_ hk_ => Or.elim hk_ (fun hs_ => ((HO_5.out).1 k_ hs_.symm)) (fun hn_ => (Nat.le_trans (below_size (xs HB)) hn_))); have n2_ := xS HB hb; clear HO_5; clear HB; have HO_5 := n0_; have HO810 := n1_; have HB := n2_; clear n0_ n1_ n2_)); try go_wp2_with (go_at_call 88; (with_reducible refine (ir_strip.calls k1 (fun k_ => some k_ = (.slice Ao27 x5_1.length co27 : Value).ownBlock) _ _ x5_1 t808 _ ?side1 A26.out).mono ?_); (case side1 => exact Kd.R_V (Kd.R_tight rfl (HO_5.out))); rintro e w28 ⟨v809, rfl, ho0, hb⟩; have HO810 := xVm w (fun k_ => (w.heap.size ≤ k_)) ho0 (fun k_ hk_ => Or.elim hk_ (fun hs_ => ((HO_5.out).1 k_ hs_.symm)) (fun hn_ => (Nat.le_trans (below_size (xs HB)) hn_))); replace HO_5 := xRb HO_5 hb; replace HB := xS HB hb; clear hb ho0))
   go_ret
   exact ⟨_, by rfl, HO810.out, xs HB⟩
/-! ### ir_plus: function 69 -/
mutual
def ir_plus.l0 : Nat → List Int → List Int → List Int → Int → Int → Option (List Int)
 | 0, _, _, _, _, _ => none
 | k + 1, x0, x1, x5, x6, x7 => if x7 < (x0.length : Int) then (ir_plus.j1 k x0 x1 x5 x6 x7 true) else (if x7 < (x1.length : Int) then (ir_plus.j1 k x0 x1 x5 x6 x7 true) else (ir_plus.j1 k x0 x1 x5 x6 x7 (decide (x6 > 0))))
def ir_plus.j1 : Nat → List Int → List Int → List Int → Int → Int → Bool → Option (List Int)
 | 0, _, _, _, _, _, _ => none
 | k + 1, x0, x1, x5, x6, x7, x21 => if x21 = true then (if x7 < (x0.length : Int) then (if 0 ≤ x7 then (if x7 < (x1.length : Int) then (if x5.length < 35184372088832 then (ir_plus.l0 k x0 x1 (x5 ++ [(IntKind.u64.wrap ((IntKind.u64.wrap (x6 + (IntKind.u64.wrap (rd x0 x7)))) + (IntKind.u64.wrap (rd x1 x7)))) % 4294967296]) ((IntKind.u64.wrap ((IntKind.u64.wrap (x6 + (IntKind.u64.wrap (rd x0 x7)))) + (IntKind.u64.wrap (rd x1 x7)))) / 4294967296) (wrap64 (x7 + 1))) else (none)) else (if x5.length < 35184372088832 then (ir_plus.l0 k x0 x1 (x5 ++ [(IntKind.u64.wrap (x6 + (IntKind.u64.wrap (rd x0 x7)))) % 4294967296]) ((IntKind.u64.wrap (x6 + (IntKind.u64.wrap (rd x0 x7)))) / 4294967296) (wrap64 (x7 + 1))) else (none))) else (none)) else (if x7 < (x1.length : Int) then (if 0 ≤ x7 then (if x5.length < 35184372088832 then (ir_plus.l0 k x0 x1 (x5 ++ [(IntKind.u64.wrap (x6 + (IntKind.u64.wrap (rd x1 x7)))) % 4294967296]) ((IntKind.u64.wrap (x6 + (IntKind.u64.wrap (rd x1 x7)))) / 4294967296) (wrap64 (x7 + 1))) else (none)) else (none)) else (if x5.length < 35184372088832 then (ir_plus.l0 k x0 x1 (x5 ++ [(x6) % 4294967296]) (x6 / 4294967296) (wrap64 (x7 + 1))) else (none)))) else (some x5)
end
def ir_plus.f (k : Nat) (l0 : List Int) (l1 : List Int) : Option (List Int) := ir_plus.l0 k l0 l1 ([] : List Int) 0 0
theorem ir_plus.mono_l : ∀ k, (∀ y0 y1 y2 y3 y4, LeO (ir_plus.l0 k y0 y1 y2 y3 y4) (ir_plus.l0 (k + 1) y0 y1 y2 y3 y4)) ∧ (∀ y0 y1 y2 y3 y4 y5, LeO (ir_plus.j1 k y0 y1 y2 y3 y4 y5) (ir_plus.j1 (k + 1) y0 y1 y2 y3 y4 y5))
 | 0 => ⟨fun _ _ _ _ _ r h => by simp [ir_plus.l0] at h, fun _ _ _ _ _ _ r h => by simp [ir_plus.j1] at h⟩
 | k + 1 => by
  obtain ⟨ih0, ih1⟩ := ir_plus.mono_l k
  refine ⟨?_, ?_⟩
  ·intro y0 y1 y2 y3 y4
   unfold ir_plus.l0
   have m0 := @ih0; have m1 := @ih1; exact xM
  ·intro y0 y1 y2 y3 y4 y5
   unfold ir_plus.j1
   have m0 := @ih0; have m1 := @ih1; exact xM
theorem ir_plus.mono : ∀ a0 a1 k, LeO (ir_plus.f k a0 a1) (ir_plus.f (k + 1) a0 a1) := by
 intro a0 a1 k
 obtain ⟨ih0, ih1⟩ := ir_plus.mono_l k
 unfold ir_plus.f
 have m0 := @ih0; have m1 := @ih1; exact xM
theorem ir_plus.calls (k : Nat) (A0 : Option Addr) (c0 : Nat) (l0 : List Int) (A1 : Option Addr) (c1 : Nat) (l1 : List Int) (r : List Int) (w : World) (hr0 : Kd.C (Kd.int .u32) w A0 l0.length l0) (hc0 : l0.length ≤ c0) (hr1 : Kd.C (Kd.int .u32) w A1 l1.length l1) (hc1 : l1.length ≤ c1) (h : ir_plus.f k l0 l1 = some r) :
  Calls Tryd.prog 69 #[.slice A0 l0.length c0, .slice A1 l1.length c1] w fun e w' => ∃ v0_ : Value, e = .returned (v0_) ∧ Kd.R (Kd.int .u32) 85 w' w.heap.size (fun _ => True) v0_ r ∧ Below w.heap.size w w' := by
 have HR0 := Aside0.mk hr0
 have HC0 := Aside0.mk hc0
 clear hr0 hc0
 have HR1 := Aside0.mk hr1
 have HC1 := Aside0.mk hc1
 clear hr1 hc1
 have HB := Aside0.mk (Below.refl w.heap.size w)
 have H := h; clear h
 unfold ir_plus.f at H
 have H' := Aside0.mk H
 clear H
 go_enter Tryd.func69, Tryd.ntmps69
 go_wp2
 go_loopg [5, 6, 7] k (fun kq v5 v6 v7 w' => ∃ (x5_1 : List Int) (x6_1 : Int) (x7_1 : Int), v6 = .int .u64 x6_1 ∧ v7 = .int .i64 x7_1 ∧ Aside0 (ir_plus.l0 kq l0 l1 x5_1 x6_1 x7_1 = some r) ∧ Aside0 (kq ≤ k) ∧ Aside0 (Kd.R (Kd.int .u32) 85 w' w.heap.size (fun _ => True) v5 x5_1) ∧ Aside0 (Below w.heap.size w w'))
 case atStart => exact ⟨([] : List Int), (0), (0), xz, xz, H', ⟨Nat.le_refl _⟩, ⟨by exact Kd.R_nil _ _ _ _ _⟩, ⟨xs HB⟩⟩
 case round =>
  clear H'
  obtain ⟨x5_1, x6_1, x7_1, rfl, rfl, HA, HK1, HO_5, HB⟩ := hrel
  cases gk with
  | zero => exact absurd HA.out (by simp [ir_plus.l0])
  | succ k1 =>
   have H := HA.out
   clear HA
   simp only [ir_plus.l0] at H
   have HC3 := Aside0.mk H
   clear H
   go_upto_region 4 with (fail)
   repeat (go_quiet (fail); go_upto_region 4 with (fail))
   go_cut [21] (fun v21 wc => ∃ (kq : Nat) (x21_2 : Bool), v21 = .bool x21_2 ∧ Aside0 (ir_plus.j1 kq l0 l1 x5_1 x6_1 x7_1 x21_2 = some r) ∧ Aside0 (kq ≤ k1) ∧ Aside0 (Kd.R (Kd.int .u32) 85 wc w.heap.size (fun _ => True) u5 x5_1) ∧ Aside0 (Below w.heap.size w wc))
   case first =>
    have H := HC3.out
    clear HC3
    obtain ⟨c4b0, H⟩ | ⟨c4b0, H⟩ := xOd H
    ·skip
     have H' := Aside0.mk H
     clear H
     go_wp2
     go_meet
     case rel => exact ⟨_, (true), xz, H', ⟨by have := HK1.out; omega⟩, ⟨xr HO_5.out⟩, ⟨xs HB⟩⟩
    skip
    obtain ⟨c5b0, H⟩ | ⟨c5b0, H⟩ := xOd H
    ·have H' := Aside0.mk H
     clear H
     go_wp2
     go_meet
     case rel => exact ⟨_, (true), xz, H', ⟨by have := HK1.out; omega⟩, ⟨xr HO_5.out⟩, ⟨xs HB⟩⟩
    have H' := Aside0.mk H
    clear H
    go_wp2
    go_meet
    case rel => exact ⟨_, (decide (x6_1 > 0)), xz, H', ⟨by have := HK1.out; omega⟩, ⟨xr HO_5.out⟩, ⟨xs HB⟩⟩
   case rest =>
    clear HC3
    obtain ⟨kq, x21_2, rfl, HA, HJ2, HO_5, HB⟩ := hcut
    cases kq with
    | zero => exact absurd HA.out (by simp [ir_plus.j1])
    | succ kj2 =>
     have H := HA.out
     clear HA
     simp only [ir_plus.j1] at H
     by_cases c6 : x21_2 = true
     ·subst c6
      replace H := xI H
      obtain ⟨c7b0, H⟩ | ⟨c7b0, H⟩ := xOd H
      ·obtain ⟨c8b0, H⟩ := xQd H
       obtain ⟨c9b0, H⟩ | ⟨c9b0, H⟩ := xOd H
       ·obtain ⟨c10, H⟩ := xQ H
        have LMc10 := Aside0.mk c10
        clear c10
        generalize hy818 : (x5_1 ++ [(IntKind.u64.wrap ((IntKind.u64.wrap (x6_1 + (IntKind.u64.wrap (rd l0 x7_1)))) + (IntKind.u64.wrap (rd l1 x7_1)))) % 4294967296] : List Int) = y818 at H
        have Ny818 := Aside0.mk hy818.symm
        clear hy818
        have H' := Aside0.mk H
        clear H
        obtain ⟨p816, q816, ad816, e816, hx816_0⟩ := xA (Kd.at_int HR0.out x7_1)
        cases e816
        (try replace hx816_0 := xcl HB hx816_0)
        obtain ⟨p817, q817, ad817, e817, hx817_0⟩ := xA (Kd.at_int HR1.out x7_1)
        cases e817
        (try replace hx817_0 := xcl HB hx817_0)
        go_wp2_with ((with_reducible refine gate_builtin (b := .append) (xs := #[.tmp 46, .tmp 49]) rfl ?_); (try (refine gate_guard (by rfl) ?_; dsimp only)); at_builtin; refine Kd.R_append (Kd.int .u32) (w0 := w) w.heap.size rfl (.tmp 46) (.tmp 49) 73 85 (.int .u32 0) 4 rfl Tryd.underlying73 info85 rfl (by decide) (by omega) u5 x5_1 ((IntKind.u64.wrap ((IntKind.u64.wrap (x6_1 + (IntKind.u64.wrap (rd l0 x7_1)))) + (IntKind.u64.wrap (rd l1 x7_1)))) % 4294967296) [.int .u32 ((IntKind.u64.wrap ((IntKind.u64.wrap (x6_1 + (IntKind.u64.wrap (rd l0 x7_1)))) + (IntKind.u64.wrap (rd l1 x7_1)))) % 4294967296)] (fun _ => True) (fun _ => False) rfl rfl ?aP (fun _ hk => hk.elim) ?aF ?aO ?aB ?aS ?aL ?_; (case aP => exact rfl); (case aB => exact (xs HB)); (case aF => exact (fun _ _ => trivial)); (case aO => exact (xr HO_5.out)); (case aS => exact (below_size (xs HB))); (case aL => have := LMc10.out; omega); intro v819 w11 ho hb hg hat; rw [← Ny818.out] at ho; replace HB := Aside0.mk (hb); have HO820 := Aside0.mk (ho); clear HO_5 ho hb hg hat)
        go_roundg kj2
        case measure => have := HK1.out; have := HJ2.out; omega
        case rel => exact ⟨(y818), ((IntKind.u64.wrap ((IntKind.u64.wrap (x6_1 + (IntKind.u64.wrap (rd l0 x7_1)))) + (IntKind.u64.wrap (rd l1 x7_1)))) / 4294967296), (wrap64 (x7_1 + 1)), xz, xz, H', ⟨by have := HK1.out; have := HJ2.out; omega⟩, ⟨xr HO820.out⟩, ⟨xs HB⟩⟩
       obtain ⟨c12, H⟩ := xQ H
       have LMc12 := Aside0.mk c12
       clear c12
       generalize hy821 : (x5_1 ++ [(IntKind.u64.wrap (x6_1 + (IntKind.u64.wrap (rd l0 x7_1)))) % 4294967296] : List Int) = y821 at H
       have Ny821 := Aside0.mk hy821.symm
       clear hy821
       have H' := Aside0.mk H
       clear H
       obtain ⟨p816, q816, ad816, e816, hx816_0⟩ := xA (Kd.at_int HR0.out x7_1)
       cases e816
       (try replace hx816_0 := xcl HB hx816_0)
       go_wp2_with ((with_reducible refine gate_builtin (b := .append) (xs := #[.tmp 46, .tmp 49]) rfl ?_); (try (refine gate_guard (by rfl) ?_; dsimp only)); at_builtin; refine Kd.R_append (Kd.int .u32) (w0 := w) w.heap.size rfl (.tmp 46) (.tmp 49) 73 85 (.int .u32 0) 4 rfl Tryd.underlying73 info85 rfl (by decide) (by omega) u5 x5_1 ((IntKind.u64.wrap (x6_1 + (IntKind.u64.wrap (rd l0 x7_1)))) % 4294967296) [.int .u32 ((IntKind.u64.wrap (x6_1 + (IntKind.u64.wrap (rd l0 x7_1)))) % 4294967296)] (fun _ => True) (fun _ => False) rfl rfl ?aP (fun _ hk => hk.elim) ?aF ?aO ?aB ?aS ?aL ?_; (case aP => exact rfl); (case aB => exact (xs HB)); (case aF => exact (fun _ _ => trivial)); (case aO => exact (xr HO_5.out)); (case aS => exact (below_size (xs HB))); (case aL => have := LMc12.out; omega); intro v822 w13 ho hb hg hat; rw [← Ny821.out] at ho; replace HB := Aside0.mk (hb); have HO823 := Aside0.mk (ho); clear HO_5 ho hb hg hat)
       go_roundg kj2
       case measure => have := HK1.out; have := HJ2.out; omega
       case rel => exact ⟨(y821), ((IntKind.u64.wrap (x6_1 + (IntKind.u64.wrap (rd l0 x7_1)))) / 4294967296), (wrap64 (x7_1 + 1)), xz, xz, H', ⟨by have := HK1.out; have := HJ2.out; omega⟩, ⟨xr HO823.out⟩, ⟨xs HB⟩⟩
      obtain ⟨c14b0, H⟩ | ⟨c14b0, H⟩ := xOd H
      ·obtain ⟨c15b0, H⟩ := xQd H
       obtain ⟨c16, H⟩ := xQ H
       have LMc16 := Aside0.mk c16
       clear c16
       generalize hy825 : (x5_1 ++ [(IntKind.u64.wrap (x6_1 + (IntKind.u64.wrap (rd l1 x7_1)))) % 4294967296] : List Int) = y825 at H
       have Ny825 := Aside0.mk hy825.symm
       clear hy825
       have H' := Aside0.mk H
       clear H
       obtain ⟨p824, q824, ad824, e824, hx824_0⟩ := xA (Kd.at_int HR1.out x7_1)
       cases e824
       (try replace hx824_0 := xcl HB hx824_0)
       go_wp2_with ((with_reducible refine gate_builtin (b := .append) (xs := #[.tmp 46, .tmp 49]) rfl ?_); (try (refine gate_guard (by rfl) ?_; dsimp only)); at_builtin; refine Kd.R_append (Kd.int .u32) (w0 := w) w.heap.size rfl (.tmp 46) (.tmp 49) 73 85 (.int .u32 0) 4 rfl Tryd.underlying73 info85 rfl (by decide) (by omega) u5 x5_1 ((IntKind.u64.wrap (x6_1 + (IntKind.u64.wrap (rd l1 x7_1)))) % 4294967296) [.int .u32 ((IntKind.u64.wrap (x6_1 + (IntKind.u64.wrap (rd l1 x7_1)))) % 4294967296)] (fun _ => True) (fun _ => False) rfl rfl ?aP (fun _ hk => hk.elim) ?aF ?aO ?aB ?aS ?aL ?_; (case aP => exact rfl); (case aB => exact (xs HB)); (case aF => exact (fun _ _ => trivial)); (case aO => exact (xr HO_5.out)); (case aS => exact (below_size (xs HB))); (case aL => have := LMc16.out; omega); intro v826 w17 ho hb hg hat; rw [← Ny825.out] at ho; replace HB := Aside0.mk (hb); have HO827 := Aside0.mk (ho); clear HO_5 ho hb hg hat)
       go_roundg kj2
       case measure => have := HK1.out; have := HJ2.out; omega
       case rel => exact ⟨(y825), ((IntKind.u64.wrap (x6_1 + (IntKind.u64.wrap (rd l1 x7_1)))) / 4294967296), (wrap64 (x7_1 + 1)), xz, xz, H', ⟨by have := HK1.out; have := HJ2.out; omega⟩, ⟨xr HO827.out⟩, ⟨xs HB⟩⟩
      obtain ⟨c18, H⟩ := xQ H
      have LMc18 := Aside0.mk c18
      clear c18
      generalize hy828 : (x5_1 ++ [(x6_1) % 4294967296] : List Int) = y828 at H
      have Ny828 := Aside0.mk hy828.symm
      clear hy828
      have H' := Aside0.mk H
      clear H
      go_wp2_with ((with_reducible refine gate_builtin (b := .append) (xs := #[.tmp 46, .tmp 49]) rfl ?_); (try (refine gate_guard (by rfl) ?_; dsimp only)); at_builtin; refine Kd.R_append (Kd.int .u32) (w0 := w) w.heap.size rfl (.tmp 46) (.tmp 49) 73 85 (.int .u32 0) 4 rfl Tryd.underlying73 info85 rfl (by decide) (by omega) u5 x5_1 ((x6_1) % 4294967296) [.int .u32 ((x6_1) % 4294967296)] (fun _ => True) (fun _ => False) rfl rfl ?aP (fun _ hk => hk.elim) ?aF ?aO ?aB ?aS ?aL ?_; (case aP => exact rfl); (case aB => exact (xs HB)); (case aF => exact (fun _ _ => trivial)); (case aO => exact (xr HO_5.out)); (case aS => exact (below_size (xs HB))); (case aL => have := LMc18.out; omega); intro v829 w19 ho hb hg hat; rw [← Ny828.out] at ho; replace HB := Aside0.mk (hb); have HO830 := Aside0.mk (ho); clear HO_5 ho hb hg hat)
      go_roundg kj2
      case measure => have := HK1.out; have := HJ2.out; omega
      case rel => exact ⟨(y828), (x6_1 / 4294967296), (wrap64 (x7_1 + 1)), xz, xz, H', ⟨by have := HK1.out; have := HJ2.out; omega⟩, ⟨xr HO830.out⟩, ⟨xs HB⟩⟩
     replace c6 := Bool.eq_false_iff.mpr c6
     subst c6
     have H1 : (some x5_1) = some r := by rw [if_neg (show ¬ (false = true) by decide)] at H; exact H
     clear H
     have H := H1
     clear H1
     obtain rfl := Option.some.inj H
     go_wp2
     go_ret
     exact ⟨_, xy, HO_5.out, xs HB⟩
/-! ### ir_minus: function 71 -/
def ir_minus.l0 : Nat → List Int → List Int → List Int → Int → Int → Option (List Int)
 | 0, _, _, _, _, _ => none
 | k + 1, x0, x1, x5, x6, x7 => if x7 < (x0.length : Int) then (if x7 < (x1.length : Int) then (if 0 ≤ x7 then (if (IntKind.u64.wrap (rd x0 x7)) < (IntKind.u64.wrap (x6 + (IntKind.u64.wrap (rd x1 x7)))) then (if x7 < (x5.length : Int) then (ir_minus.l0 k x0 x1 (x5.set (x7 : Int).toNat ((IntKind.u64.wrap ((IntKind.u64.wrap ((IntKind.u64.wrap (rd x0 x7)) + 4294967296)) - (IntKind.u64.wrap (x6 + (IntKind.u64.wrap (rd x1 x7)))))) % 4294967296)) 1 (wrap64 (x7 + 1))) else (none)) else (if x7 < (x5.length : Int) then (ir_minus.l0 k x0 x1 (x5.set (x7 : Int).toNat ((IntKind.u64.wrap ((IntKind.u64.wrap (rd x0 x7)) - (IntKind.u64.wrap (x6 + (IntKind.u64.wrap (rd x1 x7)))))) % 4294967296)) 0 (wrap64 (x7 + 1))) else (none))) else (none)) else (if 0 ≤ x7 then (if (IntKind.u64.wrap (rd x0 x7)) < x6 then (if x7 < (x5.length : Int) then (ir_minus.l0 k x0 x1 (x5.set (x7 : Int).toNat ((IntKind.u64.wrap ((IntKind.u64.wrap ((IntKind.u64.wrap (rd x0 x7)) + 4294967296)) - x6)) % 4294967296)) 1 (wrap64 (x7 + 1))) else (none)) else (if x7 < (x5.length : Int) then (ir_minus.l0 k x0 x1 (x5.set (x7 : Int).toNat ((IntKind.u64.wrap ((IntKind.u64.wrap (rd x0 x7)) - x6)) % 4294967296)) 0 (wrap64 (x7 + 1))) else (none))) else (none))) else ((ir_strip.f k x5).bind fun t834 => (some t834))
def ir_minus.f (k : Nat) (l0 : List Int) (l1 : List Int) : Option (List Int) := if 0 ≤ (l0.length : Int) then (if ((l0.length : Int) : Int).toNat ≤ 70368744177664 then (ir_minus.l0 k l0 l1 (List.replicate ((l0.length : Int) : Int).toNat 0) 0 0) else (none)) else (none)
theorem ir_minus.mono_l : ∀ k, (∀ y0 y1 y2 y3 y4, LeO (ir_minus.l0 k y0 y1 y2 y3 y4) (ir_minus.l0 (k + 1) y0 y1 y2 y3 y4))
 | 0 => fun _ _ _ _ _ r h => by simp [ir_minus.l0] at h
 | k + 1 => by
  have ih0 := ir_minus.mono_l k
  ·intro y0 y1 y2 y3 y4
   unfold ir_minus.l0
   have m0 := @ih0; have m1 := @ir_strip.mono; exact xM
theorem ir_minus.mono : ∀ a0 a1 k, LeO (ir_minus.f k a0 a1) (ir_minus.f (k + 1) a0 a1) := by
 intro a0 a1 k
 have ih0 := ir_minus.mono_l k
 unfold ir_minus.f
 have m0 := @ih0; have m1 := @ir_strip.mono; exact xM
theorem ir_minus.calls (k : Nat) (A0 : Option Addr) (c0 : Nat) (l0 : List Int) (A1 : Option Addr) (c1 : Nat) (l1 : List Int) (r : List Int) (w : World) (hr0 : Kd.C (Kd.int .u32) w A0 l0.length l0) (hc0 : l0.length ≤ c0) (hr1 : Kd.C (Kd.int .u32) w A1 l1.length l1) (hc1 : l1.length ≤ c1) (h : ir_minus.f k l0 l1 = some r) :
  Calls Tryd.prog 71 #[.slice A0 l0.length c0, .slice A1 l1.length c1] w fun e w' => ∃ v0_ : Value, e = .returned (v0_) ∧ Kd.V (Kd.int .u32) 85 w' w.heap.size (fun k_ => (w.heap.size ≤ k_)) v0_ r ∧ Below w.heap.size w w' := by
 have HR0 := Aside0.mk hr0
 have HC0 := Aside0.mk hc0
 clear hr0 hc0
 have HR1 := Aside0.mk hr1
 have HC1 := Aside0.mk hc1
 clear hr1 hc1
 have HB := Aside0.mk (Below.refl w.heap.size w)
 have H := h; clear h
 unfold ir_minus.f at H
 obtain ⟨c3b0, c3b1, H⟩ := xQt H
 obtain ⟨c4b0, c4b1, H⟩ := xQt H
 generalize hy831 : (List.replicate ((l0.length : Int) : Int).toNat 0 : List Int) = y831 at H
 have Ny831 := Aside0.mk hy831.symm
 clear hy831
 have H' := Aside0.mk H
 clear H
 go_enter Tryd.func71, Tryd.ntmps71
 go_wp2_with ((with_reducible refine gate_dst (N := 12) rfl ?_); refine Kd.R_make (Kd.int .u32) _ 85 rfl (N := 12) rfl 73 _ _ rfl (l0.length : Int) rfl rfl Tryd.underlying73 (.int .u32 0) 4 info85 rfl (by decide) (by omega) 0 (ok := fun _ => True) (okp := fun _ => True) rfl (fun _ hk => hk) trivial (xa) (Nat.le_trans (Nat.mul_le_mul_right _ (xa : (l0.length : Int).toNat ≤ 70368744177664)) (by omega)) (Below.refl _ _) (Nat.le_refl _) ?_; intro v832 w5 ho6 hb hg_ hnew_; clear hg_ hnew_; (rw [← Ny831.out] at ho6); have HO833 := Aside0.mk (Kd.R_lower (Kd.R_newM (M := fun k_ => (w.heap.size ≤ k_)) ho6 (below_size (xs HB)) (fun k_ h_ => h_)) (below_size (xs HB))); replace HB := xS HB hb; clear hb ho6)
 go_loopg [6, 7] k (fun kq v6 v7 w' => ∃ (x5_1 : List Int) (x6_1 : Int) (x7_1 : Int), v6 = .int .u64 x6_1 ∧ v7 = .int .i64 x7_1 ∧ Aside0 (ir_minus.l0 kq l0 l1 x5_1 x6_1 x7_1 = some r) ∧ Aside0 (kq ≤ k) ∧ Aside0 (Kd.R (Kd.int .u32) 85 w' w.heap.size (fun k_ => (w.heap.size ≤ k_)) v832 x5_1) ∧ Aside0 (Below w.heap.size w w'))
 case atStart => exact ⟨(y831), (0), (0), xz, xz, H', ⟨Nat.le_refl _⟩, ⟨by exact Kd.R_mono HO833.out (fun _ hk => hk.1)⟩, ⟨xs HB⟩⟩
 case round =>
  clear H'
  clear c3b0 c3b1 c4b0 c4b1
  obtain ⟨x5_1, x6_1, x7_1, rfl, rfl, HA, HK1, HO_5, HB⟩ := hrel
  cases gk with
  | zero => exact absurd HA.out (by simp [ir_minus.l0])
  | succ k1 =>
   have H := HA.out
   clear HA
   simp only [ir_minus.l0] at H
   obtain ⟨c7b0, H⟩ | ⟨c7b0, H⟩ := xOd H
   ·obtain ⟨c8b0, H⟩ | ⟨c8b0, H⟩ := xOd H
    ·obtain ⟨c9b0, H⟩ := xQd H
     obtain ⟨c10b0, H⟩ | ⟨c10b0, H⟩ := xOd H
     ·obtain ⟨c11b0, H⟩ := xQd H
      generalize hy839 : (x5_1.set (x7_1 : Int).toNat ((IntKind.u64.wrap ((IntKind.u64.wrap ((IntKind.u64.wrap (rd l0 x7_1)) + 4294967296)) - (IntKind.u64.wrap (x6_1 + (IntKind.u64.wrap (rd l1 x7_1)))))) % 4294967296) : List Int) = y839 at H
      have Ny839 := Aside0.mk hy839.symm
      clear hy839
      have H' := Aside0.mk H
      clear H
      obtain ⟨p837, q837, ad837, e837, hx837_0⟩ := xA (Kd.at_int HR1.out x7_1)
      cases e837
      (try replace hx837_0 := xcl HB hx837_0)
      obtain ⟨p838, q838, ad838, e838, hx838_0⟩ := xA (Kd.at_int HR0.out x7_1)
      cases e838
      (try replace hx838_0 := xcl HB hx838_0)
      have p12 : 0 ≤ (x7_1 : Int) := xa
      have q12 : (x7_1 : Int) < ((x5_1.length : Int) : Int) := xa
      obtain ⟨go12, co12, eo12, gb12, gl12, cl12, HG12⟩ := Kd.R_form HO_5.out (by omega)
      cases eo12
      have GB12 := Aside0.mk gb12
      have GG12 := Aside0.mk HG12
      clear gb12 gl12 HG12
      obtain ⟨hx12_0, hf12_0⟩ := Kd.R_celln 0 HO_5.out (x7_1 : Int) p12 q12
      replace p12 := eq_true p12
      replace q12 := eq_true q12
      have HP13 := Kd.R_putg HO_5.out (x7_1 : Int) ((IntKind.u64.wrap ((IntKind.u64.wrap ((IntKind.u64.wrap (rd l0 x7_1)) + 4294967296)) - (IntKind.u64.wrap (x6_1 + (IntKind.u64.wrap (rd l1 x7_1)))))) % 4294967296)
      go_wp2_with (refine xst 85 47 (wr.setCell ⟨go12, (x7_1 : Int).toNat, none⟩ (.int .u32 ((IntKind.u64.wrap ((IntKind.u64.wrap ((IntKind.u64.wrap (rd l0 x7_1)) + 4294967296)) - (IntKind.u64.wrap (x6_1 + (IntKind.u64.wrap (rd l1 x7_1)))))) % 4294967296))) ?_; intro w14 hw; have hg : wr.grownBy w14 (some go12) := (by rw [hw]; exact HP13.2); have hp_ : Kd.R (Kd.int .u32) 85 w14 w.heap.size (fun k_ => (w.heap.size ≤ k_)) (.slice (some ⟨go12, 0, none⟩) x5_1.length co12) y839 := (by rw [hw, Ny839.out]; exact HP13.1); clear HP13; replace HO_5 := Aside0.mk (hp_); replace HB := Aside0.mk (by rw [hw]; exact below_set (HB.out) GB12.out : Below w.heap.size w w14); clear hg hw hp_)
      go_roundg k1
      case measure => have := HK1.out; omega
      case rel => exact ⟨(y839), (1), (wrap64 (x7_1 + 1)), xz, xz, H', ⟨by have := HK1.out; omega⟩, ⟨xr HO_5.out⟩, ⟨xs HB⟩⟩
     obtain ⟨c15b0, H⟩ := xQd H
     generalize hy840 : (x5_1.set (x7_1 : Int).toNat ((IntKind.u64.wrap ((IntKind.u64.wrap (rd l0 x7_1)) - (IntKind.u64.wrap (x6_1 + (IntKind.u64.wrap (rd l1 x7_1)))))) % 4294967296) : List Int) = y840 at H
     have Ny840 := Aside0.mk hy840.symm
     clear hy840
     have H' := Aside0.mk H
     clear H
     obtain ⟨p837, q837, ad837, e837, hx837_0⟩ := xA (Kd.at_int HR1.out x7_1)
     cases e837
     (try replace hx837_0 := xcl HB hx837_0)
     obtain ⟨p838, q838, ad838, e838, hx838_0⟩ := xA (Kd.at_int HR0.out x7_1)
     cases e838
     (try replace hx838_0 := xcl HB hx838_0)
     have p16 : 0 ≤ (x7_1 : Int) := xa
     have q16 : (x7_1 : Int) < ((x5_1.length : Int) : Int) := xa
     obtain ⟨go16, co16, eo16, gb16, gl16, cl16, HG16⟩ := Kd.R_form HO_5.out (by omega)
     cases eo16
     have GB16 := Aside0.mk gb16
     have GG16 := Aside0.mk HG16
     clear gb16 gl16 HG16
     obtain ⟨hx16_0, hf16_0⟩ := Kd.R_celln 0 HO_5.out (x7_1 : Int) p16 q16
     replace p16 := eq_true p16
     replace q16 := eq_true q16
     have HP17 := Kd.R_putg HO_5.out (x7_1 : Int) ((IntKind.u64.wrap ((IntKind.u64.wrap (rd l0 x7_1)) - (IntKind.u64.wrap (x6_1 + (IntKind.u64.wrap (rd l1 x7_1)))))) % 4294967296)
     go_wp2_with (refine xst 85 47 (wr.setCell ⟨go16, (x7_1 : Int).toNat, none⟩ (.int .u32 ((IntKind.u64.wrap ((IntKind.u64.wrap (rd l0 x7_1)) - (IntKind.u64.wrap (x6_1 + (IntKind.u64.wrap (rd l1 x7_1)))))) % 4294967296))) ?_; intro w18 hw; have hg : wr.grownBy w18 (some go16) := (by rw [hw]; exact HP17.2); have hp_ : Kd.R (Kd.int .u32) 85 w18 w.heap.size (fun k_ => (w.heap.size ≤ k_)) (.slice (some ⟨go16, 0, none⟩) x5_1.length co16) y840 := (by rw [hw, Ny840.out]; exact HP17.1); clear HP17; replace HO_5 := Aside0.mk (hp_); replace HB := Aside0.mk (by rw [hw]; exact below_set (HB.out) GB16.out : Below w.heap.size w w18); clear hg hw hp_)
     go_roundg k1
     case measure => have := HK1.out; omega
     case rel => exact ⟨(y840), (0), (wrap64 (x7_1 + 1)), xz, xz, H', ⟨by have := HK1.out; omega⟩, ⟨xr HO_5.out⟩, ⟨xs HB⟩⟩
    obtain ⟨c19b0, H⟩ := xQd H
    obtain ⟨c20b0, H⟩ | ⟨c20b0, H⟩ := xOd H
    ·obtain ⟨c21b0, H⟩ := xQd H
     generalize hy842 : (x5_1.set (x7_1 : Int).toNat ((IntKind.u64.wrap ((IntKind.u64.wrap ((IntKind.u64.wrap (rd l0 x7_1)) + 4294967296)) - x6_1)) % 4294967296) : List Int) = y842 at H
     have Ny842 := Aside0.mk hy842.symm
     clear hy842
     have H' := Aside0.mk H
     clear H
     obtain ⟨p841, q841, ad841, e841, hx841_0⟩ := xA (Kd.at_int HR0.out x7_1)
     cases e841
     (try replace hx841_0 := xcl HB hx841_0)
     have p22 : 0 ≤ (x7_1 : Int) := xa
     have q22 : (x7_1 : Int) < ((x5_1.length : Int) : Int) := xa
     obtain ⟨go22, co22, eo22, gb22, gl22, cl22, HG22⟩ := Kd.R_form HO_5.out (by omega)
     cases eo22
     have GB22 := Aside0.mk gb22
     have GG22 := Aside0.mk HG22
     clear gb22 gl22 HG22
     obtain ⟨hx22_0, hf22_0⟩ := Kd.R_celln 0 HO_5.out (x7_1 : Int) p22 q22
     replace p22 := eq_true p22
     replace q22 := eq_true q22
     have HP23 := Kd.R_putg HO_5.out (x7_1 : Int) ((IntKind.u64.wrap ((IntKind.u64.wrap ((IntKind.u64.wrap (rd l0 x7_1)) + 4294967296)) - x6_1)) % 4294967296)
     go_wp2_with (refine xst 85 47 (wr.setCell ⟨go22, (x7_1 : Int).toNat, none⟩ (.int .u32 ((IntKind.u64.wrap ((IntKind.u64.wrap ((IntKind.u64.wrap (rd l0 x7_1)) + 4294967296)) - x6_1)) % 4294967296))) ?_; intro w24 hw; have hg : wr.grownBy w24 (some go22) := (by rw [hw]; exact HP23.2); have hp_ : Kd.R (Kd.int .u32) 85 w24 w.heap.size (fun k_ => (w.heap.size ≤ k_)) (.slice (some ⟨go22, 0, none⟩) x5_1.length co22) y842 := (by rw [hw, Ny842.out]; exact HP23.1); clear HP23; replace HO_5 := Aside0.mk (hp_); replace HB := Aside0.mk (by rw [hw]; exact below_set (HB.out) GB22.out : Below w.heap.size w w24); clear hg hw hp_)
     go_roundg k1
     case measure => have := HK1.out; omega
     case rel => exact ⟨(y842), (1), (wrap64 (x7_1 + 1)), xz, xz, H', ⟨by have := HK1.out; omega⟩, ⟨xr HO_5.out⟩, ⟨xs HB⟩⟩
    obtain ⟨c25b0, H⟩ := xQd H
    generalize hy843 : (x5_1.set (x7_1 : Int).toNat ((IntKind.u64.wrap ((IntKind.u64.wrap (rd l0 x7_1)) - x6_1)) % 4294967296) : List Int) = y843 at H
    have Ny843 := Aside0.mk hy843.symm
    clear hy843
    have H' := Aside0.mk H
    clear H
    obtain ⟨p841, q841, ad841, e841, hx841_0⟩ := xA (Kd.at_int HR0.out x7_1)
    cases e841
    (try replace hx841_0 := xcl HB hx841_0)
    have p26 : 0 ≤ (x7_1 : Int) := xa
    have q26 : (x7_1 : Int) < ((x5_1.length : Int) : Int) := xa
    obtain ⟨go26, co26, eo26, gb26, gl26, cl26, HG26⟩ := Kd.R_form HO_5.out (by omega)
    cases eo26
    have GB26 := Aside0.mk gb26
    have GG26 := Aside0.mk HG26
    clear gb26 gl26 HG26
    obtain ⟨hx26_0, hf26_0⟩ := Kd.R_celln 0 HO_5.out (x7_1 : Int) p26 q26
    replace p26 := eq_true p26
    replace q26 := eq_true q26
    have HP27 := Kd.R_putg HO_5.out (x7_1 : Int) ((IntKind.u64.wrap ((IntKind.u64.wrap (rd l0 x7_1)) - x6_1)) % 4294967296)
    go_wp2_with (refine xst 85 47 (wr.setCell ⟨go26, (x7_1 : Int).toNat, none⟩ (.int .u32 ((IntKind.u64.wrap ((IntKind.u64.wrap (rd l0 x7_1)) - x6_1)) % 4294967296))) ?_; intro w28 hw; have hg : wr.grownBy w28 (some go26) := (by rw [hw]; exact HP27.2); have hp_ : Kd.R (Kd.int .u32) 85 w28 w.heap.size (fun k_ => (w.heap.size ≤ k_)) (.slice (some ⟨go26, 0, none⟩) x5_1.length co26) y843 := (by rw [hw, Ny843.out]; exact HP27.1); clear HP27; replace HO_5 := Aside0.mk (hp_); replace HB := Aside0.mk (by rw [hw]; exact below_set (HB.out) GB26.out : Below w.heap.size w w28); clear hg hw hp_)
    go_roundg k1
    case measure => have := HK1.out; omega
    case rel => exact ⟨(y843), (0), (wrap64 (x7_1 + 1)), xz, xz, H', ⟨by have := HK1.out; omega⟩, ⟨xr HO_5.out⟩, ⟨xs HB⟩⟩
   replace H := xH H; obtain ⟨t834, A29, H⟩ := H
   obtain rfl := Option.some.inj H
   obtain ⟨Ao30, co30, eo30⟩ := Kd.R_slice HO_5.out
   subst eo30
   go_wp2_with (refine xg Tryd.func88 (some 49) #[.slice Ao30 x5_1.length co30] ?_; (with_reducible refine (ir_strip.calls k1 (fun k_ => some k_ = (.slice Ao30 x5_1.length co30 : Value).ownBlock) _ _ x5_1 t834 _ ?side1 A29.out).mono ?_); (case side1 => exact Kd.R_V (Kd.R_tight rfl (HO_5.out))); rintro e w31 ⟨v835, rfl, ho0, hb⟩; refine ⟨_, rfl, ?_⟩; have HO836 := xVm w (fun k_ => (w.heap.size ≤ k_)) ho0 (fun k_ hk_ => Or.elim hk_ (fun hs_ => ((HO_5.out).1 k_ hs_.symm)) (fun hn_ => (Nat.le_trans (below_size (xs HB)) hn_))); replace HO_5 := xRb HO_5 hb; replace HB := xS HB hb; clear hb ho0)
   go_ret
   exact ⟨_, xy, HO836.out, xs HB⟩
/-! ### ir_Plus: function 43 -/
def ir_Plus.f (k : Nat) (a0_0 : Bool) (a0_1 : ByteArray) (a0_2 : ByteArray) (a1_0 : Bool) (a1_1 : ByteArray) (a1_2 : ByteArray) : Option (Bool × ByteArray × ByteArray) := if a0_1.toList = ([] : List UInt8) then (some (a1_0, a1_1, a1_2)) else (if a1_1.toList = ([] : List UInt8) then (some (a0_0, a0_1, a0_2)) else ((ir_den.f k a0_0 a0_1 a0_2).bind fun t847 => ((ir_den.f k a1_0 a1_1 a1_2).bind fun t850 => ((ir_limbs.f k a0_1).bind fun t853 => ((ir_times.f k t853 t850).bind fun t856 => ((ir_limbs.f k a1_1).bind fun t859 => ((ir_times.f k t859 t847).bind fun t862 => ((ir_times.f k t847 t850).bind fun t865 => (if (a0_0 == a1_0) = true then ((ir_plus.f k t856 t862).bind fun t868 => ((ir_reduced.f k a0_0 t868 t865).bind fun bt871 => (some (bt871.1, bt871.2.1, bt871.2.2)))) else ((ir_order.f k t856 t862).bind fun t874 => (if t874 < 0 then ((ir_minus.f k t862 t856).bind fun t875 => ((ir_reduced.f k a1_0 t875 t865).bind fun bt878 => (some (bt878.1, bt878.2.1, bt878.2.2)))) else ((ir_minus.f k t856 t862).bind fun t881 => ((ir_reduced.f k a0_0 t881 t865).bind fun bt884 => (some (bt884.1, bt884.2.1, bt884.2.2)))))))))))))))
theorem ir_Plus.mono : ∀ a0 a1 a2 a3 a4 a5 k, LeO (ir_Plus.f k a0 a1 a2 a3 a4 a5) (ir_Plus.f (k + 1) a0 a1 a2 a3 a4 a5) := by
 intro a0 a1 a2 a3 a4 a5 k
 unfold ir_Plus.f
 have m0 := @ir_den.mono; have m1 := @ir_limbs.mono; have m2 := @ir_minus.mono; have m3 := @ir_order.mono; have m4 := @ir_plus.mono; have m5 := @ir_reduced.mono; have m6 := @ir_times.mono; exact xM
def ir_Plus.T11 : Bool × List (List Nat × List Nat) := (true, [([], []), ([0], [0]), ([], []), ([], []), ([2, 3], [2, 3]), ([], []), ([1, 4, 5, 4], [1, 4, 5]), ([6, 6, 0, 1, 2, 3, 4, 5, 6], [6])])
def ir_Plus.B11 : List Nat := [0, 1, 0, 0, 12, 0, 63, 127]
theorem ir_Plus.tab11 : rtab .any (opsOf Tryd.f43 11) = ir_Plus.T11 := by kernel_rfl
theorem ir_Plus.bits11 : waitsOk ir_Plus.T11.2 ir_Plus.B11 = true := by kernel_rfl
def ir_Plus.T13 : Bool × List (List Nat × List Nat) := (true, [([], []), ([0], [0]), ([], []), ([], []), ([2, 3], [2, 3]), ([], []), ([1, 4, 5, 4], [1, 4, 5]), ([6, 6, 0, 1, 2, 3, 4, 5, 6], [6])])
def ir_Plus.B13 : List Nat := [0, 1, 0, 0, 12, 0, 63, 127]
theorem ir_Plus.tab13 : rtab .any (opsOf Tryd.f43 13) = ir_Plus.T13 := by kernel_rfl
theorem ir_Plus.bits13 : waitsOk ir_Plus.T13.2 ir_Plus.B13 = true := by kernel_rfl
def ir_Plus.T14 : Bool × List (List Nat × List Nat) := (true, [([], []), ([0], [0]), ([], []), ([], []), ([2, 3], [2, 3]), ([], []), ([1, 4, 5, 4], [1, 4, 5]), ([6, 6, 0, 1, 2, 3, 4, 5, 6], [6])])
def ir_Plus.B14 : List Nat := [0, 1, 0, 0, 12, 0, 63, 127]
theorem ir_Plus.tab14 : rtab .any (opsOf Tryd.f43 14) = ir_Plus.T14 := by kernel_rfl
theorem ir_Plus.bits14 : waitsOk ir_Plus.T14.2 ir_Plus.B14 = true := by kernel_rfl
theorem ir_Plus.calls (k : Nat) (a0_0 : Bool) (a0_1 : ByteArray) (a0_2 : ByteArray) (a1_0 : Bool) (a1_1 : ByteArray) (a1_2 : ByteArray) (r1 : Bool) (r2 : ByteArray) (r3 : ByteArray) (w : World) (h : ir_Plus.f k a0_0 a0_1 a0_2 a1_0 a1_1 a1_2 = some (r1, r2, r3)) :
  Calls Tryd.prog 43 #[.agg #[.bool a0_0, .string a0_1, .string a0_2], .agg #[.bool a1_0, .string a1_1, .string a1_2]] w fun e w' => e = .returned (.agg #[.bool r1, .string r2, .string r3]) ∧ Below w.heap.size w w' := by
 have hu25 := Tryd.underlying25
 have HB := Aside0.mk (Below.refl w.heap.size w)
 have H := h; clear h
 unfold ir_Plus.f at H
 obtain ⟨c3, H⟩ | ⟨c3, H⟩ := xO H
 ·have c3b0 := beq_iff_eq.mpr c3
  have c3b1 := bne_eq_false_iff_eq.mpr c3
  clear c3
  simp only [Option.some.injEq, Prod.mk.injEq] at H
  obtain ⟨rfl, rfl, rfl⟩ := H
  go_enter Tryd.func43, Tryd.ntmps43
  go_wp2_with (first | (refine xF (N := 2) #[.bool a0_0, .string a0_1, .string a0_2] 25 HB ?_; clear HB; intro gb844 hg w4 hb BK844 GW844 HB; clear hb hg) | (refine xF (N := 3) #[.bool a1_0, .string a1_1, .string a1_2] 25 HB ?_; clear HB; intro gb845 hg w5 hb BK845 GW845 HB; have NB844_845 := xL BK844 hg; have NB845_844 := xR BK844 hg; replace BK844 := xB BK844 hb; clear hb hg) | (refine xF (N := 4) #[.bool false, .string (⟨#[]⟩ : ByteArray), .string (⟨#[]⟩ : ByteArray)] 25 HB ?_; clear HB; intro gb846 hg w6 hb BK846 GW846 HB; have NB844_846 := xL BK844 hg; have NB846_844 := xR BK844 hg; replace BK844 := xB BK844 hb; have NB845_846 := xL BK845 hg; have NB846_845 := xR BK845 hg; replace BK845 := xB BK845 hb; clear hb hg; have hnb7 := NB844_845.out; have hnc7 := NB845_844.out; have hnb8 := NB844_846.out; have hnc8 := NB846_844.out; obtain ⟨hcz9_0, hcz9_1, hcz9_2, hfz9_0, hfz9_1, hfz9_2⟩ := x6 BK844; have hnb10 := NB845_846.out; have hnc10 := NB846_845.out; obtain ⟨hcz11_0, hcz11_1, hcz11_2, hfz11_0, hfz11_1, hfz11_2⟩ := x6 BK845; obtain ⟨hcz12_0, hcz12_1, hcz12_2, hfz12_0, hfz12_1, hfz12_2⟩ := x6 BK846))
  refine bodyPost_ret (results_cell_row rfl _ _ gb846 25 #[.bool a1_0, .string a1_1, .string a1_2] (0, 0) _ rfl (xp BK846) Tryd.underlying25 rfl (by kernel_rfl)) rfl ?_
  exact ⟨xy, xs HB⟩
 have c3b0 := beq_eq_false_iff_ne.mpr c3
 have c3b1 := bne_iff_ne.mpr c3
 obtain ⟨c13, H⟩ | ⟨c13, H⟩ := xO H
 ·have c13b0 := beq_iff_eq.mpr c13
  have c13b1 := bne_eq_false_iff_eq.mpr c13
  clear c13
  simp only [Option.some.injEq, Prod.mk.injEq] at H
  obtain ⟨rfl, rfl, rfl⟩ := H
  go_enter Tryd.func43, Tryd.ntmps43
  go_wp2_with (first | (refine xF (N := 2) #[.bool a0_0, .string a0_1, .string a0_2] 25 HB ?_; clear HB; intro gb844 hg w14 hb BK844 GW844 HB; clear hb hg) | (refine xF (N := 3) #[.bool a1_0, .string a1_1, .string a1_2] 25 HB ?_; clear HB; intro gb845 hg w15 hb BK845 GW845 HB; have NB844_845 := xL BK844 hg; have NB845_844 := xR BK844 hg; replace BK844 := xB BK844 hb; clear hb hg) | (refine xF (N := 4) #[.bool false, .string (⟨#[]⟩ : ByteArray), .string (⟨#[]⟩ : ByteArray)] 25 HB ?_; clear HB; intro gb846 hg w16 hb BK846 GW846 HB; have NB844_846 := xL BK844 hg; have NB846_844 := xR BK844 hg; replace BK844 := xB BK844 hb; have NB845_846 := xL BK845 hg; have NB846_845 := xR BK845 hg; replace BK845 := xB BK845 hb; clear hb hg; have hnb17 := NB844_845.out; have hnc17 := NB845_844.out; have hnb18 := NB844_846.out; have hnc18 := NB846_844.out; obtain ⟨hcz19_0, hcz19_1, hcz19_2, hfz19_0, hfz19_1, hfz19_2⟩ := x6 BK844; have hnb20 := NB845_846.out; have hnc20 := NB846_845.out; obtain ⟨hcz21_0, hcz21_1, hcz21_2, hfz21_0, hfz21_1, hfz21_2⟩ := x6 BK845; obtain ⟨hcz22_0, hcz22_1, hcz22_2, hfz22_0, hfz22_1, hfz22_2⟩ := x6 BK846))
  refine bodyPost_ret (results_cell_row rfl _ _ gb846 25 #[.bool a0_0, .string a0_1, .string a0_2] (0, 0) _ rfl (xp BK846) Tryd.underlying25 rfl (by kernel_rfl)) rfl ?_
  exact ⟨xy, xs HB⟩
 have c13b0 := beq_eq_false_iff_ne.mpr c13
 have c13b1 := bne_iff_ne.mpr c13
 replace H := xH H; obtain ⟨t847, A23, H⟩ := H
 replace H := xH H; obtain ⟨t850, A24, H⟩ := H
 replace H := xH H; obtain ⟨t853, A25, H⟩ := H
 replace H := xH H; obtain ⟨t856, A26, H⟩ := H
 replace H := xH H; obtain ⟨t859, A27, H⟩ := H
 replace H := xH H; obtain ⟨t862, A28, H⟩ := H
 replace H := xH H; obtain ⟨t865, A29, H⟩ := H
 obtain ⟨c30, H⟩ | ⟨c30, H⟩ := xO H
 ·have c30b0 : (a0_0 == a1_0) = true := c30
  (try (have c30b1 : decide (a0_0 = a1_0) = true := by simpa using c30))
  (try (have c30b2 : (a0_0 == a1_0) = true := by simpa using c30))
  clear c30
  replace H := xH H; obtain ⟨t868, A31, H⟩ := H
  replace H := xH H; obtain ⟨⟨t871, t872, t873⟩, A32, H⟩ := H
  dsimp only at H
  simp only [Option.some.injEq, Prod.mk.injEq] at H
  obtain ⟨rfl, rfl, rfl⟩ := H
  go_enter Tryd.func43, Tryd.ntmps43
  try go_wp2_with (first | (refine xF (N := 2) #[.bool a0_0, .string a0_1, .string a0_2] 25 HB ?_; clear HB; intro gb844 hg w33 hb BK844 GW844 HB; clear hb hg) | (refine xF (N := 3) #[.bool a1_0, .string a1_1, .string a1_2] 25 HB ?_; clear HB; intro gb845 hg w34 hb BK845 GW845 HB; have NB844_845 := xL BK844 hg; have NB845_844 := xR BK844 hg; replace BK844 := xB BK844 hb; clear hb hg) | (refine xF (N := 4) #[.bool false, .string (⟨#[]⟩ : ByteArray), .string (⟨#[]⟩ : ByteArray)] 25 HB ?_; clear HB; intro gb846 hg w35 hb BK846 GW846 HB; have NB844_846 := xL BK844 hg; have NB846_844 := xR BK844 hg; replace BK844 := xB BK844 hb; have NB845_846 := xL BK845 hg; have NB846_845 := xR BK845 hg; replace BK845 := xB BK845 hb; clear hb hg; have hnb36 := NB844_845.out; have hnc36 := NB845_844.out; have hnb37 := NB844_846.out; have hnc37 := NB846_844.out; obtain ⟨hcz38_0, hcz38_1, hcz38_2, hfz38_0, hfz38_1, hfz38_2⟩ := x6 BK844; have hnb39 := NB845_846.out; have hnc39 := NB846_845.out; obtain ⟨hcz40_0, hcz40_1, hcz40_2, hfz40_0, hfz40_1, hfz40_2⟩ := x6 BK845) | (refine xg Tryd.func65 (some 19) #[.agg #[.bool a0_0, .string a0_1, .string a0_2]] ?_; (with_reducible refine (ir_den.calls k a0_0 a0_1 a0_2 t847 _ A23.out).mono ?_); rintro e w41 ⟨v848, rfl, ho0, hb⟩; refine ⟨_, rfl, ?_⟩; have HO849 := Aside0.mk (Kd.R_lower ho0 (below_size (xs HB))); replace BK844 := xB BK844 hb; replace BK845 := xB BK845 hb; replace BK846 := xB BK846 hb; replace HB := xS HB hb; clear hb ho0; obtain ⟨hcz42_0, hcz42_1, hcz42_2, hfz42_0, hfz42_1, hfz42_2⟩ := x6 BK845) | (refine xg Tryd.func65 (some 21) #[.agg #[.bool a1_0, .string a1_1, .string a1_2]] ?_; (with_reducible refine (ir_den.calls k a1_0 a1_1 a1_2 t850 _ A24.out).mono ?_); rintro e w43 ⟨v851, rfl, ho0, hb⟩; refine ⟨_, rfl, ?_⟩; have HO852 := Aside0.mk (Kd.R_lower (Kd.R_new' ho0 (Kd.R_lt (xr HO849.out))) (below_size (xs HB))); replace HO849 := Aside0.mk (Kd.R_elder' (xr HO849.out) (Kd.R_base ho0) hb); replace BK844 := xB BK844 hb; replace BK845 := xB BK845 hb; replace BK846 := xB BK846 hb; replace HB := xS HB hb; clear hb ho0; obtain ⟨hcz44_0, hcz44_1, hcz44_2, hfz44_0, hfz44_1, hfz44_2⟩ := x6 BK844) | (refine xg Tryd.func67 (some 24) #[.string a0_1] ?_; (with_reducible refine (ir_limbs.calls k a0_1 t853 _ A25.out).mono ?_); rintro e w45 ⟨v854, rfl, ho0, hb⟩; refine ⟨_, rfl, ?_⟩; have HO855 := Aside0.mk (Kd.R_lower (Kd.R_new' (Kd.R_new' ho0 (Kd.R_lt (xr HO849.out))) (Kd.R_lt (xr HO852.out))) (below_size (xs HB))); replace HO849 := Aside0.mk (Kd.R_elder' (xr HO849.out) (Kd.R_base ho0) hb); replace HO852 := Aside0.mk (Kd.R_elder' (xr HO852.out) (Kd.R_base ho0) hb); replace BK844 := xB BK844 hb; replace BK845 := xB BK845 hb; replace BK846 := xB BK846 hb; replace HB := xS HB hb; clear hb ho0; obtain ⟨Ao46, co46, eo46⟩ := Kd.R_slice HO855.out; subst eo46; obtain ⟨Ao47, co47, eo47⟩ := Kd.R_slice HO852.out; subst eo47) | (refine xg Tryd.func66 (some 26) #[.slice Ao46 t853.length co46, .slice Ao47 t850.length co47] ?_; (with_reducible refine (ir_times.calls k _ _ t853 _ _ t850 t856 _ ?side1 ?side2 ?side3 ?side4 A26.out).mono ?_); (case side1 => repeat (exact (Kd.R_reads' HO855.out).2.2)); (case side2 => exact (Kd.R_reads' HO855.out).2.1); (case side3 => repeat (exact (Kd.R_reads' HO852.out).2.2)); (case side4 => exact (Kd.R_reads' HO852.out).2.1); rintro e w48 ⟨v857, rfl, ho0, hb⟩; refine ⟨_, rfl, ?_⟩; have HO858 := xVm w (fun k_ => some k_ ≠ (v848 : Value).ownBlock ∧ some k_ ≠ (.slice Ao47 t850.length co47 : Value).ownBlock ∧ some k_ ≠ (.slice Ao46 t853.length co46 : Value).ownBlock ∧ k_ ≠ gb844 ∧ k_ ≠ gb845 ∧ k_ ≠ gb846) ho0 (fun k_ hk_ => ⟨(Kd.fresh' (Kd.R_lt (xr HO849.out)) k_ hk_), (Kd.fresh' (Kd.R_lt (xr HO852.out)) k_ hk_), (Kd.fresh' (Kd.R_lt (xr HO855.out)) k_ hk_), (Kd.freshB (g := gb844) (o := .cells #[.bool a0_0, .string a0_1, .string a0_2] 25 (0, 0)) (xb BK844) k_ hk_), (Kd.freshB (g := gb845) (o := .cells #[.bool a1_0, .string a1_1, .string a1_2] 25 (0, 0)) (xb BK845) k_ hk_), (Kd.freshB (g := gb846) (o := .cells #[.bool false, .string (⟨#[]⟩ : ByteArray), .string (⟨#[]⟩ : ByteArray)] 25 (0, 0)) (xb BK846) k_ hk_)⟩); replace HO849 := xRb HO849 hb; replace HO852 := xRb HO852 hb; replace HO855 := xRb HO855 hb; replace BK844 := xB BK844 hb; replace BK845 := xB BK845 hb; replace BK846 := xB BK846 hb; replace HB := xS HB hb; clear hb ho0; obtain ⟨hcz49_0, hcz49_1, hcz49_2, hfz49_0, hfz49_1, hfz49_2⟩ := x6 BK845) | (refine xg Tryd.func67 (some 29) #[.string a1_1] ?_; (with_reducible refine (ir_limbs.calls k a1_1 t859 _ A27.out).mono ?_); rintro e w50 ⟨v860, rfl, ho0, hb⟩; refine ⟨_, rfl, ?_⟩; replace HO858 := Aside0.mk (Kd.V_elder' (xv HO858.out) (Kd.R_base ho0) hb); have HO861 := Aside0.mk (Kd.R_lower (Kd.R_new' (Kd.R_new' (Kd.R_new' ho0 (Kd.R_lt (xr HO849.out))) (Kd.R_lt (xr HO852.out))) (Kd.R_lt (xr HO855.out))) (below_size (xs HB))); replace HO849 := Aside0.mk (Kd.R_elder' (xr HO849.out) (Kd.R_base ho0) hb); replace HO852 := Aside0.mk (Kd.R_elder' (xr HO852.out) (Kd.R_base ho0) hb); replace HO855 := Aside0.mk (Kd.R_elder' (xr HO855.out) (Kd.R_base ho0) hb); replace BK844 := xB BK844 hb; replace BK845 := xB BK845 hb; replace BK846 := xB BK846 hb; replace HB := xS HB hb; clear hb ho0; obtain ⟨Ao51, co51, eo51⟩ := Kd.R_slice HO861.out; subst eo51; obtain ⟨Ao52, co52, eo52⟩ := Kd.R_slice HO849.out; subst eo52) | (refine xg Tryd.func66 (some 31) #[.slice Ao51 t859.length co51, .slice Ao52 t847.length co52] ?_; (with_reducible refine (ir_times.calls k _ _ t859 _ _ t847 t862 _ ?side1 ?side2 ?side3 ?side4 A28.out).mono ?_); (case side1 => repeat (exact (Kd.R_reads' HO861.out).2.2)); (case side2 => exact (Kd.R_reads' HO861.out).2.1); (case side3 => repeat (exact (Kd.R_reads' HO849.out).2.2)); (case side4 => exact (Kd.R_reads' HO849.out).2.1); rintro e w53 ⟨v863, rfl, ho0, hb⟩; refine ⟨_, rfl, ?_⟩; replace HO858 := xVb HO858 hb; have HO864 := xVm w (fun k_ => some k_ ≠ (.slice Ao52 t847.length co52 : Value).ownBlock ∧ some k_ ≠ (.slice Ao47 t850.length co47 : Value).ownBlock ∧ some k_ ≠ (.slice Ao46 t853.length co46 : Value).ownBlock ∧ some k_ ≠ (.slice Ao51 t859.length co51 : Value).ownBlock ∧ k_ ≠ gb844 ∧ k_ ≠ gb845 ∧ k_ ≠ gb846) ho0 (fun k_ hk_ => ⟨(Kd.fresh' (Kd.R_lt (xr HO849.out)) k_ hk_), (Kd.fresh' (Kd.R_lt (xr HO852.out)) k_ hk_), (Kd.fresh' (Kd.R_lt (xr HO855.out)) k_ hk_), (Kd.fresh' (Kd.R_lt (xr HO861.out)) k_ hk_), (Kd.freshB (g := gb844) (o := .cells #[.bool a0_0, .string a0_1, .string a0_2] 25 (0, 0)) (xb BK844) k_ hk_), (Kd.freshB (g := gb845) (o := .cells #[.bool a1_0, .string a1_1, .string a1_2] 25 (0, 0)) (xb BK845) k_ hk_), (Kd.freshB (g := gb846) (o := .cells #[.bool false, .string (⟨#[]⟩ : ByteArray), .string (⟨#[]⟩ : ByteArray)] 25 (0, 0)) (xb BK846) k_ hk_)⟩); replace HO849 := xRb HO849 hb; replace HO852 := xRb HO852 hb; replace HO855 := xRb HO855 hb; replace HO861 := xRb HO861 hb; replace BK844 := xB BK844 hb; replace BK845 := xB BK845 hb; replace BK846 := xB BK846 hb; replace HB := xS HB hb; clear hb ho0) | (refine xg Tryd.func66 (some 34) #[.slice Ao52 t847.length co52, .slice Ao47 t850.length co47] ?_; (with_reducible refine (ir_times.calls k _ _ t847 _ _ t850 t865 _ ?side1 ?side2 ?side3 ?side4 A29.out).mono ?_); (case side1 => repeat (exact (Kd.R_reads' HO849.out).2.2)); (case side2 => exact (Kd.R_reads' HO849.out).2.1); (case side3 => repeat (exact (Kd.R_reads' HO852.out).2.2)); (case side4 => exact (Kd.R_reads' HO852.out).2.1); rintro e w54 ⟨v866, rfl, ho0, hb⟩; refine ⟨_, rfl, ?_⟩; replace HO858 := xVb HO858 hb; replace HO864 := xVb HO864 hb; have HO867 := xVm w (fun k_ => some k_ ≠ (.slice Ao52 t847.length co52 : Value).ownBlock ∧ some k_ ≠ (.slice Ao47 t850.length co47 : Value).ownBlock ∧ some k_ ≠ (.slice Ao46 t853.length co46 : Value).ownBlock ∧ some k_ ≠ (.slice Ao51 t859.length co51 : Value).ownBlock ∧ k_ ≠ gb844 ∧ k_ ≠ gb845 ∧ k_ ≠ gb846) ho0 (fun k_ hk_ => ⟨(Kd.fresh' (Kd.R_lt (xr HO849.out)) k_ hk_), (Kd.fresh' (Kd.R_lt (xr HO852.out)) k_ hk_), (Kd.fresh' (Kd.R_lt (xr HO855.out)) k_ hk_), (Kd.fresh' (Kd.R_lt (xr HO861.out)) k_ hk_), (Kd.freshB (g := gb844) (o := .cells #[.bool a0_0, .string a0_1, .string a0_2] 25 (0, 0)) (xb BK844) k_ hk_), (Kd.freshB (g := gb845) (o := .cells #[.bool a1_0, .string a1_1, .string a1_2] 25 (0, 0)) (xb BK845) k_ hk_), (Kd.freshB (g := gb846) (o := .cells #[.bool false, .string (⟨#[]⟩ : ByteArray), .string (⟨#[]⟩ : ByteArray)] 25 (0, 0)) (xb BK846) k_ hk_)⟩); replace HO849 := xRb HO849 hb; replace HO852 := xRb HO852 hb; replace HO855 := xRb HO855 hb; replace HO861 := xRb HO861 hb; replace BK844 := xB BK844 hb; replace BK845 := xB BK845 hb; replace BK846 := xB BK846 hb; replace HB := xS HB hb; clear hb ho0; obtain ⟨hcz55_0, hcz55_1, hcz55_2, hfz55_0, hfz55_1, hfz55_2⟩ := x6 BK844; obtain ⟨hcz56_0, hcz56_1, hcz56_2, hfz56_0, hfz56_1, hfz56_2⟩ := x6 BK845))
  replace HO849 := Aside0.mk (Kd.R_drew HO849.out)
  replace HO852 := Aside0.mk (Kd.R_drew HO852.out)
  replace HO855 := Aside0.mk (Kd.R_drew HO855.out)
  replace HO858 := Aside0.mk (Kd.V_drew HO858.out)
  replace HO861 := Aside0.mk (Kd.R_drew HO861.out)
  replace HO864 := Aside0.mk (Kd.V_drew HO864.out)
  replace HO867 := Aside0.mk (Kd.V_drew HO867.out)
  replace BK844 := xD BK844
  replace BK845 := xD BK845
  replace BK846 := xD BK846
  replace HB := xW HB
  obtain ⟨Ao58, co58, eo58⟩ := Kd.V_slice HO858.out
  subst eo58
  obtain ⟨Ao59, co59, eo59⟩ := Kd.V_slice HO864.out
  subst eo59
  refine start_ (n := 8) (S := fun w' => w'.cell? ⟨gb844, 0, none⟩ = some (.bool a0_0) ∧ w'.cell? ⟨gb844, 1, none⟩ = some (.string a0_1) ∧ w'.cell? ⟨gb844, 2, none⟩ = some (.string a0_2)) (ds := []) (b 8 0) (by kernel_rfl) rfl rfl xV (fun hHeld => ?_); refine with_tabW ir_Plus.tab11 ir_Plus.bits11 (fun HT_ HW_ => ?_)
  generalize w54.drew = w57 at HO849 HO852 HO855 HO858 HO861 HO864 HO867 BK844 BK845 BK846 HB hHeld ⊢
  refine yP 0 (some 40) (b 8 1) ?_
  refine yP 2 (some 42) (b 8 5) ?_
  refine yP 3 (some 43) (b 8 13) ?_
  refine yP 5 (some 45) (b 8 45) ?_
  refine yT 1 (some 41) (b 8 47) hHeld ?_
  refine yO 4 (some 44) (b 8 63) fun K hK => ?_
  refine goes_ Tryd.func69 (by kernel_rfl) rfl #[.slice Ao58 t856.length co58, .slice Ao59 t862.length co59] (by rfl) rfl rfl (by (try simp only [List.map_toArray, List.map_cons, List.map_nil]); rfl) ?_
  with_reducible refine (ir_plus.calls k _ _ t856 _ _ t862 t868 _ ?side1 ?side2 ?side3 ?side4 A31.out).mono ?_
  (case side1 => repeat (exact (Kd.V_reads' HO858.out).2.2))
  (case side2 => exact (Kd.V_reads' HO858.out).2.1)
  (case side3 => repeat (exact (Kd.V_reads' HO864.out).2.2))
  (case side4 => exact (Kd.V_reads' HO864.out).2.1)
  rintro e w60 ⟨v869, rfl, ho0, hb⟩
  refine ⟨_, rfl, ?_⟩
  replace HO858 := Aside0.mk (Kd.V_elder' (xv HO858.out) (Kd.R_base ho0) hb)
  replace HO864 := Aside0.mk (Kd.V_elder' (xv HO864.out) (Kd.R_base ho0) hb)
  replace HO867 := Aside0.mk (Kd.V_elder' (xv HO867.out) (Kd.R_base ho0) hb)
  have HO870 := Aside0.mk (Kd.R_lower (Kd.R_new' (Kd.R_new' (Kd.R_new' (Kd.R_new' ho0 (Kd.R_lt (xr HO849.out))) (Kd.R_lt (xr HO852.out))) (Kd.R_lt (xr HO855.out))) (Kd.R_lt (xr HO861.out))) (below_size (xs HB)))
  replace HO849 := Aside0.mk (Kd.R_elder' (xr HO849.out) (Kd.R_base ho0) hb)
  replace HO852 := Aside0.mk (Kd.R_elder' (xr HO852.out) (Kd.R_base ho0) hb)
  replace HO855 := Aside0.mk (Kd.R_elder' (xr HO855.out) (Kd.R_base ho0) hb)
  replace HO861 := Aside0.mk (Kd.R_elder' (xr HO861.out) (Kd.R_base ho0) hb)
  replace BK844 := xB BK844 hb
  replace BK845 := xB BK845 hb
  replace BK846 := xB BK846 hb
  replace HB := xS HB hb
  clear hb ho0
  obtain ⟨Ao61, co61, eo61⟩ := Kd.R_slice HO870.out
  subst eo61
  obtain ⟨Ao62, co62, eo62⟩ := Kd.V_slice HO867.out
  subst eo62
  refine hK.out _ _ xV (fun hHeld => ?_)
  clear hK K
  refine xN 44 ?_
  refine yO 6 (some 46) (b 8 127) fun K hK => ?_
  refine goes_ Tryd.func68 (by kernel_rfl) rfl #[.bool a0_0, .slice Ao61 t868.length co61, .slice Ao62 t865.length co62] (by rfl) rfl rfl (by (try simp only [List.map_toArray, List.map_cons, List.map_nil]); rfl) ?_
  with_reducible refine (ir_reduced.calls k a0_0 _ _ t868 _ _ t865 t871 t872 t873 _ ?side1 ?side2 ?side3 ?side4 A32.out).mono ?_
  (case side1 => repeat (exact (Kd.R_reads' HO870.out).2.2))
  (case side2 => exact (Kd.R_reads' HO870.out).2.1)
  (case side3 => repeat (exact (Kd.V_reads' HO867.out).2.2))
  (case side4 => exact (Kd.V_reads' HO867.out).2.1)
  rintro e w63 ⟨rfl, hb⟩
  refine ⟨_, rfl, ?_⟩
  replace HO849 := xRb HO849 hb
  replace HO852 := xRb HO852 hb
  replace HO855 := xRb HO855 hb
  replace HO858 := xVb HO858 hb
  replace HO861 := xRb HO861 hb
  replace HO864 := xVb HO864 hb
  replace HO867 := xVb HO867 hb
  replace HO870 := xRb HO870 hb
  replace BK844 := xB BK844 hb
  replace BK845 := xB BK845 hb
  replace BK846 := xB BK846 hb
  replace HB := xS HB hb
  clear hb
  refine hK.out _ _ xV (fun hHeld => ?_)
  clear hK K
  refine xN 46 ?_
  refine yO 7 none (b 8 255) fun K hK => ?_
  obtain ⟨hs64, hs65, hs66, hfs64, hfs65, hfs66⟩ := x6 BK846
  have hns64_0 := NB844_846.out
  have hns64_1 := NB845_846.out
  have hms64_0 := NB846_844.out
  have hms64_1 := NB846_845.out
  refine xk ?_
  refine hK.out _ _ ⟨((cell_far (p := ⟨gb846, _, none⟩) NB844_846.out _).trans ((cell_far (p := ⟨gb846, _, none⟩) NB844_846.out _).trans ((cell_far (p := ⟨gb846, _, none⟩) NB844_846.out _).trans (hHeld.1)))), ((cell_far (p := ⟨gb846, _, none⟩) NB844_846.out _).trans ((cell_far (p := ⟨gb846, _, none⟩) NB844_846.out _).trans ((cell_far (p := ⟨gb846, _, none⟩) NB844_846.out _).trans (hHeld.2.1)))), ((cell_far (p := ⟨gb846, _, none⟩) NB844_846.out _).trans ((cell_far (p := ⟨gb846, _, none⟩) NB844_846.out _).trans ((cell_far (p := ⟨gb846, _, none⟩) NB844_846.out _).trans (hHeld.2.2))))⟩ (fun hHeld => ?_)
  clear hK K
  refine done_ (done_of HT_.out (by kernel_rfl)) ?_
  try go_wp2
  refine bodyPost_ret (results_cell_row rfl _ _ gb846 25 #[.bool t871, .string t872, .string t873] (0, 0) _ rfl (xp BK846) Tryd.underlying25 rfl (by kernel_rfl)) rfl ?_
  exact ⟨xy, xs HB⟩
 have c30b0 : (a0_0 == a1_0) = false := by simpa using c30
 (try (have c30b1 : decide (a0_0 = a1_0) = false := by simpa using c30))
 (try (have c30b2 : (a0_0 == a1_0) = false := by simpa using c30))
 (try (have c30b3 : ¬ (a0_0 = a1_0) := by simpa using c30))
 clear c30
 replace H := xH H; obtain ⟨t874, A67, H⟩ := H
 obtain ⟨c68b0, H⟩ | ⟨c68b0, H⟩ := xOd H
 ·replace H := xH H; obtain ⟨t875, A69, H⟩ := H
  replace H := xH H; obtain ⟨⟨t878, t879, t880⟩, A70, H⟩ := H
  dsimp only at H
  simp only [Option.some.injEq, Prod.mk.injEq] at H
  obtain ⟨rfl, rfl, rfl⟩ := H
  go_enter Tryd.func43, Tryd.ntmps43
  try go_wp2_with (first | (refine xF (N := 2) #[.bool a0_0, .string a0_1, .string a0_2] 25 HB ?_; clear HB; intro gb844 hg w71 hb BK844 GW844 HB; clear hb hg) | (refine xF (N := 3) #[.bool a1_0, .string a1_1, .string a1_2] 25 HB ?_; clear HB; intro gb845 hg w72 hb BK845 GW845 HB; have NB844_845 := xL BK844 hg; have NB845_844 := xR BK844 hg; replace BK844 := xB BK844 hb; clear hb hg) | (refine xF (N := 4) #[.bool false, .string (⟨#[]⟩ : ByteArray), .string (⟨#[]⟩ : ByteArray)] 25 HB ?_; clear HB; intro gb846 hg w73 hb BK846 GW846 HB; have NB844_846 := xL BK844 hg; have NB846_844 := xR BK844 hg; replace BK844 := xB BK844 hb; have NB845_846 := xL BK845 hg; have NB846_845 := xR BK845 hg; replace BK845 := xB BK845 hb; clear hb hg; have hnb74 := NB844_845.out; have hnc74 := NB845_844.out; have hnb75 := NB844_846.out; have hnc75 := NB846_844.out; obtain ⟨hcz76_0, hcz76_1, hcz76_2, hfz76_0, hfz76_1, hfz76_2⟩ := x6 BK844; have hnb77 := NB845_846.out; have hnc77 := NB846_845.out; obtain ⟨hcz78_0, hcz78_1, hcz78_2, hfz78_0, hfz78_1, hfz78_2⟩ := x6 BK845) | (refine xg Tryd.func65 (some 19) #[.agg #[.bool a0_0, .string a0_1, .string a0_2]] ?_; (with_reducible refine (ir_den.calls k a0_0 a0_1 a0_2 t847 _ A23.out).mono ?_); rintro e w79 ⟨v848, rfl, ho0, hb⟩; refine ⟨_, rfl, ?_⟩; have HO849 := Aside0.mk (Kd.R_lower ho0 (below_size (xs HB))); replace BK844 := xB BK844 hb; replace BK845 := xB BK845 hb; replace BK846 := xB BK846 hb; replace HB := xS HB hb; clear hb ho0; obtain ⟨hcz80_0, hcz80_1, hcz80_2, hfz80_0, hfz80_1, hfz80_2⟩ := x6 BK845) | (refine xg Tryd.func65 (some 21) #[.agg #[.bool a1_0, .string a1_1, .string a1_2]] ?_; (with_reducible refine (ir_den.calls k a1_0 a1_1 a1_2 t850 _ A24.out).mono ?_); rintro e w81 ⟨v851, rfl, ho0, hb⟩; refine ⟨_, rfl, ?_⟩; have HO852 := Aside0.mk (Kd.R_lower (Kd.R_new' ho0 (Kd.R_lt (xr HO849.out))) (below_size (xs HB))); replace HO849 := Aside0.mk (Kd.R_elder' (xr HO849.out) (Kd.R_base ho0) hb); replace BK844 := xB BK844 hb; replace BK845 := xB BK845 hb; replace BK846 := xB BK846 hb; replace HB := xS HB hb; clear hb ho0; obtain ⟨hcz82_0, hcz82_1, hcz82_2, hfz82_0, hfz82_1, hfz82_2⟩ := x6 BK844) | (refine xg Tryd.func67 (some 24) #[.string a0_1] ?_; (with_reducible refine (ir_limbs.calls k a0_1 t853 _ A25.out).mono ?_); rintro e w83 ⟨v854, rfl, ho0, hb⟩; refine ⟨_, rfl, ?_⟩; have HO855 := Aside0.mk (Kd.R_lower (Kd.R_new' (Kd.R_new' ho0 (Kd.R_lt (xr HO849.out))) (Kd.R_lt (xr HO852.out))) (below_size (xs HB))); replace HO849 := Aside0.mk (Kd.R_elder' (xr HO849.out) (Kd.R_base ho0) hb); replace HO852 := Aside0.mk (Kd.R_elder' (xr HO852.out) (Kd.R_base ho0) hb); replace BK844 := xB BK844 hb; replace BK845 := xB BK845 hb; replace BK846 := xB BK846 hb; replace HB := xS HB hb; clear hb ho0; obtain ⟨Ao84, co84, eo84⟩ := Kd.R_slice HO855.out; subst eo84; obtain ⟨Ao85, co85, eo85⟩ := Kd.R_slice HO852.out; subst eo85) | (refine xg Tryd.func66 (some 26) #[.slice Ao84 t853.length co84, .slice Ao85 t850.length co85] ?_; (with_reducible refine (ir_times.calls k _ _ t853 _ _ t850 t856 _ ?side1 ?side2 ?side3 ?side4 A26.out).mono ?_); (case side1 => repeat (exact (Kd.R_reads' HO855.out).2.2)); (case side2 => exact (Kd.R_reads' HO855.out).2.1); (case side3 => repeat (exact (Kd.R_reads' HO852.out).2.2)); (case side4 => exact (Kd.R_reads' HO852.out).2.1); rintro e w86 ⟨v857, rfl, ho0, hb⟩; refine ⟨_, rfl, ?_⟩; have HO858 := xVm w (fun k_ => some k_ ≠ (v848 : Value).ownBlock ∧ some k_ ≠ (.slice Ao85 t850.length co85 : Value).ownBlock ∧ some k_ ≠ (.slice Ao84 t853.length co84 : Value).ownBlock ∧ k_ ≠ gb844 ∧ k_ ≠ gb845 ∧ k_ ≠ gb846) ho0 (fun k_ hk_ => ⟨(Kd.fresh' (Kd.R_lt (xr HO849.out)) k_ hk_), (Kd.fresh' (Kd.R_lt (xr HO852.out)) k_ hk_), (Kd.fresh' (Kd.R_lt (xr HO855.out)) k_ hk_), (Kd.freshB (g := gb844) (o := .cells #[.bool a0_0, .string a0_1, .string a0_2] 25 (0, 0)) (xb BK844) k_ hk_), (Kd.freshB (g := gb845) (o := .cells #[.bool a1_0, .string a1_1, .string a1_2] 25 (0, 0)) (xb BK845) k_ hk_), (Kd.freshB (g := gb846) (o := .cells #[.bool false, .string (⟨#[]⟩ : ByteArray), .string (⟨#[]⟩ : ByteArray)] 25 (0, 0)) (xb BK846) k_ hk_)⟩); replace HO849 := xRb HO849 hb; replace HO852 := xRb HO852 hb; replace HO855 := xRb HO855 hb; replace BK844 := xB BK844 hb; replace BK845 := xB BK845 hb; replace BK846 := xB BK846 hb; replace HB := xS HB hb; clear hb ho0; obtain ⟨hcz87_0, hcz87_1, hcz87_2, hfz87_0, hfz87_1, hfz87_2⟩ := x6 BK845) | (refine xg Tryd.func67 (some 29) #[.string a1_1] ?_; (with_reducible refine (ir_limbs.calls k a1_1 t859 _ A27.out).mono ?_); rintro e w88 ⟨v860, rfl, ho0, hb⟩; refine ⟨_, rfl, ?_⟩; replace HO858 := Aside0.mk (Kd.V_elder' (xv HO858.out) (Kd.R_base ho0) hb); have HO861 := Aside0.mk (Kd.R_lower (Kd.R_new' (Kd.R_new' (Kd.R_new' ho0 (Kd.R_lt (xr HO849.out))) (Kd.R_lt (xr HO852.out))) (Kd.R_lt (xr HO855.out))) (below_size (xs HB))); replace HO849 := Aside0.mk (Kd.R_elder' (xr HO849.out) (Kd.R_base ho0) hb); replace HO852 := Aside0.mk (Kd.R_elder' (xr HO852.out) (Kd.R_base ho0) hb); replace HO855 := Aside0.mk (Kd.R_elder' (xr HO855.out) (Kd.R_base ho0) hb); replace BK844 := xB BK844 hb; replace BK845 := xB BK845 hb; replace BK846 := xB BK846 hb; replace HB := xS HB hb; clear hb ho0; obtain ⟨Ao89, co89, eo89⟩ := Kd.R_slice HO861.out; subst eo89; obtain ⟨Ao90, co90, eo90⟩ := Kd.R_slice HO849.out; subst eo90) | (refine xg Tryd.func66 (some 31) #[.slice Ao89 t859.length co89, .slice Ao90 t847.length co90] ?_; (with_reducible refine (ir_times.calls k _ _ t859 _ _ t847 t862 _ ?side1 ?side2 ?side3 ?side4 A28.out).mono ?_); (case side1 => repeat (exact (Kd.R_reads' HO861.out).2.2)); (case side2 => exact (Kd.R_reads' HO861.out).2.1); (case side3 => repeat (exact (Kd.R_reads' HO849.out).2.2)); (case side4 => exact (Kd.R_reads' HO849.out).2.1); rintro e w91 ⟨v863, rfl, ho0, hb⟩; refine ⟨_, rfl, ?_⟩; replace HO858 := xVb HO858 hb; have HO864 := xVm w (fun k_ => some k_ ≠ (.slice Ao90 t847.length co90 : Value).ownBlock ∧ some k_ ≠ (.slice Ao85 t850.length co85 : Value).ownBlock ∧ some k_ ≠ (.slice Ao84 t853.length co84 : Value).ownBlock ∧ some k_ ≠ (.slice Ao89 t859.length co89 : Value).ownBlock ∧ k_ ≠ gb844 ∧ k_ ≠ gb845 ∧ k_ ≠ gb846) ho0 (fun k_ hk_ => ⟨(Kd.fresh' (Kd.R_lt (xr HO849.out)) k_ hk_), (Kd.fresh' (Kd.R_lt (xr HO852.out)) k_ hk_), (Kd.fresh' (Kd.R_lt (xr HO855.out)) k_ hk_), (Kd.fresh' (Kd.R_lt (xr HO861.out)) k_ hk_), (Kd.freshB (g := gb844) (o := .cells #[.bool a0_0, .string a0_1, .string a0_2] 25 (0, 0)) (xb BK844) k_ hk_), (Kd.freshB (g := gb845) (o := .cells #[.bool a1_0, .string a1_1, .string a1_2] 25 (0, 0)) (xb BK845) k_ hk_), (Kd.freshB (g := gb846) (o := .cells #[.bool false, .string (⟨#[]⟩ : ByteArray), .string (⟨#[]⟩ : ByteArray)] 25 (0, 0)) (xb BK846) k_ hk_)⟩); replace HO849 := xRb HO849 hb; replace HO852 := xRb HO852 hb; replace HO855 := xRb HO855 hb; replace HO861 := xRb HO861 hb; replace BK844 := xB BK844 hb; replace BK845 := xB BK845 hb; replace BK846 := xB BK846 hb; replace HB := xS HB hb; clear hb ho0) | (refine xg Tryd.func66 (some 34) #[.slice Ao90 t847.length co90, .slice Ao85 t850.length co85] ?_; (with_reducible refine (ir_times.calls k _ _ t847 _ _ t850 t865 _ ?side1 ?side2 ?side3 ?side4 A29.out).mono ?_); (case side1 => repeat (exact (Kd.R_reads' HO849.out).2.2)); (case side2 => exact (Kd.R_reads' HO849.out).2.1); (case side3 => repeat (exact (Kd.R_reads' HO852.out).2.2)); (case side4 => exact (Kd.R_reads' HO852.out).2.1); rintro e w92 ⟨v866, rfl, ho0, hb⟩; refine ⟨_, rfl, ?_⟩; replace HO858 := xVb HO858 hb; replace HO864 := xVb HO864 hb; have HO867 := xVm w (fun k_ => some k_ ≠ (.slice Ao90 t847.length co90 : Value).ownBlock ∧ some k_ ≠ (.slice Ao85 t850.length co85 : Value).ownBlock ∧ some k_ ≠ (.slice Ao84 t853.length co84 : Value).ownBlock ∧ some k_ ≠ (.slice Ao89 t859.length co89 : Value).ownBlock ∧ k_ ≠ gb844 ∧ k_ ≠ gb845 ∧ k_ ≠ gb846) ho0 (fun k_ hk_ => ⟨(Kd.fresh' (Kd.R_lt (xr HO849.out)) k_ hk_), (Kd.fresh' (Kd.R_lt (xr HO852.out)) k_ hk_), (Kd.fresh' (Kd.R_lt (xr HO855.out)) k_ hk_), (Kd.fresh' (Kd.R_lt (xr HO861.out)) k_ hk_), (Kd.freshB (g := gb844) (o := .cells #[.bool a0_0, .string a0_1, .string a0_2] 25 (0, 0)) (xb BK844) k_ hk_), (Kd.freshB (g := gb845) (o := .cells #[.bool a1_0, .string a1_1, .string a1_2] 25 (0, 0)) (xb BK845) k_ hk_), (Kd.freshB (g := gb846) (o := .cells #[.bool false, .string (⟨#[]⟩ : ByteArray), .string (⟨#[]⟩ : ByteArray)] 25 (0, 0)) (xb BK846) k_ hk_)⟩); replace HO849 := xRb HO849 hb; replace HO852 := xRb HO852 hb; replace HO855 := xRb HO855 hb; replace HO861 := xRb HO861 hb; replace BK844 := xB BK844 hb; replace BK845 := xB BK845 hb; replace BK846 := xB BK846 hb; replace HB := xS HB hb; clear hb ho0; obtain ⟨hcz93_0, hcz93_1, hcz93_2, hfz93_0, hfz93_1, hfz93_2⟩ := x6 BK844; obtain ⟨hcz94_0, hcz94_1, hcz94_2, hfz94_0, hfz94_1, hfz94_2⟩ := x6 BK845; obtain ⟨Ao95, co95, eo95⟩ := Kd.V_slice HO858.out; subst eo95; obtain ⟨Ao96, co96, eo96⟩ := Kd.V_slice HO864.out; subst eo96) | (refine xg Tryd.func70 (some 49) #[.slice Ao95 t856.length co95, .slice Ao96 t862.length co96] ?_; (with_reducible refine (ir_order.calls k _ _ t856 _ _ t862 t874 _ (xf (Kd.V_reads' HO858.out).2.2) (Kd.V_reads' HO858.out).2.1 (xf (Kd.V_reads' HO864.out).2.2) (Kd.V_reads' HO864.out).2.1 A67.out).mono ?_); rintro e w' ⟨rfl, ⟨nd, rfl⟩⟩; refine ⟨_, rfl, ?_⟩; (try (rw [drewN_self w92]; generalize hq_ : World.drewN w92 _ = w92; have n0_ : Aside0 (Kd.R (Kd.int .u32) 85 w92 w.heap.size (fun k_ => some k_ ≠ (.slice Ao85 t850.length co85 : Value).ownBlock ∧ some k_ ≠ (.slice Ao84 t853.length co84 : Value).ownBlock ∧ some k_ ≠ (.slice Ao89 t859.length co89 : Value).ownBlock) (.slice Ao90 t847.length co90) t847) := ⟨by rw [← hq_]; exact (by (with_reducible repeat (apply Kd.R_drewN)); exact Kd.R_mono HO849.out (fun _ hk => by exact ⟨hk.1.1.2, ⟨hk.1.2, hk.2⟩⟩))⟩; have n1_ : Aside0 (Kd.R (Kd.int .u32) 85 w92 w.heap.size (fun k_ => some k_ ≠ (.slice Ao90 t847.length co90 : Value).ownBlock ∧ some k_ ≠ (.slice Ao84 t853.length co84 : Value).ownBlock ∧ some k_ ≠ (.slice Ao89 t859.length co89 : Value).ownBlock) (.slice Ao85 t850.length co85) t850) := ⟨by rw [← hq_]; exact (by (with_reducible repeat (apply Kd.R_drewN)); exact Kd.R_mono HO852.out (fun _ hk => by exact ⟨hk.1.1.2, ⟨hk.1.2, hk.2⟩⟩))⟩; have n2_ : Aside0 (Kd.R (Kd.int .u32) 85 w92 w.heap.size (fun k_ => some k_ ≠ (.slice Ao90 t847.length co90 : Value).ownBlock ∧ some k_ ≠ (.slice Ao85 t850.length co85 : Value).ownBlock ∧ some k_ ≠ (.slice Ao89 t859.length co89 : Value).ownBlock) (.slice Ao84 t853.length co84) t853) := ⟨by rw [← hq_]; exact (by (with_reducible repeat (apply Kd.R_drewN)); exact Kd.R_mono HO855.out (fun _ hk => by exact ⟨hk.1.1.2, ⟨hk.1.2, hk.2⟩⟩))⟩; have n3_ : Aside0 (Kd.V (Kd.int .u32) 85 w92 w.heap.size (fun k_ => some k_ ≠ (.slice Ao90 t847.length co90 : Value).ownBlock ∧ some k_ ≠ (.slice Ao85 t850.length co85 : Value).ownBlock ∧ some k_ ≠ (.slice Ao84 t853.length co84 : Value).ownBlock ∧ some k_ ≠ (.slice Ao89 t859.length co89 : Value).ownBlock ∧ k_ ≠ gb844 ∧ k_ ≠ gb845 ∧ k_ ≠ gb846) (.slice Ao95 t856.length co95) t856) := ⟨by rw [← hq_]; exact (by (with_reducible repeat (apply Kd.V_drewN)); exact Kd.V_mono HO858.out (fun _ hk => by exact ⟨hk.1.1, ⟨hk.1.2.1, ⟨hk.1.2.2.1, ⟨hk.2, ⟨hk.1.2.2.2.1, ⟨hk.1.2.2.2.2.1, hk.1.2.2.2.2.2⟩⟩⟩⟩⟩⟩))⟩; have n4_ : Aside0 (Kd.R (Kd.int .u32) 85 w92 w.heap.size (fun k_ => some k_ ≠ (.slice Ao90 t847.length co90 : Value).ownBlock ∧ some k_ ≠ (.slice Ao85 t850.length co85 : Value).ownBlock ∧ some k_ ≠ (.slice Ao84 t853.length co84 : Value).ownBlock) (.slice Ao89 t859.length co89) t859) := ⟨by rw [← hq_]; exact (by (with_reducible repeat (apply Kd.R_drewN)); exact Kd.R_mono HO861.out (fun _ hk => by exact ⟨hk.1.1.2, ⟨hk.1.2, hk.2⟩⟩))⟩; have n5_ : Aside0 (Kd.V (Kd.int .u32) 85 w92 w.heap.size (fun k_ => some k_ ≠ (.slice Ao90 t847.length co90 : Value).ownBlock ∧ some k_ ≠ (.slice Ao85 t850.length co85 : Value).ownBlock ∧ some k_ ≠ (.slice Ao84 t853.length co84 : Value).ownBlock ∧ some k_ ≠ (.slice Ao89 t859.length co89 : Value).ownBlock ∧ k_ ≠ gb844 ∧ k_ ≠ gb845 ∧ k_ ≠ gb846) (.slice Ao96 t862.length co96) t862) := ⟨by rw [← hq_]; exact (xv HO864.out)⟩; have n6_ : Aside0 (Kd.V (Kd.int .u32) 85 w92 w.heap.size (fun k_ => some k_ ≠ (.slice Ao90 t847.length co90 : Value).ownBlock ∧ some k_ ≠ (.slice Ao85 t850.length co85 : Value).ownBlock ∧ some k_ ≠ (.slice Ao84 t853.length co84 : Value).ownBlock ∧ some k_ ≠ (.slice Ao89 t859.length co89 : Value).ownBlock ∧ k_ ≠ gb844 ∧ k_ ≠ gb845 ∧ k_ ≠ gb846) v866 t865) := ⟨by rw [← hq_]; exact (xv HO867.out)⟩; have n7_ : Aside0 (w92.heap[gb844]? = some (.cells #[.bool a0_0, .string a0_1, .string a0_2] 25 (0, 0))) := ⟨by rw [← hq_]; exact (xb BK844)⟩; have n8_ : Aside0 (w92.heap[gb845]? = some (.cells #[.bool a1_0, .string a1_1, .string a1_2] 25 (0, 0))) := ⟨by rw [← hq_]; exact (xb BK845)⟩; have n9_ : Aside0 (w92.heap[gb846]? = some (.cells #[.bool false, .string (⟨#[]⟩ : ByteArray), .string (⟨#[]⟩ : ByteArray)] 25 (0, 0))) := ⟨by rw [← hq_]; exact (xb BK846)⟩; have n10_ : Aside0 (Below w.heap.size w w92) := ⟨by rw [← hq_]; exact (xs HB)⟩; clear HO849 HO852 HO855 HO858 HO861 HO864 HO867 BK844 BK845 BK846 HB hq_; have HO849 := n0_; have HO852 := n1_; have HO855 := n2_; have HO858 := n3_; have HO861 := n4_; have HO864 := n5_; have HO867 := n6_; have BK844 := n7_; have BK845 := n8_; have BK846 := n9_; have HB := n10_; clear n0_ n1_ n2_ n3_ n4_ n5_ n6_ n7_ n8_ n9_ n10_))))
  replace HO849 := Aside0.mk (Kd.R_drew HO849.out)
  replace HO852 := Aside0.mk (Kd.R_drew HO852.out)
  replace HO855 := Aside0.mk (Kd.R_drew HO855.out)
  replace HO858 := Aside0.mk (Kd.V_drew HO858.out)
  replace HO861 := Aside0.mk (Kd.R_drew HO861.out)
  replace HO864 := Aside0.mk (Kd.V_drew HO864.out)
  replace HO867 := Aside0.mk (Kd.V_drew HO867.out)
  replace BK844 := xD BK844
  replace BK845 := xD BK845
  replace BK846 := xD BK846
  replace HB := xW HB
  refine start_ (n := 8) (S := fun w' => w'.cell? ⟨gb845, 0, none⟩ = some (.bool a1_0) ∧ w'.cell? ⟨gb845, 1, none⟩ = some (.string a1_1) ∧ w'.cell? ⟨gb845, 2, none⟩ = some (.string a1_2)) (ds := []) (b 8 0) (by kernel_rfl) rfl rfl xV (fun hHeld => ?_); refine with_tabW ir_Plus.tab13 ir_Plus.bits13 (fun HT_ HW_ => ?_)
  generalize w92.drew = w97 at HO849 HO852 HO855 HO858 HO861 HO864 HO867 BK844 BK845 BK846 HB hHeld ⊢
  refine yP 0 (some 51) (b 8 1) ?_
  refine yP 2 (some 53) (b 8 5) ?_
  refine yP 3 (some 54) (b 8 13) ?_
  refine yP 5 (some 56) (b 8 45) ?_
  refine yT 1 (some 52) (b 8 47) hHeld ?_
  refine yO 4 (some 55) (b 8 63) fun K hK => ?_
  refine goes_ Tryd.func71 (by kernel_rfl) rfl #[.slice Ao96 t862.length co96, .slice Ao95 t856.length co95] (by rfl) rfl rfl (by (try simp only [List.map_toArray, List.map_cons, List.map_nil]); rfl) ?_
  with_reducible refine (ir_minus.calls k _ _ t862 _ _ t856 t875 _ ?side1 ?side2 ?side3 ?side4 A69.out).mono ?_
  (case side1 => repeat (exact (Kd.V_reads' HO864.out).2.2))
  (case side2 => exact (Kd.V_reads' HO864.out).2.1)
  (case side3 => repeat (exact (Kd.V_reads' HO858.out).2.2))
  (case side4 => exact (Kd.V_reads' HO858.out).2.1)
  rintro e w98 ⟨v876, rfl, ho0, hb⟩
  refine ⟨_, rfl, ?_⟩
  replace HO858 := xVb HO858 hb
  replace HO864 := xVb HO864 hb
  replace HO867 := xVb HO867 hb
  have HO877 := xVm w (fun k_ => some k_ ≠ (.slice Ao90 t847.length co90 : Value).ownBlock ∧ some k_ ≠ (.slice Ao85 t850.length co85 : Value).ownBlock ∧ some k_ ≠ (.slice Ao84 t853.length co84 : Value).ownBlock ∧ some k_ ≠ (.slice Ao89 t859.length co89 : Value).ownBlock ∧ k_ ≠ gb844 ∧ k_ ≠ gb845 ∧ k_ ≠ gb846) ho0 (fun k_ hk_ => ⟨(Kd.fresh' (Kd.R_lt (xr HO849.out)) k_ hk_), (Kd.fresh' (Kd.R_lt (xr HO852.out)) k_ hk_), (Kd.fresh' (Kd.R_lt (xr HO855.out)) k_ hk_), (Kd.fresh' (Kd.R_lt (xr HO861.out)) k_ hk_), (Kd.freshB (g := gb844) (o := .cells #[.bool a0_0, .string a0_1, .string a0_2] 25 (0, 0)) (xb BK844) k_ hk_), (Kd.freshB (g := gb845) (o := .cells #[.bool a1_0, .string a1_1, .string a1_2] 25 (0, 0)) (xb BK845) k_ hk_), (Kd.freshB (g := gb846) (o := .cells #[.bool false, .string (⟨#[]⟩ : ByteArray), .string (⟨#[]⟩ : ByteArray)] 25 (0, 0)) (xb BK846) k_ hk_)⟩)
  replace HO849 := xRb HO849 hb
  replace HO852 := xRb HO852 hb
  replace HO855 := xRb HO855 hb
  replace HO861 := xRb HO861 hb
  replace BK844 := xB BK844 hb
  replace BK845 := xB BK845 hb
  replace BK846 := xB BK846 hb
  replace HB := xS HB hb
  clear hb ho0
  obtain ⟨Ao99, co99, eo99⟩ := Kd.V_slice HO877.out
  subst eo99
  obtain ⟨Ao100, co100, eo100⟩ := Kd.V_slice HO867.out
  subst eo100
  refine hK.out _ _ xV (fun hHeld => ?_)
  clear hK K
  refine xN 55 ?_
  refine yO 6 (some 57) (b 8 127) fun K hK => ?_
  refine goes_ Tryd.func68 (by kernel_rfl) rfl #[.bool a1_0, .slice Ao99 t875.length co99, .slice Ao100 t865.length co100] (by rfl) rfl rfl (by (try simp only [List.map_toArray, List.map_cons, List.map_nil]); rfl) ?_
  with_reducible refine (ir_reduced.calls k a1_0 _ _ t875 _ _ t865 t878 t879 t880 _ ?side1 ?side2 ?side3 ?side4 A70.out).mono ?_
  (case side1 => repeat (exact (Kd.V_reads' HO877.out).2.2))
  (case side2 => exact (Kd.V_reads' HO877.out).2.1)
  (case side3 => repeat (exact (Kd.V_reads' HO867.out).2.2))
  (case side4 => exact (Kd.V_reads' HO867.out).2.1)
  rintro e w101 ⟨rfl, hb⟩
  refine ⟨_, rfl, ?_⟩
  replace HO849 := xRb HO849 hb
  replace HO852 := xRb HO852 hb
  replace HO855 := xRb HO855 hb
  replace HO858 := xVb HO858 hb
  replace HO861 := xRb HO861 hb
  replace HO864 := xVb HO864 hb
  replace HO867 := xVb HO867 hb
  replace HO877 := xVb HO877 hb
  replace BK844 := xB BK844 hb
  replace BK845 := xB BK845 hb
  replace BK846 := xB BK846 hb
  replace HB := xS HB hb
  clear hb
  refine hK.out _ _ xV (fun hHeld => ?_)
  clear hK K
  refine xN 57 ?_
  refine yO 7 none (b 8 255) fun K hK => ?_
  obtain ⟨hs102, hs103, hs104, hfs102, hfs103, hfs104⟩ := x6 BK846
  have hns102_0 := NB844_846.out
  have hns102_1 := NB845_846.out
  have hms102_0 := NB846_844.out
  have hms102_1 := NB846_845.out
  refine xk ?_
  refine hK.out _ _ ⟨((cell_far (p := ⟨gb846, _, none⟩) NB845_846.out _).trans ((cell_far (p := ⟨gb846, _, none⟩) NB845_846.out _).trans ((cell_far (p := ⟨gb846, _, none⟩) NB845_846.out _).trans (hHeld.1)))), ((cell_far (p := ⟨gb846, _, none⟩) NB845_846.out _).trans ((cell_far (p := ⟨gb846, _, none⟩) NB845_846.out _).trans ((cell_far (p := ⟨gb846, _, none⟩) NB845_846.out _).trans (hHeld.2.1)))), ((cell_far (p := ⟨gb846, _, none⟩) NB845_846.out _).trans ((cell_far (p := ⟨gb846, _, none⟩) NB845_846.out _).trans ((cell_far (p := ⟨gb846, _, none⟩) NB845_846.out _).trans (hHeld.2.2))))⟩ (fun hHeld => ?_)
  clear hK K
  refine done_ (done_of HT_.out (by kernel_rfl)) ?_
  try go_wp2
  refine bodyPost_ret (results_cell_row rfl _ _ gb846 25 #[.bool t878, .string t879, .string t880] (0, 0) _ rfl (xp BK846) Tryd.underlying25 rfl (by kernel_rfl)) rfl ?_
  exact ⟨xy, xs HB⟩
 replace H := xH H; obtain ⟨t881, A105, H⟩ := H
 replace H := xH H; obtain ⟨⟨t884, t885, t886⟩, A106, H⟩ := H
 dsimp only at H
 simp only [Option.some.injEq, Prod.mk.injEq] at H
 obtain ⟨rfl, rfl, rfl⟩ := H
 go_enter Tryd.func43, Tryd.ntmps43
 try go_wp2_with (first | (refine xF (N := 2) #[.bool a0_0, .string a0_1, .string a0_2] 25 HB ?_; clear HB; intro gb844 hg w107 hb BK844 GW844 HB; clear hb hg) | (refine xF (N := 3) #[.bool a1_0, .string a1_1, .string a1_2] 25 HB ?_; clear HB; intro gb845 hg w108 hb BK845 GW845 HB; have NB844_845 := xL BK844 hg; have NB845_844 := xR BK844 hg; replace BK844 := xB BK844 hb; clear hb hg) | (refine xF (N := 4) #[.bool false, .string (⟨#[]⟩ : ByteArray), .string (⟨#[]⟩ : ByteArray)] 25 HB ?_; clear HB; intro gb846 hg w109 hb BK846 GW846 HB; have NB844_846 := xL BK844 hg; have NB846_844 := xR BK844 hg; replace BK844 := xB BK844 hb; have NB845_846 := xL BK845 hg; have NB846_845 := xR BK845 hg; replace BK845 := xB BK845 hb; clear hb hg; have hnb110 := NB844_845.out; have hnc110 := NB845_844.out; have hnb111 := NB844_846.out; have hnc111 := NB846_844.out; obtain ⟨hcz112_0, hcz112_1, hcz112_2, hfz112_0, hfz112_1, hfz112_2⟩ := x6 BK844; have hnb113 := NB845_846.out; have hnc113 := NB846_845.out; obtain ⟨hcz114_0, hcz114_1, hcz114_2, hfz114_0, hfz114_1, hfz114_2⟩ := x6 BK845) | (refine xg Tryd.func65 (some 19) #[.agg #[.bool a0_0, .string a0_1, .string a0_2]] ?_; (with_reducible refine (ir_den.calls k a0_0 a0_1 a0_2 t847 _ A23.out).mono ?_); rintro e w115 ⟨v848, rfl, ho0, hb⟩; refine ⟨_, rfl, ?_⟩; have HO849 := Aside0.mk (Kd.R_lower ho0 (below_size (xs HB))); replace BK844 := xB BK844 hb; replace BK845 := xB BK845 hb; replace BK846 := xB BK846 hb; replace HB := xS HB hb; clear hb ho0; obtain ⟨hcz116_0, hcz116_1, hcz116_2, hfz116_0, hfz116_1, hfz116_2⟩ := x6 BK845) | (refine xg Tryd.func65 (some 21) #[.agg #[.bool a1_0, .string a1_1, .string a1_2]] ?_; (with_reducible refine (ir_den.calls k a1_0 a1_1 a1_2 t850 _ A24.out).mono ?_); rintro e w117 ⟨v851, rfl, ho0, hb⟩; refine ⟨_, rfl, ?_⟩; have HO852 := Aside0.mk (Kd.R_lower (Kd.R_new' ho0 (Kd.R_lt (xr HO849.out))) (below_size (xs HB))); replace HO849 := Aside0.mk (Kd.R_elder' (xr HO849.out) (Kd.R_base ho0) hb); replace BK844 := xB BK844 hb; replace BK845 := xB BK845 hb; replace BK846 := xB BK846 hb; replace HB := xS HB hb; clear hb ho0; obtain ⟨hcz118_0, hcz118_1, hcz118_2, hfz118_0, hfz118_1, hfz118_2⟩ := x6 BK844) | (refine xg Tryd.func67 (some 24) #[.string a0_1] ?_; (with_reducible refine (ir_limbs.calls k a0_1 t853 _ A25.out).mono ?_); rintro e w119 ⟨v854, rfl, ho0, hb⟩; refine ⟨_, rfl, ?_⟩; have HO855 := Aside0.mk (Kd.R_lower (Kd.R_new' (Kd.R_new' ho0 (Kd.R_lt (xr HO849.out))) (Kd.R_lt (xr HO852.out))) (below_size (xs HB))); replace HO849 := Aside0.mk (Kd.R_elder' (xr HO849.out) (Kd.R_base ho0) hb); replace HO852 := Aside0.mk (Kd.R_elder' (xr HO852.out) (Kd.R_base ho0) hb); replace BK844 := xB BK844 hb; replace BK845 := xB BK845 hb; replace BK846 := xB BK846 hb; replace HB := xS HB hb; clear hb ho0; obtain ⟨Ao120, co120, eo120⟩ := Kd.R_slice HO855.out; subst eo120; obtain ⟨Ao121, co121, eo121⟩ := Kd.R_slice HO852.out; subst eo121) | (refine xg Tryd.func66 (some 26) #[.slice Ao120 t853.length co120, .slice Ao121 t850.length co121] ?_; (with_reducible refine (ir_times.calls k _ _ t853 _ _ t850 t856 _ ?side1 ?side2 ?side3 ?side4 A26.out).mono ?_); (case side1 => repeat (exact (Kd.R_reads' HO855.out).2.2)); (case side2 => exact (Kd.R_reads' HO855.out).2.1); (case side3 => repeat (exact (Kd.R_reads' HO852.out).2.2)); (case side4 => exact (Kd.R_reads' HO852.out).2.1); rintro e w122 ⟨v857, rfl, ho0, hb⟩; refine ⟨_, rfl, ?_⟩; have HO858 := xVm w (fun k_ => some k_ ≠ (v848 : Value).ownBlock ∧ some k_ ≠ (.slice Ao121 t850.length co121 : Value).ownBlock ∧ some k_ ≠ (.slice Ao120 t853.length co120 : Value).ownBlock ∧ k_ ≠ gb844 ∧ k_ ≠ gb845 ∧ k_ ≠ gb846) ho0 (fun k_ hk_ => ⟨(Kd.fresh' (Kd.R_lt (xr HO849.out)) k_ hk_), (Kd.fresh' (Kd.R_lt (xr HO852.out)) k_ hk_), (Kd.fresh' (Kd.R_lt (xr HO855.out)) k_ hk_), (Kd.freshB (g := gb844) (o := .cells #[.bool a0_0, .string a0_1, .string a0_2] 25 (0, 0)) (xb BK844) k_ hk_), (Kd.freshB (g := gb845) (o := .cells #[.bool a1_0, .string a1_1, .string a1_2] 25 (0, 0)) (xb BK845) k_ hk_), (Kd.freshB (g := gb846) (o := .cells #[.bool false, .string (⟨#[]⟩ : ByteArray), .string (⟨#[]⟩ : ByteArray)] 25 (0, 0)) (xb BK846) k_ hk_)⟩); replace HO849 := xRb HO849 hb; replace HO852 := xRb HO852 hb; replace HO855 := xRb HO855 hb; replace BK844 := xB BK844 hb; replace BK845 := xB BK845 hb; replace BK846 := xB BK846 hb; replace HB := xS HB hb; clear hb ho0; obtain ⟨hcz123_0, hcz123_1, hcz123_2, hfz123_0, hfz123_1, hfz123_2⟩ := x6 BK845) | (refine xg Tryd.func67 (some 29) #[.string a1_1] ?_; (with_reducible refine (ir_limbs.calls k a1_1 t859 _ A27.out).mono ?_); rintro e w124 ⟨v860, rfl, ho0, hb⟩; refine ⟨_, rfl, ?_⟩; replace HO858 := Aside0.mk (Kd.V_elder' (xv HO858.out) (Kd.R_base ho0) hb); have HO861 := Aside0.mk (Kd.R_lower (Kd.R_new' (Kd.R_new' (Kd.R_new' ho0 (Kd.R_lt (xr HO849.out))) (Kd.R_lt (xr HO852.out))) (Kd.R_lt (xr HO855.out))) (below_size (xs HB))); replace HO849 := Aside0.mk (Kd.R_elder' (xr HO849.out) (Kd.R_base ho0) hb); replace HO852 := Aside0.mk (Kd.R_elder' (xr HO852.out) (Kd.R_base ho0) hb); replace HO855 := Aside0.mk (Kd.R_elder' (xr HO855.out) (Kd.R_base ho0) hb); replace BK844 := xB BK844 hb; replace BK845 := xB BK845 hb; replace BK846 := xB BK846 hb; replace HB := xS HB hb; clear hb ho0; obtain ⟨Ao125, co125, eo125⟩ := Kd.R_slice HO861.out; subst eo125; obtain ⟨Ao126, co126, eo126⟩ := Kd.R_slice HO849.out; subst eo126) | (refine xg Tryd.func66 (some 31) #[.slice Ao125 t859.length co125, .slice Ao126 t847.length co126] ?_; (with_reducible refine (ir_times.calls k _ _ t859 _ _ t847 t862 _ ?side1 ?side2 ?side3 ?side4 A28.out).mono ?_); (case side1 => repeat (exact (Kd.R_reads' HO861.out).2.2)); (case side2 => exact (Kd.R_reads' HO861.out).2.1); (case side3 => repeat (exact (Kd.R_reads' HO849.out).2.2)); (case side4 => exact (Kd.R_reads' HO849.out).2.1); rintro e w127 ⟨v863, rfl, ho0, hb⟩; refine ⟨_, rfl, ?_⟩; replace HO858 := xVb HO858 hb; have HO864 := xVm w (fun k_ => some k_ ≠ (.slice Ao126 t847.length co126 : Value).ownBlock ∧ some k_ ≠ (.slice Ao121 t850.length co121 : Value).ownBlock ∧ some k_ ≠ (.slice Ao120 t853.length co120 : Value).ownBlock ∧ some k_ ≠ (.slice Ao125 t859.length co125 : Value).ownBlock ∧ k_ ≠ gb844 ∧ k_ ≠ gb845 ∧ k_ ≠ gb846) ho0 (fun k_ hk_ => ⟨(Kd.fresh' (Kd.R_lt (xr HO849.out)) k_ hk_), (Kd.fresh' (Kd.R_lt (xr HO852.out)) k_ hk_), (Kd.fresh' (Kd.R_lt (xr HO855.out)) k_ hk_), (Kd.fresh' (Kd.R_lt (xr HO861.out)) k_ hk_), (Kd.freshB (g := gb844) (o := .cells #[.bool a0_0, .string a0_1, .string a0_2] 25 (0, 0)) (xb BK844) k_ hk_), (Kd.freshB (g := gb845) (o := .cells #[.bool a1_0, .string a1_1, .string a1_2] 25 (0, 0)) (xb BK845) k_ hk_), (Kd.freshB (g := gb846) (o := .cells #[.bool false, .string (⟨#[]⟩ : ByteArray), .string (⟨#[]⟩ : ByteArray)] 25 (0, 0)) (xb BK846) k_ hk_)⟩); replace HO849 := xRb HO849 hb; replace HO852 := xRb HO852 hb; replace HO855 := xRb HO855 hb; replace HO861 := xRb HO861 hb; replace BK844 := xB BK844 hb; replace BK845 := xB BK845 hb; replace BK846 := xB BK846 hb; replace HB := xS HB hb; clear hb ho0) | (refine xg Tryd.func66 (some 34) #[.slice Ao126 t847.length co126, .slice Ao121 t850.length co121] ?_; (with_reducible refine (ir_times.calls k _ _ t847 _ _ t850 t865 _ ?side1 ?side2 ?side3 ?side4 A29.out).mono ?_); (case side1 => repeat (exact (Kd.R_reads' HO849.out).2.2)); (case side2 => exact (Kd.R_reads' HO849.out).2.1); (case side3 => repeat (exact (Kd.R_reads' HO852.out).2.2)); (case side4 => exact (Kd.R_reads' HO852.out).2.1); rintro e w128 ⟨v866, rfl, ho0, hb⟩; refine ⟨_, rfl, ?_⟩; replace HO858 := xVb HO858 hb; replace HO864 := xVb HO864 hb; have HO867 := xVm w (fun k_ => some k_ ≠ (.slice Ao126 t847.length co126 : Value).ownBlock ∧ some k_ ≠ (.slice Ao121 t850.length co121 : Value).ownBlock ∧ some k_ ≠ (.slice Ao120 t853.length co120 : Value).ownBlock ∧ some k_ ≠ (.slice Ao125 t859.length co125 : Value).ownBlock ∧ k_ ≠ gb844 ∧ k_ ≠ gb845 ∧ k_ ≠ gb846) ho0 (fun k_ hk_ => ⟨(Kd.fresh' (Kd.R_lt (xr HO849.out)) k_ hk_), (Kd.fresh' (Kd.R_lt (xr HO852.out)) k_ hk_), (Kd.fresh' (Kd.R_lt (xr HO855.out)) k_ hk_), (Kd.fresh' (Kd.R_lt (xr HO861.out)) k_ hk_), (Kd.freshB (g := gb844) (o := .cells #[.bool a0_0, .string a0_1, .string a0_2] 25 (0, 0)) (xb BK844) k_ hk_), (Kd.freshB (g := gb845) (o := .cells #[.bool a1_0, .string a1_1, .string a1_2] 25 (0, 0)) (xb BK845) k_ hk_), (Kd.freshB (g := gb846) (o := .cells #[.bool false, .string (⟨#[]⟩ : ByteArray), .string (⟨#[]⟩ : ByteArray)] 25 (0, 0)) (xb BK846) k_ hk_)⟩); replace HO849 := xRb HO849 hb; replace HO852 := xRb HO852 hb; replace HO855 := xRb HO855 hb; replace HO861 := xRb HO861 hb; replace BK844 := xB BK844 hb; replace BK845 := xB BK845 hb; replace BK846 := xB BK846 hb; replace HB := xS HB hb; clear hb ho0; obtain ⟨hcz129_0, hcz129_1, hcz129_2, hfz129_0, hfz129_1, hfz129_2⟩ := x6 BK844; obtain ⟨hcz130_0, hcz130_1, hcz130_2, hfz130_0, hfz130_1, hfz130_2⟩ := x6 BK845; obtain ⟨Ao131, co131, eo131⟩ := Kd.V_slice HO858.out; subst eo131; obtain ⟨Ao132, co132, eo132⟩ := Kd.V_slice HO864.out; subst eo132) | (refine xg Tryd.func70 (some 49) #[.slice Ao131 t856.length co131, .slice Ao132 t862.length co132] ?_; (with_reducible refine (ir_order.calls k _ _ t856 _ _ t862 t874 _ (xf (Kd.V_reads' HO858.out).2.2) (Kd.V_reads' HO858.out).2.1 (xf (Kd.V_reads' HO864.out).2.2) (Kd.V_reads' HO864.out).2.1 A67.out).mono ?_); rintro e w' ⟨rfl, ⟨nd, rfl⟩⟩; refine ⟨_, rfl, ?_⟩; (try (rw [drewN_self w128]; generalize hq_ : World.drewN w128 _ = w128; have n0_ : Aside0 (Kd.R (Kd.int .u32) 85 w128 w.heap.size (fun k_ => some k_ ≠ (.slice Ao121 t850.length co121 : Value).ownBlock ∧ some k_ ≠ (.slice Ao120 t853.length co120 : Value).ownBlock ∧ some k_ ≠ (.slice Ao125 t859.length co125 : Value).ownBlock) (.slice Ao126 t847.length co126) t847) := ⟨by rw [← hq_]; exact (by (with_reducible repeat (apply Kd.R_drewN)); exact Kd.R_mono HO849.out (fun _ hk => by exact ⟨hk.1.1.2, ⟨hk.1.2, hk.2⟩⟩))⟩; have n1_ : Aside0 (Kd.R (Kd.int .u32) 85 w128 w.heap.size (fun k_ => some k_ ≠ (.slice Ao126 t847.length co126 : Value).ownBlock ∧ some k_ ≠ (.slice Ao120 t853.length co120 : Value).ownBlock ∧ some k_ ≠ (.slice Ao125 t859.length co125 : Value).ownBlock) (.slice Ao121 t850.length co121) t850) := ⟨by rw [← hq_]; exact (by (with_reducible repeat (apply Kd.R_drewN)); exact Kd.R_mono HO852.out (fun _ hk => by exact ⟨hk.1.1.2, ⟨hk.1.2, hk.2⟩⟩))⟩; have n2_ : Aside0 (Kd.R (Kd.int .u32) 85 w128 w.heap.size (fun k_ => some k_ ≠ (.slice Ao126 t847.length co126 : Value).ownBlock ∧ some k_ ≠ (.slice Ao121 t850.length co121 : Value).ownBlock ∧ some k_ ≠ (.slice Ao125 t859.length co125 : Value).ownBlock) (.slice Ao120 t853.length co120) t853) := ⟨by rw [← hq_]; exact (by (with_reducible repeat (apply Kd.R_drewN)); exact Kd.R_mono HO855.out (fun _ hk => by exact ⟨hk.1.1.2, ⟨hk.1.2, hk.2⟩⟩))⟩; have n3_ : Aside0 (Kd.V (Kd.int .u32) 85 w128 w.heap.size (fun k_ => some k_ ≠ (.slice Ao126 t847.length co126 : Value).ownBlock ∧ some k_ ≠ (.slice Ao121 t850.length co121 : Value).ownBlock ∧ some k_ ≠ (.slice Ao120 t853.length co120 : Value).ownBlock ∧ some k_ ≠ (.slice Ao125 t859.length co125 : Value).ownBlock ∧ k_ ≠ gb844 ∧ k_ ≠ gb845 ∧ k_ ≠ gb846) (.slice Ao131 t856.length co131) t856) := ⟨by rw [← hq_]; exact (by (with_reducible repeat (apply Kd.V_drewN)); exact Kd.V_mono HO858.out (fun _ hk => by exact ⟨hk.1.1, ⟨hk.1.2.1, ⟨hk.1.2.2.1, ⟨hk.2, ⟨hk.1.2.2.2.1, ⟨hk.1.2.2.2.2.1, hk.1.2.2.2.2.2⟩⟩⟩⟩⟩⟩))⟩; have n4_ : Aside0 (Kd.R (Kd.int .u32) 85 w128 w.heap.size (fun k_ => some k_ ≠ (.slice Ao126 t847.length co126 : Value).ownBlock ∧ some k_ ≠ (.slice Ao121 t850.length co121 : Value).ownBlock ∧ some k_ ≠ (.slice Ao120 t853.length co120 : Value).ownBlock) (.slice Ao125 t859.length co125) t859) := ⟨by rw [← hq_]; exact (by (with_reducible repeat (apply Kd.R_drewN)); exact Kd.R_mono HO861.out (fun _ hk => by exact ⟨hk.1.1.2, ⟨hk.1.2, hk.2⟩⟩))⟩; have n5_ : Aside0 (Kd.V (Kd.int .u32) 85 w128 w.heap.size (fun k_ => some k_ ≠ (.slice Ao126 t847.length co126 : Value).ownBlock ∧ some k_ ≠ (.slice Ao121 t850.length co121 : Value).ownBlock ∧ some k_ ≠ (.slice Ao120 t853.length co120 : Value).ownBlock ∧ some k_ ≠ (.slice Ao125 t859.length co125 : Value).ownBlock ∧ k_ ≠ gb844 ∧ k_ ≠ gb845 ∧ k_ ≠ gb846) (.slice Ao132 t862.length co132) t862) := ⟨by rw [← hq_]; exact (xv HO864.out)⟩; have n6_ : Aside0 (Kd.V (Kd.int .u32) 85 w128 w.heap.size (fun k_ => some k_ ≠ (.slice Ao126 t847.length co126 : Value).ownBlock ∧ some k_ ≠ (.slice Ao121 t850.length co121 : Value).ownBlock ∧ some k_ ≠ (.slice Ao120 t853.length co120 : Value).ownBlock ∧ some k_ ≠ (.slice Ao125 t859.length co125 : Value).ownBlock ∧ k_ ≠ gb844 ∧ k_ ≠ gb845 ∧ k_ ≠ gb846) v866 t865) := ⟨by rw [← hq_]; exact (xv HO867.out)⟩; have n7_ : Aside0 (w128.heap[gb844]? = some (.cells #[.bool a0_0, .string a0_1, .string a0_2] 25 (0, 0))) := ⟨by rw [← hq_]; exact (xb BK844)⟩; have n8_ : Aside0 (w128.heap[gb845]? = some (.cells #[.bool a1_0, .string a1_1, .string a1_2] 25 (0, 0))) := ⟨by rw [← hq_]; exact (xb BK845)⟩; have n9_ : Aside0 (w128.heap[gb846]? = some (.cells #[.bool false, .string (⟨#[]⟩ : ByteArray), .string (⟨#[]⟩ : ByteArray)] 25 (0, 0))) := ⟨by rw [← hq_]; exact (xb BK846)⟩; have n10_ : Aside0 (Below w.heap.size w w128) := ⟨by rw [← hq_]; exact (xs HB)⟩; clear HO849 HO852 HO855 HO858 HO861 HO864 HO867 BK844 BK845 BK846 HB hq_; have HO849 := n0_; have HO852 := n1_; have HO855 := n2_; have HO858 := n3_; have HO861 := n4_; have HO864 := n5_; have HO867 := n6_; have BK844 := n7_; have BK845 := n8_; have BK846 := n9_; have HB := n10_; clear n0_ n1_ n2_ n3_ n4_ n5_ n6_ n7_ n8_ n9_ n10_))))
 replace HO849 := Aside0.mk (Kd.R_drew HO849.out)
 replace HO852 := Aside0.mk (Kd.R_drew HO852.out)
 replace HO855 := Aside0.mk (Kd.R_drew HO855.out)
 replace HO858 := Aside0.mk (Kd.V_drew HO858.out)
 replace HO861 := Aside0.mk (Kd.R_drew HO861.out)
 replace HO864 := Aside0.mk (Kd.V_drew HO864.out)
 replace HO867 := Aside0.mk (Kd.V_drew HO867.out)
 replace BK844 := xD BK844
 replace BK845 := xD BK845
 replace BK846 := xD BK846
 replace HB := xW HB
 refine start_ (n := 8) (S := fun w' => w'.cell? ⟨gb844, 0, none⟩ = some (.bool a0_0) ∧ w'.cell? ⟨gb844, 1, none⟩ = some (.string a0_1) ∧ w'.cell? ⟨gb844, 2, none⟩ = some (.string a0_2)) (ds := []) (b 8 0) (by kernel_rfl) rfl rfl xV (fun hHeld => ?_); refine with_tabW ir_Plus.tab14 ir_Plus.bits14 (fun HT_ HW_ => ?_)
 generalize w128.drew = w133 at HO849 HO852 HO855 HO858 HO861 HO864 HO867 BK844 BK845 BK846 HB hHeld ⊢
 refine yP 0 (some 58) (b 8 1) ?_
 refine yP 2 (some 60) (b 8 5) ?_
 refine yP 3 (some 61) (b 8 13) ?_
 refine yP 5 (some 63) (b 8 45) ?_
 refine yT 1 (some 59) (b 8 47) hHeld ?_
 refine yO 4 (some 62) (b 8 63) fun K hK => ?_
 refine goes_ Tryd.func71 (by kernel_rfl) rfl #[.slice Ao131 t856.length co131, .slice Ao132 t862.length co132] (by rfl) rfl rfl (by (try simp only [List.map_toArray, List.map_cons, List.map_nil]); rfl) ?_
 with_reducible refine (ir_minus.calls k _ _ t856 _ _ t862 t881 _ ?side1 ?side2 ?side3 ?side4 A105.out).mono ?_
 (case side1 => repeat (exact (Kd.V_reads' HO858.out).2.2))
 (case side2 => exact (Kd.V_reads' HO858.out).2.1)
 (case side3 => repeat (exact (Kd.V_reads' HO864.out).2.2))
 (case side4 => exact (Kd.V_reads' HO864.out).2.1)
 rintro e w134 ⟨v882, rfl, ho0, hb⟩
 refine ⟨_, rfl, ?_⟩
 replace HO858 := xVb HO858 hb
 replace HO864 := xVb HO864 hb
 replace HO867 := xVb HO867 hb
 have HO883 := xVm w (fun k_ => some k_ ≠ (.slice Ao126 t847.length co126 : Value).ownBlock ∧ some k_ ≠ (.slice Ao121 t850.length co121 : Value).ownBlock ∧ some k_ ≠ (.slice Ao120 t853.length co120 : Value).ownBlock ∧ some k_ ≠ (.slice Ao125 t859.length co125 : Value).ownBlock ∧ k_ ≠ gb844 ∧ k_ ≠ gb845 ∧ k_ ≠ gb846) ho0 (fun k_ hk_ => ⟨(Kd.fresh' (Kd.R_lt (xr HO849.out)) k_ hk_), (Kd.fresh' (Kd.R_lt (xr HO852.out)) k_ hk_), (Kd.fresh' (Kd.R_lt (xr HO855.out)) k_ hk_), (Kd.fresh' (Kd.R_lt (xr HO861.out)) k_ hk_), (Kd.freshB (g := gb844) (o := .cells #[.bool a0_0, .string a0_1, .string a0_2] 25 (0, 0)) (xb BK844) k_ hk_), (Kd.freshB (g := gb845) (o := .cells #[.bool a1_0, .string a1_1, .string a1_2] 25 (0, 0)) (xb BK845) k_ hk_), (Kd.freshB (g := gb846) (o := .cells #[.bool false, .string (⟨#[]⟩ : ByteArray), .string (⟨#[]⟩ : ByteArray)] 25 (0, 0)) (xb BK846) k_ hk_)⟩)
 replace HO849 := xRb HO849 hb
 replace HO852 := xRb HO852 hb
 replace HO855 := xRb HO855 hb
 replace HO861 := xRb HO861 hb
 replace BK844 := xB BK844 hb
 replace BK845 := xB BK845 hb
 replace BK846 := xB BK846 hb
 replace HB := xS HB hb
 clear hb ho0
 obtain ⟨Ao135, co135, eo135⟩ := Kd.V_slice HO883.out
 subst eo135
 obtain ⟨Ao136, co136, eo136⟩ := Kd.V_slice HO867.out
 subst eo136
 refine hK.out _ _ xV (fun hHeld => ?_)
 clear hK K
 refine xN 62 ?_
 refine yO 6 (some 64) (b 8 127) fun K hK => ?_
 refine goes_ Tryd.func68 (by kernel_rfl) rfl #[.bool a0_0, .slice Ao135 t881.length co135, .slice Ao136 t865.length co136] (by rfl) rfl rfl (by (try simp only [List.map_toArray, List.map_cons, List.map_nil]); rfl) ?_
 with_reducible refine (ir_reduced.calls k a0_0 _ _ t881 _ _ t865 t884 t885 t886 _ ?side1 ?side2 ?side3 ?side4 A106.out).mono ?_
 (case side1 => repeat (exact (Kd.V_reads' HO883.out).2.2))
 (case side2 => exact (Kd.V_reads' HO883.out).2.1)
 (case side3 => repeat (exact (Kd.V_reads' HO867.out).2.2))
 (case side4 => exact (Kd.V_reads' HO867.out).2.1)
 rintro e w137 ⟨rfl, hb⟩
 refine ⟨_, rfl, ?_⟩
 replace HO849 := xRb HO849 hb
 replace HO852 := xRb HO852 hb
 replace HO855 := xRb HO855 hb
 replace HO858 := xVb HO858 hb
 replace HO861 := xRb HO861 hb
 replace HO864 := xVb HO864 hb
 replace HO867 := xVb HO867 hb
 replace HO883 := xVb HO883 hb
 replace BK844 := xB BK844 hb
 replace BK845 := xB BK845 hb
 replace BK846 := xB BK846 hb
 replace HB := xS HB hb
 clear hb
 refine hK.out _ _ xV (fun hHeld => ?_)
 clear hK K
 refine xN 64 ?_
 refine yO 7 none (b 8 255) fun K hK => ?_
 obtain ⟨hs138, hs139, hs140, hfs138, hfs139, hfs140⟩ := x6 BK846
 have hns138_0 := NB844_846.out
 have hns138_1 := NB845_846.out
 have hms138_0 := NB846_844.out
 have hms138_1 := NB846_845.out
 refine xk ?_
 refine hK.out _ _ ⟨((cell_far (p := ⟨gb846, _, none⟩) NB844_846.out _).trans ((cell_far (p := ⟨gb846, _, none⟩) NB844_846.out _).trans ((cell_far (p := ⟨gb846, _, none⟩) NB844_846.out _).trans (hHeld.1)))), ((cell_far (p := ⟨gb846, _, none⟩) NB844_846.out _).trans ((cell_far (p := ⟨gb846, _, none⟩) NB844_846.out _).trans ((cell_far (p := ⟨gb846, _, none⟩) NB844_846.out _).trans (hHeld.2.1)))), ((cell_far (p := ⟨gb846, _, none⟩) NB844_846.out _).trans ((cell_far (p := ⟨gb846, _, none⟩) NB844_846.out _).trans ((cell_far (p := ⟨gb846, _, none⟩) NB844_846.out _).trans (hHeld.2.2))))⟩ (fun hHeld => ?_)
 clear hK K
 refine done_ (done_of HT_.out (by kernel_rfl)) ?_
 try go_wp2
 refine bodyPost_ret (results_cell_row rfl _ _ gb846 25 #[.bool t884, .string t885, .string t886] (0, 0) _ rfl (xp BK846) Tryd.underlying25 rfl (by kernel_rfl)) rfl ?_
 exact ⟨xy, xs HB⟩
/-! ### ir_Opposite: function 64 -/
def ir_Opposite.f (a0_0 : Bool) (a0_1 : ByteArray) (a0_2 : ByteArray) : Option (Bool × ByteArray × ByteArray) := if a0_1.toList = ([] : List UInt8) then (some (a0_0, a0_1, a0_2)) else (some (!a0_0, a0_1, a0_2))
theorem ir_Opposite.calls (a0_0 : Bool) (a0_1 : ByteArray) (a0_2 : ByteArray) (r1 : Bool) (r2 : ByteArray) (r3 : ByteArray) (w : World) (h : ir_Opposite.f a0_0 a0_1 a0_2 = some (r1, r2, r3)) :
  Calls Tryd.prog 64 #[.agg #[.bool a0_0, .string a0_1, .string a0_2]] w fun e w' => e = .returned (.agg #[.bool r1, .string r2, .string r3]) ∧ Below w.heap.size w w' := by
 have hu25 := Tryd.underlying25
 have HB := Aside0.mk (Below.refl w.heap.size w)
 have H := h; clear h
 unfold ir_Opposite.f at H
 obtain ⟨c2, H⟩ | ⟨c2, H⟩ := xO H
 ·have c2b0 := beq_iff_eq.mpr c2
  have c2b1 := bne_eq_false_iff_eq.mpr c2
  clear c2
  simp only [Option.some.injEq, Prod.mk.injEq] at H
  obtain ⟨rfl, rfl, rfl⟩ := H
  go_enter Tryd.func64, Tryd.ntmps64
  go_wp2_with (first | (refine xF (N := 1) #[.bool a0_0, .string a0_1, .string a0_2] 25 HB ?_; clear HB; intro gb887 hg w3 hb BK887 GW887 HB; clear hb hg) | (refine xF (N := 2) #[.bool false, .string (⟨#[]⟩ : ByteArray), .string (⟨#[]⟩ : ByteArray)] 25 HB ?_; clear HB; intro gb888 hg w4 hb BK888 GW888 HB; have NB887_888 := xL BK887 hg; have NB888_887 := xR BK887 hg; replace BK887 := xB BK887 hb; clear hb hg; have hnb5 := NB887_888.out; have hnc5 := NB888_887.out; obtain ⟨hcz6_0, hcz6_1, hcz6_2, hfz6_0, hfz6_1, hfz6_2⟩ := x6 BK887; obtain ⟨hcz7_0, hcz7_1, hcz7_2, hfz7_0, hfz7_1, hfz7_2⟩ := x6 BK888))
  refine bodyPost_ret (results_cell_row rfl _ _ gb888 25 #[.bool a0_0, .string a0_1, .string a0_2] (0, 0) _ rfl (xp BK888) Tryd.underlying25 rfl (by kernel_rfl)) rfl ?_
  exact ⟨xy, xs HB⟩
 have c2b0 := beq_eq_false_iff_ne.mpr c2
 have c2b1 := bne_iff_ne.mpr c2
 simp only [Option.some.injEq, Prod.mk.injEq] at H
 obtain ⟨rfl, rfl, rfl⟩ := H
 go_enter Tryd.func64, Tryd.ntmps64
 go_wp2_with (first | (refine xF (N := 1) #[.bool a0_0, .string a0_1, .string a0_2] 25 HB ?_; clear HB; intro gb887 hg w8 hb BK887 GW887 HB; clear hb hg) | (refine xF (N := 2) #[.bool false, .string (⟨#[]⟩ : ByteArray), .string (⟨#[]⟩ : ByteArray)] 25 HB ?_; clear HB; intro gb888 hg w9 hb BK888 GW888 HB; have NB887_888 := xL BK887 hg; have NB888_887 := xR BK887 hg; replace BK887 := xB BK887 hb; clear hb hg; have hnb10 := NB887_888.out; have hnc10 := NB888_887.out; obtain ⟨hcz11_0, hcz11_1, hcz11_2, hfz11_0, hfz11_1, hfz11_2⟩ := x6 BK887; obtain ⟨hcz12_0, hcz12_1, hcz12_2, hfz12_0, hfz12_1, hfz12_2⟩ := x6 BK888))
 refine bodyPost_ret (results_cell_row rfl _ _ gb888 25 #[.bool (!a0_0), .string a0_1, .string a0_2] (0, 0) _ rfl (xp BK888) Tryd.underlying25 rfl (by kernel_rfl)) rfl ?_
 exact ⟨xy, xs HB⟩
/-! ### ir_Minus: function 42 -/
def ir_Minus.f (k : Nat) (a0_0 : Bool) (a0_1 : ByteArray) (a0_2 : ByteArray) (a1_0 : Bool) (a1_1 : ByteArray) (a1_2 : ByteArray) : Option (Bool × ByteArray × ByteArray) := (ir_Opposite.f a1_0 a1_1 a1_2).bind fun bt892 => ((ir_Plus.f k a0_0 a0_1 a0_2 bt892.1 bt892.2.1 bt892.2.2).bind fun bt895 => (some (bt895.1, bt895.2.1, bt895.2.2)))
theorem ir_Minus.mono : ∀ a0 a1 a2 a3 a4 a5 k, LeO (ir_Minus.f k a0 a1 a2 a3 a4 a5) (ir_Minus.f (k + 1) a0 a1 a2 a3 a4 a5) := by
 intro a0 a1 a2 a3 a4 a5 k
 unfold ir_Minus.f
 have m0 := @ir_Plus.mono; exact xM
theorem ir_Minus.calls (k : Nat) (a0_0 : Bool) (a0_1 : ByteArray) (a0_2 : ByteArray) (a1_0 : Bool) (a1_1 : ByteArray) (a1_2 : ByteArray) (r1 : Bool) (r2 : ByteArray) (r3 : ByteArray) (w : World) (h : ir_Minus.f k a0_0 a0_1 a0_2 a1_0 a1_1 a1_2 = some (r1, r2, r3)) :
  Calls Tryd.prog 42 #[.agg #[.bool a0_0, .string a0_1, .string a0_2], .agg #[.bool a1_0, .string a1_1, .string a1_2]] w fun e w' => e = .returned (.agg #[.bool r1, .string r2, .string r3]) ∧ Below w.heap.size w w' := by
 have hu25 := Tryd.underlying25
 have HB := Aside0.mk (Below.refl w.heap.size w)
 have H := h; clear h
 unfold ir_Minus.f at H
 replace H := xH H; obtain ⟨⟨t892, t893, t894⟩, A3, H⟩ := H
 dsimp only at H
 replace H := xH H; obtain ⟨⟨t895, t896, t897⟩, A4, H⟩ := H
 dsimp only at H
 simp only [Option.some.injEq, Prod.mk.injEq] at H
 obtain ⟨rfl, rfl, rfl⟩ := H
 go_enter Tryd.func42, Tryd.ntmps42
 try go_wp2_with (first | (refine xF (N := 2) #[.bool a0_0, .string a0_1, .string a0_2] 25 HB ?_; clear HB; intro gb889 hg w5 hb BK889 GW889 HB; clear hb hg) | (refine xF (N := 3) #[.bool a1_0, .string a1_1, .string a1_2] 25 HB ?_; clear HB; intro gb890 hg w6 hb BK890 GW890 HB; have NB889_890 := xL BK889 hg; have NB890_889 := xR BK889 hg; replace BK889 := xB BK889 hb; clear hb hg) | (refine xF (N := 4) #[.bool false, .string (⟨#[]⟩ : ByteArray), .string (⟨#[]⟩ : ByteArray)] 25 HB ?_; clear HB; intro gb891 hg w7 hb BK891 GW891 HB; have NB889_891 := xL BK889 hg; have NB891_889 := xR BK889 hg; replace BK889 := xB BK889 hb; have NB890_891 := xL BK890 hg; have NB891_890 := xR BK890 hg; replace BK890 := xB BK890 hb; clear hb hg))
 replace BK889 := xD BK889
 replace BK890 := xD BK890
 replace BK891 := xD BK891
 replace HB := xW HB
 refine start_ (n := 5) (S := fun w' => w'.cell? ⟨gb889, 0, none⟩ = some (.bool a0_0) ∧ w'.cell? ⟨gb889, 1, none⟩ = some (.string a0_1) ∧ w'.cell? ⟨gb889, 2, none⟩ = some (.string a0_2) ∧ w'.cell? ⟨gb890, 0, none⟩ = some (.bool a1_0) ∧ w'.cell? ⟨gb890, 1, none⟩ = some (.string a1_1) ∧ w'.cell? ⟨gb890, 2, none⟩ = some (.string a1_2)) (ds := []) (b 5 0) (by kernel_rfl) rfl rfl xV (fun hHeld => ?_)
 generalize w7.drew = w8 at BK889 BK890 BK891 HB hHeld ⊢
 refine yT 0 (some 5) (b 5 1) hHeld ?_
 refine yT 1 (some 6) (b 5 3) hHeld ?_
 refine yO 2 (some 7) (b 5 7) fun K hK => ?_
 refine xc Tryd.func64 (ir_Opposite.calls a1_0 a1_1 a1_2 t892 t893 t894 _ A3.out) ?_
 rintro w9 hb
 replace BK889 := xB BK889 hb
 replace BK890 := xB BK890 hb
 replace BK891 := xB BK891 hb
 replace HB := xS HB hb
 clear hb
 refine hK.out _ _ xV (fun hHeld => ?_)
 clear hK K
 refine xN 7 ?_
 refine yO 3 (some 8) (b 5 15) fun K hK => ?_
 refine xc Tryd.func43 (ir_Plus.calls k a0_0 a0_1 a0_2 t892 t893 t894 t895 t896 t897 _ A4.out) ?_
 rintro w10 hb
 replace BK889 := xB BK889 hb
 replace BK890 := xB BK890 hb
 replace BK891 := xB BK891 hb
 replace HB := xS HB hb
 clear hb
 refine hK.out _ _ xV (fun hHeld => ?_)
 clear hK K
 refine xN 8 ?_
 refine yO 4 none (b 5 31) fun K hK => ?_
 obtain ⟨hs11, hs12, hs13, hfs11, hfs12, hfs13⟩ := x6 BK891
 have hns11_0 := NB889_891.out
 have hns11_1 := NB890_891.out
 have hms11_0 := NB891_889.out
 have hms11_1 := NB891_890.out
 refine xk ?_
 refine hK.out _ _ ⟨((cell_far (p := ⟨gb891, _, none⟩) NB889_891.out _).trans ((cell_far (p := ⟨gb891, _, none⟩) NB889_891.out _).trans ((cell_far (p := ⟨gb891, _, none⟩) NB889_891.out _).trans (hHeld.1)))), ((cell_far (p := ⟨gb891, _, none⟩) NB889_891.out _).trans ((cell_far (p := ⟨gb891, _, none⟩) NB889_891.out _).trans ((cell_far (p := ⟨gb891, _, none⟩) NB889_891.out _).trans (hHeld.2.1)))), ((cell_far (p := ⟨gb891, _, none⟩) NB889_891.out _).trans ((cell_far (p := ⟨gb891, _, none⟩) NB889_891.out _).trans ((cell_far (p := ⟨gb891, _, none⟩) NB889_891.out _).trans (hHeld.2.2.1)))), ((cell_far (p := ⟨gb891, _, none⟩) NB890_891.out _).trans ((cell_far (p := ⟨gb891, _, none⟩) NB890_891.out _).trans ((cell_far (p := ⟨gb891, _, none⟩) NB890_891.out _).trans (hHeld.2.2.2.1)))), ((cell_far (p := ⟨gb891, _, none⟩) NB890_891.out _).trans ((cell_far (p := ⟨gb891, _, none⟩) NB890_891.out _).trans ((cell_far (p := ⟨gb891, _, none⟩) NB890_891.out _).trans (hHeld.2.2.2.2.1)))), ((cell_far (p := ⟨gb891, _, none⟩) NB890_891.out _).trans ((cell_far (p := ⟨gb891, _, none⟩) NB890_891.out _).trans ((cell_far (p := ⟨gb891, _, none⟩) NB890_891.out _).trans (hHeld.2.2.2.2.2))))⟩ (fun hHeld => ?_)
 clear hK K
 refine done_ (by kernel_rfl) ?_
 try go_wp2
 refine bodyPost_ret (results_cell_row rfl _ _ gb891 25 #[.bool t895, .string t896, .string t897] (0, 0) _ rfl (xp BK891) Tryd.underlying25 rfl (by kernel_rfl)) rfl ?_
 exact ⟨xy, xs HB⟩
/-! ### rt_Min: function 44 -/
def rt_Min.f (k : Nat) (a0_0 : Bool) (a0_1 : ByteArray) (a0_2 : ByteArray) (a1_0 : Bool) (a1_1 : ByteArray) (a1_2 : ByteArray) : Option (Bool × ByteArray × ByteArray) := (rt_Compare.f k a0_0 a0_1 a0_2 a1_0 a1_1 a1_2).bind fun t933 => (if t933 ≤ 0 then ((rt_clean.f k a0_0 a0_1 a0_2).bind fun bt934 => (some (bt934.1, bt934.2.1, bt934.2.2))) else ((rt_clean.f k a1_0 a1_1 a1_2).bind fun bt937 => (some (bt937.1, bt937.2.1, bt937.2.2))))
theorem rt_Min.mono : ∀ a0 a1 a2 a3 a4 a5 k, LeO (rt_Min.f k a0 a1 a2 a3 a4 a5) (rt_Min.f (k + 1) a0 a1 a2 a3 a4 a5) := by
 intro a0 a1 a2 a3 a4 a5 k
 unfold rt_Min.f
 have m0 := @rt_Compare.mono; have m1 := @rt_clean.mono; exact xM
theorem rt_Min.calls (k : Nat) (a0_0 : Bool) (a0_1 : ByteArray) (a0_2 : ByteArray) (a1_0 : Bool) (a1_1 : ByteArray) (a1_2 : ByteArray) (r1 : Bool) (r2 : ByteArray) (r3 : ByteArray) (w : World) (h : rt_Min.f k a0_0 a0_1 a0_2 a1_0 a1_1 a1_2 = some (r1, r2, r3)) :
  Calls Tryd.prog 44 #[.agg #[.bool a0_0, .string a0_1, .string a0_2], .agg #[.bool a1_0, .string a1_1, .string a1_2]] w fun e w' => e = .returned (.agg #[.bool r1, .string r2, .string r3]) ∧ Below w.heap.size w w' := by
 have hu25 := Tryd.underlying25
 have HB := Aside0.mk (Below.refl w.heap.size w)
 have H := h; clear h
 unfold rt_Min.f at H
 replace H := xH H; obtain ⟨t933, A3, H⟩ := H
 obtain ⟨c4b0, H⟩ | ⟨c4b0, H⟩ := xOd H
 ·replace H := xH H; obtain ⟨⟨t934, t935, t936⟩, A5, H⟩ := H
  dsimp only at H
  simp only [Option.some.injEq, Prod.mk.injEq] at H
  obtain ⟨rfl, rfl, rfl⟩ := H
  go_enter Tryd.func44, Tryd.ntmps44
  go_wp2_with (first | (refine xF (N := 2) #[.bool a0_0, .string a0_1, .string a0_2] 25 HB ?_; clear HB; intro gb930 hg w6 hb BK930 GW930 HB; clear hb hg) | (refine xF (N := 3) #[.bool a1_0, .string a1_1, .string a1_2] 25 HB ?_; clear HB; intro gb931 hg w7 hb BK931 GW931 HB; have NB930_931 := xL BK930 hg; have NB931_930 := xR BK930 hg; replace BK930 := xB BK930 hb; clear hb hg) | (refine xF (N := 4) #[.bool false, .string (⟨#[]⟩ : ByteArray), .string (⟨#[]⟩ : ByteArray)] 25 HB ?_; clear HB; intro gb932 hg w8 hb BK932 GW932 HB; have NB930_932 := xL BK930 hg; have NB932_930 := xR BK930 hg; replace BK930 := xB BK930 hb; have NB931_932 := xL BK931 hg; have NB932_931 := xR BK931 hg; replace BK931 := xB BK931 hb; clear hb hg; have hnb9 := NB930_931.out; have hnc9 := NB931_930.out; have hnb10 := NB930_932.out; have hnc10 := NB932_930.out; obtain ⟨hcz11_0, hcz11_1, hcz11_2, hfz11_0, hfz11_1, hfz11_2⟩ := x6 BK930; have hnb12 := NB931_932.out; have hnc12 := NB932_931.out; obtain ⟨hcz13_0, hcz13_1, hcz13_2, hfz13_0, hfz13_1, hfz13_2⟩ := x6 BK931) | (refine xC Tryd.func22 (some 7) (rt_Compare.calls k a0_0 a0_1 a0_2 a1_0 a1_1 a1_2 t933 _ A3.out) ?_; rintro w14 hb; replace BK930 := xB BK930 hb; replace BK931 := xB BK931 hb; replace BK932 := xB BK932 hb; replace HB := xS HB hb; clear hb; obtain ⟨hcz15_0, hcz15_1, hcz15_2, hfz15_0, hfz15_1, hfz15_2⟩ := x6 BK930) | (refine xC Tryd.func38 (some 10) (rt_clean.calls k a0_0 a0_1 a0_2 t934 t935 t936 _ A5.out) ?_; rintro w16 hb; replace BK930 := xB BK930 hb; replace BK931 := xB BK931 hb; replace BK932 := xB BK932 hb; replace HB := xS HB hb; clear hb; obtain ⟨hcz17_0, hcz17_1, hcz17_2, hfz17_0, hfz17_1, hfz17_2⟩ := x6 BK932))
  refine bodyPost_ret (results_cell_row rfl _ _ gb932 25 #[.bool t934, .string t935, .string t936] (0, 0) _ rfl (xp BK932) Tryd.underlying25 rfl (by kernel_rfl)) rfl ?_
  exact ⟨xy, xs HB⟩
 replace H := xH H; obtain ⟨⟨t937, t938, t939⟩, A18, H⟩ := H
 dsimp only at H
 simp only [Option.some.injEq, Prod.mk.injEq] at H
 obtain ⟨rfl, rfl, rfl⟩ := H
 go_enter Tryd.func44, Tryd.ntmps44
 go_wp2_with (first | (refine xF (N := 2) #[.bool a0_0, .string a0_1, .string a0_2] 25 HB ?_; clear HB; intro gb930 hg w19 hb BK930 GW930 HB; clear hb hg) | (refine xF (N := 3) #[.bool a1_0, .string a1_1, .string a1_2] 25 HB ?_; clear HB; intro gb931 hg w20 hb BK931 GW931 HB; have NB930_931 := xL BK930 hg; have NB931_930 := xR BK930 hg; replace BK930 := xB BK930 hb; clear hb hg) | (refine xF (N := 4) #[.bool false, .string (⟨#[]⟩ : ByteArray), .string (⟨#[]⟩ : ByteArray)] 25 HB ?_; clear HB; intro gb932 hg w21 hb BK932 GW932 HB; have NB930_932 := xL BK930 hg; have NB932_930 := xR BK930 hg; replace BK930 := xB BK930 hb; have NB931_932 := xL BK931 hg; have NB932_931 := xR BK931 hg; replace BK931 := xB BK931 hb; clear hb hg; have hnb22 := NB930_931.out; have hnc22 := NB931_930.out; have hnb23 := NB930_932.out; have hnc23 := NB932_930.out; obtain ⟨hcz24_0, hcz24_1, hcz24_2, hfz24_0, hfz24_1, hfz24_2⟩ := x6 BK930; have hnb25 := NB931_932.out; have hnc25 := NB932_931.out; obtain ⟨hcz26_0, hcz26_1, hcz26_2, hfz26_0, hfz26_1, hfz26_2⟩ := x6 BK931) | (refine xC Tryd.func22 (some 7) (rt_Compare.calls k a0_0 a0_1 a0_2 a1_0 a1_1 a1_2 t933 _ A3.out) ?_; rintro w27 hb; replace BK930 := xB BK930 hb; replace BK931 := xB BK931 hb; replace BK932 := xB BK932 hb; replace HB := xS HB hb; clear hb; obtain ⟨hcz28_0, hcz28_1, hcz28_2, hfz28_0, hfz28_1, hfz28_2⟩ := x6 BK931) | (refine xC Tryd.func38 (some 12) (rt_clean.calls k a1_0 a1_1 a1_2 t937 t938 t939 _ A18.out) ?_; rintro w29 hb; replace BK930 := xB BK930 hb; replace BK931 := xB BK931 hb; replace BK932 := xB BK932 hb; replace HB := xS HB hb; clear hb; obtain ⟨hcz30_0, hcz30_1, hcz30_2, hfz30_0, hfz30_1, hfz30_2⟩ := x6 BK932))
 refine bodyPost_ret (results_cell_row rfl _ _ gb932 25 #[.bool t937, .string t938, .string t939] (0, 0) _ rfl (xp BK932) Tryd.underlying25 rfl (by kernel_rfl)) rfl ?_
 exact ⟨xy, xs HB⟩
/-! ### ir_Signum: function 79 -/
def ir_Signum.f (a0_0 : Bool) (a0_1 : ByteArray) (a0_2 : ByteArray) : Option (Int) := if a0_1.toList = ([] : List UInt8) then (some 0) else (if a0_0 = true then (some (-1)) else (some 1))
theorem ir_Signum.calls (a0_0 : Bool) (a0_1 : ByteArray) (a0_2 : ByteArray) (r : Int) (w : World) (h : ir_Signum.f a0_0 a0_1 a0_2 = some r) :
  Calls Tryd.prog 79 #[.agg #[.bool a0_0, .string a0_1, .string a0_2]] w fun e w' => e = .returned (.int .i64 r) ∧ Below w.heap.size w w' := by
 have hu25 := Tryd.underlying25
 have HB := Aside0.mk (Below.refl w.heap.size w)
 have H := h; clear h
 unfold ir_Signum.f at H
 obtain ⟨c2, H⟩ | ⟨c2, H⟩ := xO H
 ·have c2b0 := beq_iff_eq.mpr c2
  have c2b1 := bne_eq_false_iff_eq.mpr c2
  clear c2
  obtain rfl := Option.some.inj H
  go_enter Tryd.func79, Tryd.ntmps79
  go_wp2_with (refine xF (N := 1) #[.bool a0_0, .string a0_1, .string a0_2] 25 HB ?_; clear HB; intro gb957 hg w3 hb BK957 GW957 HB; clear hb hg; obtain ⟨hcz4_0, hcz4_1, hcz4_2, hfz4_0, hfz4_1, hfz4_2⟩ := x6 BK957)
  go_ret
  exact ⟨xy, xs HB⟩
 have c2b0 := beq_eq_false_iff_ne.mpr c2
 have c2b1 := bne_iff_ne.mpr c2
 by_cases c5 : a0_0 = true
 ·subst c5
  replace H := xI H
  obtain rfl := Option.some.inj H
  go_enter Tryd.func79, Tryd.ntmps79
  go_wp2_with (refine xF (N := 1) #[.bool true, .string a0_1, .string a0_2] 25 HB ?_; clear HB; intro gb957 hg w6 hb BK957 GW957 HB; clear hb hg; obtain ⟨hcz7_0, hcz7_1, hcz7_2, hfz7_0, hfz7_1, hfz7_2⟩ := x6 BK957)
  go_ret
  exact ⟨xy, xs HB⟩
 replace c5 := Bool.eq_false_iff.mpr c5
 subst c5
 have H1 : (some 1) = some r := by rw [if_neg (show ¬ (false = true) by decide)] at H; exact H
 clear H
 have H := H1
 clear H1
 obtain rfl := Option.some.inj H
 go_enter Tryd.func79, Tryd.ntmps79
 go_wp2_with (refine xF (N := 1) #[.bool false, .string a0_1, .string a0_2] 25 HB ?_; clear HB; intro gb957 hg w8 hb BK957 GW957 HB; clear hb hg; obtain ⟨hcz9_0, hcz9_1, hcz9_2, hfz9_0, hfz9_1, hfz9_2⟩ := x6 BK957)
 go_ret
 exact ⟨xy, xs HB⟩
/-! ### ir_Less: function 50 -/
def ir_Less.f (k : Nat) (a0_0 : Bool) (a0_1 : ByteArray) (a0_2 : ByteArray) (a1_0 : Bool) (a1_1 : ByteArray) (a1_2 : ByteArray) : Option (Bool) := (ir_Minus.f k a0_0 a0_1 a0_2 a1_0 a1_1 a1_2).bind fun bt960 => ((ir_Signum.f bt960.1 bt960.2.1 bt960.2.2).bind fun t963 => (some (decide (t963 < 0))))
theorem ir_Less.mono : ∀ a0 a1 a2 a3 a4 a5 k, LeO (ir_Less.f k a0 a1 a2 a3 a4 a5) (ir_Less.f (k + 1) a0 a1 a2 a3 a4 a5) := by
 intro a0 a1 a2 a3 a4 a5 k
 unfold ir_Less.f
 have m0 := @ir_Minus.mono; exact xM
theorem ir_Less.calls (k : Nat) (a0_0 : Bool) (a0_1 : ByteArray) (a0_2 : ByteArray) (a1_0 : Bool) (a1_1 : ByteArray) (a1_2 : ByteArray) (r : Bool) (w : World) (h : ir_Less.f k a0_0 a0_1 a0_2 a1_0 a1_1 a1_2 = some r) :
  Calls Tryd.prog 50 #[.agg #[.bool a0_0, .string a0_1, .string a0_2], .agg #[.bool a1_0, .string a1_1, .string a1_2]] w fun e w' => e = .returned (.bool r) ∧ Below w.heap.size w w' := by
 have hu25 := Tryd.underlying25
 have HB := Aside0.mk (Below.refl w.heap.size w)
 have H := h; clear h
 unfold ir_Less.f at H
 replace H := xH H; obtain ⟨⟨t960, t961, t962⟩, A3, H⟩ := H
 dsimp only at H
 replace H := xH H; obtain ⟨t963, A4, H⟩ := H
 obtain rfl := Option.some.inj H
 go_enter Tryd.func50, Tryd.ntmps50
 go_wp2_with (first | (refine xF (N := 2) #[.bool a0_0, .string a0_1, .string a0_2] 25 HB ?_; clear HB; intro gb958 hg w5 hb BK958 GW958 HB; clear hb hg) | (refine xF (N := 3) #[.bool a1_0, .string a1_1, .string a1_2] 25 HB ?_; clear HB; intro gb959 hg w6 hb BK959 GW959 HB; have NB958_959 := xL BK958 hg; have NB959_958 := xR BK958 hg; replace BK958 := xB BK958 hb; clear hb hg; have hnb7 := NB958_959.out; have hnc7 := NB959_958.out; obtain ⟨hcz8_0, hcz8_1, hcz8_2, hfz8_0, hfz8_1, hfz8_2⟩ := x6 BK958; obtain ⟨hcz9_0, hcz9_1, hcz9_2, hfz9_0, hfz9_1, hfz9_2⟩ := x6 BK959) | (refine xC Tryd.func42 (some 7) (ir_Minus.calls k a0_0 a0_1 a0_2 a1_0 a1_1 a1_2 t960 t961 t962 _ A3.out) ?_; rintro w10 hb; replace BK958 := xB BK958 hb; replace BK959 := xB BK959 hb; replace HB := xS HB hb; clear hb) | (refine xC Tryd.func79 (some 8) (ir_Signum.calls t960 t961 t962 t963 _ A4.out) ?_; rintro w11 hb; replace BK958 := xB BK958 hb; replace BK959 := xB BK959 hb; replace HB := xS HB hb; clear hb))
 go_ret
 exact ⟨xy, xs HB⟩
/-! ### ir_Lesser: function 45 -/
def ir_Lesser.f (k : Nat) (a0_0 : Bool) (a0_1 : ByteArray) (a0_2 : ByteArray) (a1_0 : Bool) (a1_1 : ByteArray) (a1_2 : ByteArray) : Option (Bool × ByteArray × ByteArray) := (ir_Less.f k a1_0 a1_1 a1_2 a0_0 a0_1 a0_2).bind fun t967 => (if t967 = true then (some (a1_0, a1_1, a1_2)) else (some (a0_0, a0_1, a0_2)))
theorem ir_Lesser.mono : ∀ a0 a1 a2 a3 a4 a5 k, LeO (ir_Lesser.f k a0 a1 a2 a3 a4 a5) (ir_Lesser.f (k + 1) a0 a1 a2 a3 a4 a5) := by
 intro a0 a1 a2 a3 a4 a5 k
 unfold ir_Lesser.f
 have m0 := @ir_Less.mono; exact xM
theorem ir_Lesser.calls (k : Nat) (a0_0 : Bool) (a0_1 : ByteArray) (a0_2 : ByteArray) (a1_0 : Bool) (a1_1 : ByteArray) (a1_2 : ByteArray) (r1 : Bool) (r2 : ByteArray) (r3 : ByteArray) (w : World) (h : ir_Lesser.f k a0_0 a0_1 a0_2 a1_0 a1_1 a1_2 = some (r1, r2, r3)) :
  Calls Tryd.prog 45 #[.agg #[.bool a0_0, .string a0_1, .string a0_2], .agg #[.bool a1_0, .string a1_1, .string a1_2]] w fun e w' => e = .returned (.agg #[.bool r1, .string r2, .string r3]) ∧ Below w.heap.size w w' := by
 have hu25 := Tryd.underlying25
 have HB := Aside0.mk (Below.refl w.heap.size w)
 have H := h; clear h
 unfold ir_Lesser.f at H
 replace H := xH H; obtain ⟨t967, A3, H⟩ := H
 by_cases c4 : t967 = true
 ·subst c4
  replace H := xI H
  simp only [Option.some.injEq, Prod.mk.injEq] at H
  obtain ⟨rfl, rfl, rfl⟩ := H
  go_enter Tryd.func45, Tryd.ntmps45
  go_wp2_with (first | (refine xF (N := 2) #[.bool a0_0, .string a0_1, .string a0_2] 25 HB ?_; clear HB; intro gb964 hg w5 hb BK964 GW964 HB; clear hb hg) | (refine xF (N := 3) #[.bool a1_0, .string a1_1, .string a1_2] 25 HB ?_; clear HB; intro gb965 hg w6 hb BK965 GW965 HB; have NB964_965 := xL BK964 hg; have NB965_964 := xR BK964 hg; replace BK964 := xB BK964 hb; clear hb hg) | (refine xF (N := 4) #[.bool false, .string (⟨#[]⟩ : ByteArray), .string (⟨#[]⟩ : ByteArray)] 25 HB ?_; clear HB; intro gb966 hg w7 hb BK966 GW966 HB; have NB964_966 := xL BK964 hg; have NB966_964 := xR BK964 hg; replace BK964 := xB BK964 hb; have NB965_966 := xL BK965 hg; have NB966_965 := xR BK965 hg; replace BK965 := xB BK965 hb; clear hb hg; have hnb8 := NB965_964.out; have hnc8 := NB964_965.out; have hnb9 := NB965_966.out; have hnc9 := NB966_965.out; obtain ⟨hcz10_0, hcz10_1, hcz10_2, hfz10_0, hfz10_1, hfz10_2⟩ := x6 BK965; have hnb11 := NB964_966.out; have hnc11 := NB966_964.out; obtain ⟨hcz12_0, hcz12_1, hcz12_2, hfz12_0, hfz12_1, hfz12_2⟩ := x6 BK964) | (refine xC Tryd.func50 (some 7) (ir_Less.calls k a1_0 a1_1 a1_2 a0_0 a0_1 a0_2 true _ A3.out) ?_; rintro w13 hb; replace BK964 := xB BK964 hb; replace BK965 := xB BK965 hb; replace BK966 := xB BK966 hb; replace HB := xS HB hb; clear hb; obtain ⟨hcz14_0, hcz14_1, hcz14_2, hfz14_0, hfz14_1, hfz14_2⟩ := x6 BK965; obtain ⟨hcz15_0, hcz15_1, hcz15_2, hfz15_0, hfz15_1, hfz15_2⟩ := x6 BK966))
  refine bodyPost_ret (results_cell_row rfl _ _ gb966 25 #[.bool a1_0, .string a1_1, .string a1_2] (0, 0) _ rfl (xp BK966) Tryd.underlying25 rfl (by kernel_rfl)) rfl ?_
  exact ⟨xy, xs HB⟩
 replace c4 := Bool.eq_false_iff.mpr c4
 subst c4
 have H1 : (some (a0_0, a0_1, a0_2)) = some (r1, r2, r3) := by rw [if_neg (show ¬ (false = true) by decide)] at H; exact H
 clear H
 have H := H1
 clear H1
 simp only [Option.some.injEq, Prod.mk.injEq] at H
 obtain ⟨rfl, rfl, rfl⟩ := H
 go_enter Tryd.func45, Tryd.ntmps45
 go_wp2_with (first | (refine xF (N := 2) #[.bool a0_0, .string a0_1, .string a0_2] 25 HB ?_; clear HB; intro gb964 hg w16 hb BK964 GW964 HB; clear hb hg) | (refine xF (N := 3) #[.bool a1_0, .string a1_1, .string a1_2] 25 HB ?_; clear HB; intro gb965 hg w17 hb BK965 GW965 HB; have NB964_965 := xL BK964 hg; have NB965_964 := xR BK964 hg; replace BK964 := xB BK964 hb; clear hb hg) | (refine xF (N := 4) #[.bool false, .string (⟨#[]⟩ : ByteArray), .string (⟨#[]⟩ : ByteArray)] 25 HB ?_; clear HB; intro gb966 hg w18 hb BK966 GW966 HB; have NB964_966 := xL BK964 hg; have NB966_964 := xR BK964 hg; replace BK964 := xB BK964 hb; have NB965_966 := xL BK965 hg; have NB966_965 := xR BK965 hg; replace BK965 := xB BK965 hb; clear hb hg; have hnb19 := NB965_964.out; have hnc19 := NB964_965.out; have hnb20 := NB965_966.out; have hnc20 := NB966_965.out; obtain ⟨hcz21_0, hcz21_1, hcz21_2, hfz21_0, hfz21_1, hfz21_2⟩ := x6 BK965; have hnb22 := NB964_966.out; have hnc22 := NB966_964.out; obtain ⟨hcz23_0, hcz23_1, hcz23_2, hfz23_0, hfz23_1, hfz23_2⟩ := x6 BK964) | (refine xC Tryd.func50 (some 7) (ir_Less.calls k a1_0 a1_1 a1_2 a0_0 a0_1 a0_2 false _ A3.out) ?_; rintro w24 hb; replace BK964 := xB BK964 hb; replace BK965 := xB BK965 hb; replace BK966 := xB BK966 hb; replace HB := xS HB hb; clear hb; obtain ⟨hcz25_0, hcz25_1, hcz25_2, hfz25_0, hfz25_1, hfz25_2⟩ := x6 BK964; obtain ⟨hcz26_0, hcz26_1, hcz26_2, hfz26_0, hfz26_1, hfz26_2⟩ := x6 BK966))
 refine bodyPost_ret (results_cell_row rfl _ _ gb966 25 #[.bool a0_0, .string a0_1, .string a0_2] (0, 0) _ rfl (xp BK966) Tryd.underlying25 rfl (by kernel_rfl)) rfl ?_
 exact ⟨xy, xs HB⟩
/-! ### il_few: function 28 -/
mutual
def il_few.l0 : Nat → List (S50) → Int → Option (Bool)
 | 0, _, _ => none
 | k + 1, x0, x3 => if x3 < (x0.length : Int) then (if 0 ≤ x3 then (if (((rd_T50 x0 x3).f1).length : Int) > 6 then (some false) else (il_few.l1 k x0 x3 0)) else (none)) else (some true)
def il_few.l1 : Nat → List (S50) → Int → Int → Option (Bool)
 | 0, _, _, _ => none
 | k + 1, x0, x3, x4 => if 0 ≤ x3 then (if x3 < (x0.length : Int) then (if x4 < (((rd_T50 x0 x3).f1).length : Int) then (if 0 ≤ x4 then ((ik_Few.f ((rd_T54 ((rd_T50 x0 x3).f1) x4).f0.f0) ((rd_T54 ((rd_T50 x0 x3).f1) x4).f0.f1) ((rd_T54 ((rd_T50 x0 x3).f1) x4).f0.f2)).bind fun t1232 => (if t1232 = true then (il_few.l1 k x0 x3 (wrap64 (x4 + 1))) else (some false))) else (none)) else (il_few.l0 k x0 (wrap64 (x3 + 1)))) else (none)) else (none)
end
def il_few.f (k : Nat) (l0 : List (S50)) : Option (Bool) := if (l0.length : Int) > 10 then (some false) else (il_few.l0 k l0 0)
theorem il_few.mono_l : ∀ k, (∀ y0 y1, LeO (il_few.l0 k y0 y1) (il_few.l0 (k + 1) y0 y1)) ∧ (∀ y0 y1 y2, LeO (il_few.l1 k y0 y1 y2) (il_few.l1 (k + 1) y0 y1 y2))
 | 0 => ⟨fun _ _ r h => by simp [il_few.l0] at h, fun _ _ _ r h => by simp [il_few.l1] at h⟩
 | k + 1 => by
  obtain ⟨ih0, ih1⟩ := il_few.mono_l k
  refine ⟨?_, ?_⟩
  ·intro y0 y1
   unfold il_few.l0
   have m0 := @ih0; have m1 := @ih1; exact xM
  ·intro y0 y1 y2
   unfold il_few.l1
   have m0 := @ih0; have m1 := @ih1; exact xM
theorem il_few.mono : ∀ a0 k, LeO (il_few.f k a0) (il_few.f (k + 1) a0) := by
 intro a0 k
 obtain ⟨ih0, ih1⟩ := il_few.mono_l k
 unfold il_few.f
 have m0 := @ih0; have m1 := @ih1; exact xM
theorem il_few.calls (k : Nat) (A0 : Option Addr) (c0 : Nat) (l0 : List (S50)) (r : Bool) (w : World) (hr0 : Kd.C k50 w A0 l0.length l0) (hc0 : l0.length ≤ c0) (h : il_few.f k l0 = some r) :
  Calls Tryd.prog 28 #[.slice A0 l0.length c0] w fun e w' => e = .returned (.bool r) ∧ Below w.heap.size w w' := by
 have hu25 := Tryd.underlying25
 have HR0 := Aside0.mk hr0
 have HC0 := Aside0.mk hc0
 clear hr0 hc0
 have HB := Aside0.mk (Below.refl w.heap.size w)
 have H := h; clear h
 unfold il_few.f at H
 obtain ⟨c2, H⟩ | ⟨c2, H⟩ := xO H
 ·have c2b0 := decide_eq_true c2
  have c2b1 : decide (10 < l0.length) = true := decide_eq_true (by omega)
  clear c2
  obtain rfl := Option.some.inj H
  go_enter Tryd.func28, Tryd.ntmps28
  go_wp2
  go_ret
  exact ⟨xy, xs HB⟩
 have c2b0 := decide_eq_false c2
 have c2b1 : decide (10 < l0.length) = false := decide_eq_false (by omega)
 clear c2
 have H' := Aside0.mk H
 clear H
 go_enter Tryd.func28, Tryd.ntmps28
 go_wp2
 go_loopg [3] k (fun kq v3 w' => ∃ (x3_1 : Int), v3 = .int .i64 x3_1 ∧ Aside0 (il_few.l0 kq l0 x3_1 = some r) ∧ Aside0 (kq ≤ k) ∧ Aside0 (Below w.heap.size w w'))
 case atStart => exact ⟨(0), xz, H', ⟨Nat.le_refl _⟩, ⟨xs HB⟩⟩
 case round =>
  clear H'
  clear c2b0 c2b1
  obtain ⟨x3_1, rfl, HA, HK1, HB⟩ := hrel
  cases gk with
  | zero => exact absurd HA.out (by simp [il_few.l0])
  | succ k1 =>
   have H := HA.out
   clear HA
   simp only [il_few.l0] at H
   obtain ⟨c3b0, H⟩ | ⟨c3b0, H⟩ := xOd H
   ·obtain ⟨c4b0, H⟩ := xQd H
    obtain ⟨c5, H⟩ | ⟨c5, H⟩ := xO H
    ·have c5b0 := decide_eq_true c5
     have c5b1 : decide (6 < ((rd_T50 l0 x3_1).f1).length) = true := decide_eq_true (by omega)
     clear c5
     obtain rfl := Option.some.inj H
     obtain ⟨p1228, q1228, ad1228, A1228_2, c1228_2, e1228, hx1228_0, hx1228_1, hx1228_2, hl1228_2, hi1228_2⟩ := xA (at_T50 HR0.out x3_1)
     cases e1228
     (try replace hx1228_0 := xcl HB hx1228_0)
     (try replace hx1228_1 := xcl HB hx1228_1)
     (try replace hx1228_2 := xcl HB hx1228_2)
     have HR1228_2 := Aside0.mk hi1228_2
     have HC1228_2 := Aside0.mk hl1228_2
     clear hi1228_2 hl1228_2
     go_wp2
     go_ret
     exact ⟨xy, xs HB⟩
    have c5b0 := decide_eq_false c5
    have c5b1 : decide (6 < ((rd_T50 l0 x3_1).f1).length) = false := decide_eq_false (by omega)
    clear c5
    have H' := Aside0.mk H
    clear H
    obtain ⟨p1228, q1228, ad1228, A1228_2, c1228_2, e1228, hx1228_0, hx1228_1, hx1228_2, hl1228_2, hi1228_2⟩ := xA (at_T50 HR0.out x3_1)
    cases e1228
    (try replace hx1228_0 := xcl HB hx1228_0)
    (try replace hx1228_1 := xcl HB hx1228_1)
    (try replace hx1228_2 := xcl HB hx1228_2)
    have HR1228_2 := Aside0.mk hi1228_2
    have HC1228_2 := Aside0.mk hl1228_2
    clear hi1228_2 hl1228_2
    go_wp2
    go_loopg [4] k1 (fun kq v4 w' => ∃ (x4_2 : Int), v4 = .int .i64 x4_2 ∧ Aside0 (il_few.l1 kq l0 x3_1 x4_2 = some r) ∧ Aside0 (kq ≤ k1) ∧ Aside0 (Below w.heap.size w w'))
    case atStart => exact ⟨(0), xz, H', ⟨Nat.le_refl _⟩, ⟨xs HB⟩⟩
    case round =>
     clear H'
     clear c3b0 c4b0 c5b0 c5b1 hx1228_0 hx1228_1 hx1228_2 p1228 q1228
     obtain ⟨x4_2, rfl, HA, HK2, HB⟩ := hrel
     cases gk with
     | zero => exact absurd HA.out (by simp [il_few.l1])
     | succ k2 =>
      have H := HA.out
      clear HA
      simp only [il_few.l1] at H
      obtain ⟨c6b0, H⟩ := xQd H
      obtain ⟨c7b0, H⟩ := xQd H
      obtain ⟨c8b0, H⟩ | ⟨c8b0, H⟩ := xOd H
      ·obtain ⟨c9b0, H⟩ := xQd H
       replace H := xH H; obtain ⟨t1232, A10, H⟩ := H
       by_cases c11 : t1232 = true
       ·subst c11
        replace H := xI H
        have H' := Aside0.mk H
        clear H
        obtain ⟨p1229, q1229, ad1229, A1229_2, c1229_2, e1229, hx1229_0, hx1229_1, hx1229_2, hl1229_2, hi1229_2⟩ := xA (at_T50 HR0.out x3_1)
        obtain rfl : ad1228 = ad1229 := (by injection e1229)
        (try replace hx1229_0 := xcl HB hx1229_0)
        (try replace hx1229_1 := xcl HB hx1229_1)
        (try replace hx1229_2 := xcl HB hx1229_2)
        have HR1229_2 := Aside0.mk hi1229_2
        have HC1229_2 := Aside0.mk hl1229_2
        clear hi1229_2 hl1229_2
        obtain ⟨p1230, q1230, ad1230, A1230_2, c1230_2, e1230, hx1230_0, hx1230_1, hx1230_2, hl1230_2, hi1230_2⟩ := xA (at_T50 HR0.out x3_1)
        obtain rfl : ad1228 = ad1230 := (by injection e1230)
        (try replace hx1230_0 := xcl HB hx1230_0)
        (try replace hx1230_1 := xcl HB hx1230_1)
        (try replace hx1230_2 := xcl HB hx1230_2)
        have HR1230_2 := Aside0.mk hi1230_2
        have HC1230_2 := Aside0.mk hl1230_2
        clear hi1230_2 hl1230_2
        have ea_ := Option.some.inj (hx1229_2.symm.trans hx1230_2)
        injection ea_ with ea_ en_ ec_
        subst ea_
        subst ec_
        clear en_
        obtain ⟨p1231, q1231, ad1231, e1231, hx1231_0, hx1231_1, hx1231_2, hx1231_3⟩ := xA (at_T54 HR1230_2.out x4_2)
        cases e1231
        (try replace hx1231_0 := xcl HB hx1231_0)
        (try replace hx1231_1 := xcl HB hx1231_1)
        (try replace hx1231_2 := xcl HB hx1231_2)
        (try replace hx1231_3 := xcl HB hx1231_3)
        go_wp2_with (refine xC Tryd.func15 (some 40) (ik_Few.calls ((rd_T54 ((rd_T50 l0 x3_1).f1) x4_2).f0.f0) ((rd_T54 ((rd_T50 l0 x3_1).f1) x4_2).f0.f1) ((rd_T54 ((rd_T50 l0 x3_1).f1) x4_2).f0.f2) true _ A10.out) ?_; rintro w12 hb; replace HB := xS HB hb; clear hb)
        go_roundg k2
        case measure => have := HK1.out; have := HK2.out; omega
        case rel => exact ⟨(wrap64 (x4_2 + 1)), xz, H', ⟨by have := HK1.out; have := HK2.out; omega⟩, ⟨xs HB⟩⟩
       replace c11 := Bool.eq_false_iff.mpr c11
       subst c11
       have H1 : (some false) = some r := by rw [if_neg (show ¬ (false = true) by decide)] at H; exact H
       clear H
       have H := H1
       clear H1
       obtain rfl := Option.some.inj H
       obtain ⟨p1229, q1229, ad1229, A1229_2, c1229_2, e1229, hx1229_0, hx1229_1, hx1229_2, hl1229_2, hi1229_2⟩ := xA (at_T50 HR0.out x3_1)
       obtain rfl : ad1228 = ad1229 := (by injection e1229)
       (try replace hx1229_0 := xcl HB hx1229_0)
       (try replace hx1229_1 := xcl HB hx1229_1)
       (try replace hx1229_2 := xcl HB hx1229_2)
       have HR1229_2 := Aside0.mk hi1229_2
       have HC1229_2 := Aside0.mk hl1229_2
       clear hi1229_2 hl1229_2
       obtain ⟨p1230, q1230, ad1230, A1230_2, c1230_2, e1230, hx1230_0, hx1230_1, hx1230_2, hl1230_2, hi1230_2⟩ := xA (at_T50 HR0.out x3_1)
       obtain rfl : ad1228 = ad1230 := (by injection e1230)
       (try replace hx1230_0 := xcl HB hx1230_0)
       (try replace hx1230_1 := xcl HB hx1230_1)
       (try replace hx1230_2 := xcl HB hx1230_2)
       have HR1230_2 := Aside0.mk hi1230_2
       have HC1230_2 := Aside0.mk hl1230_2
       clear hi1230_2 hl1230_2
       have ea_ := Option.some.inj (hx1229_2.symm.trans hx1230_2)
       injection ea_ with ea_ en_ ec_
       subst ea_
       subst ec_
       clear en_
       obtain ⟨p1231, q1231, ad1231, e1231, hx1231_0, hx1231_1, hx1231_2, hx1231_3⟩ := xA (at_T54 HR1230_2.out x4_2)
       cases e1231
       (try replace hx1231_0 := xcl HB hx1231_0)
       (try replace hx1231_1 := xcl HB hx1231_1)
       (try replace hx1231_2 := xcl HB hx1231_2)
       (try replace hx1231_3 := xcl HB hx1231_3)
       go_wp2_with (refine xC Tryd.func15 (some 40) (ik_Few.calls ((rd_T54 ((rd_T50 l0 x3_1).f1) x4_2).f0.f0) ((rd_T54 ((rd_T50 l0 x3_1).f1) x4_2).f0.f1) ((rd_T54 ((rd_T50 l0 x3_1).f1) x4_2).f0.f2) false _ A10.out) ?_; rintro w13 hb; replace HB := xS HB hb; clear hb)
       go_ret
       exact ⟨xy, xs HB⟩
      have H' := Aside0.mk H
      clear H
      obtain ⟨p1229, q1229, ad1229, A1229_2, c1229_2, e1229, hx1229_0, hx1229_1, hx1229_2, hl1229_2, hi1229_2⟩ := xA (at_T50 HR0.out x3_1)
      obtain rfl : ad1228 = ad1229 := (by injection e1229)
      (try replace hx1229_0 := xcl HB hx1229_0)
      (try replace hx1229_1 := xcl HB hx1229_1)
      (try replace hx1229_2 := xcl HB hx1229_2)
      have HR1229_2 := Aside0.mk hi1229_2
      have HC1229_2 := Aside0.mk hl1229_2
      clear hi1229_2 hl1229_2
      go_wp2
      go_roundg k2
      case measure => have := HK1.out; have := HK2.out; omega
      case rel => exact ⟨(wrap64 (x3_1 + 1)), xz, H', ⟨by have := HK1.out; have := HK2.out; omega⟩, ⟨xs HB⟩⟩
   obtain rfl := Option.some.inj H
   go_wp2
   go_ret
   exact ⟨xy, xs HB⟩
/-! ### dp_Count: function 54 -/
def dp_Count.l0 : Nat → Int → List (S50) → Int → Int → Option (Int)
 | 0, _, _, _, _ => none
 | k + 1, x3, x6, x7, x8 => if x8 < x7 then (if 0 ≤ x8 then (if x8 < (x6.length : Int) then (dp_Count.l0 k (mn (wrap64 (x3 * (mn (((rd_T50 x6 x8).f1).length : Int) 4097))) 4097) x6 x7 (wrap64 (x8 + 1))) else (none)) else (none)) else (some x3)
def dp_Count.f (k : Nat) (l0 : List (S50)) : Option (Int) := dp_Count.l0 k 1 l0 (l0.length : Int) 0
theorem dp_Count.mono_l : ∀ k, (∀ y0 y1 y2 y3, LeO (dp_Count.l0 k y0 y1 y2 y3) (dp_Count.l0 (k + 1) y0 y1 y2 y3))
 | 0 => fun _ _ _ _ r h => by simp [dp_Count.l0] at h
 | k + 1 => by
  have ih0 := dp_Count.mono_l k
  ·intro y0 y1 y2 y3
   unfold dp_Count.l0
   have m0 := @ih0; exact xM
theorem dp_Count.mono : ∀ a0 k, LeO (dp_Count.f k a0) (dp_Count.f (k + 1) a0) := by
 intro a0 k
 have ih0 := dp_Count.mono_l k
 unfold dp_Count.f
 have m0 := @ih0; exact xM
theorem dp_Count.calls (k : Nat) (A0 : Option Addr) (c0 : Nat) (l0 : List (S50)) (r : Int) (w : World) (hr0 : Kd.C k50 w A0 l0.length l0) (hc0 : l0.length ≤ c0) (h : dp_Count.f k l0 = some r) :
  Calls Tryd.prog 54 #[.slice A0 l0.length c0] w fun e w' => e = .returned (.int .i64 r) ∧ Below w.heap.size w w' := by
 have hu50 := Tryd.underlying50
 have HR0 := Aside0.mk hr0
 have HC0 := Aside0.mk hc0
 clear hr0 hc0
 have HB := Aside0.mk (Below.refl w.heap.size w)
 have H := h; clear h
 unfold dp_Count.f at H
 have H' := Aside0.mk H
 clear H
 go_enter Tryd.func54, Tryd.ntmps54
 go_wp2
 go_loopg [3, 8] k (fun kq v3 v8 w' => ∃ (x3_1 : Int) (x8_1 : Int), v3 = .int .i64 x3_1 ∧ v8 = .int .i64 x8_1 ∧ Aside0 (dp_Count.l0 kq x3_1 l0 (l0.length : Int) x8_1 = some r) ∧ Aside0 (kq ≤ k) ∧ Aside0 (Below w.heap.size w w'))
 case atStart => exact ⟨(1), (0), xz, xz, H', ⟨Nat.le_refl _⟩, ⟨xs HB⟩⟩
 case round =>
  clear H'
  obtain ⟨x3_1, x8_1, rfl, rfl, HA, HK1, HB⟩ := hrel
  cases gk with
  | zero => exact absurd HA.out (by simp [dp_Count.l0])
  | succ k1 =>
   have H := HA.out
   clear HA
   simp only [dp_Count.l0] at H
   obtain ⟨c2b0, H⟩ | ⟨c2b0, H⟩ := xOd H
   ·obtain ⟨c3b0, H⟩ := xQd H
    obtain ⟨c4b0, H⟩ := xQd H
    generalize hji5 : ((mn (((rd_T50 l0 x8_1).f1).length : Int) 4097) : Int) = ji5 at H
    have hji5_ : (if 4097 < (((rd_T50 l0 x8_1).f1).length : Int) then 4097 else (((rd_T50 l0 x8_1).f1).length : Int)) = ji5 := hji5
    generalize hji6 : ((mn (wrap64 (x3_1 * (ji5))) 4097) : Int) = ji6 at H
    have hji6_ : (if 4097 < (wrap64 (x3_1 * (ji5))) then 4097 else (wrap64 (x3_1 * (ji5)))) = ji6 := hji6
    have H' := Aside0.mk H
    clear H
    obtain ⟨p1233, q1233, ad1233, A1233_2, c1233_2, e1233, hx1233_0, hx1233_1, hx1233_2, hl1233_2, hi1233_2⟩ := xA (at_T50 HR0.out x8_1)
    cases e1233
    (try replace hx1233_0 := xcl HB hx1233_0)
    (try replace hx1233_1 := xcl HB hx1233_1)
    (try replace hx1233_2 := xcl HB hx1233_2)
    have HR1233_2 := Aside0.mk hi1233_2
    have HC1233_2 := Aside0.mk hl1233_2
    clear hi1233_2 hl1233_2
    go_wp2_with (refine xF (N := 5) #[.int .i64 0, .int .i64 0, .slice none 0 0] 50 HB ?_; clear HB; intro gb1234 hg w7 hb BK1234 GW1234 HB; clear hb hg; obtain ⟨hcz8_0, hcz8_1, hcz8_2, hfz8_0, hfz8_1, hfz8_2⟩ := x6 BK1234)
    go_roundg k1
    case measure => have := HK1.out; omega
    case rel => exact ⟨(ji6), (wrap64 (x8_1 + 1)), (by rfl), xz, H', ⟨by have := HK1.out; omega⟩, ⟨xs HB⟩⟩
   obtain rfl := Option.some.inj H
   go_wp2
   go_ret
   exact ⟨xy, xs HB⟩
/-! ### dp_Choice: function 53 -/
mutual
def dp_Choice.j0 : Nat → List (S50) → Int → Bool → Option (List Int × Bool)
 | 0, _, _, _ => none
 | k + 1, x0, x1, x22 => if x22 = true then (some (([] : List Int), false)) else (if 0 ≤ (x0.length : Int) then (if ((x0.length : Int) : Int).toNat ≤ 35184372088832 then (dp_Choice.l0 k x1 (List.replicate ((x0.length : Int) : Int).toNat 0) x0 (x0.length : Int) 0) else (none)) else (none))
def dp_Choice.l0 : Nat → Int → List Int → List (S50) → Int → Int → Option (List Int × Bool)
 | 0, _, _, _, _, _ => none
 | k + 1, x1, x7, x26, x27, x28 => if x28 < x27 then (if 0 ≤ x28 then (if x28 < (x26.length : Int) then (if (((rd_T50 x26 x28).f1).length : Int) = 0 then (none) else (if x28 < (x7.length : Int) then (dp_Choice.l0 k (wrap64 (Int.tdiv x1 (((rd_T50 x26 x28).f1).length : Int))) (x7.set (x28 : Int).toNat (Int.tmod x1 (((rd_T50 x26 x28).f1).length : Int))) x26 x27 (wrap64 (x28 + 1))) else (none))) else (none)) else (none)) else (some (x7, true))
end
def dp_Choice.f (k : Nat) (l0 : List (S50)) (a1 : Int) : Option (List Int × Bool) := (dp_Count.f k l0).bind fun t1235 => (if a1 < 0 then (dp_Choice.j0 k l0 a1 true) else (if a1 ≥ t1235 then (dp_Choice.j0 k l0 a1 true) else (dp_Choice.j0 k l0 a1 (decide (t1235 > 4096)))))
theorem dp_Choice.mono_l : ∀ k, (∀ y0 y1 y2, LeO (dp_Choice.j0 k y0 y1 y2) (dp_Choice.j0 (k + 1) y0 y1 y2)) ∧ (∀ y0 y1 y2 y3 y4, LeO (dp_Choice.l0 k y0 y1 y2 y3 y4) (dp_Choice.l0 (k + 1) y0 y1 y2 y3 y4))
 | 0 => ⟨fun _ _ _ r h => by simp [dp_Choice.j0] at h, fun _ _ _ _ _ r h => by simp [dp_Choice.l0] at h⟩
 | k + 1 => by
  obtain ⟨ih0, ih1⟩ := dp_Choice.mono_l k
  refine ⟨?_, ?_⟩
  ·intro y0 y1 y2
   unfold dp_Choice.j0
   have m0 := @ih0; have m1 := @ih1; have m2 := @dp_Count.mono; exact xM
  ·intro y0 y1 y2 y3 y4
   unfold dp_Choice.l0
   have m0 := @ih0; have m1 := @ih1; have m2 := @dp_Count.mono; exact xM
theorem dp_Choice.mono : ∀ a0 a1 k, LeO (dp_Choice.f k a0 a1) (dp_Choice.f (k + 1) a0 a1) := by
 intro a0 a1 k
 obtain ⟨ih0, ih1⟩ := dp_Choice.mono_l k
 unfold dp_Choice.f
 have m0 := @ih0; have m1 := @ih1; have m2 := @dp_Count.mono; exact xM
theorem dp_Choice.calls (k : Nat) (A0 : Option Addr) (c0 : Nat) (l0 : List (S50)) (a1 : Int) (r1 : List Int) (r2 : Bool) (w : World) (hr0 : Kd.C k50 w A0 l0.length l0) (hc0 : l0.length ≤ c0) (h : dp_Choice.f k l0 a1 = some (r1, r2)) :
  Calls Tryd.prog 53 #[.slice A0 l0.length c0, .int .i64 a1] w fun e w' => ∃ v0_ : Value, e = .returned (.tuple #[v0_, .bool r2]) ∧ Kd.R (Kd.int .i64) 3 w' w.heap.size (fun _ => True) v0_ r1 ∧ Below w.heap.size w w' := by
 have hu50 := Tryd.underlying50
 have HR0 := Aside0.mk hr0
 have HC0 := Aside0.mk hc0
 clear hr0 hc0
 have HB := Aside0.mk (Below.refl w.heap.size w)
 have H := h; clear h
 unfold dp_Choice.f at H
 replace H := xH H; obtain ⟨t1235, A3, H⟩ := H
 have HC4 := Aside0.mk H
 clear H
 go_enter Tryd.func53, Tryd.ntmps53
 go_upto_region 2 with (refine xg Tryd.func54 (some 11) #[.slice A0 l0.length c0] ?_; (with_reducible refine (dp_Count.calls k _ _ l0 t1235 _ (xf HR0.out) HC0.out A3.out).mono ?_); rintro e w5 ⟨rfl, hb⟩; refine ⟨_, rfl, ?_⟩; replace HB := xS HB hb; clear hb)
 go_cut [22] (fun v22 wc => ∃ (kq : Nat) (x22_3 : Bool), v22 = .bool x22_3 ∧ Aside0 (dp_Choice.j0 kq l0 a1 x22_3 = some (r1, r2)) ∧ Aside0 (kq ≤ k) ∧ Aside0 (Below w.heap.size w wc))
 case first =>
  have H := HC4.out
  clear HC4
  obtain ⟨c6b0, H⟩ | ⟨c6b0, H⟩ := xOd H
  ·skip
   have H' := Aside0.mk H
   clear H
   go_wp2
   go_meet
   case rel => exact ⟨_, (true), xz, H', ⟨by omega⟩, ⟨xs HB⟩⟩
  skip
  obtain ⟨c7b0, H⟩ | ⟨c7b0, H⟩ := xOd H
  ·have H' := Aside0.mk H
   clear H
   go_wp2
   go_meet
   case rel => exact ⟨_, (true), xz, H', ⟨by omega⟩, ⟨xs HB⟩⟩
  have H' := Aside0.mk H
  clear H
  go_wp2
  go_meet
  case rel => exact ⟨_, (decide (t1235 > 4096)), xz, H', ⟨by omega⟩, ⟨xs HB⟩⟩
 case rest =>
  clear HC4
  obtain ⟨kq, x22_3, rfl, HA, HJ3, HB⟩ := hcut
  cases kq with
  | zero => exact absurd HA.out (by simp [dp_Choice.j0])
  | succ kj3 =>
   have H := HA.out
   clear HA
   simp only [dp_Choice.j0] at H
   by_cases c8 : x22_3 = true
   ·subst c8
    replace H := xI H
    simp only [Option.some.injEq, Prod.mk.injEq] at H
    obtain ⟨rfl, rfl⟩ := H
    go_wp2
    go_ret2
    exact ⟨_, xy, by exact Kd.R_nil _ _ _ _ _, xs HB⟩
   replace c8 := Bool.eq_false_iff.mpr c8
   subst c8
   have H1 : (if 0 ≤ (l0.length : Int) then (if ((l0.length : Int) : Int).toNat ≤ 35184372088832 then (dp_Choice.l0 kj3 a1 (List.replicate ((l0.length : Int) : Int).toNat 0) l0 (l0.length : Int) 0) else (none)) else (none)) = some (r1, r2) := by rw [if_neg (show ¬ (false = true) by decide)] at H; exact H
   clear H
   have H := H1
   clear H1
   obtain ⟨c9b0, c9b1, H⟩ := xQt H
   obtain ⟨c10b0, c10b1, H⟩ := xQt H
   generalize hy1236 : (List.replicate ((l0.length : Int) : Int).toNat 0 : List Int) = y1236 at H
   have Ny1236 := Aside0.mk hy1236.symm
   clear hy1236
   have H' := Aside0.mk H
   clear H
   go_wp2_with ((with_reducible refine gate_dst (N := 25) rfl ?_); refine Kd.R_make (Kd.int .i64) _ 3 rfl (N := 25) rfl 68 _ _ rfl (l0.length : Int) rfl rfl Tryd.underlying68 (.int .i64 0) 8 info3 rfl (by decide) (by omega) 0 (ok := fun _ => True) (okp := fun _ => True) rfl (fun _ hk => hk) trivial (xa) (Nat.le_trans (Nat.mul_le_mul_right _ (xa : (l0.length : Int).toNat ≤ 35184372088832)) (by omega)) (Below.refl _ _) (Nat.le_refl _) ?_; intro v1237 w11 ho12 hb hg_ hnew_; clear hg_ hnew_; (rw [← Ny1236.out] at ho12); have HO1238 := Aside0.mk (Kd.R_lower ho12 (below_size (xs HB))); replace HB := xS HB hb; clear hb ho12)
   go_loopg [1, 28] kj3 (fun kq v1 v28 w' => ∃ (x1_2 : Int) (x7_2 : List Int) (x28_2 : Int), v1 = .int .i64 x1_2 ∧ v28 = .int .i64 x28_2 ∧ Aside0 (dp_Choice.l0 kq x1_2 x7_2 l0 (l0.length : Int) x28_2 = some (r1, r2)) ∧ Aside0 (kq ≤ kj3) ∧ Aside0 (Kd.R (Kd.int .i64) 3 w' w.heap.size (fun _ => True) v1237 x7_2) ∧ Aside0 (Below w.heap.size w w'))
   case atStart => exact ⟨(a1), (y1236), (0), xz, xz, H', ⟨Nat.le_refl _⟩, ⟨xr HO1238.out⟩, ⟨xs HB⟩⟩
   case round =>
    clear H'
    clear c9b0 c9b1 c10b0 c10b1
    obtain ⟨x1_2, x7_2, x28_2, rfl, rfl, HA, HK2, HO_7, HB⟩ := hrel
    cases gk with
    | zero => exact absurd HA.out (by simp [dp_Choice.l0])
    | succ k2 =>
     have H := HA.out
     clear HA
     simp only [dp_Choice.l0] at H
     obtain ⟨c13b0, H⟩ | ⟨c13b0, H⟩ := xOd H
     ·obtain ⟨c14b0, H⟩ := xQd H
      obtain ⟨c15b0, H⟩ := xQd H
      obtain ⟨c16, H⟩ := xR H
      have c16b0 := beq_eq_false_iff_ne.mpr c16
      have c16b1 := bne_iff_ne.mpr c16
      have c16b2 : ¬ (((rd_T50 l0 x28_2).f1) = []) := fun h_ => c16 (by rw [h_]; rfl)
      obtain ⟨c17b0, H⟩ := xQd H
      generalize hy1241 : (x7_2.set (x28_2 : Int).toNat (Int.tmod x1_2 (((rd_T50 l0 x28_2).f1).length : Int)) : List Int) = y1241 at H
      have Ny1241 := Aside0.mk hy1241.symm
      clear hy1241
      have H' := Aside0.mk H
      clear H
      obtain ⟨p1239, q1239, ad1239, A1239_2, c1239_2, e1239, hx1239_0, hx1239_1, hx1239_2, hl1239_2, hi1239_2⟩ := xA (at_T50 HR0.out x28_2)
      cases e1239
      (try replace hx1239_0 := xcl HB hx1239_0)
      (try replace hx1239_1 := xcl HB hx1239_1)
      (try replace hx1239_2 := xcl HB hx1239_2)
      have HR1239_2 := Aside0.mk hi1239_2
      have HC1239_2 := Aside0.mk hl1239_2
      clear hi1239_2 hl1239_2
      go_wp2_with (first | (refine xF (N := 9) #[.int .i64 0, .int .i64 0, .slice none 0 0] 50 HB ?_; clear HB; intro gb1240 hg w19 hb BK1240 GW1240 HB; replace HO_7 := xRb HO_7 hb; clear hb hg; obtain ⟨hcz20_0, hcz20_1, hcz20_2, hfz20_0, hfz20_1, hfz20_2⟩ := x6 BK1240) | (refine xst 50 9 (((w19.setCell ⟨gb1240, 0, none⟩ (.int .i64 ((rd_T50 l0 x28_2).f0.f0))).setCell ⟨gb1240, 1, none⟩ (.int .i64 ((rd_T50 l0 x28_2).f0.f1))).setCell ⟨gb1240, 2, none⟩ (.slice A1239_2 ((rd_T50 l0 x28_2).f1).length c1239_2)) ?_; intro w21 hw; have n0_ : Aside0 (Kd.R (Kd.int .i64) 3 w21 w.heap.size (fun _ => True) v1237 x7_2) := ⟨(by rw [hw]; exact (by exact Kd.R_mono (Kd.R_far (p := ⟨gb1240, 2, none⟩) (Kd.R_far (p := ⟨gb1240, 1, none⟩) (Kd.R_far (p := ⟨gb1240, 0, none⟩) (Kd.R_types HO_7.out BK1240.out (by decide)) (fun _ hk => hk.2) (.int .i64 ((rd_T50 l0 x28_2).f0.f0))) (fun _ hk => hk.2) (.int .i64 ((rd_T50 l0 x28_2).f0.f1))) (fun _ hk => hk.2) (.slice A1239_2 ((rd_T50 l0 x28_2).f1).length c1239_2)) (fun _ hk => trivial)))⟩; have n1_ : Aside0 (w21.heap[gb1240]? = some (.cells #[.int .i64 ((rd_T50 l0 x28_2).f0.f0), .int .i64 ((rd_T50 l0 x28_2).f0.f1), .slice A1239_2 ((rd_T50 l0 x28_2).f1).length c1239_2] 50 (0, 0))) := ⟨(by rw [hw]; exact (xp BK1240))⟩; have n2_ : Aside0 (Below w.heap.size w w21) := ⟨(by rw [hw]; exact (xs HB))⟩; clear hw HO_7 BK1240 HB; have HO_7 := n0_; have BK1240 := n1_; have HB := n2_; clear n0_ n1_ n2_; obtain ⟨hcz22_0, hcz22_1, hcz22_2, hfz22_0, hfz22_1, hfz22_2⟩ := x6 BK1240; have p18 : 0 ≤ (x28_2 : Int) := xa; have q18 : (x28_2 : Int) < ((x7_2.length : Int) : Int) := xa; obtain ⟨go18, co18, eo18, gb18, gl18, cl18, HG18⟩ := Kd.R_form HO_7.out (by omega); (cases eo18); have GB18 := Aside0.mk gb18; have GG18 := Aside0.mk HG18; clear gb18 gl18 HG18; obtain ⟨hx18_0, hf18_0⟩ := Kd.R_celln 0 HO_7.out (x28_2 : Int) p18 q18; replace p18 := eq_true p18; replace q18 := eq_true q18; obtain ⟨hy23_, hz23_⟩ := Kd.R_celln 0 HO_7.out (x28_2 : Int) (xa) (xa); have HP23 := Kd.R_putg HO_7.out (x28_2 : Int) (Int.tmod x1_2 (((rd_T50 l0 x28_2).f1).length : Int))) | (refine xst 3 40 (w21.setCell ⟨go18, (x28_2 : Int).toNat, none⟩ (.int .i64 (Int.tmod x1_2 (((rd_T50 l0 x28_2).f1).length : Int)))) ?_; intro w24 hw; have hg : w21.grownBy w24 (some go18) := (by rw [hw]; exact HP23.2); have hp_ : Kd.R (Kd.int .i64) 3 w24 w.heap.size (fun _ => True) (.slice (some ⟨go18, 0, none⟩) x7_2.length co18) y1241 := (by rw [hw, Ny1241.out]; exact HP23.1); clear HP23; replace BK1240 := xK BK1240 hg (Kd.R_ne HO_7.out BK1240.out (by decide)); replace HO_7 := Aside0.mk (hp_); replace HB := Aside0.mk (by rw [hw]; exact below_set (HB.out) GB18.out : Below w.heap.size w w24); clear hg hw hp_; obtain ⟨hcz25_0, hcz25_1, hcz25_2, hfz25_0, hfz25_1, hfz25_2⟩ := x6 BK1240))
      go_roundg k2
      case measure => have := HJ3.out; have := HK2.out; omega
      case rel => exact ⟨(wrap64 (Int.tdiv x1_2 (((rd_T50 l0 x28_2).f1).length : Int))), (y1241), (wrap64 (x28_2 + 1)), xz, xz, H', ⟨by have := HJ3.out; have := HK2.out; omega⟩, ⟨xr HO_7.out⟩, ⟨xs HB⟩⟩
     simp only [Option.some.injEq, Prod.mk.injEq] at H
     obtain ⟨rfl, rfl⟩ := H
     go_wp2
     go_ret2
     exact ⟨_, xy, HO_7.out, xs HB⟩
/-! ### il_awake: function 29 -/
def il_awake.f (k : Nat)  : Option (Bool) := if 2 ≤ 5864062014805 then (if 3 ≤ 5864062014805 then ((some (([(⟨(⟨0, 0⟩ : S47), (List.replicate 2 z54)⟩ : S50), (⟨(⟨0, 0⟩ : S47), (List.replicate 3 z54)⟩ : S50)] : List (S50)) : List (S50))).bind fun y1248 => ((dp_Choice.f k y1248 3).bind fun bt1251 => (if bt1251.2 = true then ((dp_Count.f k y1248).bind fun t1255 => (if t1255 = 6 then (if (bt1251.1.length : Int) = 2 then (if 0 < (bt1251.1.length : Int) then (if (rd bt1251.1 0) = 1 then (if 1 < (bt1251.1.length : Int) then (some ((rd bt1251.1 1) == 1)) else (none)) else (some false)) else (none)) else (some false)) else (some false))) else (some false)))) else (none)) else (none)
theorem il_awake.mono : ∀ k, LeO (il_awake.f k ) (il_awake.f (k + 1) ) := by
 intro  k
 unfold il_awake.f
 have m0 := @dp_Choice.mono; have m1 := @dp_Count.mono; exact xM
theorem il_awake.calls (k : Nat)  (r : Bool) (w : World) (h : il_awake.f k  = some r) :
  Calls Tryd.prog 29 #[] w fun e w' => e = .returned (.bool r) ∧ Below w.heap.size w w' := by
 have hu50 := Tryd.underlying50
 have HB := Aside0.mk (Below.refl w.heap.size w)
 have H := h; clear h
 unfold il_awake.f at H
 obtain ⟨c1b0, c1b1, H⟩ := xQt H
 generalize hy1242 : (List.replicate 2 z54 : List (S54)) = y1242 at H
 have Ny1242 := Aside0.mk hy1242.symm
 clear hy1242
 obtain ⟨c2b0, c2b1, H⟩ := xQt H
 generalize hy1245 : (List.replicate 3 z54 : List (S54)) = y1245 at H
 have Ny1245 := Aside0.mk hy1245.symm
 clear hy1245
 obtain ⟨y1248, Ny1248, H⟩ := xYa H
 replace H := xH H; obtain ⟨⟨t1251, t1252⟩, A3, H⟩ := H
 dsimp only at H
 by_cases c4 : t1252 = true
 ·subst c4
  replace H := xI H
  replace H := xH H; obtain ⟨t1255, A5, H⟩ := H
  obtain ⟨c6, H⟩ | ⟨c6, H⟩ := xO H
  ·have c6b0 := beq_iff_eq.mpr c6
   have c6b1 := bne_eq_false_iff_eq.mpr c6
   clear c6
   obtain ⟨c7, H⟩ | ⟨c7, H⟩ := xO H
   ·have c7b0 := beq_iff_eq.mpr c7
    have c7b1 := bne_eq_false_iff_eq.mpr c7
    clear c7
    obtain ⟨c8, H⟩ := xQ H
    have c8b0 := decide_eq_true c8
    have c8b1 : decide (0 < t1251.length) = true := decide_eq_true (by omega)
    clear c8
    obtain ⟨c9, H⟩ | ⟨c9, H⟩ := xO H
    ·have c9b0 := beq_iff_eq.mpr c9
     have c9b1 := bne_eq_false_iff_eq.mpr c9
     clear c9
     obtain ⟨c10, H⟩ := xQ H
     have c10b0 := decide_eq_true c10
     have c10b1 : decide (1 < t1251.length) = true := decide_eq_true (by omega)
     clear c10
     obtain rfl := Option.some.inj H
     go_enter Tryd.func29, Tryd.ntmps29
     try go_wp2
     replace HB := xW HB
     refine start_ (n := 6) (S := fun w' => True) (ds := []) (b 6 0) (by kernel_rfl) rfl rfl trivial (fun hHeld => ?_)
     generalize w.drew = w11 at HB hHeld ⊢
     refine join_ (σ := Value × Value) 2 #[true, true, true, true, false, false] (fun s_ => [(4, s_.1), (6, s_.2), (5, .agg #[.int .i64 0, .int .i64 0, s_.1]), (7, .agg #[.int .i64 0, .int .i64 0, s_.2])]) (fun s_ w' => (Kd.R k54 54 w' w.heap.size (fun k_ => some k_ ≠ (s_.2 : Value).ownBlock) s_.1 y1242) ∧ (Kd.R k54 54 w' w.heap.size (fun k_ => some k_ ≠ (s_.1 : Value).ownBlock) s_.2 y1245) ∧ (Below w.heap.size w w')) ?_ ?_
     rotate_left
     ·intro hCont
      refine two_ (i := 0) (j := 2) (Ni := some 4) (Nj := some 6) #[true, false, false, false, false, false] #[false, false, true, false, false, false] rfl rfl rfl rfl (by kernel_rfl) (by decide) (by decide) (fun K hK => ?_) (fun K hK => ?_)
      ·skip
       refine Kd.R_make_step k54 _ 54 (by rfl) (N := 4) rfl 48 _ _ rfl 2 rfl rfl Tryd.underlying48 (.agg #[(.bool false), (.string ⟨#[]⟩), (.string ⟨#[]⟩), (.int .i64 0)]) 48 info54 rfl (by decide) (by omega) z54 (ok := fun _ => True) (okp := fun _ => True) (k54_mkM _ _ _ z54 ) (fun _ hk => hk) trivial (by omega) (by omega) (Below.refl _ _) (Nat.le_refl _) ?_
       intro v1243 w12 ho13 hb hg_ hnew_
       clear hg_ hnew_
       simp only [Int.reduceToNat] at ho13; rw [← Ny1242.out] at ho13
       have HO1244 := Aside0.mk (Kd.R_lower ho13 (below_size (xs HB)))
       replace HB := xS HB hb
       clear hb ho13
       obtain ⟨Ao14, co14, eo14⟩ := Kd.R_slice HO1244.out
       subst eo14
       refine hK.out _ _ trivial (fun hHeld => ?_)
       clear hK K
       refine xN 4 ?_
       refine yP 1 (some 5) (b 6 3) ?_
       refine yO 2 (some 6) (b 6 7) fun K hK => ?_
       refine Kd.R_make_step k54 _ 54 (by rfl) (N := 6) rfl 48 _ _ rfl 3 rfl rfl Tryd.underlying48 (.agg #[(.bool false), (.string ⟨#[]⟩), (.string ⟨#[]⟩), (.int .i64 0)]) 48 info54 rfl (by decide) (by omega) z54 (ok := fun _ => True) (okp := fun _ => True) (k54_mkM _ _ _ z54 ) (fun _ hk => hk) trivial (by omega) (by omega) (Below.refl _ _) (Nat.le_refl _) ?_
       intro v1246 w15 ho16 hb hg_ hnew_
       clear hg_ hnew_
       simp only [Int.reduceToNat] at ho16; rw [← Ny1245.out] at ho16
       have HO1247 := Aside0.mk (Kd.R_lower (Kd.R_new' ho16 (Kd.R_lt (xr HO1244.out))) (below_size (xs HB)))
       replace HO1244 := Aside0.mk (Kd.R_elder' (xr HO1244.out) (Kd.R_base ho16) hb)
       replace HB := xS HB hb
       clear hb ho16
       obtain ⟨Ao17, co17, eo17⟩ := Kd.R_slice HO1247.out
       subst eo17
       refine hK.out _ _ trivial (fun hHeld => ?_)
       clear hK K
       refine xN 6 ?_
       refine yP 3 (some 7) (b 6 15) ?_
       exact norm_ (by simp only [putAll, Act.put, List.setIfInBounds_toArray, List.set_cons_zero, List.set_cons_succ]) (hCont (.slice Ao14 y1242.length co14, .slice Ao17 y1245.length co17) _ ⟨(by exact Kd.R_mono HO1244.out (fun _ hk => hk.2)), (by exact Kd.R_mono HO1247.out (fun _ hk => hk.2)), (xs HB)⟩)
      ·skip
       refine Kd.R_make_step k54 _ 54 (by rfl) (N := 6) rfl 48 _ _ rfl 3 rfl rfl Tryd.underlying48 (.agg #[(.bool false), (.string ⟨#[]⟩), (.string ⟨#[]⟩), (.int .i64 0)]) 48 info54 rfl (by decide) (by omega) z54 (ok := fun _ => True) (okp := fun _ => True) (k54_mkM _ _ _ z54 ) (fun _ hk => hk) trivial (by omega) (by omega) (Below.refl _ _) (Nat.le_refl _) ?_
       intro v1246 w12 ho13 hb hg_ hnew_
       clear hg_ hnew_
       simp only [Int.reduceToNat] at ho13; rw [← Ny1245.out] at ho13
       have HO1247 := Aside0.mk (Kd.R_lower ho13 (below_size (xs HB)))
       replace HB := xS HB hb
       clear hb ho13
       obtain ⟨Ao14, co14, eo14⟩ := Kd.R_slice HO1247.out
       subst eo14
       refine hK.out _ _ trivial (fun hHeld => ?_)
       clear hK K
       refine xN 6 ?_
       refine yP 3 (some 7) (b 6 12) ?_
       refine yO 0 (some 4) (b 6 13) fun K hK => ?_
       refine Kd.R_make_step k54 _ 54 (by rfl) (N := 4) rfl 48 _ _ rfl 2 rfl rfl Tryd.underlying48 (.agg #[(.bool false), (.string ⟨#[]⟩), (.string ⟨#[]⟩), (.int .i64 0)]) 48 info54 rfl (by decide) (by omega) z54 (ok := fun _ => True) (okp := fun _ => True) (k54_mkM _ _ _ z54 ) (fun _ hk => hk) trivial (by omega) (by omega) (Below.refl _ _) (Nat.le_refl _) ?_
       intro v1243 w15 ho16 hb hg_ hnew_
       clear hg_ hnew_
       simp only [Int.reduceToNat] at ho16; rw [← Ny1242.out] at ho16
       have HO1244 := Aside0.mk (Kd.R_lower (Kd.R_new' ho16 (Kd.R_lt (xr HO1247.out))) (below_size (xs HB)))
       replace HO1247 := Aside0.mk (Kd.R_elder' (xr HO1247.out) (Kd.R_base ho16) hb)
       replace HB := xS HB hb
       clear hb ho16
       obtain ⟨Ao17, co17, eo17⟩ := Kd.R_slice HO1244.out
       subst eo17
       refine hK.out _ _ trivial (fun hHeld => ?_)
       clear hK K
       refine xN 4 ?_
       refine yP 1 (some 5) (b 6 15) ?_
       exact norm_ (by simp only [putAll, Act.put, List.setIfInBounds_toArray, List.set_cons_zero, List.set_cons_succ]) (hCont (.slice Ao17 y1242.length co17, .slice Ao14 y1245.length co14) _ ⟨(by exact Kd.R_mono HO1244.out (fun _ hk => hk.2)), (by exact Kd.R_mono HO1247.out (fun _ hk => hk.2)), (xs HB)⟩)
     rintro ⟨v1243, v1246⟩ w18 ⟨h0_, h1_, h2_⟩
     have n0_ : Aside0 (Kd.R k54 54 w18 w.heap.size (fun k_ => some k_ ≠ (v1246 : Value).ownBlock) v1243 y1242) := ⟨h0_⟩
     have n1_ : Aside0 (Kd.R k54 54 w18 w.heap.size (fun k_ => some k_ ≠ (v1243 : Value).ownBlock) v1246 y1245) := ⟨h1_⟩
     have n2_ : Aside0 (Below w.heap.size w w18) := ⟨h2_⟩
     clear HB
     clear h0_ h1_ h2_
     have HO1244 := n0_
     have HO1247 := n1_
     have HB := n2_
     clear n0_ n1_ n2_
     have hHeld := trivial
     obtain ⟨Ao19, co19, eo19⟩ := Kd.R_slice HO1244.out
     subst eo19
     obtain ⟨Ao20, co20, eo20⟩ := Kd.R_slice HO1247.out
     subst eo20
     refine norm_ (a' := ?_) ?_ ?_
     rotate_left
     ·simp only [putAll, Act.put, List.setIfInBounds_toArray, List.set_cons_zero, List.set_cons_succ]
      rfl
     refine yO 4 (some 8) (b 6 31) fun K hK => ?_
     refine Kd.N_lit_step k50 _ 50 ?hg (N' := 8) ?hd (xs := ([(⟨(⟨0, 0⟩ : S47), y1242⟩ : S50), (⟨(⟨0, 0⟩ : S47), y1245⟩ : S50)] : List (S50))) (inner := [.int .i64 0, .int .i64 0, .slice Ao19 y1242.length co19, .int .i64 0, .int .i64 0, .slice Ao20 y1245.length co20]) (ok := (fun _ => True)) (okp := (fun _ => True)) ?hr ?hp (fun _ hk => hk) ((show ∀ k_, w18.heap.size ≤ k_ → (fun _ => True) k_ from fun k_ hk => trivial) _ (Nat.le_refl _)) (Below.refl _ _) (Nat.le_refl _) (by simp) ?_; (case hd => rfl); (case hg => rfl); (case hr => (go_simp; done)); (case hp => exact (Reps.c3 (show Kd.FK k50 _ _ (⟨(⟨0, 0⟩ : S47), y1242⟩ : S50) [.int .i64 0, .int .i64 0, .slice Ao19 y1242.length co19] from (k50_mkF _ _ (⟨(⟨0, 0⟩ : S47), y1242⟩ : S50) (Kd.R_reads' (Kd.R_mono (ok' := (fun _ => True)) (HO1244.out) (fun k_ hk => trivial))).2.1 (Kd.R_F (Kd.R_mono (ok' := (fun _ => True)) (HO1244.out) (fun k_ hk => trivial))))) (Reps.c3 (show Kd.FK k50 _ _ (⟨(⟨0, 0⟩ : S47), y1245⟩ : S50) [.int .i64 0, .int .i64 0, .slice Ao20 y1245.length co20] from (k50_mkF _ _ (⟨(⟨0, 0⟩ : S47), y1245⟩ : S50) (Kd.R_reads' (Kd.R_mono (ok' := (fun _ => True)) (HO1247.out) (fun k_ hk => trivial))).2.1 (Kd.R_F (Kd.R_mono (ok' := (fun _ => True)) (HO1247.out) (fun k_ hk => trivial))))) (Reps.none _ _))))
     intro v1249 w21 ho22 hb hg_ hnew_
     clear hg_ hnew_
     rw [← Ny1248.out] at ho22
     have HO1250 := Aside0.mk (Kd.N_lower ho22 (below_size (xs HB)))
     replace HB := xS HB hb
     clear HO1244
     clear HO1247
     clear hb ho22
     refine hK.out _ _ trivial (fun hHeld => ?_)
     clear hK K
     refine xN 8 ?_
     refine yP 5 (some 1) (b 6 63) ?_
     refine done_ (by kernel_rfl) ?_
     obtain ⟨Ao23, co23, eo23⟩ := Kd.N_slice HO1250.out
     subst eo23
     try go_wp2_with (first | (refine xg Tryd.func53 (some 11) #[.slice Ao23 y1248.length co23, .int .i64 3] ?_; (with_reducible refine (dp_Choice.calls k _ _ y1248 3 t1251 true _ ?side1 ?side2 A3.out).mono ?_); (case side1 => repeat (exact (Kd.N_reads' HO1250.out).2.2)); (case side2 => exact (Kd.N_reads' HO1250.out).2.1); rintro e w24 ⟨v1253, rfl, ho0, hb⟩; refine ⟨_, rfl, ?_⟩; replace HO1250 := Aside0.mk (Kd.N_elder' (by exact HO1250.out) (Kd.R_base ho0) hb); have HO1254 := Aside0.mk (Kd.R_lower ho0 (below_size (xs HB))); replace HB := xS HB hb; clear hb ho0) | (go_at_call 54; (with_reducible refine (dp_Count.calls k _ _ y1248 t1255 _ ?side1 ?side2 A5.out).mono ?_); (case side1 => repeat (exact (Kd.N_reads' HO1250.out).2.2)); (case side2 => exact (Kd.N_reads' HO1250.out).2.1); rintro e w25 ⟨rfl, hb⟩; replace HO1250 := Aside0.mk (Kd.N_below (by exact HO1250.out) hb); replace HO1254 := xRb HO1254 hb; replace HB := xS HB hb; clear hb; obtain ⟨Ao26, co26, eo26⟩ := Kd.R_slice HO1254.out; subst eo26; have p1256 : 0 ≤ (0 : Int) := (by omega); have q1256 : 0 < (t1251.length : Int) := xa; obtain ⟨ad1256, e1256, hx1256_0⟩ := Kd.at_int (Kd.R_reads' HO1254.out).2.2 0 p1256 q1256; cases e1256; have qi1256 : (0 < t1251.length) = True := eq_true (by omega); (try rw [show (0 : Int).toNat = 0 from rfl] at hx1256_0); (try rw [Addr.add_zero'] at hx1256_0); replace p1256 := eq_true p1256; replace q1256 := eq_true q1256; have p1257 : 0 ≤ (1 : Int) := (by omega); have q1257 : 1 < (t1251.length : Int) := xa; obtain ⟨ad1257, e1257, hx1257_0⟩ := Kd.at_int (Kd.R_reads' HO1254.out).2.2 1 p1257 q1257; obtain rfl : ad1256 = ad1257 := (by injection e1257); (try simp only [show (1 : Int).toNat = 1 from rfl, Nat.reduceMul, Nat.reduceEqDiff, Go.Addr.add, ↓reduceIte] at hx1257_0); have qi1257 : (1 < t1251.length) = True := eq_true (by omega); replace p1257 := eq_true p1257; replace q1257 := eq_true q1257))
     go_ret
     exact ⟨xy, xs HB⟩
    have c9b0 := beq_eq_false_iff_ne.mpr c9
    have c9b1 := bne_iff_ne.mpr c9
    obtain rfl := Option.some.inj H
    go_enter Tryd.func29, Tryd.ntmps29
    try go_wp2
    replace HB := xW HB
    refine start_ (n := 6) (S := fun w' => True) (ds := []) (b 6 0) (by kernel_rfl) rfl rfl trivial (fun hHeld => ?_)
    generalize w.drew = w27 at HB hHeld ⊢
    refine join_ (σ := Value × Value) 2 #[true, true, true, true, false, false] (fun s_ => [(4, s_.1), (6, s_.2), (5, .agg #[.int .i64 0, .int .i64 0, s_.1]), (7, .agg #[.int .i64 0, .int .i64 0, s_.2])]) (fun s_ w' => (Kd.R k54 54 w' w.heap.size (fun k_ => some k_ ≠ (s_.2 : Value).ownBlock) s_.1 y1242) ∧ (Kd.R k54 54 w' w.heap.size (fun k_ => some k_ ≠ (s_.1 : Value).ownBlock) s_.2 y1245) ∧ (Below w.heap.size w w')) ?_ ?_
    rotate_left
    ·intro hCont
     refine two_ (i := 0) (j := 2) (Ni := some 4) (Nj := some 6) #[true, false, false, false, false, false] #[false, false, true, false, false, false] rfl rfl rfl rfl (by kernel_rfl) (by decide) (by decide) (fun K hK => ?_) (fun K hK => ?_)
     ·skip
      refine Kd.R_make_step k54 _ 54 (by rfl) (N := 4) rfl 48 _ _ rfl 2 rfl rfl Tryd.underlying48 (.agg #[(.bool false), (.string ⟨#[]⟩), (.string ⟨#[]⟩), (.int .i64 0)]) 48 info54 rfl (by decide) (by omega) z54 (ok := fun _ => True) (okp := fun _ => True) (k54_mkM _ _ _ z54 ) (fun _ hk => hk) trivial (by omega) (by omega) (Below.refl _ _) (Nat.le_refl _) ?_
      intro v1243 w28 ho29 hb hg_ hnew_
      clear hg_ hnew_
      simp only [Int.reduceToNat] at ho29; rw [← Ny1242.out] at ho29
      have HO1244 := Aside0.mk (Kd.R_lower ho29 (below_size (xs HB)))
      replace HB := xS HB hb
      clear hb ho29
      obtain ⟨Ao30, co30, eo30⟩ := Kd.R_slice HO1244.out
      subst eo30
      refine hK.out _ _ trivial (fun hHeld => ?_)
      clear hK K
      refine xN 4 ?_
      refine yP 1 (some 5) (b 6 3) ?_
      refine yO 2 (some 6) (b 6 7) fun K hK => ?_
      refine Kd.R_make_step k54 _ 54 (by rfl) (N := 6) rfl 48 _ _ rfl 3 rfl rfl Tryd.underlying48 (.agg #[(.bool false), (.string ⟨#[]⟩), (.string ⟨#[]⟩), (.int .i64 0)]) 48 info54 rfl (by decide) (by omega) z54 (ok := fun _ => True) (okp := fun _ => True) (k54_mkM _ _ _ z54 ) (fun _ hk => hk) trivial (by omega) (by omega) (Below.refl _ _) (Nat.le_refl _) ?_
      intro v1246 w31 ho32 hb hg_ hnew_
      clear hg_ hnew_
      simp only [Int.reduceToNat] at ho32; rw [← Ny1245.out] at ho32
      have HO1247 := Aside0.mk (Kd.R_lower (Kd.R_new' ho32 (Kd.R_lt (xr HO1244.out))) (below_size (xs HB)))
      replace HO1244 := Aside0.mk (Kd.R_elder' (xr HO1244.out) (Kd.R_base ho32) hb)
      replace HB := xS HB hb
      clear hb ho32
      obtain ⟨Ao33, co33, eo33⟩ := Kd.R_slice HO1247.out
      subst eo33
      refine hK.out _ _ trivial (fun hHeld => ?_)
      clear hK K
      refine xN 6 ?_
      refine yP 3 (some 7) (b 6 15) ?_
      exact norm_ (by simp only [putAll, Act.put, List.setIfInBounds_toArray, List.set_cons_zero, List.set_cons_succ]) (hCont (.slice Ao30 y1242.length co30, .slice Ao33 y1245.length co33) _ ⟨(by exact Kd.R_mono HO1244.out (fun _ hk => hk.2)), (by exact Kd.R_mono HO1247.out (fun _ hk => hk.2)), (xs HB)⟩)
     ·skip
      refine Kd.R_make_step k54 _ 54 (by rfl) (N := 6) rfl 48 _ _ rfl 3 rfl rfl Tryd.underlying48 (.agg #[(.bool false), (.string ⟨#[]⟩), (.string ⟨#[]⟩), (.int .i64 0)]) 48 info54 rfl (by decide) (by omega) z54 (ok := fun _ => True) (okp := fun _ => True) (k54_mkM _ _ _ z54 ) (fun _ hk => hk) trivial (by omega) (by omega) (Below.refl _ _) (Nat.le_refl _) ?_
      intro v1246 w28 ho29 hb hg_ hnew_
      clear hg_ hnew_
      simp only [Int.reduceToNat] at ho29; rw [← Ny1245.out] at ho29
      have HO1247 := Aside0.mk (Kd.R_lower ho29 (below_size (xs HB)))
      replace HB := xS HB hb
      clear hb ho29
      obtain ⟨Ao30, co30, eo30⟩ := Kd.R_slice HO1247.out
      subst eo30
      refine hK.out _ _ trivial (fun hHeld => ?_)
      clear hK K
      refine xN 6 ?_
      refine yP 3 (some 7) (b 6 12) ?_
      refine yO 0 (some 4) (b 6 13) fun K hK => ?_
      refine Kd.R_make_step k54 _ 54 (by rfl) (N := 4) rfl 48 _ _ rfl 2 rfl rfl Tryd.underlying48 (.agg #[(.bool false), (.string ⟨#[]⟩), (.string ⟨#[]⟩), (.int .i64 0)]) 48 info54 rfl (by decide) (by omega) z54 (ok := fun _ => True) (okp := fun _ => True) (k54_mkM _ _ _ z54 ) (fun _ hk => hk) trivial (by omega) (by omega) (Below.refl _ _) (Nat.le_refl _) ?_
      intro v1243 w31 ho32 hb hg_ hnew_
      clear hg_ hnew_
      simp only [Int.reduceToNat] at ho32; rw [← Ny1242.out] at ho32
      have HO1244 := Aside0.mk (Kd.R_lower (Kd.R_new' ho32 (Kd.R_lt (xr HO1247.out))) (below_size (xs HB)))
      replace HO1247 := Aside0.mk (Kd.R_elder' (xr HO1247.out) (Kd.R_base ho32) hb)
      replace HB := xS HB hb
      clear hb ho32
      obtain ⟨Ao33, co33, eo33⟩ := Kd.R_slice HO1244.out
      subst eo33
      refine hK.out _ _ trivial (fun hHeld => ?_)
      clear hK K
      refine xN 4 ?_
      refine yP 1 (some 5) (b 6 15) ?_
      exact norm_ (by simp only [putAll, Act.put, List.setIfInBounds_toArray, List.set_cons_zero, List.set_cons_succ]) (hCont (.slice Ao33 y1242.length co33, .slice Ao30 y1245.length co30) _ ⟨(by exact Kd.R_mono HO1244.out (fun _ hk => hk.2)), (by exact Kd.R_mono HO1247.out (fun _ hk => hk.2)), (xs HB)⟩)
    rintro ⟨v1243, v1246⟩ w34 ⟨h0_, h1_, h2_⟩
    have n0_ : Aside0 (Kd.R k54 54 w34 w.heap.size (fun k_ => some k_ ≠ (v1246 : Value).ownBlock) v1243 y1242) := ⟨h0_⟩
    have n1_ : Aside0 (Kd.R k54 54 w34 w.heap.size (fun k_ => some k_ ≠ (v1243 : Value).ownBlock) v1246 y1245) := ⟨h1_⟩
    have n2_ : Aside0 (Below w.heap.size w w34) := ⟨h2_⟩
    clear HB
    clear h0_ h1_ h2_
    have HO1244 := n0_
    have HO1247 := n1_
    have HB := n2_
    clear n0_ n1_ n2_
    have hHeld := trivial
    obtain ⟨Ao35, co35, eo35⟩ := Kd.R_slice HO1244.out
    subst eo35
    obtain ⟨Ao36, co36, eo36⟩ := Kd.R_slice HO1247.out
    subst eo36
    refine norm_ (a' := ?_) ?_ ?_
    rotate_left
    ·simp only [putAll, Act.put, List.setIfInBounds_toArray, List.set_cons_zero, List.set_cons_succ]
     rfl
    refine yO 4 (some 8) (b 6 31) fun K hK => ?_
    refine Kd.N_lit_step k50 _ 50 ?hg (N' := 8) ?hd (xs := ([(⟨(⟨0, 0⟩ : S47), y1242⟩ : S50), (⟨(⟨0, 0⟩ : S47), y1245⟩ : S50)] : List (S50))) (inner := [.int .i64 0, .int .i64 0, .slice Ao35 y1242.length co35, .int .i64 0, .int .i64 0, .slice Ao36 y1245.length co36]) (ok := (fun _ => True)) (okp := (fun _ => True)) ?hr ?hp (fun _ hk => hk) ((show ∀ k_, w34.heap.size ≤ k_ → (fun _ => True) k_ from fun k_ hk => trivial) _ (Nat.le_refl _)) (Below.refl _ _) (Nat.le_refl _) (by simp) ?_; (case hd => rfl); (case hg => rfl); (case hr => (go_simp; done)); (case hp => exact (Reps.c3 (show Kd.FK k50 _ _ (⟨(⟨0, 0⟩ : S47), y1242⟩ : S50) [.int .i64 0, .int .i64 0, .slice Ao35 y1242.length co35] from (k50_mkF _ _ (⟨(⟨0, 0⟩ : S47), y1242⟩ : S50) (Kd.R_reads' (Kd.R_mono (ok' := (fun _ => True)) (HO1244.out) (fun k_ hk => trivial))).2.1 (Kd.R_F (Kd.R_mono (ok' := (fun _ => True)) (HO1244.out) (fun k_ hk => trivial))))) (Reps.c3 (show Kd.FK k50 _ _ (⟨(⟨0, 0⟩ : S47), y1245⟩ : S50) [.int .i64 0, .int .i64 0, .slice Ao36 y1245.length co36] from (k50_mkF _ _ (⟨(⟨0, 0⟩ : S47), y1245⟩ : S50) (Kd.R_reads' (Kd.R_mono (ok' := (fun _ => True)) (HO1247.out) (fun k_ hk => trivial))).2.1 (Kd.R_F (Kd.R_mono (ok' := (fun _ => True)) (HO1247.out) (fun k_ hk => trivial))))) (Reps.none _ _))))
    intro v1249 w37 ho38 hb hg_ hnew_
    clear hg_ hnew_
    rw [← Ny1248.out] at ho38
    have HO1250 := Aside0.mk (Kd.N_lower ho38 (below_size (xs HB)))
    replace HB := xS HB hb
    clear HO1244
    clear HO1247
    clear hb ho38
    refine hK.out _ _ trivial (fun hHeld => ?_)
    clear hK K
    refine xN 8 ?_
    refine yP 5 (some 1) (b 6 63) ?_
    refine done_ (by kernel_rfl) ?_
    obtain ⟨Ao39, co39, eo39⟩ := Kd.N_slice HO1250.out
    subst eo39
    try go_wp2_with (first | (refine xg Tryd.func53 (some 11) #[.slice Ao39 y1248.length co39, .int .i64 3] ?_; (with_reducible refine (dp_Choice.calls k _ _ y1248 3 t1251 true _ ?side1 ?side2 A3.out).mono ?_); (case side1 => repeat (exact (Kd.N_reads' HO1250.out).2.2)); (case side2 => exact (Kd.N_reads' HO1250.out).2.1); rintro e w40 ⟨v1253, rfl, ho0, hb⟩; refine ⟨_, rfl, ?_⟩; replace HO1250 := Aside0.mk (Kd.N_elder' (by exact HO1250.out) (Kd.R_base ho0) hb); have HO1254 := Aside0.mk (Kd.R_lower ho0 (below_size (xs HB))); replace HB := xS HB hb; clear hb ho0) | (go_at_call 54; (with_reducible refine (dp_Count.calls k _ _ y1248 t1255 _ ?side1 ?side2 A5.out).mono ?_); (case side1 => repeat (exact (Kd.N_reads' HO1250.out).2.2)); (case side2 => exact (Kd.N_reads' HO1250.out).2.1); rintro e w41 ⟨rfl, hb⟩; replace HO1250 := Aside0.mk (Kd.N_below (by exact HO1250.out) hb); replace HO1254 := xRb HO1254 hb; replace HB := xS HB hb; clear hb; obtain ⟨Ao42, co42, eo42⟩ := Kd.R_slice HO1254.out; subst eo42; have p1256 : 0 ≤ (0 : Int) := (by omega); have q1256 : 0 < (t1251.length : Int) := xa; obtain ⟨ad1256, e1256, hx1256_0⟩ := Kd.at_int (Kd.R_reads' HO1254.out).2.2 0 p1256 q1256; cases e1256; have qi1256 : (0 < t1251.length) = True := eq_true (by omega); (try rw [show (0 : Int).toNat = 0 from rfl] at hx1256_0); (try rw [Addr.add_zero'] at hx1256_0); replace p1256 := eq_true p1256; replace q1256 := eq_true q1256))
    go_ret
    exact ⟨xy, xs HB⟩
   have c7b0 := beq_eq_false_iff_ne.mpr c7
   have c7b1 := bne_iff_ne.mpr c7
   obtain rfl := Option.some.inj H
   go_enter Tryd.func29, Tryd.ntmps29
   try go_wp2
   replace HB := xW HB
   refine start_ (n := 6) (S := fun w' => True) (ds := []) (b 6 0) (by kernel_rfl) rfl rfl trivial (fun hHeld => ?_)
   generalize w.drew = w43 at HB hHeld ⊢
   refine join_ (σ := Value × Value) 2 #[true, true, true, true, false, false] (fun s_ => [(4, s_.1), (6, s_.2), (5, .agg #[.int .i64 0, .int .i64 0, s_.1]), (7, .agg #[.int .i64 0, .int .i64 0, s_.2])]) (fun s_ w' => (Kd.R k54 54 w' w.heap.size (fun k_ => some k_ ≠ (s_.2 : Value).ownBlock) s_.1 y1242) ∧ (Kd.R k54 54 w' w.heap.size (fun k_ => some k_ ≠ (s_.1 : Value).ownBlock) s_.2 y1245) ∧ (Below w.heap.size w w')) ?_ ?_
   rotate_left
   ·intro hCont
    refine two_ (i := 0) (j := 2) (Ni := some 4) (Nj := some 6) #[true, false, false, false, false, false] #[false, false, true, false, false, false] rfl rfl rfl rfl (by kernel_rfl) (by decide) (by decide) (fun K hK => ?_) (fun K hK => ?_)
    ·skip
     refine Kd.R_make_step k54 _ 54 (by rfl) (N := 4) rfl 48 _ _ rfl 2 rfl rfl Tryd.underlying48 (.agg #[(.bool false), (.string ⟨#[]⟩), (.string ⟨#[]⟩), (.int .i64 0)]) 48 info54 rfl (by decide) (by omega) z54 (ok := fun _ => True) (okp := fun _ => True) (k54_mkM _ _ _ z54 ) (fun _ hk => hk) trivial (by omega) (by omega) (Below.refl _ _) (Nat.le_refl _) ?_
     intro v1243 w44 ho45 hb hg_ hnew_
     clear hg_ hnew_
     simp only [Int.reduceToNat] at ho45; rw [← Ny1242.out] at ho45
     have HO1244 := Aside0.mk (Kd.R_lower ho45 (below_size (xs HB)))
     replace HB := xS HB hb
     clear hb ho45
     obtain ⟨Ao46, co46, eo46⟩ := Kd.R_slice HO1244.out
     subst eo46
     refine hK.out _ _ trivial (fun hHeld => ?_)
     clear hK K
     refine xN 4 ?_
     refine yP 1 (some 5) (b 6 3) ?_
     refine yO 2 (some 6) (b 6 7) fun K hK => ?_
     refine Kd.R_make_step k54 _ 54 (by rfl) (N := 6) rfl 48 _ _ rfl 3 rfl rfl Tryd.underlying48 (.agg #[(.bool false), (.string ⟨#[]⟩), (.string ⟨#[]⟩), (.int .i64 0)]) 48 info54 rfl (by decide) (by omega) z54 (ok := fun _ => True) (okp := fun _ => True) (k54_mkM _ _ _ z54 ) (fun _ hk => hk) trivial (by omega) (by omega) (Below.refl _ _) (Nat.le_refl _) ?_
     intro v1246 w47 ho48 hb hg_ hnew_
     clear hg_ hnew_
     simp only [Int.reduceToNat] at ho48; rw [← Ny1245.out] at ho48
     have HO1247 := Aside0.mk (Kd.R_lower (Kd.R_new' ho48 (Kd.R_lt (xr HO1244.out))) (below_size (xs HB)))
     replace HO1244 := Aside0.mk (Kd.R_elder' (xr HO1244.out) (Kd.R_base ho48) hb)
     replace HB := xS HB hb
     clear hb ho48
     obtain ⟨Ao49, co49, eo49⟩ := Kd.R_slice HO1247.out
     subst eo49
     refine hK.out _ _ trivial (fun hHeld => ?_)
     clear hK K
     refine xN 6 ?_
     refine yP 3 (some 7) (b 6 15) ?_
     exact norm_ (by simp only [putAll, Act.put, List.setIfInBounds_toArray, List.set_cons_zero, List.set_cons_succ]) (hCont (.slice Ao46 y1242.length co46, .slice Ao49 y1245.length co49) _ ⟨(by exact Kd.R_mono HO1244.out (fun _ hk => hk.2)), (by exact Kd.R_mono HO1247.out (fun _ hk => hk.2)), (xs HB)⟩)
    ·skip
     refine Kd.R_make_step k54 _ 54 (by rfl) (N := 6) rfl 48 _ _ rfl 3 rfl rfl Tryd.underlying48 (.agg #[(.bool false), (.string ⟨#[]⟩), (.string ⟨#[]⟩), (.int .i64 0)]) 48 info54 rfl (by decide) (by omega) z54 (ok := fun _ => True) (okp := fun _ => True) (k54_mkM _ _ _ z54 ) (fun _ hk => hk) trivial (by omega) (by omega) (Below.refl _ _) (Nat.le_refl _) ?_
     intro v1246 w44 ho45 hb hg_ hnew_
     clear hg_ hnew_
     simp only [Int.reduceToNat] at ho45; rw [← Ny1245.out] at ho45
     have HO1247 := Aside0.mk (Kd.R_lower ho45 (below_size (xs HB)))
     replace HB := xS HB hb
     clear hb ho45
     obtain ⟨Ao46, co46, eo46⟩ := Kd.R_slice HO1247.out
     subst eo46
     refine hK.out _ _ trivial (fun hHeld => ?_)
     clear hK K
     refine xN 6 ?_
     refine yP 3 (some 7) (b 6 12) ?_
     refine yO 0 (some 4) (b 6 13) fun K hK => ?_
     refine Kd.R_make_step k54 _ 54 (by rfl) (N := 4) rfl 48 _ _ rfl 2 rfl rfl Tryd.underlying48 (.agg #[(.bool false), (.string ⟨#[]⟩), (.string ⟨#[]⟩), (.int .i64 0)]) 48 info54 rfl (by decide) (by omega) z54 (ok := fun _ => True) (okp := fun _ => True) (k54_mkM _ _ _ z54 ) (fun _ hk => hk) trivial (by omega) (by omega) (Below.refl _ _) (Nat.le_refl _) ?_
     intro v1243 w47 ho48 hb hg_ hnew_
     clear hg_ hnew_
     simp only [Int.reduceToNat] at ho48; rw [← Ny1242.out] at ho48
     have HO1244 := Aside0.mk (Kd.R_lower (Kd.R_new' ho48 (Kd.R_lt (xr HO1247.out))) (below_size (xs HB)))
     replace HO1247 := Aside0.mk (Kd.R_elder' (xr HO1247.out) (Kd.R_base ho48) hb)
     replace HB := xS HB hb
     clear hb ho48
     obtain ⟨Ao49, co49, eo49⟩ := Kd.R_slice HO1244.out
     subst eo49
     refine hK.out _ _ trivial (fun hHeld => ?_)
     clear hK K
     refine xN 4 ?_
     refine yP 1 (some 5) (b 6 15) ?_
     exact norm_ (by simp only [putAll, Act.put, List.setIfInBounds_toArray, List.set_cons_zero, List.set_cons_succ]) (hCont (.slice Ao49 y1242.length co49, .slice Ao46 y1245.length co46) _ ⟨(by exact Kd.R_mono HO1244.out (fun _ hk => hk.2)), (by exact Kd.R_mono HO1247.out (fun _ hk => hk.2)), (xs HB)⟩)
   rintro ⟨v1243, v1246⟩ w50 ⟨h0_, h1_, h2_⟩
   have n0_ : Aside0 (Kd.R k54 54 w50 w.heap.size (fun k_ => some k_ ≠ (v1246 : Value).ownBlock) v1243 y1242) := ⟨h0_⟩
   have n1_ : Aside0 (Kd.R k54 54 w50 w.heap.size (fun k_ => some k_ ≠ (v1243 : Value).ownBlock) v1246 y1245) := ⟨h1_⟩
   have n2_ : Aside0 (Below w.heap.size w w50) := ⟨h2_⟩
   clear HB
   clear h0_ h1_ h2_
   have HO1244 := n0_
   have HO1247 := n1_
   have HB := n2_
   clear n0_ n1_ n2_
   have hHeld := trivial
   obtain ⟨Ao51, co51, eo51⟩ := Kd.R_slice HO1244.out
   subst eo51
   obtain ⟨Ao52, co52, eo52⟩ := Kd.R_slice HO1247.out
   subst eo52
   refine norm_ (a' := ?_) ?_ ?_
   rotate_left
   ·simp only [putAll, Act.put, List.setIfInBounds_toArray, List.set_cons_zero, List.set_cons_succ]
    rfl
   refine yO 4 (some 8) (b 6 31) fun K hK => ?_
   refine Kd.N_lit_step k50 _ 50 ?hg (N' := 8) ?hd (xs := ([(⟨(⟨0, 0⟩ : S47), y1242⟩ : S50), (⟨(⟨0, 0⟩ : S47), y1245⟩ : S50)] : List (S50))) (inner := [.int .i64 0, .int .i64 0, .slice Ao51 y1242.length co51, .int .i64 0, .int .i64 0, .slice Ao52 y1245.length co52]) (ok := (fun _ => True)) (okp := (fun _ => True)) ?hr ?hp (fun _ hk => hk) ((show ∀ k_, w50.heap.size ≤ k_ → (fun _ => True) k_ from fun k_ hk => trivial) _ (Nat.le_refl _)) (Below.refl _ _) (Nat.le_refl _) (by simp) ?_; (case hd => rfl); (case hg => rfl); (case hr => (go_simp; done)); (case hp => exact (Reps.c3 (show Kd.FK k50 _ _ (⟨(⟨0, 0⟩ : S47), y1242⟩ : S50) [.int .i64 0, .int .i64 0, .slice Ao51 y1242.length co51] from (k50_mkF _ _ (⟨(⟨0, 0⟩ : S47), y1242⟩ : S50) (Kd.R_reads' (Kd.R_mono (ok' := (fun _ => True)) (HO1244.out) (fun k_ hk => trivial))).2.1 (Kd.R_F (Kd.R_mono (ok' := (fun _ => True)) (HO1244.out) (fun k_ hk => trivial))))) (Reps.c3 (show Kd.FK k50 _ _ (⟨(⟨0, 0⟩ : S47), y1245⟩ : S50) [.int .i64 0, .int .i64 0, .slice Ao52 y1245.length co52] from (k50_mkF _ _ (⟨(⟨0, 0⟩ : S47), y1245⟩ : S50) (Kd.R_reads' (Kd.R_mono (ok' := (fun _ => True)) (HO1247.out) (fun k_ hk => trivial))).2.1 (Kd.R_F (Kd.R_mono (ok' := (fun _ => True)) (HO1247.out) (fun k_ hk => trivial))))) (Reps.none _ _))))
   intro v1249 w53 ho54 hb hg_ hnew_
   clear hg_ hnew_
   rw [← Ny1248.out] at ho54
   have HO1250 := Aside0.mk (Kd.N_lower ho54 (below_size (xs HB)))
   replace HB := xS HB hb
   clear HO1244
   clear HO1247
   clear hb ho54
   refine hK.out _ _ trivial (fun hHeld => ?_)
   clear hK K
   refine xN 8 ?_
   refine yP 5 (some 1) (b 6 63) ?_
   refine done_ (by kernel_rfl) ?_
   obtain ⟨Ao55, co55, eo55⟩ := Kd.N_slice HO1250.out
   subst eo55
   try go_wp2_with (first | (refine xg Tryd.func53 (some 11) #[.slice Ao55 y1248.length co55, .int .i64 3] ?_; (with_reducible refine (dp_Choice.calls k _ _ y1248 3 t1251 true _ ?side1 ?side2 A3.out).mono ?_); (case side1 => repeat (exact (Kd.N_reads' HO1250.out).2.2)); (case side2 => exact (Kd.N_reads' HO1250.out).2.1); rintro e w56 ⟨v1253, rfl, ho0, hb⟩; refine ⟨_, rfl, ?_⟩; replace HO1250 := Aside0.mk (Kd.N_elder' (by exact HO1250.out) (Kd.R_base ho0) hb); have HO1254 := Aside0.mk (Kd.R_lower ho0 (below_size (xs HB))); replace HB := xS HB hb; clear hb ho0) | (go_at_call 54; (with_reducible refine (dp_Count.calls k _ _ y1248 t1255 _ ?side1 ?side2 A5.out).mono ?_); (case side1 => repeat (exact (Kd.N_reads' HO1250.out).2.2)); (case side2 => exact (Kd.N_reads' HO1250.out).2.1); rintro e w57 ⟨rfl, hb⟩; replace HO1250 := Aside0.mk (Kd.N_below (by exact HO1250.out) hb); replace HO1254 := xRb HO1254 hb; replace HB := xS HB hb; clear hb; obtain ⟨Ao58, co58, eo58⟩ := Kd.R_slice HO1254.out; subst eo58))
   go_ret
   exact ⟨xy, xs HB⟩
  have c6b0 := beq_eq_false_iff_ne.mpr c6
  have c6b1 := bne_iff_ne.mpr c6
  obtain rfl := Option.some.inj H
  go_enter Tryd.func29, Tryd.ntmps29
  try go_wp2
  replace HB := xW HB
  refine start_ (n := 6) (S := fun w' => True) (ds := []) (b 6 0) (by kernel_rfl) rfl rfl trivial (fun hHeld => ?_)
  generalize w.drew = w59 at HB hHeld ⊢
  refine join_ (σ := Value × Value) 2 #[true, true, true, true, false, false] (fun s_ => [(4, s_.1), (6, s_.2), (5, .agg #[.int .i64 0, .int .i64 0, s_.1]), (7, .agg #[.int .i64 0, .int .i64 0, s_.2])]) (fun s_ w' => (Kd.R k54 54 w' w.heap.size (fun k_ => some k_ ≠ (s_.2 : Value).ownBlock) s_.1 y1242) ∧ (Kd.R k54 54 w' w.heap.size (fun k_ => some k_ ≠ (s_.1 : Value).ownBlock) s_.2 y1245) ∧ (Below w.heap.size w w')) ?_ ?_
  rotate_left
  ·intro hCont
   refine two_ (i := 0) (j := 2) (Ni := some 4) (Nj := some 6) #[true, false, false, false, false, false] #[false, false, true, false, false, false] rfl rfl rfl rfl (by kernel_rfl) (by decide) (by decide) (fun K hK => ?_) (fun K hK => ?_)
   ·skip
    refine Kd.R_make_step k54 _ 54 (by rfl) (N := 4) rfl 48 _ _ rfl 2 rfl rfl Tryd.underlying48 (.agg #[(.bool false), (.string ⟨#[]⟩), (.string ⟨#[]⟩), (.int .i64 0)]) 48 info54 rfl (by decide) (by omega) z54 (ok := fun _ => True) (okp := fun _ => True) (k54_mkM _ _ _ z54 ) (fun _ hk => hk) trivial (by omega) (by omega) (Below.refl _ _) (Nat.le_refl _) ?_
    intro v1243 w60 ho61 hb hg_ hnew_
    clear hg_ hnew_
    simp only [Int.reduceToNat] at ho61; rw [← Ny1242.out] at ho61
    have HO1244 := Aside0.mk (Kd.R_lower ho61 (below_size (xs HB)))
    replace HB := xS HB hb
    clear hb ho61
    obtain ⟨Ao62, co62, eo62⟩ := Kd.R_slice HO1244.out
    subst eo62
    refine hK.out _ _ trivial (fun hHeld => ?_)
    clear hK K
    refine xN 4 ?_
    refine yP 1 (some 5) (b 6 3) ?_
    refine yO 2 (some 6) (b 6 7) fun K hK => ?_
    refine Kd.R_make_step k54 _ 54 (by rfl) (N := 6) rfl 48 _ _ rfl 3 rfl rfl Tryd.underlying48 (.agg #[(.bool false), (.string ⟨#[]⟩), (.string ⟨#[]⟩), (.int .i64 0)]) 48 info54 rfl (by decide) (by omega) z54 (ok := fun _ => True) (okp := fun _ => True) (k54_mkM _ _ _ z54 ) (fun _ hk => hk) trivial (by omega) (by omega) (Below.refl _ _) (Nat.le_refl _) ?_
    intro v1246 w63 ho64 hb hg_ hnew_
    clear hg_ hnew_
    simp only [Int.reduceToNat] at ho64; rw [← Ny1245.out] at ho64
    have HO1247 := Aside0.mk (Kd.R_lower (Kd.R_new' ho64 (Kd.R_lt (xr HO1244.out))) (below_size (xs HB)))
    replace HO1244 := Aside0.mk (Kd.R_elder' (xr HO1244.out) (Kd.R_base ho64) hb)
    replace HB := xS HB hb
    clear hb ho64
    obtain ⟨Ao65, co65, eo65⟩ := Kd.R_slice HO1247.out
    subst eo65
    refine hK.out _ _ trivial (fun hHeld => ?_)
    clear hK K
    refine xN 6 ?_
    refine yP 3 (some 7) (b 6 15) ?_
    exact norm_ (by simp only [putAll, Act.put, List.setIfInBounds_toArray, List.set_cons_zero, List.set_cons_succ]) (hCont (.slice Ao62 y1242.length co62, .slice Ao65 y1245.length co65) _ ⟨(by exact Kd.R_mono HO1244.out (fun _ hk => hk.2)), (by exact Kd.R_mono HO1247.out (fun _ hk => hk.2)), (xs HB)⟩)
   ·skip
    refine Kd.R_make_step k54 _ 54 (by rfl) (N := 6) rfl 48 _ _ rfl 3 rfl rfl Tryd.underlying48 (.agg #[(.bool false), (.string ⟨#[]⟩), (.string ⟨#[]⟩), (.int .i64 0)]) 48 info54 rfl (by decide) (by omega) z54 (ok := fun _ => True) (okp := fun _ => True) (k54_mkM _ _ _ z54 ) (fun _ hk => hk) trivial (by omega) (by omega) (Below.refl _ _) (Nat.le_refl _) ?_
    intro v1246 w60 ho61 hb hg_ hnew_
    clear hg_ hnew_
    simp only [Int.reduceToNat] at ho61; rw [← Ny1245.out] at ho61
    have HO1247 := Aside0.mk (Kd.R_lower ho61 (below_size (xs HB)))
    replace HB := xS HB hb
    clear hb ho61
    obtain ⟨Ao62, co62, eo62⟩ := Kd.R_slice HO1247.out
    subst eo62
    refine hK.out _ _ trivial (fun hHeld => ?_)
    clear hK K
    refine xN 6 ?_
    refine yP 3 (some 7) (b 6 12) ?_
    refine yO 0 (some 4) (b 6 13) fun K hK => ?_
    refine Kd.R_make_step k54 _ 54 (by rfl) (N := 4) rfl 48 _ _ rfl 2 rfl rfl Tryd.underlying48 (.agg #[(.bool false), (.string ⟨#[]⟩), (.string ⟨#[]⟩), (.int .i64 0)]) 48 info54 rfl (by decide) (by omega) z54 (ok := fun _ => True) (okp := fun _ => True) (k54_mkM _ _ _ z54 ) (fun _ hk => hk) trivial (by omega) (by omega) (Below.refl _ _) (Nat.le_refl _) ?_
    intro v1243 w63 ho64 hb hg_ hnew_
    clear hg_ hnew_
    simp only [Int.reduceToNat] at ho64; rw [← Ny1242.out] at ho64
    have HO1244 := Aside0.mk (Kd.R_lower (Kd.R_new' ho64 (Kd.R_lt (xr HO1247.out))) (below_size (xs HB)))
    replace HO1247 := Aside0.mk (Kd.R_elder' (xr HO1247.out) (Kd.R_base ho64) hb)
    replace HB := xS HB hb
    clear hb ho64
    obtain ⟨Ao65, co65, eo65⟩ := Kd.R_slice HO1244.out
    subst eo65
    refine hK.out _ _ trivial (fun hHeld => ?_)
    clear hK K
    refine xN 4 ?_
    refine yP 1 (some 5) (b 6 15) ?_
    exact norm_ (by simp only [putAll, Act.put, List.setIfInBounds_toArray, List.set_cons_zero, List.set_cons_succ]) (hCont (.slice Ao65 y1242.length co65, .slice Ao62 y1245.length co62) _ ⟨(by exact Kd.R_mono HO1244.out (fun _ hk => hk.2)), (by exact Kd.R_mono HO1247.out (fun _ hk => hk.2)), (xs HB)⟩)
  rintro ⟨v1243, v1246⟩ w66 ⟨h0_, h1_, h2_⟩
  have n0_ : Aside0 (Kd.R k54 54 w66 w.heap.size (fun k_ => some k_ ≠ (v1246 : Value).ownBlock) v1243 y1242) := ⟨h0_⟩
  have n1_ : Aside0 (Kd.R k54 54 w66 w.heap.size (fun k_ => some k_ ≠ (v1243 : Value).ownBlock) v1246 y1245) := ⟨h1_⟩
  have n2_ : Aside0 (Below w.heap.size w w66) := ⟨h2_⟩
  clear HB
  clear h0_ h1_ h2_
  have HO1244 := n0_
  have HO1247 := n1_
  have HB := n2_
  clear n0_ n1_ n2_
  have hHeld := trivial
  obtain ⟨Ao67, co67, eo67⟩ := Kd.R_slice HO1244.out
  subst eo67
  obtain ⟨Ao68, co68, eo68⟩ := Kd.R_slice HO1247.out
  subst eo68
  refine norm_ (a' := ?_) ?_ ?_
  rotate_left
  ·simp only [putAll, Act.put, List.setIfInBounds_toArray, List.set_cons_zero, List.set_cons_succ]
   rfl
  refine yO 4 (some 8) (b 6 31) fun K hK => ?_
  refine Kd.N_lit_step k50 _ 50 ?hg (N' := 8) ?hd (xs := ([(⟨(⟨0, 0⟩ : S47), y1242⟩ : S50), (⟨(⟨0, 0⟩ : S47), y1245⟩ : S50)] : List (S50))) (inner := [.int .i64 0, .int .i64 0, .slice Ao67 y1242.length co67, .int .i64 0, .int .i64 0, .slice Ao68 y1245.length co68]) (ok := (fun _ => True)) (okp := (fun _ => True)) ?hr ?hp (fun _ hk => hk) ((show ∀ k_, w66.heap.size ≤ k_ → (fun _ => True) k_ from fun k_ hk => trivial) _ (Nat.le_refl _)) (Below.refl _ _) (Nat.le_refl _) (by simp) ?_; (case hd => rfl); (case hg => rfl); (case hr => (go_simp; done)); (case hp => exact (Reps.c3 (show Kd.FK k50 _ _ (⟨(⟨0, 0⟩ : S47), y1242⟩ : S50) [.int .i64 0, .int .i64 0, .slice Ao67 y1242.length co67] from (k50_mkF _ _ (⟨(⟨0, 0⟩ : S47), y1242⟩ : S50) (Kd.R_reads' (Kd.R_mono (ok' := (fun _ => True)) (HO1244.out) (fun k_ hk => trivial))).2.1 (Kd.R_F (Kd.R_mono (ok' := (fun _ => True)) (HO1244.out) (fun k_ hk => trivial))))) (Reps.c3 (show Kd.FK k50 _ _ (⟨(⟨0, 0⟩ : S47), y1245⟩ : S50) [.int .i64 0, .int .i64 0, .slice Ao68 y1245.length co68] from (k50_mkF _ _ (⟨(⟨0, 0⟩ : S47), y1245⟩ : S50) (Kd.R_reads' (Kd.R_mono (ok' := (fun _ => True)) (HO1247.out) (fun k_ hk => trivial))).2.1 (Kd.R_F (Kd.R_mono (ok' := (fun _ => True)) (HO1247.out) (fun k_ hk => trivial))))) (Reps.none _ _))))
  intro v1249 w69 ho70 hb hg_ hnew_
  clear hg_ hnew_
  rw [← Ny1248.out] at ho70
  have HO1250 := Aside0.mk (Kd.N_lower ho70 (below_size (xs HB)))
  replace HB := xS HB hb
  clear HO1244
  clear HO1247
  clear hb ho70
  refine hK.out _ _ trivial (fun hHeld => ?_)
  clear hK K
  refine xN 8 ?_
  refine yP 5 (some 1) (b 6 63) ?_
  refine done_ (by kernel_rfl) ?_
  obtain ⟨Ao71, co71, eo71⟩ := Kd.N_slice HO1250.out
  subst eo71
  try go_wp2_with (first | (refine xg Tryd.func53 (some 11) #[.slice Ao71 y1248.length co71, .int .i64 3] ?_; (with_reducible refine (dp_Choice.calls k _ _ y1248 3 t1251 true _ ?side1 ?side2 A3.out).mono ?_); (case side1 => repeat (exact (Kd.N_reads' HO1250.out).2.2)); (case side2 => exact (Kd.N_reads' HO1250.out).2.1); rintro e w72 ⟨v1253, rfl, ho0, hb⟩; refine ⟨_, rfl, ?_⟩; replace HO1250 := Aside0.mk (Kd.N_elder' (by exact HO1250.out) (Kd.R_base ho0) hb); have HO1254 := Aside0.mk (Kd.R_lower ho0 (below_size (xs HB))); replace HB := xS HB hb; clear hb ho0) | (go_at_call 54; (with_reducible refine (dp_Count.calls k _ _ y1248 t1255 _ ?side1 ?side2 A5.out).mono ?_); (case side1 => repeat (exact (Kd.N_reads' HO1250.out).2.2)); (case side2 => exact (Kd.N_reads' HO1250.out).2.1); rintro e w73 ⟨rfl, hb⟩; replace HO1250 := Aside0.mk (Kd.N_below (by exact HO1250.out) hb); replace HO1254 := xRb HO1254 hb; replace HB := xS HB hb; clear hb))
  go_ret
  exact ⟨xy, xs HB⟩
 replace c4 := Bool.eq_false_iff.mpr c4
 subst c4
 have H1 : (some false) = some r := by rw [if_neg (show ¬ (false = true) by decide)] at H; exact H
 clear H
 have H := H1
 clear H1
 obtain rfl := Option.some.inj H
 go_enter Tryd.func29, Tryd.ntmps29
 try go_wp2
 replace HB := xW HB
 refine start_ (n := 6) (S := fun w' => True) (ds := []) (b 6 0) (by kernel_rfl) rfl rfl trivial (fun hHeld => ?_)
 generalize w.drew = w74 at HB hHeld ⊢
 refine join_ (σ := Value × Value) 2 #[true, true, true, true, false, false] (fun s_ => [(4, s_.1), (6, s_.2), (5, .agg #[.int .i64 0, .int .i64 0, s_.1]), (7, .agg #[.int .i64 0, .int .i64 0, s_.2])]) (fun s_ w' => (Kd.R k54 54 w' w.heap.size (fun k_ => some k_ ≠ (s_.2 : Value).ownBlock) s_.1 y1242) ∧ (Kd.R k54 54 w' w.heap.size (fun k_ => some k_ ≠ (s_.1 : Value).ownBlock) s_.2 y1245) ∧ (Below w.heap.size w w')) ?_ ?_
 rotate_left
 ·intro hCont
  refine two_ (i := 0) (j := 2) (Ni := some 4) (Nj := some 6) #[true, false, false, false, false, false] #[false, false, true, false, false, false] rfl rfl rfl rfl (by kernel_rfl) (by decide) (by decide) (fun K hK => ?_) (fun K hK => ?_)
  ·skip
   refine Kd.R_make_step k54 _ 54 (by rfl) (N := 4) rfl 48 _ _ rfl 2 rfl rfl Tryd.underlying48 (.agg #[(.bool false), (.string ⟨#[]⟩), (.string ⟨#[]⟩), (.int .i64 0)]) 48 info54 rfl (by decide) (by omega) z54 (ok := fun _ => True) (okp := fun _ => True) (k54_mkM _ _ _ z54 ) (fun _ hk => hk) trivial (by omega) (by omega) (Below.refl _ _) (Nat.le_refl _) ?_
   intro v1243 w75 ho76 hb hg_ hnew_
   clear hg_ hnew_
   simp only [Int.reduceToNat] at ho76; rw [← Ny1242.out] at ho76
   have HO1244 := Aside0.mk (Kd.R_lower ho76 (below_size (xs HB)))
   replace HB := xS HB hb
   clear hb ho76
   obtain ⟨Ao77, co77, eo77⟩ := Kd.R_slice HO1244.out
   subst eo77
   refine hK.out _ _ trivial (fun hHeld => ?_)
   clear hK K
   refine xN 4 ?_
   refine yP 1 (some 5) (b 6 3) ?_
   refine yO 2 (some 6) (b 6 7) fun K hK => ?_
   refine Kd.R_make_step k54 _ 54 (by rfl) (N := 6) rfl 48 _ _ rfl 3 rfl rfl Tryd.underlying48 (.agg #[(.bool false), (.string ⟨#[]⟩), (.string ⟨#[]⟩), (.int .i64 0)]) 48 info54 rfl (by decide) (by omega) z54 (ok := fun _ => True) (okp := fun _ => True) (k54_mkM _ _ _ z54 ) (fun _ hk => hk) trivial (by omega) (by omega) (Below.refl _ _) (Nat.le_refl _) ?_
   intro v1246 w78 ho79 hb hg_ hnew_
   clear hg_ hnew_
   simp only [Int.reduceToNat] at ho79; rw [← Ny1245.out] at ho79
   have HO1247 := Aside0.mk (Kd.R_lower (Kd.R_new' ho79 (Kd.R_lt (xr HO1244.out))) (below_size (xs HB)))
   replace HO1244 := Aside0.mk (Kd.R_elder' (xr HO1244.out) (Kd.R_base ho79) hb)
   replace HB := xS HB hb
   clear hb ho79
   obtain ⟨Ao80, co80, eo80⟩ := Kd.R_slice HO1247.out
   subst eo80
   refine hK.out _ _ trivial (fun hHeld => ?_)
   clear hK K
   refine xN 6 ?_
   refine yP 3 (some 7) (b 6 15) ?_
   exact norm_ (by simp only [putAll, Act.put, List.setIfInBounds_toArray, List.set_cons_zero, List.set_cons_succ]) (hCont (.slice Ao77 y1242.length co77, .slice Ao80 y1245.length co80) _ ⟨(by exact Kd.R_mono HO1244.out (fun _ hk => hk.2)), (by exact Kd.R_mono HO1247.out (fun _ hk => hk.2)), (xs HB)⟩)
  ·skip
   refine Kd.R_make_step k54 _ 54 (by rfl) (N := 6) rfl 48 _ _ rfl 3 rfl rfl Tryd.underlying48 (.agg #[(.bool false), (.string ⟨#[]⟩), (.string ⟨#[]⟩), (.int .i64 0)]) 48 info54 rfl (by decide) (by omega) z54 (ok := fun _ => True) (okp := fun _ => True) (k54_mkM _ _ _ z54 ) (fun _ hk => hk) trivial (by omega) (by omega) (Below.refl _ _) (Nat.le_refl _) ?_
   intro v1246 w75 ho76 hb hg_ hnew_
   clear hg_ hnew_
   simp only [Int.reduceToNat] at ho76; rw [← Ny1245.out] at ho76
   have HO1247 := Aside0.mk (Kd.R_lower ho76 (below_size (xs HB)))
   replace HB := xS HB hb
   clear hb ho76
   obtain ⟨Ao77, co77, eo77⟩ := Kd.R_slice HO1247.out
   subst eo77
   refine hK.out _ _ trivial (fun hHeld => ?_)
   clear hK K
   refine xN 6 ?_
   refine yP 3 (some 7) (b 6 12) ?_
   refine yO 0 (some 4) (b 6 13) fun K hK => ?_
   refine Kd.R_make_step k54 _ 54 (by rfl) (N := 4) rfl 48 _ _ rfl 2 rfl rfl Tryd.underlying48 (.agg #[(.bool false), (.string ⟨#[]⟩), (.string ⟨#[]⟩), (.int .i64 0)]) 48 info54 rfl (by decide) (by omega) z54 (ok := fun _ => True) (okp := fun _ => True) (k54_mkM _ _ _ z54 ) (fun _ hk => hk) trivial (by omega) (by omega) (Below.refl _ _) (Nat.le_refl _) ?_
   intro v1243 w78 ho79 hb hg_ hnew_
   clear hg_ hnew_
   simp only [Int.reduceToNat] at ho79; rw [← Ny1242.out] at ho79
   have HO1244 := Aside0.mk (Kd.R_lower (Kd.R_new' ho79 (Kd.R_lt (xr HO1247.out))) (below_size (xs HB)))
   replace HO1247 := Aside0.mk (Kd.R_elder' (xr HO1247.out) (Kd.R_base ho79) hb)
   replace HB := xS HB hb
   clear hb ho79
   obtain ⟨Ao80, co80, eo80⟩ := Kd.R_slice HO1244.out
   subst eo80
   refine hK.out _ _ trivial (fun hHeld => ?_)
   clear hK K
   refine xN 4 ?_
   refine yP 1 (some 5) (b 6 15) ?_
   exact norm_ (by simp only [putAll, Act.put, List.setIfInBounds_toArray, List.set_cons_zero, List.set_cons_succ]) (hCont (.slice Ao80 y1242.length co80, .slice Ao77 y1245.length co77) _ ⟨(by exact Kd.R_mono HO1244.out (fun _ hk => hk.2)), (by exact Kd.R_mono HO1247.out (fun _ hk => hk.2)), (xs HB)⟩)
 rintro ⟨v1243, v1246⟩ w81 ⟨h0_, h1_, h2_⟩
 have n0_ : Aside0 (Kd.R k54 54 w81 w.heap.size (fun k_ => some k_ ≠ (v1246 : Value).ownBlock) v1243 y1242) := ⟨h0_⟩
 have n1_ : Aside0 (Kd.R k54 54 w81 w.heap.size (fun k_ => some k_ ≠ (v1243 : Value).ownBlock) v1246 y1245) := ⟨h1_⟩
 have n2_ : Aside0 (Below w.heap.size w w81) := ⟨h2_⟩
 clear HB
 clear h0_ h1_ h2_
 have HO1244 := n0_
 have HO1247 := n1_
 have HB := n2_
 clear n0_ n1_ n2_
 have hHeld := trivial
 obtain ⟨Ao82, co82, eo82⟩ := Kd.R_slice HO1244.out
 subst eo82
 obtain ⟨Ao83, co83, eo83⟩ := Kd.R_slice HO1247.out
 subst eo83
 refine norm_ (a' := ?_) ?_ ?_
 rotate_left
 ·simp only [putAll, Act.put, List.setIfInBounds_toArray, List.set_cons_zero, List.set_cons_succ]
  rfl
 refine yO 4 (some 8) (b 6 31) fun K hK => ?_
 refine Kd.N_lit_step k50 _ 50 ?hg (N' := 8) ?hd (xs := ([(⟨(⟨0, 0⟩ : S47), y1242⟩ : S50), (⟨(⟨0, 0⟩ : S47), y1245⟩ : S50)] : List (S50))) (inner := [.int .i64 0, .int .i64 0, .slice Ao82 y1242.length co82, .int .i64 0, .int .i64 0, .slice Ao83 y1245.length co83]) (ok := (fun _ => True)) (okp := (fun _ => True)) ?hr ?hp (fun _ hk => hk) ((show ∀ k_, w81.heap.size ≤ k_ → (fun _ => True) k_ from fun k_ hk => trivial) _ (Nat.le_refl _)) (Below.refl _ _) (Nat.le_refl _) (by simp) ?_; (case hd => rfl); (case hg => rfl); (case hr => (go_simp; done)); (case hp => exact (Reps.c3 (show Kd.FK k50 _ _ (⟨(⟨0, 0⟩ : S47), y1242⟩ : S50) [.int .i64 0, .int .i64 0, .slice Ao82 y1242.length co82] from (k50_mkF _ _ (⟨(⟨0, 0⟩ : S47), y1242⟩ : S50) (Kd.R_reads' (Kd.R_mono (ok' := (fun _ => True)) (HO1244.out) (fun k_ hk => trivial))).2.1 (Kd.R_F (Kd.R_mono (ok' := (fun _ => True)) (HO1244.out) (fun k_ hk => trivial))))) (Reps.c3 (show Kd.FK k50 _ _ (⟨(⟨0, 0⟩ : S47), y1245⟩ : S50) [.int .i64 0, .int .i64 0, .slice Ao83 y1245.length co83] from (k50_mkF _ _ (⟨(⟨0, 0⟩ : S47), y1245⟩ : S50) (Kd.R_reads' (Kd.R_mono (ok' := (fun _ => True)) (HO1247.out) (fun k_ hk => trivial))).2.1 (Kd.R_F (Kd.R_mono (ok' := (fun _ => True)) (HO1247.out) (fun k_ hk => trivial))))) (Reps.none _ _))))
 intro v1249 w84 ho85 hb hg_ hnew_
 clear hg_ hnew_
 rw [← Ny1248.out] at ho85
 have HO1250 := Aside0.mk (Kd.N_lower ho85 (below_size (xs HB)))
 replace HB := xS HB hb
 clear HO1244
 clear HO1247
 clear hb ho85
 refine hK.out _ _ trivial (fun hHeld => ?_)
 clear hK K
 refine xN 8 ?_
 refine yP 5 (some 1) (b 6 63) ?_
 refine done_ (by kernel_rfl) ?_
 obtain ⟨Ao86, co86, eo86⟩ := Kd.N_slice HO1250.out
 subst eo86
 try go_wp2_with (refine xg Tryd.func53 (some 11) #[.slice Ao86 y1248.length co86, .int .i64 3] ?_; (with_reducible refine (dp_Choice.calls k _ _ y1248 3 t1251 false _ ?side1 ?side2 A3.out).mono ?_); (case side1 => repeat (exact (Kd.N_reads' HO1250.out).2.2)); (case side2 => exact (Kd.N_reads' HO1250.out).2.1); rintro e w87 ⟨v1253, rfl, ho0, hb⟩; refine ⟨_, rfl, ?_⟩; replace HO1250 := Aside0.mk (Kd.N_elder' (by exact HO1250.out) (Kd.R_base ho0) hb); have HO1254 := Aside0.mk (Kd.R_lower ho0 (below_size (xs HB))); replace HB := xS HB hb; clear hb ho0)
 go_ret
 exact ⟨xy, xs HB⟩
/-! ### dp_clean: function 55 -/
def dp_clean.f (k : Nat) (a0_0 : Bool) (a0_1 : ByteArray) (a0_2 : ByteArray) : Option (Bool × ByteArray × ByteArray) := (rt_Add.f k a0_0 a0_1 a0_2 false (⟨#[]⟩ : ByteArray) (⟨#[]⟩ : ByteArray)).bind fun bt1260 => (some (bt1260.1, bt1260.2.1, bt1260.2.2))
theorem dp_clean.mono : ∀ a0 a1 a2 k, LeO (dp_clean.f k a0 a1 a2) (dp_clean.f (k + 1) a0 a1 a2) := by
 intro a0 a1 a2 k
 unfold dp_clean.f
 have m0 := @rt_Add.mono; exact xM
theorem dp_clean.calls (k : Nat) (a0_0 : Bool) (a0_1 : ByteArray) (a0_2 : ByteArray) (r1 : Bool) (r2 : ByteArray) (r3 : ByteArray) (w : World) (h : dp_clean.f k a0_0 a0_1 a0_2 = some (r1, r2, r3)) :
  Calls Tryd.prog 55 #[.agg #[.bool a0_0, .string a0_1, .string a0_2]] w fun e w' => e = .returned (.agg #[.bool r1, .string r2, .string r3]) ∧ Below w.heap.size w w' := by
 have hu25 := Tryd.underlying25
 have HB := Aside0.mk (Below.refl w.heap.size w)
 have H := h; clear h
 unfold dp_clean.f at H
 replace H := xH H; obtain ⟨⟨t1260, t1261, t1262⟩, A2, H⟩ := H
 dsimp only at H
 simp only [Option.some.injEq, Prod.mk.injEq] at H
 obtain ⟨rfl, rfl, rfl⟩ := H
 go_enter Tryd.func55, Tryd.ntmps55
 go_wp2_with (first | (refine xF (N := 1) #[.bool a0_0, .string a0_1, .string a0_2] 25 HB ?_; clear HB; intro gb1258 hg w3 hb BK1258 GW1258 HB; clear hb hg) | (refine xF (N := 2) #[.bool false, .string (⟨#[]⟩ : ByteArray), .string (⟨#[]⟩ : ByteArray)] 25 HB ?_; clear HB; intro gb1259 hg w4 hb BK1259 GW1259 HB; have NB1258_1259 := xL BK1258 hg; have NB1259_1258 := xR BK1258 hg; replace BK1258 := xB BK1258 hb; clear hb hg; have hnb5 := NB1258_1259.out; have hnc5 := NB1259_1258.out; obtain ⟨hcz6_0, hcz6_1, hcz6_2, hfz6_0, hfz6_1, hfz6_2⟩ := x6 BK1258) | (refine xC Tryd.func21 (some 5) (rt_Add.calls k a0_0 a0_1 a0_2 false (⟨#[]⟩ : ByteArray) (⟨#[]⟩ : ByteArray) t1260 t1261 t1262 _ A2.out) ?_; rintro w7 hb; replace BK1258 := xB BK1258 hb; replace BK1259 := xB BK1259 hb; replace HB := xS HB hb; clear hb; obtain ⟨hcz8_0, hcz8_1, hcz8_2, hfz8_0, hfz8_1, hfz8_2⟩ := x6 BK1259))
 refine bodyPost_ret (results_cell_row rfl _ _ gb1259 25 #[.bool t1260, .string t1261, .string t1262] (0, 0) _ rfl (xp BK1259) Tryd.underlying25 rfl (by kernel_rfl)) rfl ?_
 exact ⟨xy, xs HB⟩
/-! ### dp_Greatest: function 30 -/
def dp_Greatest.l0 : Nat → List (S54) → Int → Int → Bool → ByteArray → ByteArray → Int → Option (Bool × ByteArray × ByteArray × Int)
 | 0, _, _, _, _, _, _, _ => none
 | k + 1, x7, x8, x9, x1266000, x1266001, x1266002, x1266003 => if x9 < x8 then (if 0 ≤ x9 then (if x9 < (x7.length : Int) then (if x9 = 0 then ((dp_clean.f k ((rd_T54 x7 x9).f0.f0) ((rd_T54 x7 x9).f0.f1) ((rd_T54 x7 x9).f0.f2)).bind fun bt1268 => (dp_Greatest.l0 k x7 x8 (wrap64 (x9 + 1)) bt1268.1 bt1268.2.1 bt1268.2.2 ((rd_T54 x7 x9).f1))) else ((rt_Max.f k x1266000 x1266001 x1266002 ((rd_T54 x7 x9).f0.f0) ((rd_T54 x7 x9).f0.f1) ((rd_T54 x7 x9).f0.f2)).bind fun bt1271 => (dp_Greatest.l0 k x7 x8 (wrap64 (x9 + 1)) bt1271.1 bt1271.2.1 bt1271.2.2 (mn x1266003 ((rd_T54 x7 x9).f1))))) else (none)) else (none)) else (some (x1266000, x1266001, x1266002, x1266003))
def dp_Greatest.f (k : Nat) (a0_0 : Int) (a0_1 : Int) (l0_2 : List (S54)) : Option (Bool × ByteArray × ByteArray × Int) := dp_Greatest.l0 k l0_2 (l0_2.length : Int) 0 false (⟨#[]⟩ : ByteArray) (⟨#[]⟩ : ByteArray) 0
theorem dp_Greatest.mono_l : ∀ k, (∀ y0 y1 y2 y3 y4 y5 y6, LeO (dp_Greatest.l0 k y0 y1 y2 y3 y4 y5 y6) (dp_Greatest.l0 (k + 1) y0 y1 y2 y3 y4 y5 y6))
 | 0 => fun _ _ _ _ _ _ _ r h => by simp [dp_Greatest.l0] at h
 | k + 1 => by
  have ih0 := dp_Greatest.mono_l k
  ·intro y0 y1 y2 y3 y4 y5 y6
   unfold dp_Greatest.l0
   have m0 := @ih0; have m1 := @dp_clean.mono; have m2 := @rt_Max.mono; exact xM
theorem dp_Greatest.mono : ∀ a0 a1 a2 k, LeO (dp_Greatest.f k a0 a1 a2) (dp_Greatest.f (k + 1) a0 a1 a2) := by
 intro a0 a1 a2 k
 have ih0 := dp_Greatest.mono_l k
 unfold dp_Greatest.f
 have m0 := @ih0; have m1 := @dp_clean.mono; have m2 := @rt_Max.mono; exact xM
theorem dp_Greatest.calls (k : Nat) (a0_0 : Int) (a0_1 : Int) (A0_2 : Option Addr) (c0_2 : Nat) (l0_2 : List (S54)) (r1 : Bool) (r2 : ByteArray) (r3 : ByteArray) (r4 : Int) (w : World) (hr0_2 : Kd.C k54 w A0_2 l0_2.length l0_2) (hc0_2 : l0_2.length ≤ c0_2) (h : dp_Greatest.f k a0_0 a0_1 l0_2 = some (r1, r2, r3, r4)) :
  Calls Tryd.prog 30 #[.agg #[.int .i64 a0_0, .int .i64 a0_1, .slice A0_2 l0_2.length c0_2]] w fun e w' => e = .returned (.agg #[.bool r1, .string r2, .string r3, .int .i64 r4]) ∧ Below w.heap.size w w' := by
 have hu50 := Tryd.underlying50
 have hu54 := Tryd.underlying54
 have hu25 := Tryd.underlying25
 have HR0_2 := Aside0.mk hr0_2
 have HC0_2 := Aside0.mk hc0_2
 clear hr0_2 hc0_2
 have HB := Aside0.mk (Below.refl w.heap.size w)
 have H := h; clear h
 unfold dp_Greatest.f at H
 have H' := Aside0.mk H
 clear H
 go_enter Tryd.func30, Tryd.ntmps30
 go_wp2_with (first | (refine xF (N := 1) #[.int .i64 a0_0, .int .i64 a0_1, .slice A0_2 l0_2.length c0_2] 50 HB ?_; clear HB; intro gb1263 hg w2 hb BK1263 GW1263 HB; clear hb hg) | (refine xF (N := 2) #[.bool false, .string (⟨#[]⟩ : ByteArray), .string (⟨#[]⟩ : ByteArray), .int .i64 0] 54 HB ?_; clear HB; intro gb1264 hg w3 hb BK1264 GW1264 HB; have NB1263_1264 := xL BK1263 hg; have NB1264_1263 := xR BK1263 hg; replace BK1263 := xB BK1263 hb; clear hb hg) | (refine xF (N := 3) #[.bool false, .string (⟨#[]⟩ : ByteArray), .string (⟨#[]⟩ : ByteArray), .int .i64 0] 54 HB ?_; clear HB; intro gb1265 hg w4 hb BK1265 GW1265 HB; have NB1263_1265 := xL BK1263 hg; have NB1265_1263 := xR BK1263 hg; replace BK1263 := xB BK1263 hb; have NB1264_1265 := xL BK1264 hg; have NB1265_1264 := xR BK1264 hg; replace BK1264 := xB BK1264 hb; clear hb hg; have hnb5 := NB1263_1264.out; have hnc5 := NB1264_1263.out; have hnb6 := NB1263_1265.out; have hnc6 := NB1265_1263.out; obtain ⟨hcz7_0, hcz7_1, hcz7_2, hfz7_0, hfz7_1, hfz7_2⟩ := x6 BK1263))
 go_loopg [9] k (fun kq v9 w' => ∃ (x9_1 : Int) (x1266000_1 : Bool) (x1266001_1 : ByteArray) (x1266002_1 : ByteArray) (x1266003_1 : Int), v9 = .int .i64 x9_1 ∧ Aside0 (dp_Greatest.l0 kq l0_2 (l0_2.length : Int) x9_1 x1266000_1 x1266001_1 x1266002_1 x1266003_1 = some (r1, r2, r3, r4)) ∧ Aside0 (kq ≤ k) ∧ Aside0 (w'.heap[gb1263]? = some (.cells #[.int .i64 a0_0, .int .i64 a0_1, (.slice A0_2 l0_2.length c0_2)] 50 (0, 0))) ∧ Aside0 (w'.heap[gb1264]? = some (.cells #[.bool false, .string (⟨#[]⟩ : ByteArray), .string (⟨#[]⟩ : ByteArray), .int .i64 0] 54 (0, 0))) ∧ Aside0 (w'.heap[gb1265]? = some (.cells #[.bool x1266000_1, .string x1266001_1, .string x1266002_1, .int .i64 x1266003_1] 54 (0, 0))) ∧ Aside0 (Below w.heap.size w w'))
 case atStart => exact ⟨(0), (false), (⟨#[]⟩ : ByteArray), (⟨#[]⟩ : ByteArray), (0), xz, H', ⟨Nat.le_refl _⟩, ⟨xb BK1263⟩, ⟨xb BK1264⟩, ⟨xb BK1265⟩, ⟨xs HB⟩⟩
 case round =>
  clear H'
  clear hcz7_0 hcz7_1 hcz7_2 hfz7_0 hfz7_1 hfz7_2
  obtain ⟨x9_1, x1266000_1, x1266001_1, x1266002_1, x1266003_1, rfl, HA, HK1, BK1263, BK1264, BK1265, HB⟩ := hrel
  cases gk with
  | zero => exact absurd HA.out (by simp [dp_Greatest.l0])
  | succ k1 =>
   have H := HA.out
   clear HA
   simp only [dp_Greatest.l0] at H
   obtain ⟨c8b0, H⟩ | ⟨c8b0, H⟩ := xOd H
   ·obtain ⟨c9b0, H⟩ := xQd H
    obtain ⟨c10b0, H⟩ := xQd H
    obtain ⟨c11, H⟩ | ⟨c11, H⟩ := xO H
    ·have c11b0 := beq_iff_eq.mpr c11
     have c11b1 := bne_eq_false_iff_eq.mpr c11
     clear c11
     replace H := xH H; obtain ⟨⟨t1268, t1269, t1270⟩, A12, H⟩ := H
     dsimp only at H
     have H' := Aside0.mk H
     clear H
     obtain ⟨p1266, q1266, ad1266, e1266, hx1266_0, hx1266_1, hx1266_2, hx1266_3⟩ := xA (at_T54 HR0_2.out x9_1)
     cases e1266
     (try replace hx1266_0 := xcl HB hx1266_0)
     (try replace hx1266_1 := xcl HB hx1266_1)
     (try replace hx1266_2 := xcl HB hx1266_2)
     (try replace hx1266_3 := xcl HB hx1266_3)
     try go_wp2_with (refine xF (N := 5) #[.bool false, .string (⟨#[]⟩ : ByteArray), .string (⟨#[]⟩ : ByteArray), .int .i64 0] 54 HB ?_; clear HB; intro gb1267 hg w13 hb BK1267 GW1267 HB; have NB1263_1267 := xL BK1263 hg; have NB1267_1263 := xR BK1263 hg; replace BK1263 := xB BK1263 hb; have NB1264_1267 := xL BK1264 hg; have NB1267_1264 := xR BK1264 hg; replace BK1264 := xB BK1264 hb; have NB1265_1267 := xL BK1265 hg; have NB1267_1265 := xR BK1265 hg; replace BK1265 := xB BK1265 hb; clear hb hg; have hnb14 := NB1267_1263.out; have hnc14 := NB1263_1267.out; have hnb15 := NB1267_1264.out; have hnc15 := NB1264_1267.out; have hnb16 := NB1267_1265.out; have hnc16 := NB1265_1267.out; have hcz17_0 : w13.cell? ⟨gb1267, 0, none⟩ = some (.bool false) := (blk_cell BK1267.out 0).trans rfl; have hcz17_1 : w13.cell? ⟨gb1267, 1, none⟩ = some (.string (⟨#[]⟩ : ByteArray)) := (blk_cell BK1267.out 1).trans rfl; have hcz17_2 : w13.cell? ⟨gb1267, 2, none⟩ = some (.string (⟨#[]⟩ : ByteArray)) := (blk_cell BK1267.out 2).trans rfl; have hcz17_3 : w13.cell? ⟨gb1267, 3, none⟩ = some (.int .i64 0) := (blk_cell BK1267.out 3).trans rfl; have hfz17_0 := blk_frozen BK1267.out 0; have hfz17_1 := blk_frozen BK1267.out 1; have hfz17_2 := blk_frozen BK1267.out 2; have hfz17_3 := blk_frozen BK1267.out 3)
     have n0_ : Aside0 (((((w13.setCell ⟨gb1267, 0, none⟩ (.bool ((rd_T54 l0_2 x9_1).f0.f0))).setCell ⟨gb1267, 1, none⟩ (.string ((rd_T54 l0_2 x9_1).f0.f1))).setCell ⟨gb1267, 2, none⟩ (.string ((rd_T54 l0_2 x9_1).f0.f2))).setCell ⟨gb1267, 3, none⟩ (.int .i64 ((rd_T54 l0_2 x9_1).f1))).heap[gb1263]? = some (.cells #[.int .i64 a0_0, .int .i64 a0_1, .slice (some ad1266) l0_2.length c0_2] 50 (0, 0))) := ⟨xb BK1263⟩
     have n1_ : Aside0 (((((w13.setCell ⟨gb1267, 0, none⟩ (.bool ((rd_T54 l0_2 x9_1).f0.f0))).setCell ⟨gb1267, 1, none⟩ (.string ((rd_T54 l0_2 x9_1).f0.f1))).setCell ⟨gb1267, 2, none⟩ (.string ((rd_T54 l0_2 x9_1).f0.f2))).setCell ⟨gb1267, 3, none⟩ (.int .i64 ((rd_T54 l0_2 x9_1).f1))).heap[gb1264]? = some (.cells #[.bool false, .string (⟨#[]⟩ : ByteArray), .string (⟨#[]⟩ : ByteArray), .int .i64 0] 54 (0, 0))) := ⟨xb BK1264⟩
     have n2_ : Aside0 (((((w13.setCell ⟨gb1267, 0, none⟩ (.bool ((rd_T54 l0_2 x9_1).f0.f0))).setCell ⟨gb1267, 1, none⟩ (.string ((rd_T54 l0_2 x9_1).f0.f1))).setCell ⟨gb1267, 2, none⟩ (.string ((rd_T54 l0_2 x9_1).f0.f2))).setCell ⟨gb1267, 3, none⟩ (.int .i64 ((rd_T54 l0_2 x9_1).f1))).heap[gb1265]? = some (.cells #[.bool x1266000_1, .string x1266001_1, .string x1266002_1, .int .i64 x1266003_1] 54 (0, 0))) := ⟨xb BK1265⟩
     have n3_ : Aside0 (((((w13.setCell ⟨gb1267, 0, none⟩ (.bool ((rd_T54 l0_2 x9_1).f0.f0))).setCell ⟨gb1267, 1, none⟩ (.string ((rd_T54 l0_2 x9_1).f0.f1))).setCell ⟨gb1267, 2, none⟩ (.string ((rd_T54 l0_2 x9_1).f0.f2))).setCell ⟨gb1267, 3, none⟩ (.int .i64 ((rd_T54 l0_2 x9_1).f1))).heap[gb1267]? = some (.cells #[.bool ((rd_T54 l0_2 x9_1).f0.f0), .string ((rd_T54 l0_2 x9_1).f0.f1), .string ((rd_T54 l0_2 x9_1).f0.f2), .int .i64 ((rd_T54 l0_2 x9_1).f1)] 54 (0, 0))) := ⟨xp BK1267⟩
     have n4_ : Aside0 (Below w.heap.size w ((((w13.setCell ⟨gb1267, 0, none⟩ (.bool ((rd_T54 l0_2 x9_1).f0.f0))).setCell ⟨gb1267, 1, none⟩ (.string ((rd_T54 l0_2 x9_1).f0.f1))).setCell ⟨gb1267, 2, none⟩ (.string ((rd_T54 l0_2 x9_1).f0.f2))).setCell ⟨gb1267, 3, none⟩ (.int .i64 ((rd_T54 l0_2 x9_1).f1)))) := ⟨xs HB⟩
     clear BK1263 BK1264 BK1265 BK1267 HB
     generalize ((((w13.setCell ⟨gb1267, 0, none⟩ (.bool ((rd_T54 l0_2 x9_1).f0.f0))).setCell ⟨gb1267, 1, none⟩ (.string ((rd_T54 l0_2 x9_1).f0.f1))).setCell ⟨gb1267, 2, none⟩ (.string ((rd_T54 l0_2 x9_1).f0.f2))).setCell ⟨gb1267, 3, none⟩ (.int .i64 ((rd_T54 l0_2 x9_1).f1))) = w18 at n0_ n1_ n2_ n3_ n4_ ⊢
     have BK1263 := n0_
     have BK1264 := n1_
     have BK1265 := n2_
     have BK1267 := n3_
     have HB := n4_
     clear n0_ n1_ n2_ n3_ n4_
     replace BK1263 := xD BK1263
     replace BK1264 := xD BK1264
     replace BK1265 := xD BK1265
     replace BK1267 := xD BK1267
     replace HB := xW HB
     refine start_ (n := 7) (S := fun w' => w'.cell? ⟨gb1267, 0, none⟩ = some (.bool ((rd_T54 l0_2 x9_1).f0.f0)) ∧ w'.cell? ⟨gb1267, 1, none⟩ = some (.string ((rd_T54 l0_2 x9_1).f0.f1)) ∧ w'.cell? ⟨gb1267, 2, none⟩ = some (.string ((rd_T54 l0_2 x9_1).f0.f2)) ∧ w'.cell? ⟨gb1267, 3, none⟩ = some (.int .i64 ((rd_T54 l0_2 x9_1).f1))) (ds := []) (b 7 0) (by kernel_rfl) rfl rfl xV (fun hHeld => ?_)
     generalize w18.drew = w19 at BK1263 BK1264 BK1265 BK1267 HB hHeld ⊢
     refine yP 0 (some 16) (b 7 1) ?_
     refine yP 3 (some 19) (b 7 9) ?_
     refine yT 1 (some 17) (b 7 11) hHeld ?_
     refine yT 4 (some 20) (b 7 27) hHeld ?_
     refine yO 2 (some 18) (b 7 31) fun K hK => ?_
     refine xc Tryd.func55 (dp_clean.calls k1 ((rd_T54 l0_2 x9_1).f0.f0) ((rd_T54 l0_2 x9_1).f0.f1) ((rd_T54 l0_2 x9_1).f0.f2) t1268 t1269 t1270 _ A12.out) ?_
     rintro w20 hb
     replace BK1263 := xB BK1263 hb
     replace BK1264 := xB BK1264 hb
     replace BK1265 := xB BK1265 hb
     replace BK1267 := xB BK1267 hb
     replace HB := xS HB hb
     clear hb
     refine hK.out _ _ xV (fun hHeld => ?_)
     clear hK K
     refine xN 18 ?_
     refine yP 5 (some 21) (b 7 63) ?_
     refine yO 6 none (b 7 127) fun K hK => ?_
     have hs21 : w20.cell? ⟨gb1265, 0, none⟩ = some (.bool x1266000_1) := (blk_cell BK1265.out 0).trans rfl
     have hfs21 := blk_frozen BK1265.out 0
     have hns21_0 := NB1263_1265.out
     have hns21_1 := NB1264_1265.out
     have hns21_3 := NB1267_1265.out
     have hms21_0 := NB1265_1263.out
     have hms21_1 := NB1265_1264.out
     have hms21_3 := NB1265_1267.out
     have hs22 : w20.cell? ⟨gb1265, 1, none⟩ = some (.string x1266001_1) := (blk_cell BK1265.out 1).trans rfl
     have hfs22 := blk_frozen BK1265.out 1
     have hns22_0 := NB1263_1265.out
     have hns22_1 := NB1264_1265.out
     have hns22_3 := NB1267_1265.out
     have hms22_0 := NB1265_1263.out
     have hms22_1 := NB1265_1264.out
     have hms22_3 := NB1265_1267.out
     have hs23 : w20.cell? ⟨gb1265, 2, none⟩ = some (.string x1266002_1) := (blk_cell BK1265.out 2).trans rfl
     have hfs23 := blk_frozen BK1265.out 2
     have hns23_0 := NB1263_1265.out
     have hns23_1 := NB1264_1265.out
     have hns23_3 := NB1267_1265.out
     have hms23_0 := NB1265_1263.out
     have hms23_1 := NB1265_1264.out
     have hms23_3 := NB1265_1267.out
     have hs24 : w20.cell? ⟨gb1265, 3, none⟩ = some (.int .i64 x1266003_1) := (blk_cell BK1265.out 3).trans rfl
     have hfs24 := blk_frozen BK1265.out 3
     have hns24_0 := NB1263_1265.out
     have hns24_1 := NB1264_1265.out
     have hns24_3 := NB1267_1265.out
     have hms24_0 := NB1265_1263.out
     have hms24_1 := NB1265_1264.out
     have hms24_3 := NB1265_1267.out
     refine xk ?_
     refine hK.out _ _ ⟨((cell_far (p := ⟨gb1265, _, none⟩) NB1267_1265.out _).trans ((cell_far (p := ⟨gb1265, _, none⟩) NB1267_1265.out _).trans ((cell_far (p := ⟨gb1265, _, none⟩) NB1267_1265.out _).trans ((cell_far (p := ⟨gb1265, _, none⟩) NB1267_1265.out _).trans (hHeld.1))))), ((cell_far (p := ⟨gb1265, _, none⟩) NB1267_1265.out _).trans ((cell_far (p := ⟨gb1265, _, none⟩) NB1267_1265.out _).trans ((cell_far (p := ⟨gb1265, _, none⟩) NB1267_1265.out _).trans ((cell_far (p := ⟨gb1265, _, none⟩) NB1267_1265.out _).trans (hHeld.2.1))))), ((cell_far (p := ⟨gb1265, _, none⟩) NB1267_1265.out _).trans ((cell_far (p := ⟨gb1265, _, none⟩) NB1267_1265.out _).trans ((cell_far (p := ⟨gb1265, _, none⟩) NB1267_1265.out _).trans ((cell_far (p := ⟨gb1265, _, none⟩) NB1267_1265.out _).trans (hHeld.2.2.1))))), ((cell_far (p := ⟨gb1265, _, none⟩) NB1267_1265.out _).trans ((cell_far (p := ⟨gb1265, _, none⟩) NB1267_1265.out _).trans ((cell_far (p := ⟨gb1265, _, none⟩) NB1267_1265.out _).trans ((cell_far (p := ⟨gb1265, _, none⟩) NB1267_1265.out _).trans (hHeld.2.2.2)))))⟩ (fun hHeld => ?_)
     clear hK K
     refine done_ (by kernel_rfl) ?_
     try go_wp2
     go_roundg k1
     case measure => have := HK1.out; omega
     case rel => exact ⟨(wrap64 (x9_1 + 1)), (t1268), (t1269), (t1270), ((rd_T54 l0_2 x9_1).f1), xz, H', ⟨by have := HK1.out; omega⟩, ⟨xb BK1263⟩, ⟨xb BK1264⟩, ⟨by refine blk_put (cs := #[.bool t1268, .string t1269, .string t1270, .int .i64 x1266003_1]) ?_ 3 _ (by rfl); refine blk_put (cs := #[.bool t1268, .string t1269, .string x1266002_1, .int .i64 x1266003_1]) ?_ 2 _ (by rfl); refine blk_put (cs := #[.bool t1268, .string x1266001_1, .string x1266002_1, .int .i64 x1266003_1]) ?_ 1 _ (by rfl); refine blk_put (cs := #[.bool x1266000_1, .string x1266001_1, .string x1266002_1, .int .i64 x1266003_1]) ?_ 0 _ (by rfl); exact BK1265.out⟩, ⟨xs HB⟩⟩
    have c11b0 := beq_eq_false_iff_ne.mpr c11
    have c11b1 := bne_iff_ne.mpr c11
    replace H := xH H; obtain ⟨⟨t1271, t1272, t1273⟩, A25, H⟩ := H
    dsimp only at H
    generalize hji26 : ((mn x1266003_1 ((rd_T54 l0_2 x9_1).f1)) : Int) = ji26 at H
    have hji26_ : (if ((rd_T54 l0_2 x9_1).f1) < x1266003_1 then ((rd_T54 l0_2 x9_1).f1) else x1266003_1) = ji26 := hji26
    have H' := Aside0.mk H
    clear H
    obtain ⟨p1266, q1266, ad1266, e1266, hx1266_0, hx1266_1, hx1266_2, hx1266_3⟩ := xA (at_T54 HR0_2.out x9_1)
    cases e1266
    (try replace hx1266_0 := xcl HB hx1266_0)
    (try replace hx1266_1 := xcl HB hx1266_1)
    (try replace hx1266_2 := xcl HB hx1266_2)
    (try replace hx1266_3 := xcl HB hx1266_3)
    go_wp2_with (first | (refine xF (N := 5) #[.bool false, .string (⟨#[]⟩ : ByteArray), .string (⟨#[]⟩ : ByteArray), .int .i64 0] 54 HB ?_; clear HB; intro gb1267 hg w27 hb BK1267 GW1267 HB; have NB1263_1267 := xL BK1263 hg; have NB1267_1263 := xR BK1263 hg; replace BK1263 := xB BK1263 hb; have NB1264_1267 := xL BK1264 hg; have NB1267_1264 := xR BK1264 hg; replace BK1264 := xB BK1264 hb; have NB1265_1267 := xL BK1265 hg; have NB1267_1265 := xR BK1265 hg; replace BK1265 := xB BK1265 hb; clear hb hg; have hnb28 := NB1267_1263.out; have hnc28 := NB1263_1267.out; have hnb29 := NB1267_1264.out; have hnc29 := NB1264_1267.out; have hnb30 := NB1267_1265.out; have hnc30 := NB1265_1267.out; have hcz31_0 : w27.cell? ⟨gb1267, 0, none⟩ = some (.bool false) := (blk_cell BK1267.out 0).trans rfl; have hcz31_1 : w27.cell? ⟨gb1267, 1, none⟩ = some (.string (⟨#[]⟩ : ByteArray)) := (blk_cell BK1267.out 1).trans rfl; have hcz31_2 : w27.cell? ⟨gb1267, 2, none⟩ = some (.string (⟨#[]⟩ : ByteArray)) := (blk_cell BK1267.out 2).trans rfl; have hcz31_3 : w27.cell? ⟨gb1267, 3, none⟩ = some (.int .i64 0) := (blk_cell BK1267.out 3).trans rfl; have hfz31_0 := blk_frozen BK1267.out 0; have hfz31_1 := blk_frozen BK1267.out 1; have hfz31_2 := blk_frozen BK1267.out 2; have hfz31_3 := blk_frozen BK1267.out 3; have hnb32 := NB1265_1263.out; have hnc32 := NB1263_1265.out; have hnb33 := NB1265_1264.out; have hnc33 := NB1264_1265.out; have hcz34_0 : w27.cell? ⟨gb1265, 0, none⟩ = some (.bool x1266000_1) := (blk_cell BK1265.out 0).trans rfl; have hcz34_1 : w27.cell? ⟨gb1265, 1, none⟩ = some (.string x1266001_1) := (blk_cell BK1265.out 1).trans rfl; have hcz34_2 : w27.cell? ⟨gb1265, 2, none⟩ = some (.string x1266002_1) := (blk_cell BK1265.out 2).trans rfl; have hcz34_3 : w27.cell? ⟨gb1265, 3, none⟩ = some (.int .i64 x1266003_1) := (blk_cell BK1265.out 3).trans rfl; have hfz34_0 := blk_frozen BK1265.out 0; have hfz34_1 := blk_frozen BK1265.out 1; have hfz34_2 := blk_frozen BK1265.out 2; have hfz34_3 := blk_frozen BK1265.out 3) | (refine xC Tryd.func56 (some 26) (rt_Max.calls k1 x1266000_1 x1266001_1 x1266002_1 ((rd_T54 l0_2 x9_1).f0.f0) ((rd_T54 l0_2 x9_1).f0.f1) ((rd_T54 l0_2 x9_1).f0.f2) t1271 t1272 t1273 _ A25.out) ?_; rintro w35 hb; replace BK1263 := xB BK1263 hb; replace BK1264 := xB BK1264 hb; replace BK1265 := xB BK1265 hb; replace BK1267 := Aside0.mk (blk_below (g := gb1267) (o := .cells #[.bool ((rd_T54 l0_2 x9_1).f0.f0), .string ((rd_T54 l0_2 x9_1).f0.f1), .string ((rd_T54 l0_2 x9_1).f0.f2), .int .i64 ((rd_T54 l0_2 x9_1).f1)] 54 (0, 0)) (xp BK1267) hb); replace HB := xS HB hb; clear hb; have hcz36_0 : w35.cell? ⟨gb1265, 0, none⟩ = some (.bool x1266000_1) := (blk_cell BK1265.out 0).trans rfl; have hcz36_1 : w35.cell? ⟨gb1265, 1, none⟩ = some (.string x1266001_1) := (blk_cell BK1265.out 1).trans rfl; have hcz36_2 : w35.cell? ⟨gb1265, 2, none⟩ = some (.string x1266002_1) := (blk_cell BK1265.out 2).trans rfl; have hcz36_3 : w35.cell? ⟨gb1265, 3, none⟩ = some (.int .i64 x1266003_1) := (blk_cell BK1265.out 3).trans rfl; have hfz36_0 := blk_frozen BK1265.out 0; have hfz36_1 := blk_frozen BK1265.out 1; have hfz36_2 := blk_frozen BK1265.out 2; have hfz36_3 := blk_frozen BK1265.out 3; have hcz37_0 : w35.cell? ⟨gb1267, 0, none⟩ = some (.bool ((rd_T54 l0_2 x9_1).f0.f0)) := (blk_cell BK1267.out 0).trans rfl; have hcz37_1 : w35.cell? ⟨gb1267, 1, none⟩ = some (.string ((rd_T54 l0_2 x9_1).f0.f1)) := (blk_cell BK1267.out 1).trans rfl; have hcz37_2 : w35.cell? ⟨gb1267, 2, none⟩ = some (.string ((rd_T54 l0_2 x9_1).f0.f2)) := (blk_cell BK1267.out 2).trans rfl; have hcz37_3 : w35.cell? ⟨gb1267, 3, none⟩ = some (.int .i64 ((rd_T54 l0_2 x9_1).f1)) := (blk_cell BK1267.out 3).trans rfl; have hfz37_0 := blk_frozen BK1267.out 0; have hfz37_1 := blk_frozen BK1267.out 1; have hfz37_2 := blk_frozen BK1267.out 2; have hfz37_3 := blk_frozen BK1267.out 3))
    go_roundg k1
    case measure => have := HK1.out; omega
    case rel => exact ⟨(wrap64 (x9_1 + 1)), (t1271), (t1272), (t1273), (ji26), xz, H', ⟨by have := HK1.out; omega⟩, ⟨xb BK1263⟩, ⟨xb BK1264⟩, ⟨by refine blk_put (cs := #[.bool t1271, .string t1272, .string t1273, .int .i64 x1266003_1]) ?_ 3 _ (by rfl); refine blk_put (cs := #[.bool t1271, .string t1272, .string x1266002_1, .int .i64 x1266003_1]) ?_ 2 _ (by rfl); refine blk_put (cs := #[.bool t1271, .string x1266001_1, .string x1266002_1, .int .i64 x1266003_1]) ?_ 1 _ (by rfl); refine blk_put (cs := #[.bool x1266000_1, .string x1266001_1, .string x1266002_1, .int .i64 x1266003_1]) ?_ 0 _ (by rfl); exact BK1265.out⟩, ⟨xs HB⟩⟩
   simp only [Option.some.injEq, Prod.mk.injEq] at H
   obtain ⟨rfl, rfl, rfl, rfl⟩ := H
   have hnb38 := NB1265_1263.out
   have hnc38 := NB1263_1265.out
   have hnb39 := NB1265_1264.out
   have hnc39 := NB1264_1265.out
   have hcz40_0 : wr.cell? ⟨gb1265, 0, none⟩ = some (.bool x1266000_1) := (blk_cell BK1265.out 0).trans rfl
   have hcz40_1 : wr.cell? ⟨gb1265, 1, none⟩ = some (.string x1266001_1) := (blk_cell BK1265.out 1).trans rfl
   have hcz40_2 : wr.cell? ⟨gb1265, 2, none⟩ = some (.string x1266002_1) := (blk_cell BK1265.out 2).trans rfl
   have hcz40_3 : wr.cell? ⟨gb1265, 3, none⟩ = some (.int .i64 x1266003_1) := (blk_cell BK1265.out 3).trans rfl
   have hfz40_0 := blk_frozen BK1265.out 0
   have hfz40_1 := blk_frozen BK1265.out 1
   have hfz40_2 := blk_frozen BK1265.out 2
   have hfz40_3 := blk_frozen BK1265.out 3
   have hnb41 := NB1264_1263.out
   have hnc41 := NB1263_1264.out
   have hcz42_0 : wr.cell? ⟨gb1264, 0, none⟩ = some (.bool false) := (blk_cell BK1264.out 0).trans rfl
   have hcz42_1 : wr.cell? ⟨gb1264, 1, none⟩ = some (.string (⟨#[]⟩ : ByteArray)) := (blk_cell BK1264.out 1).trans rfl
   have hcz42_2 : wr.cell? ⟨gb1264, 2, none⟩ = some (.string (⟨#[]⟩ : ByteArray)) := (blk_cell BK1264.out 2).trans rfl
   have hcz42_3 : wr.cell? ⟨gb1264, 3, none⟩ = some (.int .i64 0) := (blk_cell BK1264.out 3).trans rfl
   have hfz42_0 := blk_frozen BK1264.out 0
   have hfz42_1 := blk_frozen BK1264.out 1
   have hfz42_2 := blk_frozen BK1264.out 2
   have hfz42_3 := blk_frozen BK1264.out 3
   go_wp2
   refine bodyPost_ret (results_cell_row rfl _ _ gb1264 54 #[.bool x1266000_1, .string x1266001_1, .string x1266002_1, .int .i64 x1266003_1] (0, 0) _ rfl (xp BK1264) Tryd.underlying54 rfl (by kernel_rfl)) rfl ?_
   exact ⟨xy, xs HB⟩
/-! ### ir_Greater: function 86 -/
def ir_Greater.f (k : Nat) (a0_0 : Bool) (a0_1 : ByteArray) (a0_2 : ByteArray) (a1_0 : Bool) (a1_1 : ByteArray) (a1_2 : ByteArray) : Option (Bool × ByteArray × ByteArray) := (ir_Less.f k a0_0 a0_1 a0_2 a1_0 a1_1 a1_2).bind fun t1277 => (if t1277 = true then (some (a1_0, a1_1, a1_2)) else (some (a0_0, a0_1, a0_2)))
theorem ir_Greater.mono : ∀ a0 a1 a2 a3 a4 a5 k, LeO (ir_Greater.f k a0 a1 a2 a3 a4 a5) (ir_Greater.f (k + 1) a0 a1 a2 a3 a4 a5) := by
 intro a0 a1 a2 a3 a4 a5 k
 unfold ir_Greater.f
 have m0 := @ir_Less.mono; exact xM
theorem ir_Greater.calls (k : Nat) (a0_0 : Bool) (a0_1 : ByteArray) (a0_2 : ByteArray) (a1_0 : Bool) (a1_1 : ByteArray) (a1_2 : ByteArray) (r1 : Bool) (r2 : ByteArray) (r3 : ByteArray) (w : World) (h : ir_Greater.f k a0_0 a0_1 a0_2 a1_0 a1_1 a1_2 = some (r1, r2, r3)) :
  Calls Tryd.prog 86 #[.agg #[.bool a0_0, .string a0_1, .string a0_2], .agg #[.bool a1_0, .string a1_1, .string a1_2]] w fun e w' => e = .returned (.agg #[.bool r1, .string r2, .string r3]) ∧ Below w.heap.size w w' := by
 have hu25 := Tryd.underlying25
 have HB := Aside0.mk (Below.refl w.heap.size w)
 have H := h; clear h
 unfold ir_Greater.f at H
 replace H := xH H; obtain ⟨t1277, A3, H⟩ := H
 by_cases c4 : t1277 = true
 ·subst c4
  replace H := xI H
  simp only [Option.some.injEq, Prod.mk.injEq] at H
  obtain ⟨rfl, rfl, rfl⟩ := H
  go_enter Tryd.func86, Tryd.ntmps86
  go_wp2_with (first | (refine xF (N := 2) #[.bool a0_0, .string a0_1, .string a0_2] 25 HB ?_; clear HB; intro gb1274 hg w5 hb BK1274 GW1274 HB; clear hb hg) | (refine xF (N := 3) #[.bool a1_0, .string a1_1, .string a1_2] 25 HB ?_; clear HB; intro gb1275 hg w6 hb BK1275 GW1275 HB; have NB1274_1275 := xL BK1274 hg; have NB1275_1274 := xR BK1274 hg; replace BK1274 := xB BK1274 hb; clear hb hg) | (refine xF (N := 4) #[.bool false, .string (⟨#[]⟩ : ByteArray), .string (⟨#[]⟩ : ByteArray)] 25 HB ?_; clear HB; intro gb1276 hg w7 hb BK1276 GW1276 HB; have NB1274_1276 := xL BK1274 hg; have NB1276_1274 := xR BK1274 hg; replace BK1274 := xB BK1274 hb; have NB1275_1276 := xL BK1275 hg; have NB1276_1275 := xR BK1275 hg; replace BK1275 := xB BK1275 hb; clear hb hg; have hnb8 := NB1274_1275.out; have hnc8 := NB1275_1274.out; have hnb9 := NB1274_1276.out; have hnc9 := NB1276_1274.out; obtain ⟨hcz10_0, hcz10_1, hcz10_2, hfz10_0, hfz10_1, hfz10_2⟩ := x6 BK1274; have hnb11 := NB1275_1276.out; have hnc11 := NB1276_1275.out; obtain ⟨hcz12_0, hcz12_1, hcz12_2, hfz12_0, hfz12_1, hfz12_2⟩ := x6 BK1275) | (refine xC Tryd.func50 (some 7) (ir_Less.calls k a0_0 a0_1 a0_2 a1_0 a1_1 a1_2 true _ A3.out) ?_; rintro w13 hb; replace BK1274 := xB BK1274 hb; replace BK1275 := xB BK1275 hb; replace BK1276 := xB BK1276 hb; replace HB := xS HB hb; clear hb; obtain ⟨hcz14_0, hcz14_1, hcz14_2, hfz14_0, hfz14_1, hfz14_2⟩ := x6 BK1275; obtain ⟨hcz15_0, hcz15_1, hcz15_2, hfz15_0, hfz15_1, hfz15_2⟩ := x6 BK1276))
  refine bodyPost_ret (results_cell_row rfl _ _ gb1276 25 #[.bool a1_0, .string a1_1, .string a1_2] (0, 0) _ rfl (xp BK1276) Tryd.underlying25 rfl (by kernel_rfl)) rfl ?_
  exact ⟨xy, xs HB⟩
 replace c4 := Bool.eq_false_iff.mpr c4
 subst c4
 have H1 : (some (a0_0, a0_1, a0_2)) = some (r1, r2, r3) := by rw [if_neg (show ¬ (false = true) by decide)] at H; exact H
 clear H
 have H := H1
 clear H1
 simp only [Option.some.injEq, Prod.mk.injEq] at H
 obtain ⟨rfl, rfl, rfl⟩ := H
 go_enter Tryd.func86, Tryd.ntmps86
 go_wp2_with (first | (refine xF (N := 2) #[.bool a0_0, .string a0_1, .string a0_2] 25 HB ?_; clear HB; intro gb1274 hg w16 hb BK1274 GW1274 HB; clear hb hg) | (refine xF (N := 3) #[.bool a1_0, .string a1_1, .string a1_2] 25 HB ?_; clear HB; intro gb1275 hg w17 hb BK1275 GW1275 HB; have NB1274_1275 := xL BK1274 hg; have NB1275_1274 := xR BK1274 hg; replace BK1274 := xB BK1274 hb; clear hb hg) | (refine xF (N := 4) #[.bool false, .string (⟨#[]⟩ : ByteArray), .string (⟨#[]⟩ : ByteArray)] 25 HB ?_; clear HB; intro gb1276 hg w18 hb BK1276 GW1276 HB; have NB1274_1276 := xL BK1274 hg; have NB1276_1274 := xR BK1274 hg; replace BK1274 := xB BK1274 hb; have NB1275_1276 := xL BK1275 hg; have NB1276_1275 := xR BK1275 hg; replace BK1275 := xB BK1275 hb; clear hb hg; have hnb19 := NB1274_1275.out; have hnc19 := NB1275_1274.out; have hnb20 := NB1274_1276.out; have hnc20 := NB1276_1274.out; obtain ⟨hcz21_0, hcz21_1, hcz21_2, hfz21_0, hfz21_1, hfz21_2⟩ := x6 BK1274; have hnb22 := NB1275_1276.out; have hnc22 := NB1276_1275.out; obtain ⟨hcz23_0, hcz23_1, hcz23_2, hfz23_0, hfz23_1, hfz23_2⟩ := x6 BK1275) | (refine xC Tryd.func50 (some 7) (ir_Less.calls k a0_0 a0_1 a0_2 a1_0 a1_1 a1_2 false _ A3.out) ?_; rintro w24 hb; replace BK1274 := xB BK1274 hb; replace BK1275 := xB BK1275 hb; replace BK1276 := xB BK1276 hb; replace HB := xS HB hb; clear hb; obtain ⟨hcz25_0, hcz25_1, hcz25_2, hfz25_0, hfz25_1, hfz25_2⟩ := x6 BK1274; obtain ⟨hcz26_0, hcz26_1, hcz26_2, hfz26_0, hfz26_1, hfz26_2⟩ := x6 BK1276))
 refine bodyPost_ret (results_cell_row rfl _ _ gb1276 25 #[.bool a0_0, .string a0_1, .string a0_2] (0, 0) _ rfl (xp BK1276) Tryd.underlying25 rfl (by kernel_rfl)) rfl ?_
 exact ⟨xy, xs HB⟩
/-! ### ir_Max: function 58 -/
def ir_Max.f (k : Nat) (a0_0 : Bool) (a0_1 : ByteArray) (a0_2 : ByteArray) (a1_0 : Bool) (a1_1 : ByteArray) (a1_2 : ByteArray) : Option (Bool × ByteArray × ByteArray) := (ir_Fix.f k a0_0 a0_1 a0_2).bind fun bt1281 => ((ir_Fix.f k a1_0 a1_1 a1_2).bind fun bt1284 => ((ir_Greater.f k bt1281.1 bt1281.2.1 bt1281.2.2 bt1284.1 bt1284.2.1 bt1284.2.2).bind fun bt1287 => (some (bt1287.1, bt1287.2.1, bt1287.2.2))))
theorem ir_Max.mono : ∀ a0 a1 a2 a3 a4 a5 k, LeO (ir_Max.f k a0 a1 a2 a3 a4 a5) (ir_Max.f (k + 1) a0 a1 a2 a3 a4 a5) := by
 intro a0 a1 a2 a3 a4 a5 k
 unfold ir_Max.f
 have m0 := @ir_Fix.mono; have m1 := @ir_Greater.mono; exact xM
theorem ir_Max.calls (k : Nat) (a0_0 : Bool) (a0_1 : ByteArray) (a0_2 : ByteArray) (a1_0 : Bool) (a1_1 : ByteArray) (a1_2 : ByteArray) (r1 : Bool) (r2 : ByteArray) (r3 : ByteArray) (w : World) (h : ir_Max.f k a0_0 a0_1 a0_2 a1_0 a1_1 a1_2 = some (r1, r2, r3)) :
  Calls Tryd.prog 58 #[.agg #[.bool a0_0, .string a0_1, .string a0_2], .agg #[.bool a1_0, .string a1_1, .string a1_2]] w fun e w' => e = .returned (.agg #[.bool r1, .string r2, .string r3]) ∧ Below w.heap.size w w' := by
 have hu25 := Tryd.underlying25
 have HB := Aside0.mk (Below.refl w.heap.size w)
 have H := h; clear h
 unfold ir_Max.f at H
 replace H := xH H; obtain ⟨⟨t1281, t1282, t1283⟩, A3, H⟩ := H
 dsimp only at H
 replace H := xH H; obtain ⟨⟨t1284, t1285, t1286⟩, A4, H⟩ := H
 dsimp only at H
 replace H := xH H; obtain ⟨⟨t1287, t1288, t1289⟩, A5, H⟩ := H
 dsimp only at H
 simp only [Option.some.injEq, Prod.mk.injEq] at H
 obtain ⟨rfl, rfl, rfl⟩ := H
 go_enter Tryd.func58, Tryd.ntmps58
 try go_wp2_with (first | (refine xF (N := 2) #[.bool a0_0, .string a0_1, .string a0_2] 25 HB ?_; clear HB; intro gb1278 hg w6 hb BK1278 GW1278 HB; clear hb hg) | (refine xF (N := 3) #[.bool a1_0, .string a1_1, .string a1_2] 25 HB ?_; clear HB; intro gb1279 hg w7 hb BK1279 GW1279 HB; have NB1278_1279 := xL BK1278 hg; have NB1279_1278 := xR BK1278 hg; replace BK1278 := xB BK1278 hb; clear hb hg) | (refine xF (N := 4) #[.bool false, .string (⟨#[]⟩ : ByteArray), .string (⟨#[]⟩ : ByteArray)] 25 HB ?_; clear HB; intro gb1280 hg w8 hb BK1280 GW1280 HB; have NB1278_1280 := xL BK1278 hg; have NB1280_1278 := xR BK1278 hg; replace BK1278 := xB BK1278 hb; have NB1279_1280 := xL BK1279 hg; have NB1280_1279 := xR BK1279 hg; replace BK1279 := xB BK1279 hb; clear hb hg))
 replace BK1278 := xD BK1278
 replace BK1279 := xD BK1279
 replace BK1280 := xD BK1280
 replace HB := xW HB
 refine start_ (n := 6) (S := fun w' => w'.cell? ⟨gb1278, 0, none⟩ = some (.bool a0_0) ∧ w'.cell? ⟨gb1278, 1, none⟩ = some (.string a0_1) ∧ w'.cell? ⟨gb1278, 2, none⟩ = some (.string a0_2) ∧ w'.cell? ⟨gb1279, 0, none⟩ = some (.bool a1_0) ∧ w'.cell? ⟨gb1279, 1, none⟩ = some (.string a1_1) ∧ w'.cell? ⟨gb1279, 2, none⟩ = some (.string a1_2)) (ds := []) (b 6 0) (by kernel_rfl) rfl rfl xV (fun hHeld => ?_)
 generalize w8.drew = w9 at BK1278 BK1279 BK1280 HB hHeld ⊢
 refine yT 0 (some 5) (b 6 1) hHeld ?_
 refine yT 2 (some 7) (b 6 5) hHeld ?_
 refine yO 1 (some 6) (b 6 7) fun K hK => ?_
 refine xc Tryd.func57 (ir_Fix.calls k a0_0 a0_1 a0_2 t1281 t1282 t1283 _ A3.out) ?_
 rintro w10 hb
 replace BK1278 := xB BK1278 hb
 replace BK1279 := xB BK1279 hb
 replace BK1280 := xB BK1280 hb
 replace HB := xS HB hb
 clear hb
 refine hK.out _ _ xV (fun hHeld => ?_)
 clear hK K
 refine xN 6 ?_
 refine yO 3 (some 8) (b 6 15) fun K hK => ?_
 refine xc Tryd.func57 (ir_Fix.calls k a1_0 a1_1 a1_2 t1284 t1285 t1286 _ A4.out) ?_
 rintro w11 hb
 replace BK1278 := xB BK1278 hb
 replace BK1279 := xB BK1279 hb
 replace BK1280 := xB BK1280 hb
 replace HB := xS HB hb
 clear hb
 refine hK.out _ _ xV (fun hHeld => ?_)
 clear hK K
 refine xN 8 ?_
 refine yO 4 (some 9) (b 6 31) fun K hK => ?_
 refine xc Tryd.func86 (ir_Greater.calls k t1281 t1282 t1283 t1284 t1285 t1286 t1287 t1288 t1289 _ A5.out) ?_
 rintro w12 hb
 replace BK1278 := xB BK1278 hb
 replace BK1279 := xB BK1279 hb
 replace BK1280 := xB BK1280 hb
 replace HB := xS HB hb
 clear hb
 refine hK.out _ _ xV (fun hHeld => ?_)
 clear hK K
 refine xN 9 ?_
 refine yO 5 none (b 6 63) fun K hK => ?_
 obtain ⟨hs13, hs14, hs15, hfs13, hfs14, hfs15⟩ := x6 BK1280
 have hns13_0 := NB1278_1280.out
 have hns13_1 := NB1279_1280.out
 have hms13_0 := NB1280_1278.out
 have hms13_1 := NB1280_1279.out
 refine xk ?_
 refine hK.out _ _ ⟨((cell_far (p := ⟨gb1280, _, none⟩) NB1278_1280.out _).trans ((cell_far (p := ⟨gb1280, _, none⟩) NB1278_1280.out _).trans ((cell_far (p := ⟨gb1280, _, none⟩) NB1278_1280.out _).trans (hHeld.1)))), ((cell_far (p := ⟨gb1280, _, none⟩) NB1278_1280.out _).trans ((cell_far (p := ⟨gb1280, _, none⟩) NB1278_1280.out _).trans ((cell_far (p := ⟨gb1280, _, none⟩) NB1278_1280.out _).trans (hHeld.2.1)))), ((cell_far (p := ⟨gb1280, _, none⟩) NB1278_1280.out _).trans ((cell_far (p := ⟨gb1280, _, none⟩) NB1278_1280.out _).trans ((cell_far (p := ⟨gb1280, _, none⟩) NB1278_1280.out _).trans (hHeld.2.2.1)))), ((cell_far (p := ⟨gb1280, _, none⟩) NB1279_1280.out _).trans ((cell_far (p := ⟨gb1280, _, none⟩) NB1279_1280.out _).trans ((cell_far (p := ⟨gb1280, _, none⟩) NB1279_1280.out _).trans (hHeld.2.2.2.1)))), ((cell_far (p := ⟨gb1280, _, none⟩) NB1279_1280.out _).trans ((cell_far (p := ⟨gb1280, _, none⟩) NB1279_1280.out _).trans ((cell_far (p := ⟨gb1280, _, none⟩) NB1279_1280.out _).trans (hHeld.2.2.2.2.1)))), ((cell_far (p := ⟨gb1280, _, none⟩) NB1279_1280.out _).trans ((cell_far (p := ⟨gb1280, _, none⟩) NB1279_1280.out _).trans ((cell_far (p := ⟨gb1280, _, none⟩) NB1279_1280.out _).trans (hHeld.2.2.2.2.2))))⟩ (fun hHeld => ?_)
 clear hK K
 refine done_ (by kernel_rfl) ?_
 try go_wp2
 refine bodyPost_ret (results_cell_row rfl _ _ gb1280 25 #[.bool t1287, .string t1288, .string t1289] (0, 0) _ rfl (xp BK1280) Tryd.underlying25 rfl (by kernel_rfl)) rfl ?_
 exact ⟨xy, xs HB⟩
end Go.Proofs.YtpoogjcgjpkbeaaDoor.XA
