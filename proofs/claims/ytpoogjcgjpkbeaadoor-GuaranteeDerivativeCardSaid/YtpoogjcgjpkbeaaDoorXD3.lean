/- Walks of functions of the program: a plain Lean function for each, and a proof that a call answers as it says. Written by a program (the kit's print with changes, then shortened). -/
import Derived.Test.YtpoogjcgjpkbeaaDoorXD2
namespace Go.Proofs.YtpoogjcgjpkbeaaDoor.XC
open Go.RowKit Go.Proofs.YtpoogjcgjpkbeaaDoorW.PrintWords Go.Proofs.YtpoogjcgjpkbeaaDoorW.PrintLast Go.Proofs.YtpoogjcgjpkbeaaDoorW.PrintMore Go.Proofs.YtpoogjcgjpkbeaaDoorW.Sq
attribute [local go_sem] max2_int min2_int max_two min_two max_three min_three max_four min_four   -- for this text's walks alone
set_option linter.unusedVariables false
set_option linter.unusedSimpArgs false
/-! ### natural_step0: function 112 -/
mutual
def natural_step0.j2 : Nat → List Int → List Int → Int → Int → Option (Int × List Int)
 | 0, _, _, _, _ => none
 | k + 1, x0, x1, x5, x7 => natural_step0.l1 k x0 x1 x5 x7 0 0 x1 (x1.length : Int) 0
def natural_step0.l1 : Nat → List Int → List Int → Int → Int → Int → Int → List Int → Int → Int → Option (Int × List Int)
 | 0, _, _, _, _, _, _, _, _, _ => none
 | k + 1, x0, x1, x5, x7, x9, x10, x82, x83, x84 => if x84 < x83 then (if 0 ≤ x84 then (if x84 < (x82.length : Int) then (if x84 < (x0.length : Int) then ((bits_Sub32.f (rd x0 x84) ((IntKind.u64.wrap ((IntKind.u64.wrap (x7 * (IntKind.u64.wrap (rd x82 x84)))) + x9)) % 4294967296) x10).bind fun bt327 => (natural_step0.l1 k (x0.set (x84 : Int).toNat bt327.1) x1 x5 x7 ((IntKind.u64.wrap ((IntKind.u64.wrap (x7 * (IntKind.u64.wrap (rd x82 x84)))) + x9)) / 4294967296) bt327.2 x82 x83 (wrap64 (x84 + 1)))) else (none)) else (none)) else (none)) else (if 0 ≤ x5 then (if x5 < (x0.length : Int) then ((bits_Sub32.f (rd x0 x5) ((x9) % 4294967296) x10).bind fun bt331 => ((some (x0.set (x5 : Int).toNat bt331.1 : List Int)).bind fun y333 => (if bt331.2 = 0 then (some ((x7) % 4294967296, y333)) else (natural_step0.l2 k y333 x5 x7 0 x1 (x1.length : Int) 0)))) else (none)) else (none))
def natural_step0.l2 : Nat → List Int → Int → Int → Int → List Int → Int → Int → Option (Int × List Int)
 | 0, _, _, _, _, _, _, _ => none
 | k + 1, x0, x5, x7, x14, x130, x131, x132 => if x132 < x131 then (if 0 ≤ x132 then (if x132 < (x130.length : Int) then (if x132 < (x0.length : Int) then ((bits_Add32.f (rd x0 x132) (rd x130 x132) x14).bind fun bt336 => (natural_step0.l2 k (x0.set (x132 : Int).toNat bt336.1) x5 x7 bt336.2 x130 x131 (wrap64 (x132 + 1)))) else (none)) else (none)) else (none)) else (if 0 ≤ x5 then (if x5 < (x0.length : Int) then (some ((IntKind.u64.wrap (x7 - 1)) % 4294967296, (x0.set (x5 : Int).toNat (((rd x0 x5) + x14) % 4294967296)))) else (none)) else (none))
def natural_step0.l0 : Nat → List Int → List Int → Int → Int → Int → Option (Int × List Int)
 | 0, _, _, _, _, _ => none
 | k + 1, x0, x1, x5, x7, x8 => if x7 ≥ 4294967296 then (natural_step0.j1 k x0 x1 x5 x7 x8 true) else (if 0 ≤ (wrap64 (x5 - 2)) then (if (wrap64 (x5 - 2)) < (x1.length : Int) then (if (wrap64 (x5 - 2)) < (x0.length : Int) then (natural_step0.j1 k x0 x1 x5 x7 x8 (decide ((IntKind.u64.wrap (x7 * (IntKind.u64.wrap (rd x1 (wrap64 (x5 - 2)))))) > (Go.bits .or .u64 (IntKind.u64.wrap (x8 * 4294967296)) (IntKind.u64.wrap (rd x0 (wrap64 (x5 - 2)))))))) else (none)) else (none)) else (none))
def natural_step0.j1 : Nat → List Int → List Int → Int → Int → Int → Bool → Option (Int × List Int)
 | 0, _, _, _, _, _, _ => none
 | k + 1, x0, x1, x5, x7, x8, x69 => if x69 = true then (if 0 ≤ (wrap64 (x5 - 1)) then (if (wrap64 (x5 - 1)) < (x1.length : Int) then (if (IntKind.u64.wrap (x8 + (IntKind.u64.wrap (rd x1 (wrap64 (x5 - 1)))))) ≥ 4294967296 then (natural_step0.j2 k x0 x1 x5 (IntKind.u64.wrap (x7 - 1))) else (natural_step0.l0 k x0 x1 x5 (IntKind.u64.wrap (x7 - 1)) (IntKind.u64.wrap (x8 + (IntKind.u64.wrap (rd x1 (wrap64 (x5 - 1)))))))) else (none)) else (none)) else (natural_step0.j2 k x0 x1 x5 x7)
end
def natural_step0.f (k : Nat) (l0 : List Int) (l1 : List Int) : Option (Int × List Int) := if 0 ≤ (l1.length : Int) then (if (l1.length : Int) < (l0.length : Int) then (if 0 ≤ (wrap64 ((l1.length : Int) - 1)) then (if (wrap64 ((l1.length : Int) - 1)) < (l0.length : Int) then (if (wrap64 ((l1.length : Int) - 1)) < (l1.length : Int) then (if (IntKind.u64.wrap (rd l1 (wrap64 ((l1.length : Int) - 1)))) = 0 then (none) else (natural_step0.l0 k l0 l1 (l1.length : Int) (IntKind.u64.wrap (Int.tdiv (Go.bits .or .u64 (IntKind.u64.wrap ((IntKind.u64.wrap (rd l0 (l1.length : Int))) * 4294967296)) (IntKind.u64.wrap (rd l0 (wrap64 ((l1.length : Int) - 1))))) (IntKind.u64.wrap (rd l1 (wrap64 ((l1.length : Int) - 1)))))) (Int.tmod (Go.bits .or .u64 (IntKind.u64.wrap ((IntKind.u64.wrap (rd l0 (l1.length : Int))) * 4294967296)) (IntKind.u64.wrap (rd l0 (wrap64 ((l1.length : Int) - 1))))) (IntKind.u64.wrap (rd l1 (wrap64 ((l1.length : Int) - 1))))))) else (none)) else (none)) else (none)) else (none)) else (none)
theorem natural_step0.mono_l : ∀ k, (∀ y0 y1 y2 y3, LeO (natural_step0.j2 k y0 y1 y2 y3) (natural_step0.j2 (k + 1) y0 y1 y2 y3)) ∧ (∀ y0 y1 y2 y3 y4 y5 y6 y7 y8, LeO (natural_step0.l1 k y0 y1 y2 y3 y4 y5 y6 y7 y8) (natural_step0.l1 (k + 1) y0 y1 y2 y3 y4 y5 y6 y7 y8)) ∧ (∀ y0 y1 y2 y3 y4 y5 y6, LeO (natural_step0.l2 k y0 y1 y2 y3 y4 y5 y6) (natural_step0.l2 (k + 1) y0 y1 y2 y3 y4 y5 y6)) ∧ (∀ y0 y1 y2 y3 y4, LeO (natural_step0.l0 k y0 y1 y2 y3 y4) (natural_step0.l0 (k + 1) y0 y1 y2 y3 y4)) ∧ (∀ y0 y1 y2 y3 y4 y5, LeO (natural_step0.j1 k y0 y1 y2 y3 y4 y5) (natural_step0.j1 (k + 1) y0 y1 y2 y3 y4 y5))
 | 0 => ⟨fun _ _ _ _ r h => by simp [natural_step0.j2] at h, fun _ _ _ _ _ _ _ _ _ r h => by simp [natural_step0.l1] at h, fun _ _ _ _ _ _ _ r h => by simp [natural_step0.l2] at h, fun _ _ _ _ _ r h => by simp [natural_step0.l0] at h, fun _ _ _ _ _ _ r h => by simp [natural_step0.j1] at h⟩
 | k + 1 => by
  obtain ⟨ih0, ih1, ih2, ih3, ih4⟩ := natural_step0.mono_l k
  refine ⟨?_, ?_, ?_, ?_, ?_⟩
  ·intro y0 y1 y2 y3
   unfold natural_step0.j2
   have m0 := @ih0; have m1 := @ih1; have m2 := @ih2; have m3 := @ih3; have m4 := @ih4; exact xM
  ·intro y0 y1 y2 y3 y4 y5 y6 y7 y8
   unfold natural_step0.l1
   have m0 := @ih0; have m1 := @ih1; have m2 := @ih2; have m3 := @ih3; have m4 := @ih4; exact xM
  ·intro y0 y1 y2 y3 y4 y5 y6
   unfold natural_step0.l2
   have m0 := @ih0; have m1 := @ih1; have m2 := @ih2; have m3 := @ih3; have m4 := @ih4; exact xM
  ·intro y0 y1 y2 y3 y4
   unfold natural_step0.l0
   have m0 := @ih0; have m1 := @ih1; have m2 := @ih2; have m3 := @ih3; have m4 := @ih4; exact xM
  ·intro y0 y1 y2 y3 y4 y5
   unfold natural_step0.j1
   have m0 := @ih0; have m1 := @ih1; have m2 := @ih2; have m3 := @ih3; have m4 := @ih4; exact xM
theorem natural_step0.mono : ∀ a0 a1 k, LeO (natural_step0.f k a0 a1) (natural_step0.f (k + 1) a0 a1) := by
 intro a0 a1 k
 obtain ⟨ih0, ih1, ih2, ih3, ih4⟩ := natural_step0.mono_l k
 unfold natural_step0.f
 have m0 := @ih0; have m1 := @ih1; have m2 := @ih2; have m3 := @ih3; have m4 := @ih4; exact xM
set_option maxHeartbeats 8000000 in
set_option maxRecDepth 100000 in
theorem natural_step0.calls (k : Nat) (P0_ : Nat → Prop) (uw_ : Value) (pre_ post_ : List Int) (u9000_ : Value) (l0 : List Int) (A1 : Option Addr) (c1 : Nat) (l1 : List Int) (r1 : Int) (r2 : List Int) (w0 w : World) (hB : Below w0.heap.size w0 w) (ho0 : Kd.Wn uw_ pre_ post_ 85 w w0.heap.size P0_ u9000_ l0) (hr1 : ∀ W_, Kept w W_ (fun k_ => P0_ k_) → Kd.C (Kd.int .u32) W_ A1 l1.length l1) (hc1 : l1.length ≤ c1) (h : natural_step0.f k l0 l1 = some (r1, r2)) :
  Calls Tryd.prog 112 #[u9000_, .slice A1 l1.length c1] w fun e w' => e = .returned (.int .u32 r1) ∧ Kd.Wn uw_ pre_ post_ 85 w' w0.heap.size (fun k_ => (P0_ k_ ∨ w.heap.size ≤ k_)) u9000_ r2 ∧ Below w0.heap.size w0 w' ∧ Kept w w' (fun k_ => P0_ k_) := by
 have HO0 := Aside0.mk (show Kd.Wn uw_ pre_ post_ 85 w w0.heap.size (fun k_ => (P0_ k_ ∨ w.heap.size ≤ k_)) u9000_ l0 from Kd.Wn_mono ho0 (fun k_ hk => (.inl hk)))
 have HR1 := Aside0.mk hr1
 have HC1 := Aside0.mk hc1
 clear hr1 hc1
 have HK := Aside0.mk (Kept.refl w (fun k_ => P0_ k_))
 have HW0 := Aside0.mk hB.size
 have HB := Aside0.mk hB
 clear hB
 have H : (if 0 ≤ (l1.length : Int) then (if (l1.length : Int) < (l0.length : Int) then (if 0 ≤ (wrap64 ((l1.length : Int) - 1)) then (if (wrap64 ((l1.length : Int) - 1)) < (l0.length : Int) then (if (wrap64 ((l1.length : Int) - 1)) < (l1.length : Int) then (if (IntKind.u64.wrap (rd l1 (wrap64 ((l1.length : Int) - 1)))) = 0 then (none) else (natural_step0.l0 k l0 l1 (l1.length : Int) (IntKind.u64.wrap (Int.tdiv (Go.bits .or .u64 (IntKind.u64.wrap ((IntKind.u64.wrap (rd l0 (l1.length : Int))) * 4294967296)) (IntKind.u64.wrap (rd l0 (wrap64 ((l1.length : Int) - 1))))) (IntKind.u64.wrap (rd l1 (wrap64 ((l1.length : Int) - 1)))))) (Int.tmod (Go.bits .or .u64 (IntKind.u64.wrap ((IntKind.u64.wrap (rd l0 (l1.length : Int))) * 4294967296)) (IntKind.u64.wrap (rd l0 (wrap64 ((l1.length : Int) - 1))))) (IntKind.u64.wrap (rd l1 (wrap64 ((l1.length : Int) - 1))))))) else (none)) else (none)) else (none)) else (none)) else (none)) = some (r1, r2) := h
 clear h
 by_cases c3 : 0 ≤ (l1.length : Int)
 rotate_left
 ·rw [if_neg c3] at H
  exact absurd H (by simp)
 rw [if_pos c3] at H
 have c3b0 : decide (0 ≤ (l1.length : Int)) = true := decide_eq_true c3
 have c3b1 : decide (0 ≤ l1.length) = true := decide_eq_true (by omega)
 clear c3
 by_cases c4 : (l1.length : Int) < (l0.length : Int)
 rotate_left
 ·rw [if_neg c4] at H
  exact absurd H (by simp)
 rw [if_pos c4] at H
 have c4b0 : decide ((l1.length : Int) < (l0.length : Int)) = true := decide_eq_true c4
 have c4b1 : decide (l1.length < l0.length) = true := decide_eq_true (Int.ofNat_lt.mp c4)
 clear c4
 obtain ⟨ji5, hji5⟩ : ∃ j_ : Int, (wrap64 ((l1.length : Int) - 1)) = j_ := ⟨_, rfl⟩
 replace H : (if 0 ≤ (ji5) then (if (ji5) < (l0.length : Int) then (if (ji5) < (l1.length : Int) then (if (IntKind.u64.wrap (rd l1 (ji5))) = 0 then (none) else (natural_step0.l0 k l0 l1 (l1.length : Int) (IntKind.u64.wrap (Int.tdiv (Go.bits .or .u64 (IntKind.u64.wrap ((IntKind.u64.wrap (rd l0 (l1.length : Int))) * 4294967296)) (IntKind.u64.wrap (rd l0 (ji5)))) (IntKind.u64.wrap (rd l1 (ji5))))) (Int.tmod (Go.bits .or .u64 (IntKind.u64.wrap ((IntKind.u64.wrap (rd l0 (l1.length : Int))) * 4294967296)) (IntKind.u64.wrap (rd l0 (ji5)))) (IntKind.u64.wrap (rd l1 (ji5)))))) else (none)) else (none)) else (none)) = some (r1, r2) := by first | (rw [hji5] at H; exact H) | (simp only [hji5] at H ⊢; exact H)
 have hji5w : (IntKind.i64.wrap ((l1.length : Int) - 1)) = ji5 := (i64_w _).trans hji5
 by_cases c6 : 0 ≤ (ji5)
 rotate_left
 ·rw [if_neg c6] at H
  exact absurd H (by simp)
 rw [if_pos c6] at H
 have c6b0 : decide (0 ≤ (ji5)) = true := decide_eq_true c6
 clear c6
 by_cases c7 : (ji5) < (l0.length : Int)
 rotate_left
 ·rw [if_neg c7] at H
  exact absurd H (by simp)
 rw [if_pos c7] at H
 have c7b0 : decide ((ji5) < (l0.length : Int)) = true := decide_eq_true c7
 clear c7
 by_cases c8 : (ji5) < (l1.length : Int)
 rotate_left
 ·rw [if_neg c8] at H
  exact absurd H (by simp)
 rw [if_pos c8] at H
 have c8b0 : decide ((ji5) < (l1.length : Int)) = true := decide_eq_true c8
 clear c8
 by_cases c9 : (IntKind.u64.wrap (rd l1 (ji5))) = 0
 ·rw [if_pos c9] at H
  exact absurd H (by simp)
 ·rw [if_neg c9] at H
  have c9b0 : ((IntKind.u64.wrap (rd l1 (ji5))) == 0) = false := beq_eq_false_iff_ne.mpr c9
  have c9b1 : ((IntKind.u64.wrap (rd l1 (ji5))) != 0) = true := bne_iff_ne.mpr c9
  have HC10 := Aside0.mk H
  clear H
  obtain ⟨Ao11, co11, eo11⟩ := Kd.Wn_slice HO0.out
  subst eo11
  have p318 : 0 ≤ ((l1.length : Int) : Int) := xa
  have q318 : (l1.length : Int) < (l0.length : Int) := xa
  obtain ⟨ad318, e318, hx318_0⟩ := Kd.at_int (Kd.Wn_reads' HO0.out).2.2 (l1.length : Int) p318 q318
  cases e318
  (try simp only [Go.IntWalk.toNatUp] at hx318_0)
  replace p318 := eq_true p318
  replace q318 := eq_true q318
  have p319 : 0 ≤ ((ji5) : Int) := xa
  have q319 : (ji5) < (l0.length : Int) := xa
  obtain ⟨ad319, e319, hx319_0⟩ := Kd.at_int (Kd.Wn_reads' HO0.out).2.2 (ji5) p319 q319
  obtain rfl : ad318 = ad319 := (by injection e319)
  replace p319 := eq_true p319
  replace q319 := eq_true q319
  have p320 : 0 ≤ ((ji5) : Int) := xa
  have q320 : (ji5) < (l1.length : Int) := xa
  obtain ⟨ad320, e320, hx320_0⟩ := Kd.at_int (Kd.C_kept_now HR1.out HK.out) (ji5) p320 q320
  cases e320
  replace p320 := eq_true p320
  replace q320 := eq_true q320
  have p321 : 0 ≤ ((ji5) : Int) := xa
  have q321 : (ji5) < (l1.length : Int) := xa
  obtain ⟨ad321, e321, hx321_0⟩ := Kd.at_int (Kd.C_kept_now HR1.out HK.out) (ji5) p321 q321
  obtain rfl : ad320 = ad321 := (by injection e321)
  replace p321 := eq_true p321
  replace q321 := eq_true q321
  go_enter Tryd.func112, Tryd.ntmps112
  go_upto_block 0 with (fail)
  repeat (go_quiet (fail); go_upto_block 0 with (fail))
  go_cut [7] (fun v7 wc => ∃ (kq : Nat) (x7_9 : Int), v7 = .int .u64 x7_9 ∧ Aside0 (natural_step0.j2 kq l0 l1 (l1.length : Int) x7_9 = some (r1, r2)) ∧ Aside0 (kq ≤ k) ∧ Aside0 (Kd.Wn uw_ pre_ post_ 85 wc w0.heap.size (fun k_ => (P0_ k_ ∨ w.heap.size ≤ k_)) (.slice (some ad318) l0.length co11) l0) ∧ Aside0 (Kept w wc (fun k_ => P0_ k_)) ∧ Aside0 (Below w0.heap.size w0 wc))
  case first =>
   have H := HC10.out
   clear HC10
   have H' := Aside0.mk H
   clear H
   go_wp2
   repeat (go_quiet (fail); try go_wp2)
   go_loopg [7, 8] k (fun kq v7 v8 w' => ∃ (x7_1 : Int) (x8_1 : Int), v7 = .int .u64 x7_1 ∧ v8 = .int .u64 x8_1 ∧ Aside0 (natural_step0.l0 kq l0 l1 (l1.length : Int) x7_1 x8_1 = some (r1, r2)) ∧ Aside0 (kq ≤ k) ∧ Aside0 (Kd.Wn uw_ pre_ post_ 85 w' w0.heap.size (fun k_ => (P0_ k_ ∨ w.heap.size ≤ k_)) (.slice (some ad318) l0.length co11) l0) ∧ Aside0 (Kept w w' (fun k_ => P0_ k_)) ∧ Aside0 (Below w0.heap.size w0 w'))
   case atStart => exact ⟨(IntKind.u64.wrap (Int.tdiv (Go.bits .or .u64 (IntKind.u64.wrap ((IntKind.u64.wrap (rd l0 (l1.length : Int))) * 4294967296)) (IntKind.u64.wrap (rd l0 (ji5)))) (IntKind.u64.wrap (rd l1 (ji5))))), (Int.tmod (Go.bits .or .u64 (IntKind.u64.wrap ((IntKind.u64.wrap (rd l0 (l1.length : Int))) * 4294967296)) (IntKind.u64.wrap (rd l0 (ji5)))) (IntKind.u64.wrap (rd l1 (ji5)))), (by first | rfl | (simp; done) | (simp only [← hji5] <;> (first | rfl | simp)) | (simp [*]; done)), (by first | rfl | (simp; done) | (simp only [← hji5] <;> (first | rfl | simp)) | (simp [*]; done)), H', ⟨Nat.le_refl _⟩, ⟨by (with_reducible repeat (first | apply Kd.Wn_alloc | apply Kd.Wn_drewN | apply Kd.Wn_drew)); exact HO0.out⟩, ⟨by repeat (first | (with_reducible first | exact HK.out | apply Kept.alloc | apply Kept.drewN | apply Kept.drew) | exact HK.out)⟩, ⟨xs HB⟩⟩
   case round =>
    clear H'
    try clear c1
    try clear p2
    try clear c3
    try clear c3b0
    try clear c3b1
    try clear p3
    try clear q3
    try clear hx3
    try clear c4
    try clear c4b0
    try clear c4b1
    try clear c6
    try clear c6b0
    try clear p6
    try clear c7
    try clear c7b0
    try clear c8
    try clear c8b0
    try clear c9
    try clear c9b0
    try clear c9b1
    try clear c11
    try clear hx318_0
    try clear hx319_0
    try clear hx320_0
    try clear hx321_0
    try clear p318
    try clear p319
    try clear p320
    try clear p321
    try clear q318
    try clear q319
    try clear q320
    try clear q321
    obtain ⟨x7_1, x8_1, rfl, rfl, HA, HK1, HO_0, HK, HB⟩ := hrel
    cases gk with
    | zero => exact absurd HA.out (by simp [natural_step0.l0])
    | succ k1 =>
     have H := HA.out
     clear HA
     simp only [natural_step0.l0] at H
     have HC12 := Aside0.mk H
     clear H
     go_upto_region 4 with (fail)
     repeat (go_quiet (fail); go_upto_region 4 with (fail))
     go_cut [69] (fun v69 wc => ∃ (kq : Nat) (x69_11 : Bool), v69 = .bool x69_11 ∧ Aside0 (natural_step0.j1 kq l0 l1 (l1.length : Int) x7_1 x8_1 x69_11 = some (r1, r2)) ∧ Aside0 (kq ≤ k1) ∧ Aside0 (Kd.Wn uw_ pre_ post_ 85 wc w0.heap.size (fun k_ => (P0_ k_ ∨ w.heap.size ≤ k_)) (.slice (some ad318) l0.length co11) l0) ∧ Aside0 (Kept w wc (fun k_ => P0_ k_)) ∧ Aside0 (Below w0.heap.size w0 wc))
     case first =>
      have H := HC12.out
      clear HC12
      by_cases c13 : x7_1 ≥ 4294967296
      ·rw [if_pos c13] at H
       have c13b0 : decide (4294967296 ≤ x7_1) = true := decide_eq_true c13
       clear c13
       (first | rw [c13b0] | (simp only [i64_w, i32_w]; rw [c13b0]) | skip)
       have H' := Aside0.mk H
       clear H
       go_wp2
       repeat (go_quiet (fail); try go_wp2)
       go_meet
       case rel => exact ⟨_, (true), xz, H', ⟨by have := HK1.out; first | omega | exact Nat.le_refl _⟩, ⟨by (with_reducible repeat (first | apply Kd.Wn_alloc | apply Kd.Wn_drewN | apply Kd.Wn_drew)); exact HO_0.out⟩, ⟨by repeat (first | (with_reducible first | exact HK.out | apply Kept.alloc | apply Kept.drewN | apply Kept.drew) | exact HK.out)⟩, ⟨xs HB⟩⟩
      ·rw [if_neg c13] at H
       have c13b0 : decide (4294967296 ≤ x7_1) = false := decide_eq_false c13
       clear c13
       (first | rw [c13b0] | (simp only [i64_w, i32_w]; rw [c13b0]) | skip)
       obtain ⟨ji14, hji14⟩ : ∃ j_ : Int, (wrap64 ((l1.length : Int) - 2)) = j_ := ⟨_, rfl⟩
       replace H : (if 0 ≤ (ji14) then (if (ji14) < (l1.length : Int) then (if (ji14) < (l0.length : Int) then (natural_step0.j1 k1 l0 l1 (l1.length : Int) x7_1 x8_1 (decide ((IntKind.u64.wrap (x7_1 * (IntKind.u64.wrap (rd l1 (ji14))))) > (Go.bits .or .u64 (IntKind.u64.wrap (x8_1 * 4294967296)) (IntKind.u64.wrap (rd l0 (ji14))))))) else (none)) else (none)) else (none)) = some (r1, r2) := by first | (rw [hji14] at H; exact H) | (simp only [hji14] at H ⊢; exact H)
       have hji14w : (IntKind.i64.wrap ((l1.length : Int) - 2)) = ji14 := (i64_w _).trans hji14
       by_cases c15 : 0 ≤ (ji14)
       rotate_left
       ·rw [if_neg c15] at H
        exact absurd H (by simp)
       rw [if_pos c15] at H
       have c15b0 : decide (0 ≤ (ji14)) = true := decide_eq_true c15
       clear c15
       by_cases c16 : (ji14) < (l1.length : Int)
       rotate_left
       ·rw [if_neg c16] at H
        exact absurd H (by simp)
       rw [if_pos c16] at H
       have c16b0 : decide ((ji14) < (l1.length : Int)) = true := decide_eq_true c16
       clear c16
       by_cases c17 : (ji14) < (l0.length : Int)
       rotate_left
       ·rw [if_neg c17] at H
        exact absurd H (by simp)
       rw [if_pos c17] at H
       have c17b0 : decide ((ji14) < (l0.length : Int)) = true := decide_eq_true c17
       clear c17
       have H' := Aside0.mk H
       clear H
       have p322 : 0 ≤ ((ji14) : Int) := xa
       have q322 : (ji14) < (l1.length : Int) := xa
       obtain ⟨ad322, e322, hx322_0⟩ := Kd.at_int (Kd.C_kept_now HR1.out HK.out) (ji14) p322 q322
       obtain rfl : ad320 = ad322 := (by injection e322)
       replace p322 := eq_true p322
       replace q322 := eq_true q322
       have p323 : 0 ≤ ((ji14) : Int) := xa
       have q323 : (ji14) < (l0.length : Int) := xa
       obtain ⟨ad323, e323, hx323_0⟩ := Kd.at_int (Kd.Wn_reads' HO_0.out).2.2 (ji14) p323 q323
       obtain rfl : ad318 = ad323 := (by injection e323)
       replace p323 := eq_true p323
       replace q323 := eq_true q323
       go_wp2
       repeat (go_quiet (fail); try go_wp2)
       go_meet
       case rel => exact ⟨_, (decide ((IntKind.u64.wrap (x7_1 * (IntKind.u64.wrap (rd l1 (ji14))))) > (Go.bits .or .u64 (IntKind.u64.wrap (x8_1 * 4294967296)) (IntKind.u64.wrap (rd l0 (ji14)))))), (by first | rfl | (simp; done) | (simp only [← hji14] <;> (first | rfl | simp)) | (simp [*]; done)), H', ⟨by have := HK1.out; first | omega | exact Nat.le_refl _⟩, ⟨by (with_reducible repeat (first | apply Kd.Wn_alloc | apply Kd.Wn_drewN | apply Kd.Wn_drew)); exact HO_0.out⟩, ⟨by repeat (first | (with_reducible first | exact HK.out | apply Kept.alloc | apply Kept.drewN | apply Kept.drew) | exact HK.out)⟩, ⟨xs HB⟩⟩
     case rest =>
      clear HC12
      try clear c1
      try clear p2
      try clear c3
      try clear c3b0
      try clear c3b1
      try clear p3
      try clear q3
      try clear hx3
      try clear c4
      try clear c4b0
      try clear c4b1
      try clear c6
      try clear c6b0
      try clear p6
      try clear c7
      try clear c7b0
      try clear c8
      try clear c8b0
      try clear c9
      try clear c9b0
      try clear c9b1
      try clear c11
      try clear c13
      try clear c13b0
      try clear c15
      try clear c15b0
      try clear c16
      try clear c16b0
      try clear c17
      try clear c17b0
      try clear hx318_0
      try clear hx319_0
      try clear hx320_0
      try clear hx321_0
      try clear hx322_0
      try clear hx323_0
      try clear p2
      try clear p3
      try clear p318
      try clear p319
      try clear p320
      try clear p321
      try clear p322
      try clear p323
      try clear p6
      try clear q3
      try clear q318
      try clear q319
      try clear q320
      try clear q321
      try clear q322
      try clear q323
      obtain ⟨kq, x69_11, rfl, HA, HJ11, HO_0, HK, HB⟩ := hcut
      cases kq with
      | zero => exact absurd HA.out (by simp [natural_step0.j1])
      | succ kj11 =>
       have H := HA.out
       clear HA
       simp only [natural_step0.j1] at H
       by_cases c18 : x69_11 = true
       ·subst c18
        replace H := xI H
        obtain ⟨ji19, hji19⟩ : ∃ j_ : Int, (wrap64 ((l1.length : Int) - 1)) = j_ := ⟨_, rfl⟩
        try clear hji5w
        try clear hji5m
        try clear hji5_
        try clear hji5z
        try clear hji5
        try clear hji5w
        try clear hji5m
        try clear hji5_
        try clear hji5z
        try clear hji5
        replace H : (if 0 ≤ (ji19) then (if (ji19) < (l1.length : Int) then (if (IntKind.u64.wrap (x8_1 + (IntKind.u64.wrap (rd l1 (ji19))))) ≥ 4294967296 then (natural_step0.j2 kj11 l0 l1 (l1.length : Int) (IntKind.u64.wrap (x7_1 - 1))) else (natural_step0.l0 kj11 l0 l1 (l1.length : Int) (IntKind.u64.wrap (x7_1 - 1)) (IntKind.u64.wrap (x8_1 + (IntKind.u64.wrap (rd l1 (ji19))))))) else (none)) else (none)) = some (r1, r2) := by first | (rw [hji19] at H; exact H) | (simp only [hji19] at H ⊢; exact H)
        (try (have hji19n := hji19; simp only [hji5] at hji19n))
        (try (have hji19n := hji19; simp only [hji5] at hji19n))
        have hji19w : (IntKind.i64.wrap ((l1.length : Int) - 1)) = ji19 := (i64_w _).trans hji19
        by_cases c20 : 0 ≤ (ji19)
        rotate_left
        ·rw [if_neg c20] at H
         exact absurd H (by simp)
        rw [if_pos c20] at H
        have c20b0 : decide (0 ≤ (ji19)) = true := decide_eq_true c20
        clear c20
        by_cases c21 : (ji19) < (l1.length : Int)
        rotate_left
        ·rw [if_neg c21] at H
         exact absurd H (by simp)
        rw [if_pos c21] at H
        have c21b0 : decide ((ji19) < (l1.length : Int)) = true := decide_eq_true c21
        clear c21
        by_cases c22 : (IntKind.u64.wrap (x8_1 + (IntKind.u64.wrap (rd l1 (ji19))))) ≥ 4294967296
        ·rw [if_pos c22] at H
         have c22b0 : decide (4294967296 ≤ (IntKind.u64.wrap (x8_1 + (IntKind.u64.wrap (rd l1 (ji19)))))) = true := decide_eq_true c22
         clear c22
         have H' := Aside0.mk H
         clear H
         have p324 : 0 ≤ ((ji19) : Int) := xa
         have q324 : (ji19) < (l1.length : Int) := xa
         obtain ⟨ad324, e324, hx324_0⟩ := Kd.at_int (Kd.C_kept_now HR1.out HK.out) (ji19) p324 q324
         obtain rfl : ad320 = ad324 := (by injection e324)
         replace p324 := eq_true p324
         replace q324 := eq_true q324
         go_wp2
         repeat (go_quiet (fail); try go_wp2)
         go_meet
         case rel => exact ⟨_, (IntKind.u64.wrap (x7_1 - 1)), xz, H', ⟨by have := HK1.out; have := HJ11.out; first | omega | exact Nat.le_refl _⟩, ⟨by (with_reducible repeat (first | apply Kd.Wn_alloc | apply Kd.Wn_drewN | apply Kd.Wn_drew)); exact HO_0.out⟩, ⟨by repeat (first | (with_reducible first | exact HK.out | apply Kept.alloc | apply Kept.drewN | apply Kept.drew) | exact HK.out)⟩, ⟨xs HB⟩⟩
        ·rw [if_neg c22] at H
         have c22b0 : decide (4294967296 ≤ (IntKind.u64.wrap (x8_1 + (IntKind.u64.wrap (rd l1 (ji19)))))) = false := decide_eq_false c22
         clear c22
         have H' := Aside0.mk H
         clear H
         have p324 : 0 ≤ ((ji19) : Int) := xa
         have q324 : (ji19) < (l1.length : Int) := xa
         obtain ⟨ad324, e324, hx324_0⟩ := Kd.at_int (Kd.C_kept_now HR1.out HK.out) (ji19) p324 q324
         obtain rfl : ad320 = ad324 := (by injection e324)
         replace p324 := eq_true p324
         replace q324 := eq_true q324
         go_wp2
         repeat (go_quiet (fail); try go_wp2)
         (first | go_roundg kj11 | (refine Handed.intro kj11 ?measure ?_; rotate_left; go_step; (repeat apply Exists.intro); refine ⟨?rel, (by first | rfl | (simp only [add_plain]; rfl))⟩))
         case measure => have := HK1.out; have := HJ11.out; omega
         case rel => exact ⟨(IntKind.u64.wrap (x7_1 - 1)), (IntKind.u64.wrap (x8_1 + (IntKind.u64.wrap (rd l1 (ji19))))), xz, (by first | rfl | (simp; done) | (simp only [← hji19] <;> (first | rfl | simp)) | (simp [*]; done)), H', ⟨by have := HK1.out; have := HJ11.out; omega⟩, ⟨by (with_reducible repeat (first | apply Kd.Wn_alloc | apply Kd.Wn_drewN | apply Kd.Wn_drew)); exact HO_0.out⟩, ⟨by repeat (first | (with_reducible first | exact HK.out | apply Kept.alloc | apply Kept.drewN | apply Kept.drew) | exact HK.out)⟩, ⟨xs HB⟩⟩
       ·replace c18 := Bool.eq_false_iff.mpr c18
        subst c18
        have H1 : (natural_step0.j2 kj11 l0 l1 (l1.length : Int) x7_1) = some (r1, r2) := by rw [if_neg (show ¬ (false = true) by decide)] at H; exact H
        clear H
        have H := H1
        clear H1
        have H' := Aside0.mk H
        clear H
        go_wp2
        repeat (go_quiet (fail); try go_wp2)
        go_meet
        case rel => exact ⟨_, (x7_1), xz, H', ⟨by have := HK1.out; have := HJ11.out; first | omega | exact Nat.le_refl _⟩, ⟨by (with_reducible repeat (first | apply Kd.Wn_alloc | apply Kd.Wn_drewN | apply Kd.Wn_drew)); exact HO_0.out⟩, ⟨by repeat (first | (with_reducible first | exact HK.out | apply Kept.alloc | apply Kept.drewN | apply Kept.drew) | exact HK.out)⟩, ⟨xs HB⟩⟩
  case rest =>
   clear HC10
   try clear c1
   try clear c2
   try clear p2
   try clear c3
   try clear c3b0
   try clear c3b1
   try clear p3
   try clear q3
   try clear hx3
   try clear c4
   try clear c4b0
   try clear c4b1
   try clear c6
   try clear c6b0
   try clear p6
   try clear c7
   try clear c7b0
   try clear c8
   try clear c8b0
   try clear c9
   try clear c9b0
   try clear c9b1
   try clear c11
   try clear c13
   try clear c13b0
   try clear c15
   try clear c15b0
   try clear c16
   try clear c16b0
   try clear c17
   try clear c17b0
   try clear c18
   try clear c20
   try clear c20b0
   try clear c21
   try clear c21b0
   try clear c22
   try clear c22b0
   try clear hx318_0
   try clear hx319_0
   try clear hx320_0
   try clear hx321_0
   try clear hx322_0
   try clear hx323_0
   try clear hx324_0
   try clear p2
   try clear p3
   try clear p318
   try clear p319
   try clear p320
   try clear p321
   try clear p322
   try clear p323
   try clear p324
   try clear p6
   try clear q3
   try clear q318
   try clear q319
   try clear q320
   try clear q321
   try clear q322
   try clear q323
   try clear q324
   obtain ⟨kq, x7_9, rfl, HA, HJ9, HO_0, HK, HB⟩ := hcut
   cases kq with
   | zero => exact absurd HA.out (by simp [natural_step0.j2])
   | succ kj9 =>
    have H := HA.out
    clear HA
    simp only [natural_step0.j2] at H
    have H' := Aside0.mk H
    clear H
    go_wp2
    repeat (go_quiet (fail); try go_wp2)
    go_loopg [9, 10, 84] kj9 (fun kq v9 v10 v84 w' => ∃ (x0_2 : List Int) (x9_2 : Int) (x10_2 : Int) (x84_2 : Int), v9 = .int .u64 x9_2 ∧ v10 = .int .u32 x10_2 ∧ v84 = .int .i64 x84_2 ∧ Aside0 (natural_step0.l1 kq x0_2 l1 (l1.length : Int) x7_9 x9_2 x10_2 l1 (l1.length : Int) x84_2 = some (r1, r2)) ∧ Aside0 (kq ≤ kj9) ∧ Aside0 (Kd.Wn uw_ pre_ post_ 85 w' w0.heap.size (fun k_ => (P0_ k_ ∨ w.heap.size ≤ k_)) (.slice (some ad318) l0.length co11) x0_2) ∧ Aside0 (Kept w w' (fun k_ => P0_ k_)) ∧ Aside0 (Below w0.heap.size w0 w'))
    case atStart => exact ⟨(l0), (0), (0), (0), xz, xz, xz, H', ⟨Nat.le_refl _⟩, ⟨by (with_reducible repeat (first | apply Kd.Wn_alloc | apply Kd.Wn_drewN | apply Kd.Wn_drew)); exact HO_0.out⟩, ⟨by repeat (first | (with_reducible first | exact HK.out | apply Kept.alloc | apply Kept.drewN | apply Kept.drew) | exact HK.out)⟩, ⟨xs HB⟩⟩
    case round =>
     clear H'
     try clear c1
     try clear c2
     try clear p2
     try clear c3
     try clear c3b0
     try clear c3b1
     try clear p3
     try clear q3
     try clear hx3
     try clear c4
     try clear c4b0
     try clear c4b1
     try clear c6
     try clear c6b0
     try clear p6
     try clear c7
     try clear c7b0
     try clear c8
     try clear c8b0
     try clear c9
     try clear c9b0
     try clear c9b1
     try clear c11
     try clear c13
     try clear c13b0
     try clear c15
     try clear c15b0
     try clear c16
     try clear c16b0
     try clear c17
     try clear c17b0
     try clear c18
     try clear c20
     try clear c20b0
     try clear c21
     try clear c21b0
     try clear c22
     try clear c22b0
     try clear hx318_0
     try clear hx319_0
     try clear hx320_0
     try clear hx321_0
     try clear hx322_0
     try clear hx323_0
     try clear hx324_0
     try clear p2
     try clear p3
     try clear p318
     try clear p319
     try clear p320
     try clear p321
     try clear p322
     try clear p323
     try clear p324
     try clear p6
     try clear q3
     try clear q318
     try clear q319
     try clear q320
     try clear q321
     try clear q322
     try clear q323
     try clear q324
     obtain ⟨x0_2, x9_2, x10_2, x84_2, rfl, rfl, rfl, HA, HK2, HO_0, HK, HB⟩ := hrel
     have hl0_2 := (Kd.Wn_reads' HO_0.out).1
     rw [hl0_2] at HO_0
     (try simp only [hl0_2])
     cases gk with
     | zero => exact absurd HA.out (by simp [natural_step0.l1])
     | succ k2 =>
      have H := HA.out
      clear HA
      simp only [natural_step0.l1] at H
      by_cases c23 : x84_2 < (l1.length : Int)
      ·rw [if_pos c23] at H
       have c23b0 : decide (x84_2 < (l1.length : Int)) = true := decide_eq_true c23
       (try simp only [hl0_2] at c23b0)
       (try simp only [hl0_2] at c23b0)
       clear c23
       by_cases c24 : 0 ≤ x84_2
       rotate_left
       ·rw [if_neg c24] at H
        exact absurd H (by simp)
       rw [if_pos c24] at H
       have c24b0 : decide (0 ≤ x84_2) = true := decide_eq_true c24
       clear c24
       by_cases c25 : x84_2 < (l1.length : Int)
       rotate_left
       ·rw [if_neg c25] at H
        exact absurd H (by simp)
       rw [if_pos c25] at H
       have c25b0 : decide (x84_2 < (l1.length : Int)) = true := decide_eq_true c25
       (try simp only [hl0_2] at c25b0)
       (try simp only [hl0_2] at c25b0)
       clear c25
       by_cases c26 : x84_2 < (x0_2.length : Int)
       rotate_left
       ·rw [if_neg c26] at H
        exact absurd H (by simp)
       rw [if_pos c26] at H
       have c26b0 : decide (x84_2 < (x0_2.length : Int)) = true := decide_eq_true c26
       (try simp only [hl0_2] at c26b0)
       (try simp only [hl0_2] at c26b0)
       clear c26
       replace H := xH H; obtain ⟨⟨t327, t328⟩, A27, H⟩ := H
       dsimp only at H
       obtain ⟨y329, hy329⟩ : ∃ y_ : List Int, y_ = (x0_2.set (x84_2 : Int).toNat t327) := ⟨_, rfl⟩
       replace H : (natural_step0.l1 k2 y329 l1 (l1.length : Int) x7_9 ((IntKind.u64.wrap ((IntKind.u64.wrap (x7_9 * (IntKind.u64.wrap (rd l1 x84_2)))) + x9_2)) / 4294967296) t328 l1 (l1.length : Int) (wrap64 (x84_2 + 1))) = some (r1, r2) := by first | (rw [hy329]; with_reducible exact H) | (have H2_ := (Option.bind_some _ _).symm.trans H; rw [hy329]; with_reducible exact H2_) | (have H2_ := (Option.bind_some _ _).symm.trans H; with_reducible exact H2_) | with_reducible exact H | (rw [hy329]; exact H) | exact H
       have Ny329 := Aside0.mk hy329
       clear hy329
       have H' := Aside0.mk H
       clear H
       have p325 : 0 ≤ (x84_2 : Int) := xa
       have q325 : x84_2 < (l1.length : Int) := xa
       obtain ⟨ad325, e325, hx325_0⟩ := Kd.at_int (Kd.C_kept_now HR1.out HK.out) x84_2 p325 q325
       obtain rfl : ad320 = ad325 := (by injection e325)
       replace p325 := eq_true p325
       replace q325 := eq_true q325
       have p326 : 0 ≤ (x84_2 : Int) := xa
       have q326 : x84_2 < (x0_2.length : Int) := xa
       obtain ⟨ad326, e326, hx326_0⟩ := Kd.at_int (Kd.Wn_reads' HO_0.out).2.2 x84_2 p326 q326
       obtain rfl : ad318 = ad326 := (by injection e326)
       replace p326 := eq_true p326
       replace q326 := eq_true q326
       go_wp2_with (first | (go_at_call 103; (with_reducible refine (bits_Sub32.calls (rd x0_2 x84_2) ((IntKind.u64.wrap ((IntKind.u64.wrap (x7_9 * (IntKind.u64.wrap (rd l1 x84_2)))) + x9_2)) % 4294967296) x10_2 t327 t328 _ A27.out).mono ?_); rintro e w' ⟨rfl, ⟨nd, rfl⟩⟩; (try first | exact ⟨rfl, _, World.drewN_drewN _ _ _⟩ | exact ⟨rfl, _, Eq.trans (World.drewN_drewN _ _ _) (congrArg (World.drewN _) (Nat.add_assoc _ _ _))⟩); have p28 : 0 ≤ (x84_2 : Int) := xa; have q28 : (x84_2 : Int) < ((x0_2.length : Int) : Int) := xa; obtain ⟨gb28, gl28, cl28, HG28⟩ := Kd.Wn_form HO_0.out (by omega); skip; have GB28 := Aside0.mk gb28; have GG28 := Aside0.mk HG28; clear gb28 gl28 HG28; have HMgo28 := Aside0.mk (show (P0_ ad318.block ∨ w.heap.size ≤ ad318.block) from ((Kd.Wn_own HO_0.out) _ rfl)); skip; skip; skip; skip; obtain ⟨hx28_0, hf28_0⟩ := Kd.Wn_celln 0 HO_0.out (x84_2 : Int) p28 q28; replace p28 := eq_true p28; replace q28 := eq_true q28; obtain ⟨hy29_, hz29_⟩ := Kd.Wn_celln 0 HO_0.out (x84_2 : Int) (xa) (xa); have HP29 := Kd.Wn_putg HO_0.out (x84_2 : Int) t327 (xa) (xa)) | ((with_reducible refine gate_store (t := 85) (p := 110) rfl ?_); (try (rw [drewN_self wr]; generalize hq_ : World.drewN wr _ = wr; have n0_ := Aside0.mk (Kd.Wn_at hq_ HO_0.out); have n1_ := Aside0.mk (kept_at hq_ HK.out); have n2_ := Aside0.mk (below_at hq_ HB.out); clear hq_ HO_0 HK HB; have HO_0 := n0_; have HK := n1_; have HB := n2_; clear n0_ n1_ n2_; (try (obtain ⟨hy29_, hz29_⟩ := Kd.Wn_celln 0 HO_0.out (x84_2 : Int) (xa) (xa))); (try (have HP29 := Kd.Wn_putg HO_0.out (x84_2 : Int) t327 (xa) (xa))))); refine store_event (t := 85) (p := 110) (v := ?vo_w30) (w1 := (wr.setCell (ad318.add (x84_2 : Int).toNat) (.int .u32 t327))) ?hg ?ho ?hn ?hr ?_; (case ho => rfl); (case hg => rfl); (case hn => rfl); (case hr => first | (go_simp; done) | (go_simp; rfl)); intro w30 hw; have hg : wr.grownBy w30 (some ad318.block) := (by rw [hw]; exact HP29.2); have hp_ : Kd.Wn uw_ pre_ post_ 85 w30 w0.heap.size (fun k_ => (P0_ k_ ∨ w.heap.size ≤ k_)) (.slice (some ad318) x0_2.length co11) y329 := (by rw [hw, Ny329.out]; exact HP29.1); clear HP29; replace HB := Aside0.mk ((by rw [hw]; exact Kd.below_add (HB.out) GB28.out : Below w0.heap.size w0 w30)); replace HK := Aside0.mk (Kept.of_grown (S := (fun k_ => P0_ k_)) hg (by repeat (first | (with_reducible first | exact HK.out | apply Kept.alloc | apply Kept.drewN | apply Kept.drew) | exact HK.out)) (fun k_ e_ => ((Kd.Wn_own HO_0.out) k_ e_))); replace HO_0 := Aside0.mk (hp_); clear hg hw hp_))
       repeat (go_quiet (first | (go_at_call 103; (with_reducible refine (bits_Sub32.calls (rd x0_2 x84_2) ((IntKind.u64.wrap ((IntKind.u64.wrap (x7_9 * (IntKind.u64.wrap (rd l1 x84_2)))) + x9_2)) % 4294967296) x10_2 t327 t328 _ A27.out).mono ?_); rintro e w' ⟨rfl, ⟨nd, rfl⟩⟩; (try first | exact ⟨rfl, _, World.drewN_drewN _ _ _⟩ | exact ⟨rfl, _, Eq.trans (World.drewN_drewN _ _ _) (congrArg (World.drewN _) (Nat.add_assoc _ _ _))⟩); have p28 : 0 ≤ (x84_2 : Int) := xa; have q28 : (x84_2 : Int) < ((x0_2.length : Int) : Int) := xa; obtain ⟨gb28, gl28, cl28, HG28⟩ := Kd.Wn_form HO_0.out (by omega); skip; have GB28 := Aside0.mk gb28; have GG28 := Aside0.mk HG28; clear gb28 gl28 HG28; have HMgo28 := Aside0.mk (show (P0_ ad318.block ∨ w.heap.size ≤ ad318.block) from ((Kd.Wn_own HO_0.out) _ rfl)); skip; skip; skip; skip; obtain ⟨hx28_0, hf28_0⟩ := Kd.Wn_celln 0 HO_0.out (x84_2 : Int) p28 q28; replace p28 := eq_true p28; replace q28 := eq_true q28; obtain ⟨hy29_, hz29_⟩ := Kd.Wn_celln 0 HO_0.out (x84_2 : Int) (xa) (xa); have HP29 := Kd.Wn_putg HO_0.out (x84_2 : Int) t327 (xa) (xa)) | ((with_reducible refine gate_store (t := 85) (p := 110) rfl ?_); (try (rw [drewN_self wr]; generalize hq_ : World.drewN wr _ = wr; have n0_ := Aside0.mk (Kd.Wn_at hq_ HO_0.out); have n1_ := Aside0.mk (kept_at hq_ HK.out); have n2_ := Aside0.mk (below_at hq_ HB.out); clear hq_ HO_0 HK HB; have HO_0 := n0_; have HK := n1_; have HB := n2_; clear n0_ n1_ n2_; (try (obtain ⟨hy29_, hz29_⟩ := Kd.Wn_celln 0 HO_0.out (x84_2 : Int) (xa) (xa))); (try (have HP29 := Kd.Wn_putg HO_0.out (x84_2 : Int) t327 (xa) (xa))))); refine store_event (t := 85) (p := 110) (v := ?vo_w30) (w1 := (wr.setCell (ad318.add (x84_2 : Int).toNat) (.int .u32 t327))) ?hg ?ho ?hn ?hr ?_; (case ho => rfl); (case hg => rfl); (case hn => rfl); (case hr => first | (go_simp; done) | (go_simp; rfl)); intro w30 hw; have hg : wr.grownBy w30 (some ad318.block) := (by rw [hw]; exact HP29.2); have hp_ : Kd.Wn uw_ pre_ post_ 85 w30 w0.heap.size (fun k_ => (P0_ k_ ∨ w.heap.size ≤ k_)) (.slice (some ad318) x0_2.length co11) y329 := (by rw [hw, Ny329.out]; exact HP29.1); clear HP29; have n0_ := Aside0.mk (hp_); have n1_ := Aside0.mk ((by rw [hw]; exact Kd.below_add (HB.out) GB28.out : Below w0.heap.size w0 w30)); have n2_ := Aside0.mk (Kept.of_grown (S := (fun k_ => P0_ k_)) hg (by repeat (first | (with_reducible first | exact HK.out | apply Kept.alloc | apply Kept.drewN | apply Kept.drew) | exact HK.out)) (fun k_ e_ => ((Kd.Wn_own HO_0.out) k_ e_))); clear HO_0; clear HB; clear HK; have HO_0 := n0_; have HB := n1_; have HK := n2_; clear n0_ n1_ n2_; clear hg hw hp_)); try go_wp2_with (first | (go_at_call 103; (with_reducible refine (bits_Sub32.calls (rd x0_2 x84_2) ((IntKind.u64.wrap ((IntKind.u64.wrap (x7_9 * (IntKind.u64.wrap (rd l1 x84_2)))) + x9_2)) % 4294967296) x10_2 t327 t328 _ A27.out).mono ?_); rintro e w' ⟨rfl, ⟨nd, rfl⟩⟩; (try first | exact ⟨rfl, _, World.drewN_drewN _ _ _⟩ | exact ⟨rfl, _, Eq.trans (World.drewN_drewN _ _ _) (congrArg (World.drewN _) (Nat.add_assoc _ _ _))⟩); have p28 : 0 ≤ (x84_2 : Int) := xa; have q28 : (x84_2 : Int) < ((x0_2.length : Int) : Int) := xa; obtain ⟨gb28, gl28, cl28, HG28⟩ := Kd.Wn_form HO_0.out (by omega); skip; have GB28 := Aside0.mk gb28; have GG28 := Aside0.mk HG28; clear gb28 gl28 HG28; have HMgo28 := Aside0.mk (show (P0_ ad318.block ∨ w.heap.size ≤ ad318.block) from ((Kd.Wn_own HO_0.out) _ rfl)); skip; skip; skip; skip; obtain ⟨hx28_0, hf28_0⟩ := Kd.Wn_celln 0 HO_0.out (x84_2 : Int) p28 q28; replace p28 := eq_true p28; replace q28 := eq_true q28; obtain ⟨hy29_, hz29_⟩ := Kd.Wn_celln 0 HO_0.out (x84_2 : Int) (xa) (xa); have HP29 := Kd.Wn_putg HO_0.out (x84_2 : Int) t327 (xa) (xa)) | ((with_reducible refine gate_store (t := 85) (p := 110) rfl ?_); (try (rw [drewN_self wr]; generalize hq_ : World.drewN wr _ = wr; have n0_ := Aside0.mk (Kd.Wn_at hq_ HO_0.out); have n1_ := Aside0.mk (kept_at hq_ HK.out); have n2_ := Aside0.mk (below_at hq_ HB.out); clear hq_ HO_0 HK HB; have HO_0 := n0_; have HK := n1_; have HB := n2_; clear n0_ n1_ n2_; (try (obtain ⟨hy29_, hz29_⟩ := Kd.Wn_celln 0 HO_0.out (x84_2 : Int) (xa) (xa))); (try (have HP29 := Kd.Wn_putg HO_0.out (x84_2 : Int) t327 (xa) (xa))))); refine store_event (t := 85) (p := 110) (v := ?vo_w30) (w1 := (wr.setCell (ad318.add (x84_2 : Int).toNat) (.int .u32 t327))) ?hg ?ho ?hn ?hr ?_; (case ho => rfl); (case hg => rfl); (case hn => rfl); (case hr => first | (go_simp; done) | (go_simp; rfl)); intro w30 hw; have hg : wr.grownBy w30 (some ad318.block) := (by rw [hw]; exact HP29.2); have hp_ : Kd.Wn uw_ pre_ post_ 85 w30 w0.heap.size (fun k_ => (P0_ k_ ∨ w.heap.size ≤ k_)) (.slice (some ad318) x0_2.length co11) y329 := (by rw [hw, Ny329.out]; exact HP29.1); clear HP29; replace HB := Aside0.mk ((by rw [hw]; exact Kd.below_add (HB.out) GB28.out : Below w0.heap.size w0 w30)); replace HK := Aside0.mk (Kept.of_grown (S := (fun k_ => P0_ k_)) hg (by repeat (first | (with_reducible first | exact HK.out | apply Kept.alloc | apply Kept.drewN | apply Kept.drew) | exact HK.out)) (fun k_ e_ => ((Kd.Wn_own HO_0.out) k_ e_))); replace HO_0 := Aside0.mk (hp_); clear hg hw hp_)))
       (try simp only [← hl0_2])
       (first | go_roundg k2 | (refine Handed.intro k2 ?measure ?_; rotate_left; go_step; (repeat apply Exists.intro); refine ⟨?rel, (by first | rfl | (simp only [add_plain]; rfl))⟩))
       case measure => have := HJ9.out; have := HK2.out; omega
       case rel => exact ⟨(y329), ((IntKind.u64.wrap ((IntKind.u64.wrap (x7_9 * (IntKind.u64.wrap (rd l1 x84_2)))) + x9_2)) / 4294967296), (t328), (wrap64 (x84_2 + 1)), xz, xz, xz, H', ⟨by have := HJ9.out; have := HK2.out; omega⟩, ⟨by (try simp only [hl0_2]); (with_reducible repeat (first | apply Kd.Wn_alloc | apply Kd.Wn_drewN | apply Kd.Wn_drew)); exact HO_0.out⟩, ⟨by repeat (first | (with_reducible first | exact HK.out | apply Kept.alloc | apply Kept.drewN | apply Kept.drew) | exact HK.out)⟩, ⟨xs HB⟩⟩
      ·rw [if_neg c23] at H
       have c23b0 : decide (x84_2 < (l1.length : Int)) = false := decide_eq_false c23
       (try simp only [hl0_2] at c23b0)
       (try simp only [hl0_2] at c23b0)
       clear c23
       by_cases c31 : 0 ≤ (l1.length : Int)
       rotate_left
       ·rw [if_neg c31] at H
        exact absurd H (by simp)
       rw [if_pos c31] at H
       have c31b0 : decide (0 ≤ (l1.length : Int)) = true := decide_eq_true c31
       (try simp only [hl0_2] at c31b0)
       (try simp only [hl0_2] at c31b0)
       have c31b1 : decide (0 ≤ l1.length) = true := decide_eq_true (by omega)
       (try simp only [hl0_2] at c31b1)
       (try simp only [hl0_2] at c31b1)
       clear c31
       by_cases c32 : (l1.length : Int) < (x0_2.length : Int)
       rotate_left
       ·rw [if_neg c32] at H
        exact absurd H (by simp)
       rw [if_pos c32] at H
       have c32b0 : decide ((l1.length : Int) < (x0_2.length : Int)) = true := decide_eq_true c32
       (try simp only [hl0_2] at c32b0)
       (try simp only [hl0_2] at c32b0)
       have c32b1 : decide (l1.length < x0_2.length) = true := decide_eq_true (Int.ofNat_lt.mp c32)
       (try simp only [hl0_2] at c32b1)
       (try simp only [hl0_2] at c32b1)
       clear c32
       replace H := xH H; obtain ⟨⟨t331, t332⟩, A33, H⟩ := H
       dsimp only at H
       obtain ⟨y333, hy333⟩ : ∃ y_ : List Int, y_ = (x0_2.set ((l1.length : Int) : Int).toNat t331) := ⟨_, rfl⟩
       replace H : (if t332 = 0 then (some ((x7_9) % 4294967296, y333)) else (natural_step0.l2 k2 y333 (l1.length : Int) x7_9 0 l1 (l1.length : Int) 0)) = some (r1, r2) := by first | (rw [hy333]; with_reducible exact H) | (have H2_ := (Option.bind_some _ _).symm.trans H; rw [hy333]; with_reducible exact H2_) | (have H2_ := (Option.bind_some _ _).symm.trans H; with_reducible exact H2_) | with_reducible exact H | (rw [hy333]; exact H) | exact H
       have Ny333 := Aside0.mk hy333
       clear hy333
       by_cases c35 : t332 = 0
       ·rw [if_pos c35] at H
        have c35b0 : (t332 == 0) = true := beq_iff_eq.mpr c35
        have c35b1 : (t332 != 0) = false := bne_eq_false_iff_eq.mpr c35
        clear c35
        simp only [Option.some.injEq, Prod.mk.injEq] at H
        obtain ⟨rfl, rfl⟩ := H
        have p330 : 0 ≤ ((l1.length : Int) : Int) := xa
        have q330 : (l1.length : Int) < (x0_2.length : Int) := xa
        obtain ⟨ad330, e330, hx330_0⟩ := Kd.at_int (Kd.Wn_reads' HO_0.out).2.2 (l1.length : Int) p330 q330
        obtain rfl : ad318 = ad330 := (by injection e330)
        (try simp only [Go.IntWalk.toNatUp] at hx330_0)
        (try simp only [hl0_2] at p330)
        (try simp only [hl0_2] at q330)
        (try simp only [hl0_2] at hx330_0)
        replace p330 := eq_true p330
        replace q330 := eq_true q330
        go_wp2_with (first | (go_at_call 103; (with_reducible refine (bits_Sub32.calls (rd x0_2 (l1.length : Int)) ((x9_2) % 4294967296) x10_2 t331 t332 _ A33.out).mono ?_); rintro e w' ⟨rfl, ⟨nd, rfl⟩⟩; (try first | exact ⟨rfl, _, World.drewN_drewN _ _ _⟩ | exact ⟨rfl, _, Eq.trans (World.drewN_drewN _ _ _) (congrArg (World.drewN _) (Nat.add_assoc _ _ _))⟩); have p34 : 0 ≤ ((l1.length : Int) : Int) := xa; have q34 : ((l1.length : Int) : Int) < ((x0_2.length : Int) : Int) := xa; obtain ⟨gb34, gl34, cl34, HG34⟩ := Kd.Wn_form HO_0.out (by omega); skip; have GB34 := Aside0.mk gb34; have GG34 := Aside0.mk HG34; clear gb34 gl34 HG34; have HMgo34 := Aside0.mk (show (P0_ ad318.block ∨ w.heap.size ≤ ad318.block) from ((Kd.Wn_own HO_0.out) _ rfl)); skip; obtain ⟨hx34_0, hf34_0⟩ := Kd.Wn_celln 0 HO_0.out ((l1.length : Int) : Int) p34 q34; replace p34 := eq_true p34; replace q34 := eq_true q34; obtain ⟨hy36_, hz36_⟩ := Kd.Wn_celln 0 HO_0.out ((l1.length : Int) : Int) (xa) (xa); (try simp only [Go.IntWalk.toNatUp] at hy36_ hz36_); have HP36 := Kd.Wn_putg HO_0.out ((l1.length : Int) : Int) t331 (xa) (xa)) | ((with_reducible refine gate_store (t := 85) (p := 125) rfl ?_); (try (rw [drewN_self wr]; generalize hq_ : World.drewN wr _ = wr; have n0_ := Aside0.mk (Kd.Wn_at hq_ HO_0.out); have n1_ := Aside0.mk (kept_at hq_ HK.out); have n2_ := Aside0.mk (below_at hq_ HB.out); clear hq_ HO_0 HK HB; have HO_0 := n0_; have HK := n1_; have HB := n2_; clear n0_ n1_ n2_; (try (obtain ⟨hy36_, hz36_⟩ := Kd.Wn_celln 0 HO_0.out ((l1.length : Int) : Int) (xa) (xa))); (try (try simp only [Go.IntWalk.toNatUp] at hy36_ hz36_)); (try (have HP36 := Kd.Wn_putg HO_0.out ((l1.length : Int) : Int) t331 (xa) (xa))))); refine store_event (t := 85) (p := 125) (v := ?vo_w37) (w1 := (wr.setCell (ad318.add ((l1.length : Int) : Int).toNat) (.int .u32 t331))) ?hg ?ho ?hn ?hr ?_; (case ho => rfl); (case hg => rfl); (case hn => rfl); (case hr => first | (go_simp; done) | (go_simp; rfl)); intro w37 hw; have hg : wr.grownBy w37 (some ad318.block) := (by rw [hw]; exact HP36.2); have hp_ : Kd.Wn uw_ pre_ post_ 85 w37 w0.heap.size (fun k_ => (P0_ k_ ∨ w.heap.size ≤ k_)) (.slice (some ad318) x0_2.length co11) y333 := (by rw [hw, Ny333.out]; exact HP36.1); clear HP36; replace HB := Aside0.mk ((by rw [hw]; exact Kd.below_add (HB.out) GB34.out : Below w0.heap.size w0 w37)); replace HK := Aside0.mk (Kept.of_grown (S := (fun k_ => P0_ k_)) hg (by repeat (first | (with_reducible first | exact HK.out | apply Kept.alloc | apply Kept.drewN | apply Kept.drew) | exact HK.out)) (fun k_ e_ => ((Kd.Wn_own HO_0.out) k_ e_))); replace HO_0 := Aside0.mk (hp_); clear hg hw hp_))
        repeat (go_quiet (first | (go_at_call 103; (with_reducible refine (bits_Sub32.calls (rd x0_2 (l1.length : Int)) ((x9_2) % 4294967296) x10_2 t331 t332 _ A33.out).mono ?_); rintro e w' ⟨rfl, ⟨nd, rfl⟩⟩; (try first | exact ⟨rfl, _, World.drewN_drewN _ _ _⟩ | exact ⟨rfl, _, Eq.trans (World.drewN_drewN _ _ _) (congrArg (World.drewN _) (Nat.add_assoc _ _ _))⟩); have p34 : 0 ≤ ((l1.length : Int) : Int) := xa; have q34 : ((l1.length : Int) : Int) < ((x0_2.length : Int) : Int) := xa; obtain ⟨gb34, gl34, cl34, HG34⟩ := Kd.Wn_form HO_0.out (by omega); skip; have GB34 := Aside0.mk gb34; have GG34 := Aside0.mk HG34; clear gb34 gl34 HG34; have HMgo34 := Aside0.mk (show (P0_ ad318.block ∨ w.heap.size ≤ ad318.block) from ((Kd.Wn_own HO_0.out) _ rfl)); skip; obtain ⟨hx34_0, hf34_0⟩ := Kd.Wn_celln 0 HO_0.out ((l1.length : Int) : Int) p34 q34; replace p34 := eq_true p34; replace q34 := eq_true q34; obtain ⟨hy36_, hz36_⟩ := Kd.Wn_celln 0 HO_0.out ((l1.length : Int) : Int) (xa) (xa); (try simp only [Go.IntWalk.toNatUp] at hy36_ hz36_); have HP36 := Kd.Wn_putg HO_0.out ((l1.length : Int) : Int) t331 (xa) (xa)) | ((with_reducible refine gate_store (t := 85) (p := 125) rfl ?_); (try (rw [drewN_self wr]; generalize hq_ : World.drewN wr _ = wr; have n0_ := Aside0.mk (Kd.Wn_at hq_ HO_0.out); have n1_ := Aside0.mk (kept_at hq_ HK.out); have n2_ := Aside0.mk (below_at hq_ HB.out); clear hq_ HO_0 HK HB; have HO_0 := n0_; have HK := n1_; have HB := n2_; clear n0_ n1_ n2_; (try (obtain ⟨hy36_, hz36_⟩ := Kd.Wn_celln 0 HO_0.out ((l1.length : Int) : Int) (xa) (xa))); (try (try simp only [Go.IntWalk.toNatUp] at hy36_ hz36_)); (try (have HP36 := Kd.Wn_putg HO_0.out ((l1.length : Int) : Int) t331 (xa) (xa))))); refine store_event (t := 85) (p := 125) (v := ?vo_w37) (w1 := (wr.setCell (ad318.add ((l1.length : Int) : Int).toNat) (.int .u32 t331))) ?hg ?ho ?hn ?hr ?_; (case ho => rfl); (case hg => rfl); (case hn => rfl); (case hr => first | (go_simp; done) | (go_simp; rfl)); intro w37 hw; have hg : wr.grownBy w37 (some ad318.block) := (by rw [hw]; exact HP36.2); have hp_ : Kd.Wn uw_ pre_ post_ 85 w37 w0.heap.size (fun k_ => (P0_ k_ ∨ w.heap.size ≤ k_)) (.slice (some ad318) x0_2.length co11) y333 := (by rw [hw, Ny333.out]; exact HP36.1); clear HP36; have n0_ := Aside0.mk (hp_); have n1_ := Aside0.mk ((by rw [hw]; exact Kd.below_add (HB.out) GB34.out : Below w0.heap.size w0 w37)); have n2_ := Aside0.mk (Kept.of_grown (S := (fun k_ => P0_ k_)) hg (by repeat (first | (with_reducible first | exact HK.out | apply Kept.alloc | apply Kept.drewN | apply Kept.drew) | exact HK.out)) (fun k_ e_ => ((Kd.Wn_own HO_0.out) k_ e_))); clear HO_0; clear HB; clear HK; have HO_0 := n0_; have HB := n1_; have HK := n2_; clear n0_ n1_ n2_; clear hg hw hp_)); try go_wp2_with (first | (go_at_call 103; (with_reducible refine (bits_Sub32.calls (rd x0_2 (l1.length : Int)) ((x9_2) % 4294967296) x10_2 t331 t332 _ A33.out).mono ?_); rintro e w' ⟨rfl, ⟨nd, rfl⟩⟩; (try first | exact ⟨rfl, _, World.drewN_drewN _ _ _⟩ | exact ⟨rfl, _, Eq.trans (World.drewN_drewN _ _ _) (congrArg (World.drewN _) (Nat.add_assoc _ _ _))⟩); have p34 : 0 ≤ ((l1.length : Int) : Int) := xa; have q34 : ((l1.length : Int) : Int) < ((x0_2.length : Int) : Int) := xa; obtain ⟨gb34, gl34, cl34, HG34⟩ := Kd.Wn_form HO_0.out (by omega); skip; have GB34 := Aside0.mk gb34; have GG34 := Aside0.mk HG34; clear gb34 gl34 HG34; have HMgo34 := Aside0.mk (show (P0_ ad318.block ∨ w.heap.size ≤ ad318.block) from ((Kd.Wn_own HO_0.out) _ rfl)); skip; obtain ⟨hx34_0, hf34_0⟩ := Kd.Wn_celln 0 HO_0.out ((l1.length : Int) : Int) p34 q34; replace p34 := eq_true p34; replace q34 := eq_true q34; obtain ⟨hy36_, hz36_⟩ := Kd.Wn_celln 0 HO_0.out ((l1.length : Int) : Int) (xa) (xa); (try simp only [Go.IntWalk.toNatUp] at hy36_ hz36_); have HP36 := Kd.Wn_putg HO_0.out ((l1.length : Int) : Int) t331 (xa) (xa)) | ((with_reducible refine gate_store (t := 85) (p := 125) rfl ?_); (try (rw [drewN_self wr]; generalize hq_ : World.drewN wr _ = wr; have n0_ := Aside0.mk (Kd.Wn_at hq_ HO_0.out); have n1_ := Aside0.mk (kept_at hq_ HK.out); have n2_ := Aside0.mk (below_at hq_ HB.out); clear hq_ HO_0 HK HB; have HO_0 := n0_; have HK := n1_; have HB := n2_; clear n0_ n1_ n2_; (try (obtain ⟨hy36_, hz36_⟩ := Kd.Wn_celln 0 HO_0.out ((l1.length : Int) : Int) (xa) (xa))); (try (try simp only [Go.IntWalk.toNatUp] at hy36_ hz36_)); (try (have HP36 := Kd.Wn_putg HO_0.out ((l1.length : Int) : Int) t331 (xa) (xa))))); refine store_event (t := 85) (p := 125) (v := ?vo_w37) (w1 := (wr.setCell (ad318.add ((l1.length : Int) : Int).toNat) (.int .u32 t331))) ?hg ?ho ?hn ?hr ?_; (case ho => rfl); (case hg => rfl); (case hn => rfl); (case hr => first | (go_simp; done) | (go_simp; rfl)); intro w37 hw; have hg : wr.grownBy w37 (some ad318.block) := (by rw [hw]; exact HP36.2); have hp_ : Kd.Wn uw_ pre_ post_ 85 w37 w0.heap.size (fun k_ => (P0_ k_ ∨ w.heap.size ≤ k_)) (.slice (some ad318) x0_2.length co11) y333 := (by rw [hw, Ny333.out]; exact HP36.1); clear HP36; replace HB := Aside0.mk ((by rw [hw]; exact Kd.below_add (HB.out) GB34.out : Below w0.heap.size w0 w37)); replace HK := Aside0.mk (Kept.of_grown (S := (fun k_ => P0_ k_)) hg (by repeat (first | (with_reducible first | exact HK.out | apply Kept.alloc | apply Kept.drewN | apply Kept.drew) | exact HK.out)) (fun k_ e_ => ((Kd.Wn_own HO_0.out) k_ e_))); replace HO_0 := Aside0.mk (hp_); clear hg hw hp_)))
        go_ret
        exact ⟨by first | rfl | (simp [errW_none, errW_some] <;> rfl) | (simp only [← hji5]; first | rfl | (simp [errW_none, errW_some] <;> rfl)) | (simp [*, errW_none, errW_some] <;> rfl), (by first | exact (by (with_reducible repeat (first | apply Kd.Wn_alloc | apply Kd.Wn_drewN | apply Kd.Wn_drew)); exact HO_0.out) | (simp only [hl0_2]; exact (by (with_reducible repeat (first | apply Kd.Wn_alloc | apply Kd.Wn_drewN | apply Kd.Wn_drew)); exact HO_0.out))), xs HB, by repeat (first | (with_reducible first | exact HK.out | apply Kept.alloc | apply Kept.drewN | apply Kept.drew) | exact HK.out)⟩
       ·rw [if_neg c35] at H
        have c35b0 : (t332 == 0) = false := beq_eq_false_iff_ne.mpr c35
        have c35b1 : (t332 != 0) = true := bne_iff_ne.mpr c35
        have H' := Aside0.mk H
        clear H
        have p330 : 0 ≤ ((l1.length : Int) : Int) := xa
        have q330 : (l1.length : Int) < (x0_2.length : Int) := xa
        obtain ⟨ad330, e330, hx330_0⟩ := Kd.at_int (Kd.Wn_reads' HO_0.out).2.2 (l1.length : Int) p330 q330
        obtain rfl : ad318 = ad330 := (by injection e330)
        (try simp only [Go.IntWalk.toNatUp] at hx330_0)
        (try simp only [hl0_2] at p330)
        (try simp only [hl0_2] at q330)
        (try simp only [hl0_2] at hx330_0)
        replace p330 := eq_true p330
        replace q330 := eq_true q330
        go_wp2_with (first | (go_at_call 103; (with_reducible refine (bits_Sub32.calls (rd x0_2 (l1.length : Int)) ((x9_2) % 4294967296) x10_2 t331 t332 _ A33.out).mono ?_); rintro e w' ⟨rfl, ⟨nd, rfl⟩⟩; (try first | exact ⟨rfl, _, World.drewN_drewN _ _ _⟩ | exact ⟨rfl, _, Eq.trans (World.drewN_drewN _ _ _) (congrArg (World.drewN _) (Nat.add_assoc _ _ _))⟩); have p34 : 0 ≤ ((l1.length : Int) : Int) := xa; have q34 : ((l1.length : Int) : Int) < ((x0_2.length : Int) : Int) := xa; obtain ⟨gb34, gl34, cl34, HG34⟩ := Kd.Wn_form HO_0.out (by omega); skip; have GB34 := Aside0.mk gb34; have GG34 := Aside0.mk HG34; clear gb34 gl34 HG34; have HMgo34 := Aside0.mk (show (P0_ ad318.block ∨ w.heap.size ≤ ad318.block) from ((Kd.Wn_own HO_0.out) _ rfl)); skip; obtain ⟨hx34_0, hf34_0⟩ := Kd.Wn_celln 0 HO_0.out ((l1.length : Int) : Int) p34 q34; replace p34 := eq_true p34; replace q34 := eq_true q34; obtain ⟨hy38_, hz38_⟩ := Kd.Wn_celln 0 HO_0.out ((l1.length : Int) : Int) (xa) (xa); (try simp only [Go.IntWalk.toNatUp] at hy38_ hz38_); have HP38 := Kd.Wn_putg HO_0.out ((l1.length : Int) : Int) t331 (xa) (xa)) | ((with_reducible refine gate_store (t := 85) (p := 125) rfl ?_); (try (rw [drewN_self wr]; generalize hq_ : World.drewN wr _ = wr; have n0_ := Aside0.mk (Kd.Wn_at hq_ HO_0.out); have n1_ := Aside0.mk (kept_at hq_ HK.out); have n2_ := Aside0.mk (below_at hq_ HB.out); clear hq_ HO_0 HK HB; have HO_0 := n0_; have HK := n1_; have HB := n2_; clear n0_ n1_ n2_; (try (obtain ⟨hy38_, hz38_⟩ := Kd.Wn_celln 0 HO_0.out ((l1.length : Int) : Int) (xa) (xa))); (try (try simp only [Go.IntWalk.toNatUp] at hy38_ hz38_)); (try (have HP38 := Kd.Wn_putg HO_0.out ((l1.length : Int) : Int) t331 (xa) (xa))))); refine store_event (t := 85) (p := 125) (v := ?vo_w39) (w1 := (wr.setCell (ad318.add ((l1.length : Int) : Int).toNat) (.int .u32 t331))) ?hg ?ho ?hn ?hr ?_; (case ho => rfl); (case hg => rfl); (case hn => rfl); (case hr => first | (go_simp; done) | (go_simp; rfl)); intro w39 hw; have hg : wr.grownBy w39 (some ad318.block) := (by rw [hw]; exact HP38.2); have hp_ : Kd.Wn uw_ pre_ post_ 85 w39 w0.heap.size (fun k_ => (P0_ k_ ∨ w.heap.size ≤ k_)) (.slice (some ad318) x0_2.length co11) y333 := (by rw [hw, Ny333.out]; exact HP38.1); clear HP38; replace HB := Aside0.mk ((by rw [hw]; exact Kd.below_add (HB.out) GB34.out : Below w0.heap.size w0 w39)); replace HK := Aside0.mk (Kept.of_grown (S := (fun k_ => P0_ k_)) hg (by repeat (first | (with_reducible first | exact HK.out | apply Kept.alloc | apply Kept.drewN | apply Kept.drew) | exact HK.out)) (fun k_ e_ => ((Kd.Wn_own HO_0.out) k_ e_))); replace HO_0 := Aside0.mk (hp_); clear hg hw hp_))
        repeat (go_quiet (first | (go_at_call 103; (with_reducible refine (bits_Sub32.calls (rd x0_2 (l1.length : Int)) ((x9_2) % 4294967296) x10_2 t331 t332 _ A33.out).mono ?_); rintro e w' ⟨rfl, ⟨nd, rfl⟩⟩; (try first | exact ⟨rfl, _, World.drewN_drewN _ _ _⟩ | exact ⟨rfl, _, Eq.trans (World.drewN_drewN _ _ _) (congrArg (World.drewN _) (Nat.add_assoc _ _ _))⟩); have p34 : 0 ≤ ((l1.length : Int) : Int) := xa; have q34 : ((l1.length : Int) : Int) < ((x0_2.length : Int) : Int) := xa; obtain ⟨gb34, gl34, cl34, HG34⟩ := Kd.Wn_form HO_0.out (by omega); skip; have GB34 := Aside0.mk gb34; have GG34 := Aside0.mk HG34; clear gb34 gl34 HG34; have HMgo34 := Aside0.mk (show (P0_ ad318.block ∨ w.heap.size ≤ ad318.block) from ((Kd.Wn_own HO_0.out) _ rfl)); skip; obtain ⟨hx34_0, hf34_0⟩ := Kd.Wn_celln 0 HO_0.out ((l1.length : Int) : Int) p34 q34; replace p34 := eq_true p34; replace q34 := eq_true q34; obtain ⟨hy38_, hz38_⟩ := Kd.Wn_celln 0 HO_0.out ((l1.length : Int) : Int) (xa) (xa); (try simp only [Go.IntWalk.toNatUp] at hy38_ hz38_); have HP38 := Kd.Wn_putg HO_0.out ((l1.length : Int) : Int) t331 (xa) (xa)) | ((with_reducible refine gate_store (t := 85) (p := 125) rfl ?_); (try (rw [drewN_self wr]; generalize hq_ : World.drewN wr _ = wr; have n0_ := Aside0.mk (Kd.Wn_at hq_ HO_0.out); have n1_ := Aside0.mk (kept_at hq_ HK.out); have n2_ := Aside0.mk (below_at hq_ HB.out); clear hq_ HO_0 HK HB; have HO_0 := n0_; have HK := n1_; have HB := n2_; clear n0_ n1_ n2_; (try (obtain ⟨hy38_, hz38_⟩ := Kd.Wn_celln 0 HO_0.out ((l1.length : Int) : Int) (xa) (xa))); (try (try simp only [Go.IntWalk.toNatUp] at hy38_ hz38_)); (try (have HP38 := Kd.Wn_putg HO_0.out ((l1.length : Int) : Int) t331 (xa) (xa))))); refine store_event (t := 85) (p := 125) (v := ?vo_w39) (w1 := (wr.setCell (ad318.add ((l1.length : Int) : Int).toNat) (.int .u32 t331))) ?hg ?ho ?hn ?hr ?_; (case ho => rfl); (case hg => rfl); (case hn => rfl); (case hr => first | (go_simp; done) | (go_simp; rfl)); intro w39 hw; have hg : wr.grownBy w39 (some ad318.block) := (by rw [hw]; exact HP38.2); have hp_ : Kd.Wn uw_ pre_ post_ 85 w39 w0.heap.size (fun k_ => (P0_ k_ ∨ w.heap.size ≤ k_)) (.slice (some ad318) x0_2.length co11) y333 := (by rw [hw, Ny333.out]; exact HP38.1); clear HP38; have n0_ := Aside0.mk (hp_); have n1_ := Aside0.mk ((by rw [hw]; exact Kd.below_add (HB.out) GB34.out : Below w0.heap.size w0 w39)); have n2_ := Aside0.mk (Kept.of_grown (S := (fun k_ => P0_ k_)) hg (by repeat (first | (with_reducible first | exact HK.out | apply Kept.alloc | apply Kept.drewN | apply Kept.drew) | exact HK.out)) (fun k_ e_ => ((Kd.Wn_own HO_0.out) k_ e_))); clear HO_0; clear HB; clear HK; have HO_0 := n0_; have HB := n1_; have HK := n2_; clear n0_ n1_ n2_; clear hg hw hp_)); try go_wp2_with (first | (go_at_call 103; (with_reducible refine (bits_Sub32.calls (rd x0_2 (l1.length : Int)) ((x9_2) % 4294967296) x10_2 t331 t332 _ A33.out).mono ?_); rintro e w' ⟨rfl, ⟨nd, rfl⟩⟩; (try first | exact ⟨rfl, _, World.drewN_drewN _ _ _⟩ | exact ⟨rfl, _, Eq.trans (World.drewN_drewN _ _ _) (congrArg (World.drewN _) (Nat.add_assoc _ _ _))⟩); have p34 : 0 ≤ ((l1.length : Int) : Int) := xa; have q34 : ((l1.length : Int) : Int) < ((x0_2.length : Int) : Int) := xa; obtain ⟨gb34, gl34, cl34, HG34⟩ := Kd.Wn_form HO_0.out (by omega); skip; have GB34 := Aside0.mk gb34; have GG34 := Aside0.mk HG34; clear gb34 gl34 HG34; have HMgo34 := Aside0.mk (show (P0_ ad318.block ∨ w.heap.size ≤ ad318.block) from ((Kd.Wn_own HO_0.out) _ rfl)); skip; obtain ⟨hx34_0, hf34_0⟩ := Kd.Wn_celln 0 HO_0.out ((l1.length : Int) : Int) p34 q34; replace p34 := eq_true p34; replace q34 := eq_true q34; obtain ⟨hy38_, hz38_⟩ := Kd.Wn_celln 0 HO_0.out ((l1.length : Int) : Int) (xa) (xa); (try simp only [Go.IntWalk.toNatUp] at hy38_ hz38_); have HP38 := Kd.Wn_putg HO_0.out ((l1.length : Int) : Int) t331 (xa) (xa)) | ((with_reducible refine gate_store (t := 85) (p := 125) rfl ?_); (try (rw [drewN_self wr]; generalize hq_ : World.drewN wr _ = wr; have n0_ := Aside0.mk (Kd.Wn_at hq_ HO_0.out); have n1_ := Aside0.mk (kept_at hq_ HK.out); have n2_ := Aside0.mk (below_at hq_ HB.out); clear hq_ HO_0 HK HB; have HO_0 := n0_; have HK := n1_; have HB := n2_; clear n0_ n1_ n2_; (try (obtain ⟨hy38_, hz38_⟩ := Kd.Wn_celln 0 HO_0.out ((l1.length : Int) : Int) (xa) (xa))); (try (try simp only [Go.IntWalk.toNatUp] at hy38_ hz38_)); (try (have HP38 := Kd.Wn_putg HO_0.out ((l1.length : Int) : Int) t331 (xa) (xa))))); refine store_event (t := 85) (p := 125) (v := ?vo_w39) (w1 := (wr.setCell (ad318.add ((l1.length : Int) : Int).toNat) (.int .u32 t331))) ?hg ?ho ?hn ?hr ?_; (case ho => rfl); (case hg => rfl); (case hn => rfl); (case hr => first | (go_simp; done) | (go_simp; rfl)); intro w39 hw; have hg : wr.grownBy w39 (some ad318.block) := (by rw [hw]; exact HP38.2); have hp_ : Kd.Wn uw_ pre_ post_ 85 w39 w0.heap.size (fun k_ => (P0_ k_ ∨ w.heap.size ≤ k_)) (.slice (some ad318) x0_2.length co11) y333 := (by rw [hw, Ny333.out]; exact HP38.1); clear HP38; replace HB := Aside0.mk ((by rw [hw]; exact Kd.below_add (HB.out) GB34.out : Below w0.heap.size w0 w39)); replace HK := Aside0.mk (Kept.of_grown (S := (fun k_ => P0_ k_)) hg (by repeat (first | (with_reducible first | exact HK.out | apply Kept.alloc | apply Kept.drewN | apply Kept.drew) | exact HK.out)) (fun k_ e_ => ((Kd.Wn_own HO_0.out) k_ e_))); replace HO_0 := Aside0.mk (hp_); clear hg hw hp_)))
        go_loopg [14, 132] k2 (fun kq v14 v132 w' => ∃ (x0_3 : List Int) (x14_3 : Int) (x132_3 : Int), v14 = .int .u32 x14_3 ∧ v132 = .int .i64 x132_3 ∧ Aside0 (natural_step0.l2 kq x0_3 (l1.length : Int) x7_9 x14_3 l1 (l1.length : Int) x132_3 = some (r1, r2)) ∧ Aside0 (kq ≤ k2) ∧ Aside0 (Kd.Wn uw_ pre_ post_ 85 w' w0.heap.size (fun k_ => (P0_ k_ ∨ w.heap.size ≤ k_)) (.slice (some ad318) x0_2.length co11) x0_3) ∧ Aside0 (Kept w w' (fun k_ => P0_ k_)) ∧ Aside0 (Below w0.heap.size w0 w'))
        case atStart => exact ⟨(y333), (0), (0), xz, xz, H', ⟨Nat.le_refl _⟩, ⟨by (try simp only [hl0_2]); (with_reducible repeat (first | apply Kd.Wn_alloc | apply Kd.Wn_drewN | apply Kd.Wn_drew)); exact HO_0.out⟩, ⟨by repeat (first | (with_reducible first | exact HK.out | apply Kept.alloc | apply Kept.drewN | apply Kept.drew) | exact HK.out)⟩, ⟨xs HB⟩⟩
        case round =>
         clear H'
         try clear c1
         try clear c2
         try clear p2
         try clear q2
         try clear hx2
         try clear hf2
         try clear c3
         try clear c3b0
         try clear c3b1
         try clear p3
         try clear q3
         try clear hx3
         try clear hf3
         try clear c4
         try clear c4b0
         try clear c4b1
         try clear c6
         try clear c6b0
         try clear p6
         try clear c7
         try clear c7b0
         try clear c8
         try clear c8b0
         try clear c9
         try clear c9b0
         try clear c9b1
         try clear c11
         try clear c13
         try clear c13b0
         try clear c15
         try clear c15b0
         try clear c16
         try clear c16b0
         try clear c17
         try clear c17b0
         try clear c18
         try clear c20
         try clear c20b0
         try clear c21
         try clear c21b0
         try clear c22
         try clear c22b0
         try clear c23
         try clear c23b0
         try clear c24
         try clear c24b0
         try clear c25
         try clear c25b0
         try clear c26
         try clear c26b0
         try clear p28
         try clear q28
         try clear hx28
         try clear hf28
         try clear c31
         try clear c31b0
         try clear c31b1
         try clear p31
         try clear q31
         try clear hx31
         try clear c32
         try clear c32b0
         try clear c32b1
         try clear p32
         try clear q32
         try clear hx32
         try clear p33
         try clear q33
         try clear hx33
         try clear p34
         try clear q34
         try clear hx34
         try clear hf34
         try clear c35
         try clear c35b0
         try clear c35b1
         try clear hx28_0
         try clear hx318_0
         try clear hx319_0
         try clear hx320_0
         try clear hx321_0
         try clear hx322_0
         try clear hx323_0
         try clear hx324_0
         try clear hx325_0
         try clear hx326_0
         try clear hx330_0
         try clear hx34_0
         try clear p2
         try clear p28
         try clear p3
         try clear p318
         try clear p319
         try clear p320
         try clear p321
         try clear p322
         try clear p323
         try clear p324
         try clear p325
         try clear p326
         try clear p330
         try clear p34
         try clear p6
         try clear q28
         try clear q3
         try clear q318
         try clear q319
         try clear q320
         try clear q321
         try clear q322
         try clear q323
         try clear q324
         try clear q325
         try clear q326
         try clear q330
         try clear q34
         obtain ⟨x0_3, x14_3, x132_3, rfl, rfl, HA, HK3, HO_0, HK, HB⟩ := hrel
         have hl0_3 := (Kd.Wn_reads' HO_0.out).1
         rw [hl0_3] at HO_0
         (try simp only [hl0_3])
         cases gk with
         | zero => exact absurd HA.out (by simp [natural_step0.l2])
         | succ k3 =>
          have H := HA.out
          clear HA
          simp only [natural_step0.l2] at H
          by_cases c40 : x132_3 < (l1.length : Int)
          ·rw [if_pos c40] at H
           have c40b0 : decide (x132_3 < (l1.length : Int)) = true := decide_eq_true c40
           (try simp only [hl0_2] at c40b0)
           (try simp only [hl0_3] at c40b0)
           (try simp only [hl0_2] at c40b0)
           (try simp only [hl0_3] at c40b0)
           clear c40
           by_cases c41 : 0 ≤ x132_3
           rotate_left
           ·rw [if_neg c41] at H
            exact absurd H (by simp)
           rw [if_pos c41] at H
           have c41b0 : decide (0 ≤ x132_3) = true := decide_eq_true c41
           clear c41
           by_cases c42 : x132_3 < (l1.length : Int)
           rotate_left
           ·rw [if_neg c42] at H
            exact absurd H (by simp)
           rw [if_pos c42] at H
           have c42b0 : decide (x132_3 < (l1.length : Int)) = true := decide_eq_true c42
           (try simp only [hl0_2] at c42b0)
           (try simp only [hl0_3] at c42b0)
           (try simp only [hl0_2] at c42b0)
           (try simp only [hl0_3] at c42b0)
           clear c42
           by_cases c43 : x132_3 < (x0_3.length : Int)
           rotate_left
           ·rw [if_neg c43] at H
            exact absurd H (by simp)
           rw [if_pos c43] at H
           have c43b0 : decide (x132_3 < (x0_3.length : Int)) = true := decide_eq_true c43
           (try simp only [hl0_2] at c43b0)
           (try simp only [hl0_3] at c43b0)
           (try simp only [hl0_2] at c43b0)
           (try simp only [hl0_3] at c43b0)
           clear c43
           replace H := xH H; obtain ⟨⟨t336, t337⟩, A44, H⟩ := H
           dsimp only at H
           obtain ⟨y338, hy338⟩ : ∃ y_ : List Int, y_ = (x0_3.set (x132_3 : Int).toNat t336) := ⟨_, rfl⟩
           replace H : (natural_step0.l2 k3 y338 (l1.length : Int) x7_9 t337 l1 (l1.length : Int) (wrap64 (x132_3 + 1))) = some (r1, r2) := by first | (rw [hy338]; with_reducible exact H) | (have H2_ := (Option.bind_some _ _).symm.trans H; rw [hy338]; with_reducible exact H2_) | (have H2_ := (Option.bind_some _ _).symm.trans H; with_reducible exact H2_) | with_reducible exact H | (rw [hy338]; exact H) | exact H
           have Ny338 := Aside0.mk hy338
           clear hy338
           have H' := Aside0.mk H
           clear H
           have p334 : 0 ≤ (x132_3 : Int) := xa
           have q334 : x132_3 < (l1.length : Int) := xa
           obtain ⟨ad334, e334, hx334_0⟩ := Kd.at_int (Kd.C_kept_now HR1.out HK.out) x132_3 p334 q334
           obtain rfl : ad320 = ad334 := (by injection e334)
           replace p334 := eq_true p334
           replace q334 := eq_true q334
           have p335 : 0 ≤ (x132_3 : Int) := xa
           have q335 : x132_3 < (x0_3.length : Int) := xa
           obtain ⟨ad335, e335, hx335_0⟩ := Kd.at_int (Kd.Wn_reads' HO_0.out).2.2 x132_3 p335 q335
           obtain rfl : (ad318 : Addr) = ad335 := (by injection e335)
           skip
           replace p335 := eq_true p335
           replace q335 := eq_true q335
           go_wp2_with (first | (go_at_call 93; (with_reducible refine (bits_Add32.calls (rd x0_3 x132_3) (rd l1 x132_3) x14_3 t336 t337 _ A44.out).mono ?_); rintro e w' ⟨rfl, ⟨nd, rfl⟩⟩; (try first | exact ⟨rfl, _, World.drewN_drewN _ _ _⟩ | exact ⟨rfl, _, Eq.trans (World.drewN_drewN _ _ _) (congrArg (World.drewN _) (Nat.add_assoc _ _ _))⟩); have p45 : 0 ≤ (x132_3 : Int) := xa; have q45 : (x132_3 : Int) < ((x0_3.length : Int) : Int) := xa; obtain ⟨hx45_0, hf45_0⟩ := Kd.Wn_celln 0 HO_0.out (x132_3 : Int) p45 q45; replace p45 := eq_true p45; replace q45 := eq_true q45; obtain ⟨hy46_, hz46_⟩ := Kd.Wn_celln 0 HO_0.out (x132_3 : Int) (xa) (xa); have HP46 := Kd.Wn_putg HO_0.out (x132_3 : Int) t336 (xa) (xa)) | ((with_reducible refine gate_store (t := 85) (p := 149) rfl ?_); (try (rw [drewN_self wr]; generalize hq_ : World.drewN wr _ = wr; have n0_ := Aside0.mk (Kd.Wn_at hq_ HO_0.out); have n1_ := Aside0.mk (kept_at hq_ HK.out); have n2_ := Aside0.mk (below_at hq_ HB.out); clear hq_ HO_0 HK HB; have HO_0 := n0_; have HK := n1_; have HB := n2_; clear n0_ n1_ n2_; (try (obtain ⟨hy46_, hz46_⟩ := Kd.Wn_celln 0 HO_0.out (x132_3 : Int) (xa) (xa))); (try (have HP46 := Kd.Wn_putg HO_0.out (x132_3 : Int) t336 (xa) (xa))))); refine store_event (t := 85) (p := 149) (v := ?vo_w47) (w1 := (wr.setCell (ad318.add (x132_3 : Int).toNat) (.int .u32 t336))) ?hg ?ho ?hn ?hr ?_; (case ho => rfl); (case hg => rfl); (case hn => rfl); (case hr => first | (go_simp; done) | (go_simp; rfl)); intro w47 hw; have hg : wr.grownBy w47 (some ad318.block) := (by rw [hw]; exact HP46.2); have hp_ : Kd.Wn uw_ pre_ post_ 85 w47 w0.heap.size (fun k_ => (P0_ k_ ∨ w.heap.size ≤ k_)) (.slice (some ad318) x0_3.length co11) y338 := (by rw [hw, Ny338.out]; exact HP46.1); clear HP46; replace HB := Aside0.mk ((by rw [hw]; exact Kd.below_add (HB.out) GB34.out : Below w0.heap.size w0 w47)); replace HK := Aside0.mk (Kept.of_grown (S := (fun k_ => P0_ k_)) hg (by repeat (first | (with_reducible first | exact HK.out | apply Kept.alloc | apply Kept.drewN | apply Kept.drew) | exact HK.out)) (fun k_ e_ => ((Kd.Wn_own HO_0.out) k_ e_))); replace HO_0 := Aside0.mk (hp_); clear hg hw hp_))
           repeat (go_quiet (first | (go_at_call 93; (with_reducible refine (bits_Add32.calls (rd x0_3 x132_3) (rd l1 x132_3) x14_3 t336 t337 _ A44.out).mono ?_); rintro e w' ⟨rfl, ⟨nd, rfl⟩⟩; (try first | exact ⟨rfl, _, World.drewN_drewN _ _ _⟩ | exact ⟨rfl, _, Eq.trans (World.drewN_drewN _ _ _) (congrArg (World.drewN _) (Nat.add_assoc _ _ _))⟩); have p45 : 0 ≤ (x132_3 : Int) := xa; have q45 : (x132_3 : Int) < ((x0_3.length : Int) : Int) := xa; obtain ⟨hx45_0, hf45_0⟩ := Kd.Wn_celln 0 HO_0.out (x132_3 : Int) p45 q45; replace p45 := eq_true p45; replace q45 := eq_true q45; obtain ⟨hy46_, hz46_⟩ := Kd.Wn_celln 0 HO_0.out (x132_3 : Int) (xa) (xa); have HP46 := Kd.Wn_putg HO_0.out (x132_3 : Int) t336 (xa) (xa)) | ((with_reducible refine gate_store (t := 85) (p := 149) rfl ?_); (try (rw [drewN_self wr]; generalize hq_ : World.drewN wr _ = wr; have n0_ := Aside0.mk (Kd.Wn_at hq_ HO_0.out); have n1_ := Aside0.mk (kept_at hq_ HK.out); have n2_ := Aside0.mk (below_at hq_ HB.out); clear hq_ HO_0 HK HB; have HO_0 := n0_; have HK := n1_; have HB := n2_; clear n0_ n1_ n2_; (try (obtain ⟨hy46_, hz46_⟩ := Kd.Wn_celln 0 HO_0.out (x132_3 : Int) (xa) (xa))); (try (have HP46 := Kd.Wn_putg HO_0.out (x132_3 : Int) t336 (xa) (xa))))); refine store_event (t := 85) (p := 149) (v := ?vo_w47) (w1 := (wr.setCell (ad318.add (x132_3 : Int).toNat) (.int .u32 t336))) ?hg ?ho ?hn ?hr ?_; (case ho => rfl); (case hg => rfl); (case hn => rfl); (case hr => first | (go_simp; done) | (go_simp; rfl)); intro w47 hw; have hg : wr.grownBy w47 (some ad318.block) := (by rw [hw]; exact HP46.2); have hp_ : Kd.Wn uw_ pre_ post_ 85 w47 w0.heap.size (fun k_ => (P0_ k_ ∨ w.heap.size ≤ k_)) (.slice (some ad318) x0_3.length co11) y338 := (by rw [hw, Ny338.out]; exact HP46.1); clear HP46; have n0_ := Aside0.mk (hp_); have n1_ := Aside0.mk ((by rw [hw]; exact Kd.below_add (HB.out) GB34.out : Below w0.heap.size w0 w47)); have n2_ := Aside0.mk (Kept.of_grown (S := (fun k_ => P0_ k_)) hg (by repeat (first | (with_reducible first | exact HK.out | apply Kept.alloc | apply Kept.drewN | apply Kept.drew) | exact HK.out)) (fun k_ e_ => ((Kd.Wn_own HO_0.out) k_ e_))); clear HO_0; clear HB; clear HK; have HO_0 := n0_; have HB := n1_; have HK := n2_; clear n0_ n1_ n2_; clear hg hw hp_)); try go_wp2_with (first | (go_at_call 93; (with_reducible refine (bits_Add32.calls (rd x0_3 x132_3) (rd l1 x132_3) x14_3 t336 t337 _ A44.out).mono ?_); rintro e w' ⟨rfl, ⟨nd, rfl⟩⟩; (try first | exact ⟨rfl, _, World.drewN_drewN _ _ _⟩ | exact ⟨rfl, _, Eq.trans (World.drewN_drewN _ _ _) (congrArg (World.drewN _) (Nat.add_assoc _ _ _))⟩); have p45 : 0 ≤ (x132_3 : Int) := xa; have q45 : (x132_3 : Int) < ((x0_3.length : Int) : Int) := xa; obtain ⟨hx45_0, hf45_0⟩ := Kd.Wn_celln 0 HO_0.out (x132_3 : Int) p45 q45; replace p45 := eq_true p45; replace q45 := eq_true q45; obtain ⟨hy46_, hz46_⟩ := Kd.Wn_celln 0 HO_0.out (x132_3 : Int) (xa) (xa); have HP46 := Kd.Wn_putg HO_0.out (x132_3 : Int) t336 (xa) (xa)) | ((with_reducible refine gate_store (t := 85) (p := 149) rfl ?_); (try (rw [drewN_self wr]; generalize hq_ : World.drewN wr _ = wr; have n0_ := Aside0.mk (Kd.Wn_at hq_ HO_0.out); have n1_ := Aside0.mk (kept_at hq_ HK.out); have n2_ := Aside0.mk (below_at hq_ HB.out); clear hq_ HO_0 HK HB; have HO_0 := n0_; have HK := n1_; have HB := n2_; clear n0_ n1_ n2_; (try (obtain ⟨hy46_, hz46_⟩ := Kd.Wn_celln 0 HO_0.out (x132_3 : Int) (xa) (xa))); (try (have HP46 := Kd.Wn_putg HO_0.out (x132_3 : Int) t336 (xa) (xa))))); refine store_event (t := 85) (p := 149) (v := ?vo_w47) (w1 := (wr.setCell (ad318.add (x132_3 : Int).toNat) (.int .u32 t336))) ?hg ?ho ?hn ?hr ?_; (case ho => rfl); (case hg => rfl); (case hn => rfl); (case hr => first | (go_simp; done) | (go_simp; rfl)); intro w47 hw; have hg : wr.grownBy w47 (some ad318.block) := (by rw [hw]; exact HP46.2); have hp_ : Kd.Wn uw_ pre_ post_ 85 w47 w0.heap.size (fun k_ => (P0_ k_ ∨ w.heap.size ≤ k_)) (.slice (some ad318) x0_3.length co11) y338 := (by rw [hw, Ny338.out]; exact HP46.1); clear HP46; replace HB := Aside0.mk ((by rw [hw]; exact Kd.below_add (HB.out) GB34.out : Below w0.heap.size w0 w47)); replace HK := Aside0.mk (Kept.of_grown (S := (fun k_ => P0_ k_)) hg (by repeat (first | (with_reducible first | exact HK.out | apply Kept.alloc | apply Kept.drewN | apply Kept.drew) | exact HK.out)) (fun k_ e_ => ((Kd.Wn_own HO_0.out) k_ e_))); replace HO_0 := Aside0.mk (hp_); clear hg hw hp_)))
           (try simp only [← hl0_3])
           (first | go_roundg k3 | (refine Handed.intro k3 ?measure ?_; rotate_left; go_step; (repeat apply Exists.intro); refine ⟨?rel, (by first | rfl | (simp only [add_plain]; rfl))⟩))
           case measure => have := HJ9.out; have := HK2.out; have := HK3.out; omega
           case rel => exact ⟨(y338), (t337), (wrap64 (x132_3 + 1)), xz, xz, H', ⟨by have := HJ9.out; have := HK2.out; have := HK3.out; omega⟩, ⟨by (try simp only [hl0_2]); (try simp only [hl0_3]); (with_reducible repeat (first | apply Kd.Wn_alloc | apply Kd.Wn_drewN | apply Kd.Wn_drew)); exact HO_0.out⟩, ⟨by repeat (first | (with_reducible first | exact HK.out | apply Kept.alloc | apply Kept.drewN | apply Kept.drew) | exact HK.out)⟩, ⟨xs HB⟩⟩
          ·rw [if_neg c40] at H
           have c40b0 : decide (x132_3 < (l1.length : Int)) = false := decide_eq_false c40
           (try simp only [hl0_2] at c40b0)
           (try simp only [hl0_3] at c40b0)
           (try simp only [hl0_2] at c40b0)
           (try simp only [hl0_3] at c40b0)
           clear c40
           by_cases c48 : 0 ≤ (l1.length : Int)
           rotate_left
           ·rw [if_neg c48] at H
            exact absurd H (by simp)
           rw [if_pos c48] at H
           have c48b0 : decide (0 ≤ (l1.length : Int)) = true := decide_eq_true c48
           (try simp only [hl0_2] at c48b0)
           (try simp only [hl0_3] at c48b0)
           (try simp only [hl0_2] at c48b0)
           (try simp only [hl0_3] at c48b0)
           have c48b1 : decide (0 ≤ l1.length) = true := decide_eq_true (by omega)
           (try simp only [hl0_2] at c48b1)
           (try simp only [hl0_3] at c48b1)
           (try simp only [hl0_2] at c48b1)
           (try simp only [hl0_3] at c48b1)
           clear c48
           by_cases c49 : (l1.length : Int) < (x0_3.length : Int)
           rotate_left
           ·rw [if_neg c49] at H
            exact absurd H (by simp)
           rw [if_pos c49] at H
           have c49b0 : decide ((l1.length : Int) < (x0_3.length : Int)) = true := decide_eq_true c49
           (try simp only [hl0_2] at c49b0)
           (try simp only [hl0_3] at c49b0)
           (try simp only [hl0_2] at c49b0)
           (try simp only [hl0_3] at c49b0)
           have c49b1 : decide (l1.length < x0_3.length) = true := decide_eq_true (Int.ofNat_lt.mp c49)
           (try simp only [hl0_2] at c49b1)
           (try simp only [hl0_3] at c49b1)
           (try simp only [hl0_2] at c49b1)
           (try simp only [hl0_3] at c49b1)
           clear c49
           obtain ⟨y340, hy340⟩ : ∃ y_ : List Int, y_ = (x0_3.set ((l1.length : Int) : Int).toNat (((rd x0_3 (l1.length : Int)) + x14_3) % 4294967296)) := ⟨_, rfl⟩
           replace H : (some ((IntKind.u64.wrap (x7_9 - 1)) % 4294967296, y340)) = some (r1, r2) := by first | (rw [hy340]; with_reducible exact H) | (have H2_ := (Option.bind_some _ _).symm.trans H; rw [hy340]; with_reducible exact H2_) | (have H2_ := (Option.bind_some _ _).symm.trans H; with_reducible exact H2_) | with_reducible exact H | (rw [hy340]; exact H) | exact H
           have Ny340 := Aside0.mk hy340
           clear hy340
           simp only [Option.some.injEq, Prod.mk.injEq] at H
           obtain ⟨rfl, rfl⟩ := H
           have p339 : 0 ≤ ((l1.length : Int) : Int) := xa
           have q339 : (l1.length : Int) < (x0_3.length : Int) := xa
           obtain ⟨ad339, e339, hx339_0⟩ := Kd.at_int (Kd.Wn_reads' HO_0.out).2.2 (l1.length : Int) p339 q339
           obtain rfl : (ad318 : Addr) = ad339 := (by injection e339)
           skip
           (try simp only [Go.IntWalk.toNatUp] at hx339_0)
           (try simp only [hl0_2, hl0_3] at p339)
           (try simp only [hl0_2, hl0_3] at q339)
           (try simp only [hl0_2, hl0_3] at hx339_0)
           replace p339 := eq_true p339
           replace q339 := eq_true q339
           have p50 : 0 ≤ ((l1.length : Int) : Int) := xa
           have q50 : ((l1.length : Int) : Int) < ((x0_3.length : Int) : Int) := xa
           obtain ⟨hx50_0, hf50_0⟩ := Kd.Wn_celln 0 HO_0.out ((l1.length : Int) : Int) p50 q50
           (try simp only [Int.toNat_natCast] at hx50_0)
           (try simp only [Int.toNat_natCast] at hf50_0)
           replace p50 := eq_true p50
           replace q50 := eq_true q50
           have HP51 := Kd.Wn_putg HO_0.out ((l1.length : Int) : Int) (((rd x0_3 (l1.length : Int)) + x14_3) % 4294967296) (xa) (xa)
           go_wp2_with (first | ((with_reducible refine gate_store (t := 85) (p := 157) rfl ?_); (try (rw [drewN_self wr]; generalize hq_ : World.drewN wr _ = wr; have n0_ := Aside0.mk (Kd.Wn_at hq_ HO_0.out); have n1_ := Aside0.mk (kept_at hq_ HK.out); have n2_ := Aside0.mk (below_at hq_ HB.out); clear hq_ HO_0 HK HB; have HO_0 := n0_; have HK := n1_; have HB := n2_; clear n0_ n1_ n2_; (try (have hc_ := Kd.Wn_celln 0 HO_0.out ((l1.length : Int) : Int) (of_eq_true p50) (of_eq_true q50); obtain ⟨hcx_, hcf_⟩ := hc_)); (try (have HP51 := Kd.Wn_putg HO_0.out ((l1.length : Int) : Int) (((rd x0_3 (l1.length : Int)) + x14_3) % 4294967296) (xa) (xa))))); refine store_event (t := 85) (p := 157) (v := ?vo_w52) (w1 := (wr.setCell (ad318.add ((l1.length : Int) : Int).toNat) (.int .u32 (((rd x0_3 (l1.length : Int)) + x14_3) % 4294967296)))) ?hg ?ho ?hn ?hr ?_; (case ho => rfl); (case hg => rfl); (case hn => rfl); (case hr => first | (go_simp; done) | (go_simp; rfl)); intro w52 hw; have hg : wr.grownBy w52 (some ad318.block) := (by rw [hw]; exact HP51.2); have hp_ : Kd.Wn uw_ pre_ post_ 85 w52 w0.heap.size (fun k_ => (P0_ k_ ∨ w.heap.size ≤ k_)) (.slice (some ad318) x0_3.length co11) y340 := (by rw [hw, Ny340.out]; exact HP51.1); clear HP51; replace HB := Aside0.mk ((by rw [hw]; exact Kd.below_add (HB.out) GB34.out : Below w0.heap.size w0 w52)); replace HK := Aside0.mk (Kept.of_grown (S := (fun k_ => P0_ k_)) hg (by repeat (first | (with_reducible first | exact HK.out | apply Kept.alloc | apply Kept.drewN | apply Kept.drew) | exact HK.out)) (fun k_ e_ => ((Kd.Wn_own HO_0.out) k_ e_))); replace HO_0 := Aside0.mk (hp_); clear hg hw hp_))
           repeat (go_quiet (first | ((with_reducible refine gate_store (t := 85) (p := 157) rfl ?_); (try (rw [drewN_self wr]; generalize hq_ : World.drewN wr _ = wr; have n0_ := Aside0.mk (Kd.Wn_at hq_ HO_0.out); have n1_ := Aside0.mk (kept_at hq_ HK.out); have n2_ := Aside0.mk (below_at hq_ HB.out); clear hq_ HO_0 HK HB; have HO_0 := n0_; have HK := n1_; have HB := n2_; clear n0_ n1_ n2_; (try (have hc_ := Kd.Wn_celln 0 HO_0.out ((l1.length : Int) : Int) (of_eq_true p50) (of_eq_true q50); obtain ⟨hcx_, hcf_⟩ := hc_)); (try (have HP51 := Kd.Wn_putg HO_0.out ((l1.length : Int) : Int) (((rd x0_3 (l1.length : Int)) + x14_3) % 4294967296) (xa) (xa))))); refine store_event (t := 85) (p := 157) (v := ?vo_w52) (w1 := (wr.setCell (ad318.add ((l1.length : Int) : Int).toNat) (.int .u32 (((rd x0_3 (l1.length : Int)) + x14_3) % 4294967296)))) ?hg ?ho ?hn ?hr ?_; (case ho => rfl); (case hg => rfl); (case hn => rfl); (case hr => first | (go_simp; done) | (go_simp; rfl)); intro w52 hw; have hg : wr.grownBy w52 (some ad318.block) := (by rw [hw]; exact HP51.2); have hp_ : Kd.Wn uw_ pre_ post_ 85 w52 w0.heap.size (fun k_ => (P0_ k_ ∨ w.heap.size ≤ k_)) (.slice (some ad318) x0_3.length co11) y340 := (by rw [hw, Ny340.out]; exact HP51.1); clear HP51; have n0_ := Aside0.mk (hp_); have n1_ := Aside0.mk ((by rw [hw]; exact Kd.below_add (HB.out) GB34.out : Below w0.heap.size w0 w52)); have n2_ := Aside0.mk (Kept.of_grown (S := (fun k_ => P0_ k_)) hg (by repeat (first | (with_reducible first | exact HK.out | apply Kept.alloc | apply Kept.drewN | apply Kept.drew) | exact HK.out)) (fun k_ e_ => ((Kd.Wn_own HO_0.out) k_ e_))); clear HO_0; clear HB; clear HK; have HO_0 := n0_; have HB := n1_; have HK := n2_; clear n0_ n1_ n2_; clear hg hw hp_)); try go_wp2_with (first | ((with_reducible refine gate_store (t := 85) (p := 157) rfl ?_); (try (rw [drewN_self wr]; generalize hq_ : World.drewN wr _ = wr; have n0_ := Aside0.mk (Kd.Wn_at hq_ HO_0.out); have n1_ := Aside0.mk (kept_at hq_ HK.out); have n2_ := Aside0.mk (below_at hq_ HB.out); clear hq_ HO_0 HK HB; have HO_0 := n0_; have HK := n1_; have HB := n2_; clear n0_ n1_ n2_; (try (have hc_ := Kd.Wn_celln 0 HO_0.out ((l1.length : Int) : Int) (of_eq_true p50) (of_eq_true q50); obtain ⟨hcx_, hcf_⟩ := hc_)); (try (have HP51 := Kd.Wn_putg HO_0.out ((l1.length : Int) : Int) (((rd x0_3 (l1.length : Int)) + x14_3) % 4294967296) (xa) (xa))))); refine store_event (t := 85) (p := 157) (v := ?vo_w52) (w1 := (wr.setCell (ad318.add ((l1.length : Int) : Int).toNat) (.int .u32 (((rd x0_3 (l1.length : Int)) + x14_3) % 4294967296)))) ?hg ?ho ?hn ?hr ?_; (case ho => rfl); (case hg => rfl); (case hn => rfl); (case hr => first | (go_simp; done) | (go_simp; rfl)); intro w52 hw; have hg : wr.grownBy w52 (some ad318.block) := (by rw [hw]; exact HP51.2); have hp_ : Kd.Wn uw_ pre_ post_ 85 w52 w0.heap.size (fun k_ => (P0_ k_ ∨ w.heap.size ≤ k_)) (.slice (some ad318) x0_3.length co11) y340 := (by rw [hw, Ny340.out]; exact HP51.1); clear HP51; replace HB := Aside0.mk ((by rw [hw]; exact Kd.below_add (HB.out) GB34.out : Below w0.heap.size w0 w52)); replace HK := Aside0.mk (Kept.of_grown (S := (fun k_ => P0_ k_)) hg (by repeat (first | (with_reducible first | exact HK.out | apply Kept.alloc | apply Kept.drewN | apply Kept.drew) | exact HK.out)) (fun k_ e_ => ((Kd.Wn_own HO_0.out) k_ e_))); replace HO_0 := Aside0.mk (hp_); clear hg hw hp_)))
           go_ret
           exact ⟨by first | rfl | (simp [errW_none, errW_some] <;> rfl) | (simp only [← hji5]; first | rfl | (simp [errW_none, errW_some] <;> rfl)) | (simp [*, errW_none, errW_some] <;> rfl), (by first | exact (by (with_reducible repeat (first | apply Kd.Wn_alloc | apply Kd.Wn_drewN | apply Kd.Wn_drew)); exact HO_0.out) | (simp only [hl0_2, hl0_3]; exact (by (with_reducible repeat (first | apply Kd.Wn_alloc | apply Kd.Wn_drewN | apply Kd.Wn_drew)); exact HO_0.out))), xs HB, by repeat (first | (with_reducible first | exact HK.out | apply Kept.alloc | apply Kept.drewN | apply Kept.drew) | exact HK.out)⟩
/-! ### natural_step: function 112 -/
def natural_step.f (k : Nat) (u : List Int) (i h : Int) (d : List Int) : Option (Int × List Int) := if 0 ≤ i ∧ i < h ∧ h ≤ (u.length : Int) then ((natural_step0.f k ((u.take h.toNat).drop i.toNat) d).bind fun p => some (p.1, u.take i.toNat ++ p.2 ++ u.drop h.toNat)) else none
theorem natural_step.mono : ∀ a0 a1 a2 a3 k, LeO (natural_step.f k a0 a1 a2 a3) (natural_step.f (k + 1) a0 a1 a2 a3) := by
 intro a0 a1 a2 a3 k
 unfold natural_step.f
 exact LeO.ite (LeO.bind (natural_step0.mono _ _ _) (fun _ => LeO.refl _)) (LeO.refl _)
theorem natural_step.calls (k : Nat) (P0_ : Nat → Prop) (u9000_ : Value) (l0 : List Int) (A1 : Option Addr) (c1 : Nat) (l1 : List Int) (r1 : Int) (r2 : List Int) (w0 w : World) {i h : Int} {A9 : Option Addr} {n9 c9 : Nat} (hB : Below w0.heap.size w0 w) (ho0 : Kd.R (Kd.int .u32) 85 w w0.heap.size P0_ u9000_ l0) (hr1 : ∀ W_, Kept w W_ (fun k_ => P0_ k_) → Kd.C (Kd.int .u32) W_ A1 l1.length l1) (hc1 : l1.length ≤ c1) (hh : natural_step.f k l0 i h l1 = some (r1, r2))
  (hw9 : ∀ A n c, u9000_ = .slice A n c → A9 = (if c = i.toNat then A else A.map (·.add (i.toNat * 1))) ∧ n9 = h.toNat - i.toNat ∧ c9 = c - i.toNat) :
  Calls Tryd.prog 112 #[.slice A9 n9 c9, .slice A1 l1.length c1] w fun e w' => e = .returned (.int .u32 r1) ∧ Kd.R (Kd.int .u32) 85 w' w0.heap.size (fun k_ => (P0_ k_ ∨ w.heap.size ≤ k_)) u9000_ r2 ∧ Below w0.heap.size w0 w' ∧ Kept w w' (fun k_ => P0_ k_) := by
 unfold natural_step.f at hh
 by_cases c : 0 ≤ i ∧ i < h ∧ h ≤ (l0.length : Int)
 ·rw [if_pos c] at hh
  obtain ⟨⟨q1, q2⟩, hq, hp⟩ := Option.bind_eq_some_iff.mp hh
  simp only [Option.some.injEq, Prod.mk.injEq] at hp
  obtain ⟨rfl, rfl⟩ := hp
  obtain ⟨g, C, rfl, _⟩ := Kd.R_form ho0 (by omega)
  obtain ⟨e1, e2, _⟩ := Kd.R_reads' ho0
  obtain ⟨rfl, rfl, rfl⟩ := hw9 _ _ _ rfl
  have hwn := Kd.Wn_of ho0 (i := i.toNat) (h := h.toNat) (by omega) (by omega)
  have ea : (if C = i.toNat then (some ⟨g, 0, none⟩ : Option Addr) else (some ⟨g, 0, none⟩ : Option Addr).map (·.add (i.toNat * 1))) = some ⟨g, i.toNat, none⟩ := by
   rw [if_neg (by omega), Nat.mul_one]
   show some ((⟨g, 0, none⟩ : Addr).add i.toNat) = _
   rw [add_plain]
  rw [ea]
  refine (natural_step0.calls k P0_ _ _ _ _ _ A1 c1 l1 q1 q2 w0 w hB hwn hr1 hc1 hq).mono ?_
  rintro e w' ⟨rfl, h1, h2, h3⟩
  exact ⟨rfl, Kd.Wn_whole h1, h2, h3⟩
 ·rw [if_neg c] at hh
  cases hh
/-! ### natural_unshift: function 113 -/
def natural_unshift.l0 : Nat → List Int → Int → List Int → Int → Int → Option (List Int)
 | 0, _, _, _, _, _ => none
 | k + 1, x0, x1, x5, x12, x13 => if x13 < x12 then (if 0 ≤ x13 then (if x13 < (x0.length : Int) then (if (wrap64 (x13 + 1)) < (x0.length : Int) then (if 0 ≤ (wrap64 (x13 + 1)) then (if 0 ≤ x1 then (if x13 < (x5.length : Int) then (natural_unshift.l0 k x0 x1 (x5.set (x13 : Int).toNat ((shr .u64 (Go.bits .or .u64 (IntKind.u64.wrap (rd x0 x13)) (IntKind.u64.wrap ((IntKind.u64.wrap (rd x0 (wrap64 (x13 + 1)))) * 4294967296))) x1) % 4294967296)) x12 (wrap64 (x13 + 1))) else (none)) else (none)) else (none)) else (if 0 ≤ x1 then (if x13 < (x5.length : Int) then (natural_unshift.l0 k x0 x1 (x5.set (x13 : Int).toNat ((shr .u64 (IntKind.u64.wrap (rd x0 x13)) x1) % 4294967296)) x12 (wrap64 (x13 + 1))) else (none)) else (none))) else (none)) else (none)) else ((natural_limbs_trim.f k x5).bind fun t348 => (some t348))
def natural_unshift.f (k : Nat) (l0 : List Int) (a1 : Int) : Option (List Int) := if 0 ≤ (l0.length : Int) then (if ((l0.length : Int) : Int).toNat ≤ 70368744177664 then (natural_unshift.l0 k l0 a1 (List.replicate ((l0.length : Int) : Int).toNat 0) (l0.length : Int) 0) else (none)) else (none)
theorem natural_unshift.mono_l : ∀ k, (∀ y0 y1 y2 y3 y4, LeO (natural_unshift.l0 k y0 y1 y2 y3 y4) (natural_unshift.l0 (k + 1) y0 y1 y2 y3 y4))
 | 0 => fun _ _ _ _ _ r h => by simp [natural_unshift.l0] at h
 | k + 1 => by
  have ih0 := natural_unshift.mono_l k
  ·intro y0 y1 y2 y3 y4
   unfold natural_unshift.l0
   have m0 := @ih0; have m1 := @natural_limbs_trim.mono; exact xM
theorem natural_unshift.mono : ∀ a0 a1 k, LeO (natural_unshift.f k a0 a1) (natural_unshift.f (k + 1) a0 a1) := by
 intro a0 a1 k
 have ih0 := natural_unshift.mono_l k
 unfold natural_unshift.f
 have m0 := @ih0; have m1 := @natural_limbs_trim.mono; exact xM
set_option maxHeartbeats 8000000 in
set_option maxRecDepth 100000 in
theorem natural_unshift.calls (k : Nat) (A0 : Option Addr) (c0 : Nat) (l0 : List Int) (a1 : Int) (r : List Int) (w : World) (hr0 : Kd.C (Kd.int .u32) w A0 l0.length l0) (hc0 : l0.length ≤ c0) (h : natural_unshift.f k l0 a1 = some r) :
  Calls Tryd.prog 113 #[.slice A0 l0.length c0, .int .u64 a1] w fun e w' => ∃ v0_ : Value, e = .returned (v0_) ∧ Kd.V (Kd.int .u32) 85 w' w.heap.size (fun k_ => (w.heap.size ≤ k_)) v0_ r ∧ Below w.heap.size w w' := by
 have HR0 := Aside0.mk hr0
 have HC0 := Aside0.mk hc0
 clear hr0 hc0
 have HB := Aside0.mk (Below.refl w.heap.size w)
 have H : (if 0 ≤ (l0.length : Int) then (if ((l0.length : Int) : Int).toNat ≤ 70368744177664 then (natural_unshift.l0 k l0 a1 (List.replicate ((l0.length : Int) : Int).toNat 0) (l0.length : Int) 0) else (none)) else (none)) = some r := h
 clear h
 by_cases c3 : 0 ≤ (l0.length : Int)
 rotate_left
 ·rw [if_neg c3] at H
  exact absurd H (by simp)
 rw [if_pos c3] at H
 have c3b0 := eq_true c3
 have c3b1 : decide (0 ≤ (l0.length : Int)) = true := decide_eq_true c3
 clear c3
 by_cases c4 : ((l0.length : Int) : Int).toNat ≤ 70368744177664
 rotate_left
 ·rw [if_neg c4] at H
  exact absurd H (by simp)
 rw [if_pos c4] at H
 have c4b0 := eq_true c4
 have c4b1 : decide (((l0.length : Int) : Int).toNat ≤ 70368744177664) = true := decide_eq_true c4
 clear c4
 obtain ⟨y341, hy341⟩ : ∃ y_ : List Int, y_ = (List.replicate ((l0.length : Int) : Int).toNat 0) := ⟨_, rfl⟩
 replace H : (natural_unshift.l0 k l0 a1 y341 (l0.length : Int) 0) = some r := by first | (rw [hy341]; with_reducible exact H) | (have H2_ := (Option.bind_some _ _).symm.trans H; rw [hy341]; with_reducible exact H2_) | (have H2_ := (Option.bind_some _ _).symm.trans H; with_reducible exact H2_) | with_reducible exact H | (rw [hy341]; exact H) | exact H
 have Ny341 := Aside0.mk hy341
 clear hy341
 have H' := Aside0.mk H
 clear H
 go_enter Tryd.func113, Tryd.ntmps113
 go_wp2_with (first | ((with_reducible refine gate_dst (N := 10) rfl ?_); refine Kd.R_make (Kd.int .u32) _ 85 rfl (N := 10) rfl 83 _ _ rfl (l0.length : Int) rfl rfl Tryd.underlying83 (.int .u32 0) 4 info85 rfl (by decide) (by omega) 0 (ok := fun _ => True) (okp := fun _ => True) rfl (fun _ hk => hk) trivial (xa) (Nat.le_trans (Nat.mul_le_mul_right _ (xa : (l0.length : Int).toNat ≤ 70368744177664)) (by omega)) (Below.refl _ _) (Nat.le_refl _) ?_; intro v342 w5 ho6 hb hg_ hnew_; clear hg_ hnew_; (first | rw [← Ny341.out] at ho6 | (simp only [Int.reduceToNat] at ho6; rw [← Ny341.out] at ho6)); have HO343 := Aside0.mk (Kd.R_lower (Kd.R_newM (M := fun k_ => (w.heap.size ≤ k_)) ho6 (below_size (xs HB)) (fun k_ h_ => h_)) (below_size (xs HB))); replace HB := xS HB hb; clear hb ho6))
 go_loopg [13] k (fun kq v13 w' => ∃ (x5_1 : List Int) (x13_1 : Int), v13 = .int .i64 x13_1 ∧ Aside0 (natural_unshift.l0 kq l0 a1 x5_1 (l0.length : Int) x13_1 = some r) ∧ Aside0 (kq ≤ k) ∧ Aside0 (Kd.R (Kd.int .u32) 85 w' w.heap.size (fun k_ => (w.heap.size ≤ k_)) v342 x5_1) ∧ Aside0 (Below w.heap.size w w'))
 case atStart => exact ⟨(y341), (0), xz, H', ⟨Nat.le_refl _⟩, ⟨by (with_reducible repeat (first | apply Kd.R_alloc | apply Kd.R_drewN | apply Kd.R_drew)); exact Kd.R_mono HO343.out (fun _ hk => hk.1)⟩, ⟨xs HB⟩⟩
 case round =>
  clear H'
  try clear c1
  try clear p2
  try clear c3
  try clear c3b0
  try clear c3b1
  try clear c4
  try clear c4b0
  try clear c4b1
  obtain ⟨x5_1, x13_1, rfl, HA, HK1, HO_5, HB⟩ := hrel
  cases gk with
  | zero => exact absurd HA.out (by simp [natural_unshift.l0])
  | succ k1 =>
   have H := HA.out
   clear HA
   simp only [natural_unshift.l0] at H
   by_cases c7 : x13_1 < (l0.length : Int)
   ·rw [if_pos c7] at H
    have c7b0 : decide (x13_1 < (l0.length : Int)) = true := decide_eq_true c7
    clear c7
    by_cases c8 : 0 ≤ x13_1
    rotate_left
    ·rw [if_neg c8] at H
     exact absurd H (by simp)
    rw [if_pos c8] at H
    have c8b0 : decide (0 ≤ x13_1) = true := decide_eq_true c8
    clear c8
    by_cases c9 : x13_1 < (l0.length : Int)
    rotate_left
    ·rw [if_neg c9] at H
     exact absurd H (by simp)
    rw [if_pos c9] at H
    have c9b0 : decide (x13_1 < (l0.length : Int)) = true := decide_eq_true c9
    clear c9
    by_cases c10 : (wrap64 (x13_1 + 1)) < (l0.length : Int)
    ·rw [if_pos c10] at H
     have c10b0 : decide ((wrap64 (x13_1 + 1)) < (l0.length : Int)) = true := decide_eq_true c10
     clear c10
     obtain ⟨ji11, hji11⟩ : ∃ j_ : Int, (wrap64 (x13_1 + 1)) = j_ := ⟨_, rfl⟩
     replace H : (if 0 ≤ (ji11) then (if 0 ≤ a1 then (if x13_1 < (x5_1.length : Int) then (natural_unshift.l0 k1 l0 a1 (x5_1.set (x13_1 : Int).toNat ((shr .u64 (Go.bits .or .u64 (IntKind.u64.wrap (rd l0 x13_1)) (IntKind.u64.wrap ((IntKind.u64.wrap (rd l0 (ji11))) * 4294967296))) a1) % 4294967296)) (l0.length : Int) ji11) else (none)) else (none)) else (none)) = some r := by first | (rw [hji11] at H; exact H) | (simp only [hji11] at H ⊢; exact H)
     (try rw [hji11] at c10b0)
     have hji11w : (IntKind.i64.wrap (x13_1 + 1)) = ji11 := (i64_w _).trans hji11
     by_cases c12 : 0 ≤ (ji11)
     rotate_left
     ·rw [if_neg c12] at H
      exact absurd H (by simp)
     rw [if_pos c12] at H
     have c12b0 : decide (0 ≤ (ji11)) = true := decide_eq_true c12
     clear c12
     by_cases c13 : 0 ≤ a1
     rotate_left
     ·rw [if_neg c13] at H
      exact absurd H (by simp)
     rw [if_pos c13] at H
     have c13b0 := eq_true c13
     have c13b1 : decide (0 ≤ a1) = true := decide_eq_true c13
     clear c13
     obtain ⟨ji14, hji14⟩ : ∃ j_ : Int, (shr .u64 (Go.bits .or .u64 (IntKind.u64.wrap (rd l0 x13_1)) (IntKind.u64.wrap ((IntKind.u64.wrap (rd l0 (ji11))) * 4294967296))) a1) = j_ := ⟨_, rfl⟩
     replace H : (if x13_1 < (x5_1.length : Int) then (natural_unshift.l0 k1 l0 a1 (x5_1.set (x13_1 : Int).toNat ((ji14) % 4294967296)) (l0.length : Int) ji11) else (none)) = some r := by first | (rw [hji14] at H; exact H) | (simp only [hji14] at H ⊢; exact H)
     have hji14_ : ((Go.bits .or .u64 (IntKind.u64.wrap (rd l0 x13_1)) (IntKind.u64.wrap ((IntKind.u64.wrap (rd l0 (ji11))) * 4294967296))) / 2 ^ min a1.toNat 64) = ji14 := hji14
     have hji14z : a1 ≤ 64 → ((Go.bits .or .u64 (IntKind.u64.wrap (rd l0 x13_1)) (IntKind.u64.wrap ((IntKind.u64.wrap (rd l0 (ji11))) * 4294967296))) / 2 ^ a1.toNat) = ji14 := shr_small hji14
     by_cases c15 : x13_1 < (x5_1.length : Int)
     rotate_left
     ·rw [if_neg c15] at H
      exact absurd H (by simp)
     rw [if_pos c15] at H
     have c15b0 : decide (x13_1 < (x5_1.length : Int)) = true := decide_eq_true c15
     clear c15
     obtain ⟨y346, hy346⟩ : ∃ y_ : List Int, y_ = (x5_1.set (x13_1 : Int).toNat ((ji14) % 4294967296)) := ⟨_, rfl⟩
     replace H : (natural_unshift.l0 k1 l0 a1 y346 (l0.length : Int) ji11) = some r := by first | (rw [hy346]; with_reducible exact H) | (have H2_ := (Option.bind_some _ _).symm.trans H; rw [hy346]; with_reducible exact H2_) | (have H2_ := (Option.bind_some _ _).symm.trans H; with_reducible exact H2_) | with_reducible exact H | (rw [hy346]; exact H) | exact H
     have Ny346 := Aside0.mk hy346
     clear hy346
     have H' := Aside0.mk H
     clear H
     have p344 : 0 ≤ (x13_1 : Int) := xa
     have q344 : x13_1 < (l0.length : Int) := xa
     obtain ⟨ad344, e344, hx344_0⟩ := Kd.at_int HR0.out x13_1 p344 q344
     cases e344
     (try replace hx344_0 := (HB.out.cell (World.block_lt_of_cell? w _ hx344_0)).trans hx344_0)
     replace p344 := eq_true p344
     replace q344 := eq_true q344
     have p345 : 0 ≤ ((ji11) : Int) := xa
     have q345 : (ji11) < (l0.length : Int) := xa
     obtain ⟨ad345, e345, hx345_0⟩ := Kd.at_int HR0.out (ji11) p345 q345
     obtain rfl : ad344 = ad345 := (by injection e345)
     (try replace hx345_0 := (HB.out.cell (World.block_lt_of_cell? w _ hx345_0)).trans hx345_0)
     replace p345 := eq_true p345
     replace q345 := eq_true q345
     have p16 : 0 ≤ (x13_1 : Int) := xa
     have q16 : (x13_1 : Int) < ((x5_1.length : Int) : Int) := xa
     obtain ⟨go16, co16, eo16, gb16, gl16, cl16, HG16⟩ := Kd.R_form HO_5.out (by omega)
     (first | cases eo16 | (injection eo16 with ea_ en_ ec_; (first | subst ea_ | (injection ea_ with ea_; subst ea_)); subst ec_; clear en_))
     have GB16 := Aside0.mk gb16
     have GG16 := Aside0.mk HG16
     clear gb16 gl16 HG16
     obtain ⟨hx16_0, hf16_0⟩ := Kd.R_celln 0 HO_5.out (x13_1 : Int) p16 q16
     replace p16 := eq_true p16
     replace q16 := eq_true q16
     have HP17 := Kd.R_putg HO_5.out (x13_1 : Int) ((ji14) % 4294967296)
     go_wp2_with (first | ((with_reducible refine gate_store (t := 85) (p := 41) rfl ?_); refine store_event (t := 85) (p := 41) (v := ?vo_w18) (w1 := (wr.setCell ⟨go16, (x13_1 : Int).toNat, none⟩ (.int .u32 ((ji14) % 4294967296)))) ?hg ?ho ?hn ?hr ?_; (case ho => rfl); (case hg => rfl); (case hn => rfl); (case hr => first | (go_simp; done) | (go_simp; rfl)); intro w18 hw; have hg : wr.grownBy w18 (some go16) := (by rw [hw]; exact HP17.2); have hp_ : Kd.R (Kd.int .u32) 85 w18 w.heap.size (fun k_ => (w.heap.size ≤ k_)) (.slice (some ⟨go16, 0, none⟩) x5_1.length co16) y346 := (by rw [hw, Ny346.out]; exact HP17.1); clear HP17; replace HO_5 := Aside0.mk (hp_); replace HB := Aside0.mk ((by rw [hw]; exact below_set (HB.out) GB16.out : Below w.heap.size w w18)); clear hg hw hp_))
     (first | go_roundg k1 | (refine Handed.intro k1 ?measure ?_; rotate_left; go_step; (repeat apply Exists.intro); refine ⟨?rel, (by first | rfl | (simp only [add_plain]; rfl))⟩))
     case measure => have := HK1.out; omega
     case rel => exact ⟨(y346), (ji11), (by first | rfl | (simp; done) | (simp only [← hji11] <;> (first | rfl | simp)) | (simp [*]; done)), H', ⟨by have := HK1.out; omega⟩, ⟨xr HO_5.out⟩, ⟨xs HB⟩⟩
    ·rw [if_neg c10] at H
     have c10b0 : decide ((wrap64 (x13_1 + 1)) < (l0.length : Int)) = false := decide_eq_false c10
     clear c10
     by_cases c19 : 0 ≤ a1
     rotate_left
     ·rw [if_neg c19] at H
      exact absurd H (by simp)
     rw [if_pos c19] at H
     have c19b0 := eq_true c19
     have c19b1 : decide (0 ≤ a1) = true := decide_eq_true c19
     clear c19
     obtain ⟨ji20, hji20⟩ : ∃ j_ : Int, (shr .u64 (IntKind.u64.wrap (rd l0 x13_1)) a1) = j_ := ⟨_, rfl⟩
     replace H : (if x13_1 < (x5_1.length : Int) then (natural_unshift.l0 k1 l0 a1 (x5_1.set (x13_1 : Int).toNat ((ji20) % 4294967296)) (l0.length : Int) (wrap64 (x13_1 + 1))) else (none)) = some r := by first | (rw [hji20] at H; exact H) | (simp only [hji20] at H ⊢; exact H)
     have hji20_ : ((IntKind.u64.wrap (rd l0 x13_1)) / 2 ^ min a1.toNat 64) = ji20 := hji20
     have hji20z : a1 ≤ 64 → ((IntKind.u64.wrap (rd l0 x13_1)) / 2 ^ a1.toNat) = ji20 := shr_small hji20
     by_cases c21 : x13_1 < (x5_1.length : Int)
     rotate_left
     ·rw [if_neg c21] at H
      exact absurd H (by simp)
     rw [if_pos c21] at H
     have c21b0 : decide (x13_1 < (x5_1.length : Int)) = true := decide_eq_true c21
     clear c21
     obtain ⟨y347, hy347⟩ : ∃ y_ : List Int, y_ = (x5_1.set (x13_1 : Int).toNat ((ji20) % 4294967296)) := ⟨_, rfl⟩
     replace H : (natural_unshift.l0 k1 l0 a1 y347 (l0.length : Int) (wrap64 (x13_1 + 1))) = some r := by first | (rw [hy347]; with_reducible exact H) | (have H2_ := (Option.bind_some _ _).symm.trans H; rw [hy347]; with_reducible exact H2_) | (have H2_ := (Option.bind_some _ _).symm.trans H; with_reducible exact H2_) | with_reducible exact H | (rw [hy347]; exact H) | exact H
     have Ny347 := Aside0.mk hy347
     clear hy347
     have H' := Aside0.mk H
     clear H
     have p344 : 0 ≤ (x13_1 : Int) := xa
     have q344 : x13_1 < (l0.length : Int) := xa
     obtain ⟨ad344, e344, hx344_0⟩ := Kd.at_int HR0.out x13_1 p344 q344
     cases e344
     (try replace hx344_0 := (HB.out.cell (World.block_lt_of_cell? w _ hx344_0)).trans hx344_0)
     replace p344 := eq_true p344
     replace q344 := eq_true q344
     have p22 : 0 ≤ (x13_1 : Int) := xa
     have q22 : (x13_1 : Int) < ((x5_1.length : Int) : Int) := xa
     obtain ⟨go22, co22, eo22, gb22, gl22, cl22, HG22⟩ := Kd.R_form HO_5.out (by omega)
     (first | cases eo22 | (injection eo22 with ea_ en_ ec_; (first | subst ea_ | (injection ea_ with ea_; subst ea_)); subst ec_; clear en_))
     have GB22 := Aside0.mk gb22
     have GG22 := Aside0.mk HG22
     clear gb22 gl22 HG22
     obtain ⟨hx22_0, hf22_0⟩ := Kd.R_celln 0 HO_5.out (x13_1 : Int) p22 q22
     replace p22 := eq_true p22
     replace q22 := eq_true q22
     have HP23 := Kd.R_putg HO_5.out (x13_1 : Int) ((ji20) % 4294967296)
     go_wp2_with (first | ((with_reducible refine gate_store (t := 85) (p := 41) rfl ?_); refine store_event (t := 85) (p := 41) (v := ?vo_w24) (w1 := (wr.setCell ⟨go22, (x13_1 : Int).toNat, none⟩ (.int .u32 ((ji20) % 4294967296)))) ?hg ?ho ?hn ?hr ?_; (case ho => rfl); (case hg => rfl); (case hn => rfl); (case hr => first | (go_simp; done) | (go_simp; rfl)); intro w24 hw; have hg : wr.grownBy w24 (some go22) := (by rw [hw]; exact HP23.2); have hp_ : Kd.R (Kd.int .u32) 85 w24 w.heap.size (fun k_ => (w.heap.size ≤ k_)) (.slice (some ⟨go22, 0, none⟩) x5_1.length co22) y347 := (by rw [hw, Ny347.out]; exact HP23.1); clear HP23; replace HO_5 := Aside0.mk (hp_); replace HB := Aside0.mk ((by rw [hw]; exact below_set (HB.out) GB22.out : Below w.heap.size w w24)); clear hg hw hp_))
     (first | go_roundg k1 | (refine Handed.intro k1 ?measure ?_; rotate_left; go_step; (repeat apply Exists.intro); refine ⟨?rel, (by first | rfl | (simp only [add_plain]; rfl))⟩))
     case measure => have := HK1.out; omega
     case rel => exact ⟨(y347), (wrap64 (x13_1 + 1)), xz, H', ⟨by have := HK1.out; omega⟩, ⟨xr HO_5.out⟩, ⟨xs HB⟩⟩
   ·rw [if_neg c7] at H
    have c7b0 : decide (x13_1 < (l0.length : Int)) = false := decide_eq_false c7
    clear c7
    replace H := xH H; obtain ⟨t348, A25, H⟩ := H
    obtain rfl := Option.some.inj H
    obtain ⟨Ao26, co26, eo26⟩ := Kd.R_slice HO_5.out
    subst eo26
    go_wp2_with (first | (refine xg Tryd.func98 (some 44) #[.slice Ao26 x5_1.length co26] ?_; (with_reducible refine (natural_limbs_trim.calls k1 (fun k_ => some k_ = (.slice Ao26 x5_1.length co26 : Value).ownBlock) _ _ x5_1 t348 _ ?side1 A25.out).mono ?_); (case side1 => exact Kd.R_V (Kd.R_tight rfl (HO_5.out))); rintro e w27 ⟨v349, rfl, ho0, hb⟩; refine ⟨_, rfl, ?_⟩; have HO350 := Aside0.mk (Kd.V_lower (Kd.V_mono (ok' := fun k_ => (w.heap.size ≤ k_)) ho0 (fun k_ hk_ => Or.elim hk_ (fun hs_ => ((HO_5.out).1 k_ hs_.symm)) (fun hn_ => (Nat.le_trans (below_size (xs HB)) hn_)))) (below_size (xs HB))); replace HO_5 := Aside0.mk (Kd.R_below (xr HO_5.out) hb); replace HB := xS HB hb; clear hb ho0))
    go_ret
    exact ⟨_, xy, by (with_reducible repeat (first | apply Kd.V_alloc | apply Kd.V_drewN | apply Kd.V_drew)); exact HO350.out, xs HB⟩
/-! ### natural_divide: function 99 -/
def natural_divide.l0 : Nat → Int → Int → List Int → List Int → List Int → Int → Option (List Int × List Int)
 | 0, _, _, _, _, _, _ => none
 | k + 1, x8, x9, x10, x11, x12, x13 => if x13 ≥ 0 then (if 0 ≤ x13 then (if x13 ≤ (wrap64 ((wrap64 (x13 + x9)) + 1)) then (if (wrap64 ((wrap64 (x13 + x9)) + 1)) ≤ (x11.length : Int) then ((natural_step.f k x11 x13 (wrap64 ((wrap64 (x13 + x9)) + 1)) x10).bind fun bt410 => (if x13 < (x12.length : Int) then (natural_divide.l0 k x8 x9 x10 bt410.2 (x12.set (x13 : Int).toNat bt410.1) (wrap64 (x13 - 1))) else (none))) else (none)) else (none)) else (none)) else ((natural_limbs_trim.f k x12).bind fun t413 => (if 0 ≤ x9 then (if x9 ≤ (x11.length : Int) then ((natural_unshift.f k (x11.take (x9 : Int).toNat) x8).bind fun t420 => (some (t413, t420))) else (none)) else (none)))
def natural_divide.f (k : Nat) (l0 : List Int) (l1 : List Int) : Option (List Int × List Int) := (natural_compare.f k l0 l1).bind fun t387 => (if t387 < 0 then (some (([] : List Int), l0)) else (if (l1.length : Int) = 1 then (if 0 < (l1.length : Int) then ((natural_divideSmall.f k l0 (rd l1 0)).bind fun bt389 => ((natural_limbs_trim.f k (([bt389.2] : List Int))).bind fun t396 => (some (bt389.1, t396)))) else (none)) else (if 0 ≤ (wrap64 ((l1.length : Int) - 1)) then (if (wrap64 ((l1.length : Int) - 1)) < (l1.length : Int) then ((bits_LeadingZeros32.f (rd l1 (wrap64 ((l1.length : Int) - 1)))).bind fun t400 => ((natural_shift.f k l1 (IntKind.u64.wrap (t400)) (l1.length : Int)).bind fun t401 => ((natural_shift.f k l0 (IntKind.u64.wrap (t400)) (wrap64 ((l0.length : Int) + 1))).bind fun t404 => (if 0 ≤ (wrap64 ((wrap64 ((l0.length : Int) - (l1.length : Int))) + 1)) then (if (wrap64 ((wrap64 ((l0.length : Int) - (l1.length : Int))) + 1) : Int).toNat ≤ 70368744177664 then ((some (List.replicate (wrap64 ((wrap64 ((l0.length : Int) - (l1.length : Int))) + 1) : Int).toNat 0 : List Int)).bind fun y407 => (natural_divide.l0 k (IntKind.u64.wrap (t400)) (l1.length : Int) t401 t404 y407 (wrap64 ((y407.length : Int) - 1)))) else (none)) else (none))))) else (none)) else (none))))
theorem natural_divide.mono_l : ∀ k, (∀ y0 y1 y2 y3 y4 y5, LeO (natural_divide.l0 k y0 y1 y2 y3 y4 y5) (natural_divide.l0 (k + 1) y0 y1 y2 y3 y4 y5))
 | 0 => fun _ _ _ _ _ _ r h => by simp [natural_divide.l0] at h
 | k + 1 => by
  have ih0 := natural_divide.mono_l k
  ·intro y0 y1 y2 y3 y4 y5
   unfold natural_divide.l0
   have m0 := @ih0; have m1 := @natural_compare.mono; have m2 := @natural_divideSmall.mono; have m3 := @natural_limbs_trim.mono; have m4 := @natural_shift.mono; have m5 := @natural_step.mono; have m6 := @natural_unshift.mono; exact xM
theorem natural_divide.mono : ∀ a0 a1 k, LeO (natural_divide.f k a0 a1) (natural_divide.f (k + 1) a0 a1) := by
 intro a0 a1 k
 have ih0 := natural_divide.mono_l k
 unfold natural_divide.f
 have m0 := @ih0; have m1 := @natural_compare.mono; have m2 := @natural_divideSmall.mono; have m3 := @natural_limbs_trim.mono; have m4 := @natural_shift.mono; have m5 := @natural_step.mono; have m6 := @natural_unshift.mono; exact xM
def natural_divide.T15 : Bool × List (List Nat × List Nat) := (true, [([], []), ([0], [0]), ([], []), ([], []), ([2, 3], [2, 3]), ([], []), ([4, 5, 1], [4, 5]), ([1, 6, 0, 1], [1]), ([6, 7, 0, 1, 2, 3, 4, 5, 6, 7], [6])])
def natural_divide.B15 : List Nat := [0, 1, 0, 0, 12, 0, 63, 127, 255]
theorem natural_divide.tab15 : rtab .any (opsOf Tryd.f99 15) = natural_divide.T15 := by kernel_rfl
theorem natural_divide.bits15 : waitsOk natural_divide.T15.2 natural_divide.B15 = true := by kernel_rfl
set_option maxHeartbeats 8000000 in
set_option maxRecDepth 100000 in
theorem natural_divide.calls (k : Nat) (P0_ : Nat → Prop) (A0 : Option Addr) (c0 : Nat) (l0 : List Int) (A1 : Option Addr) (c1 : Nat) (l1 : List Int) (r1 : List Int) (r2 : List Int) (w : World) (hs0 : Kd.V (Kd.int .u32) 85 w w.heap.size (fun k_ => P0_ k_) (.slice A0 l0.length c0) l0) (hr1 : Kd.C (Kd.int .u32) w A1 l1.length l1) (hc1 : l1.length ≤ c1) (h : natural_divide.f k l0 l1 = some (r1, r2)) :
  Calls Tryd.prog 99 #[.slice A0 l0.length c0, .slice A1 l1.length c1] w fun e w' => ∃ v0_ v1_ : Value, e = .returned (.tuple #[v0_, v1_]) ∧ Kd.V (Kd.int .u32) 85 w' w.heap.size (fun k_ => (P0_ k_ ∨ w.heap.size ≤ k_)) v0_ r1 ∧ Kd.V (Kd.int .u32) 85 w' w.heap.size (fun k_ => (P0_ k_ ∨ w.heap.size ≤ k_)) v1_ r2 ∧ Below w.heap.size w w' := by
 have HO0 := Aside0.mk (show Kd.V (Kd.int .u32) 85 w w.heap.size (fun k_ => (P0_ k_ ∨ w.heap.size ≤ k_)) (.slice A0 l0.length c0) l0 from Kd.V_mono hs0 (fun k_ hk => .inl hk))
 have HR1 := Aside0.mk hr1
 have HC1 := Aside0.mk hc1
 clear hr1 hc1
 have HB := Aside0.mk (Below.refl w.heap.size w)
 have H : ((natural_compare.f k l0 l1).bind fun t387 => (if t387 < 0 then (some (([] : List Int), l0)) else (if (l1.length : Int) = 1 then (if 0 < (l1.length : Int) then ((natural_divideSmall.f k l0 (rd l1 0)).bind fun bt389 => ((natural_limbs_trim.f k (([bt389.2] : List Int))).bind fun t396 => (some (bt389.1, t396)))) else (none)) else (if 0 ≤ (wrap64 ((l1.length : Int) - 1)) then (if (wrap64 ((l1.length : Int) - 1)) < (l1.length : Int) then ((bits_LeadingZeros32.f (rd l1 (wrap64 ((l1.length : Int) - 1)))).bind fun t400 => ((natural_shift.f k l1 (IntKind.u64.wrap (t400)) (l1.length : Int)).bind fun t401 => ((natural_shift.f k l0 (IntKind.u64.wrap (t400)) (wrap64 ((l0.length : Int) + 1))).bind fun t404 => (if 0 ≤ (wrap64 ((wrap64 ((l0.length : Int) - (l1.length : Int))) + 1)) then (if (wrap64 ((wrap64 ((l0.length : Int) - (l1.length : Int))) + 1) : Int).toNat ≤ 70368744177664 then ((some (List.replicate (wrap64 ((wrap64 ((l0.length : Int) - (l1.length : Int))) + 1) : Int).toNat 0 : List Int)).bind fun y407 => (natural_divide.l0 k (IntKind.u64.wrap (t400)) (l1.length : Int) t401 t404 y407 (wrap64 ((y407.length : Int) - 1)))) else (none)) else (none))))) else (none)) else (none))))) = some (r1, r2) := h
 clear h
 replace H := xH H; obtain ⟨t387, A3, H⟩ := H
 by_cases c4 : t387 < 0
 ·rw [if_pos c4] at H
  have c4b0 : decide (t387 < 0) = true := decide_eq_true c4
  clear c4
  simp only [Option.some.injEq, Prod.mk.injEq] at H
  obtain ⟨rfl, rfl⟩ := H
  go_enter Tryd.func99, Tryd.ntmps99
  go_wp2_with (first | (refine xg Tryd.func94 (some 16) #[.slice A0 l0.length c0, .slice A1 l1.length c1] ?_; (with_reducible refine (natural_compare.calls k _ _ l0 _ _ l1 t387 _ (xf (Kd.V_reads' HO0.out).2.2) (Kd.V_reads' HO0.out).2.1 (xf HR1.out) HC1.out A3.out).mono ?_); rintro e w' ⟨rfl, ⟨nd, rfl⟩⟩; refine ⟨_, rfl, ?_⟩))
  go_ret2
  exact ⟨_, _, xy, Kd.V_nil _ _ _ _ _, by (with_reducible repeat (first | apply Kd.V_alloc | apply Kd.V_drewN | apply Kd.V_drew)); exact HO0.out, xs HB⟩
 ·rw [if_neg c4] at H
  have c4b0 : decide (t387 < 0) = false := decide_eq_false c4
  clear c4
  by_cases c5 : (l1.length : Int) = 1
  ·rw [if_pos c5] at H
   have c5b0 : ((l1.length : Int) == 1) = true := beq_iff_eq.mpr c5
   have c5b1 : ((l1.length : Int) != 1) = false := bne_eq_false_iff_eq.mpr c5
   clear c5
   by_cases c6 : 0 < (l1.length : Int)
   rotate_left
   ·rw [if_neg c6] at H
    exact absurd H (by simp)
   rw [if_pos c6] at H
   have c6b0 : decide (0 < (l1.length : Int)) = true := decide_eq_true c6
   have c6b1 : decide (0 < l1.length) = true := decide_eq_true (by omega)
   clear c6
   replace H := xH H; obtain ⟨⟨t389, t392⟩, A7, H⟩ := H
   dsimp only at H
   obtain ⟨y393, hy393⟩ : ∃ y_ : List Int, y_ = (([t392] : List Int)) := ⟨_, rfl⟩
   replace H : ((natural_limbs_trim.f k y393).bind fun t396 => (some (t389, t396))) = some (r1, r2) := by first | (rw [hy393]; with_reducible exact H) | (have H2_ := (Option.bind_some _ _).symm.trans H; rw [hy393]; with_reducible exact H2_) | (have H2_ := (Option.bind_some _ _).symm.trans H; with_reducible exact H2_) | with_reducible exact H | (rw [hy393]; exact H) | exact H
   have Ny393 := Aside0.mk hy393
   clear hy393
   replace H := xH H; obtain ⟨t396, A8, H⟩ := H
   simp only [Option.some.injEq, Prod.mk.injEq] at H
   obtain ⟨rfl, rfl⟩ := H
   go_enter Tryd.func99, Tryd.ntmps99
   go_wp2_with (first | (refine xg Tryd.func94 (some 16) #[.slice A0 l0.length c0, .slice A1 l1.length c1] ?_; (with_reducible refine (natural_compare.calls k _ _ l0 _ _ l1 t387 _ (xf (Kd.V_reads' HO0.out).2.2) (Kd.V_reads' HO0.out).2.1 (xf HR1.out) HC1.out A3.out).mono ?_); rintro e w' ⟨rfl, ⟨nd, rfl⟩⟩; refine ⟨_, rfl, ?_⟩; have p388 : 0 ≤ (0 : Int) := (by omega); have q388 : 0 < (l1.length : Int) := xa; obtain ⟨ad388, e388, hx388_0⟩ := Kd.at_int HR1.out 0 p388 q388; cases e388; have qi388 : (0 < l1.length) = True := eq_true (by omega); (try rw [show ((0 : Int)).toNat = 0 from rfl] at hx388_0); (try rw [Addr.add_zero'] at hx388_0); replace p388 := eq_true p388; replace q388 := eq_true q388) | (refine xg Tryd.func109 (some 27) #[.slice A0 l0.length c0, .int .u32 (rd l1 0)] ?_; (with_reducible refine (natural_divideSmall.calls k _ _ l0 (rd l1 0) t389 t392 _ (xf (Kd.V_reads' HO0.out).2.2) (Kd.V_reads' HO0.out).2.1 A7.out).mono ?_); rintro e w9 ⟨v390, rfl, ho0, hb⟩; refine ⟨_, rfl, ?_⟩; replace HO0 := Aside0.mk (Kd.V_below (xv HO0.out) hb); have HO391 := Aside0.mk (Kd.V_lower (Kd.V_mono (ok' := fun k_ => (P0_ k_ ∨ w.heap.size ≤ k_)) ho0 (fun k_ hk_ => (.inr (Nat.le_trans (below_size (xs HB)) hk_)))) (below_size (xs HB))); replace HB := xS HB hb; clear hb ho0) | ((with_reducible refine gate_dst (N := 32) rfl ?_); refine Kd.R_lit (Kd.int .u32) _ 85 ?hg (N := 32) ?hd (xs := ([t392] : List Int)) (inner := [.int .u32 t392]) (ok := fun _ => True) (okp := fun _ => True) ?hr ?hp (fun _ hk => hk) trivial (Below.refl _ _) (Nat.le_refl _) (by simp) ?_; (case hd => rfl); (case hg => rfl); (case hr => first | (go_simp; done) | (go_simp; rfl)); (case hp => exact (Reps.one (show Kd.M (Kd.int .u32) _ _ _ t392 [.int .u32 t392] from rfl) (Reps.none _ _))); intro v394 w10 ho11 hb hg_ hnew_; clear hg_ hnew_; (first | rw [← Ny393.out] at ho11 | (simp only [Int.reduceToNat] at ho11; rw [← Ny393.out] at ho11)); replace HO0 := Aside0.mk (Kd.V_elder' (xv HO0.out) (Kd.R_base ho11) hb); replace HO391 := Aside0.mk (Kd.V_elder' (xv HO391.out) (Kd.R_base ho11) hb); have HO395 := Aside0.mk (Kd.R_lower (Kd.R_newM (M := fun k_ => (w.heap.size ≤ k_)) ho11 (below_size (xs HB)) (fun k_ h_ => h_)) (below_size (xs HB))); replace HB := xS HB hb; clear hb ho11; obtain ⟨Ao12, co12, eo12⟩ := Kd.R_slice HO395.out; subst eo12) | (refine xg Tryd.func98 (some 33) #[.slice Ao12 y393.length co12] ?_; (with_reducible refine (natural_limbs_trim.calls k (fun k_ => some k_ = (.slice Ao12 y393.length co12 : Value).ownBlock) _ _ y393 t396 _ ?side1 A8.out).mono ?_); (case side1 => exact Kd.R_V (Kd.R_tight rfl (HO395.out))); rintro e w13 ⟨v397, rfl, ho0, hb⟩; refine ⟨_, rfl, ?_⟩; replace HO0 := Aside0.mk (Kd.V_below (xv HO0.out) hb); replace HO391 := Aside0.mk (Kd.V_below (xv HO391.out) hb); have HO398 := Aside0.mk (Kd.V_lower (Kd.V_mono (ok' := fun k_ => (P0_ k_ ∨ w.heap.size ≤ k_)) ho0 (fun k_ hk_ => Or.elim hk_ (fun hs_ => (.inr (((HO395.out).1 k_ hs_.symm).1))) (fun hn_ => (.inr (Nat.le_trans (below_size (xs HB)) hn_))))) (below_size (xs HB))); replace HO395 := Aside0.mk (Kd.R_below (xr HO395.out) hb); replace HB := xS HB hb; clear hb ho0))
   go_ret2
   exact ⟨_, _, xy, by (with_reducible repeat (first | apply Kd.V_alloc | apply Kd.V_drewN | apply Kd.V_drew)); exact Kd.V_mono HO391.out (fun _ hk => hk.1), by (with_reducible repeat (first | apply Kd.V_alloc | apply Kd.V_drewN | apply Kd.V_drew)); exact HO398.out, xs HB⟩
  ·rw [if_neg c5] at H
   have c5b0 : ((l1.length : Int) == 1) = false := beq_eq_false_iff_ne.mpr c5
   have c5b1 : ((l1.length : Int) != 1) = true := bne_iff_ne.mpr c5
   obtain ⟨ji14, hji14⟩ : ∃ j_ : Int, (wrap64 ((l1.length : Int) - 1)) = j_ := ⟨_, rfl⟩
   replace H : (if 0 ≤ (ji14) then (if (ji14) < (l1.length : Int) then ((bits_LeadingZeros32.f (rd l1 (ji14))).bind fun t400 => ((natural_shift.f k l1 (IntKind.u64.wrap (t400)) (l1.length : Int)).bind fun t401 => ((natural_shift.f k l0 (IntKind.u64.wrap (t400)) (wrap64 ((l0.length : Int) + 1))).bind fun t404 => (if 0 ≤ (wrap64 ((wrap64 ((l0.length : Int) - (l1.length : Int))) + 1)) then (if (wrap64 ((wrap64 ((l0.length : Int) - (l1.length : Int))) + 1) : Int).toNat ≤ 70368744177664 then ((some (List.replicate (wrap64 ((wrap64 ((l0.length : Int) - (l1.length : Int))) + 1) : Int).toNat 0 : List Int)).bind fun y407 => (natural_divide.l0 k (IntKind.u64.wrap (t400)) (l1.length : Int) t401 t404 y407 (wrap64 ((y407.length : Int) - 1)))) else (none)) else (none))))) else (none)) else (none)) = some (r1, r2) := by first | (rw [hji14] at H; exact H) | (simp only [hji14] at H ⊢; exact H)
   (try rw [hji14] at A3)
   have hji14w : (IntKind.i64.wrap ((l1.length : Int) - 1)) = ji14 := (i64_w _).trans hji14
   by_cases c15 : 0 ≤ (ji14)
   rotate_left
   ·rw [if_neg c15] at H
    exact absurd H (by simp)
   rw [if_pos c15] at H
   have c15b0 : decide (0 ≤ (ji14)) = true := decide_eq_true c15
   clear c15
   by_cases c16 : (ji14) < (l1.length : Int)
   rotate_left
   ·rw [if_neg c16] at H
    exact absurd H (by simp)
   rw [if_pos c16] at H
   have c16b0 : decide ((ji14) < (l1.length : Int)) = true := decide_eq_true c16
   clear c16
   replace H := xH H; obtain ⟨t400, A17, H⟩ := H
   replace H := xH H; obtain ⟨t401, A18, H⟩ := H
   replace H := xH H; obtain ⟨t404, A19, H⟩ := H
   obtain ⟨ji20, hji20⟩ : ∃ j_ : Int, (wrap64 ((wrap64 ((l0.length : Int) - (l1.length : Int))) + 1)) = j_ := ⟨_, rfl⟩
   replace H : (if 0 ≤ (ji20) then (if (ji20 : Int).toNat ≤ 70368744177664 then ((some (List.replicate (ji20 : Int).toNat 0 : List Int)).bind fun y407 => (natural_divide.l0 k (IntKind.u64.wrap (t400)) (l1.length : Int) t401 t404 y407 (wrap64 ((y407.length : Int) - 1)))) else (none)) else (none)) = some (r1, r2) := by first | (rw [hji20] at H; exact H) | (simp only [hji20] at H ⊢; exact H)
   (try rw [hji20] at A3)
   (try rw [hji20] at A17)
   (try rw [hji20] at A18)
   (try rw [hji20] at A19)
   have hji20w : (IntKind.i64.wrap ((wrap64 ((l0.length : Int) - (l1.length : Int))) + 1)) = ji20 := (i64_w _).trans hji20
   by_cases c21 : 0 ≤ (ji20)
   rotate_left
   ·rw [if_neg c21] at H
    exact absurd H (by simp)
   rw [if_pos c21] at H
   have c21b0 := eq_true c21
   have c21b1 : decide (0 ≤ (ji20)) = true := decide_eq_true c21
   clear c21
   by_cases c22 : (ji20 : Int).toNat ≤ 70368744177664
   rotate_left
   ·rw [if_neg c22] at H
    exact absurd H (by simp)
   rw [if_pos c22] at H
   have c22b0 := eq_true c22
   have c22b1 : decide ((ji20 : Int).toNat ≤ 70368744177664) = true := decide_eq_true c22
   clear c22
   obtain ⟨y407, hy407⟩ : ∃ y_ : List Int, y_ = (List.replicate (ji20 : Int).toNat 0) := ⟨_, rfl⟩
   replace H : (natural_divide.l0 k (IntKind.u64.wrap (t400)) (l1.length : Int) t401 t404 y407 (wrap64 ((y407.length : Int) - 1))) = some (r1, r2) := by first | (rw [hy407]; with_reducible exact H) | (have H2_ := (Option.bind_some _ _).symm.trans H; rw [hy407]; with_reducible exact H2_) | (have H2_ := (Option.bind_some _ _).symm.trans H; with_reducible exact H2_) | with_reducible exact H | (rw [hy407]; exact H) | exact H
   have Ny407 := Aside0.mk hy407
   clear hy407
   have H' := Aside0.mk H
   clear H
   go_enter Tryd.func99, Tryd.ntmps99
   go_wp2_with (first | (refine xg Tryd.func94 (some 16) #[.slice A0 l0.length c0, .slice A1 l1.length c1] ?_; (with_reducible refine (natural_compare.calls k _ _ l0 _ _ l1 t387 _ (xf (Kd.V_reads' HO0.out).2.2) (Kd.V_reads' HO0.out).2.1 (xf HR1.out) HC1.out A3.out).mono ?_); rintro e w' ⟨rfl, ⟨nd, rfl⟩⟩; refine ⟨_, rfl, ?_⟩; have p399 : 0 ≤ ((ji14) : Int) := xa; have q399 : (ji14) < (l1.length : Int) := xa; obtain ⟨ad399, e399, hx399_0⟩ := Kd.at_int HR1.out (ji14) p399 q399; cases e399; replace p399 := eq_true p399; replace q399 := eq_true q399) | (refine xg Tryd.func110 (some 40) #[.int .u32 (rd l1 (ji14))] ?_ (hargs := (by (try simp only [List.map_toArray, List.map_cons, List.map_nil]); first | done | (simp only [hji14]; rfl) | rfl | (simp only [List.length_drop, List.length_take]; rfl))); (with_reducible refine (bits_LeadingZeros32.calls (rd l1 (ji14)) t400 _ A17.out).mono ?_); rintro e w' ⟨rfl, ⟨nd, rfl⟩⟩; refine ⟨_, rfl, ?_⟩) | (refine xg Tryd.func111 (some 47) #[.slice (some ad399) l1.length c1, .int .u64 (IntKind.u64.wrap (t400)), .int .i64 (l1.length : Int)] ?_; (with_reducible refine (natural_shift.calls k _ _ l1 (IntKind.u64.wrap (t400)) (l1.length : Int) t401 _ (xf HR1.out) HC1.out A18.out).mono ?_); rintro e w23 ⟨v402, rfl, ho0, hb⟩; refine ⟨_, rfl, ?_⟩; replace HO0 := Aside0.mk (Kd.V_elder' (xv HO0.out) (Kd.R_base ho0) hb); have HO403 := Aside0.mk (Kd.R_lower (Kd.R_newM (M := fun k_ => (w.heap.size ≤ k_)) ho0 (below_size (xs HB)) (fun k_ h_ => h_)) (below_size (xs HB))); replace HB := xS HB hb; clear hb ho0) | (refine xg Tryd.func111 (some 53) #[.slice A0 l0.length c0, .int .u64 (IntKind.u64.wrap (t400)), .int .i64 (wrap64 ((l0.length : Int) + 1))] ?_; (with_reducible refine (natural_shift.calls k _ _ l0 (IntKind.u64.wrap (t400)) (wrap64 ((l0.length : Int) + 1)) t404 _ (xf (Kd.V_reads' HO0.out).2.2) (Kd.V_reads' HO0.out).2.1 A19.out).mono ?_); rintro e w24 ⟨v405, rfl, ho0, hb⟩; refine ⟨_, rfl, ?_⟩; replace HO0 := Aside0.mk (Kd.V_elder' (xv HO0.out) (Kd.R_base ho0) hb); have HO406 := Aside0.mk (Kd.R_lower (Kd.R_new' (Kd.R_newM (M := fun k_ => (w.heap.size ≤ k_)) ho0 (below_size (xs HB)) (fun k_ h_ => h_)) (Kd.R_lt (xr HO403.out))) (below_size (xs HB))); replace HO403 := Aside0.mk (Kd.R_elder' (xr HO403.out) (Kd.R_base ho0) hb); replace HB := xS HB hb; clear hb ho0) | ((with_reducible refine gate_dst (N := 59) rfl ?_); refine Kd.R_make (Kd.int .u32) _ 85 rfl (N := 59) rfl 83 _ _ rfl ji20 rfl rfl Tryd.underlying83 (.int .u32 0) 4 info85 rfl (by decide) (by omega) 0 (ok := fun _ => True) (okp := fun _ => True) rfl (fun _ hk => hk) trivial (xa) (Nat.le_trans (Nat.mul_le_mul_right _ (xa : ji20.toNat ≤ 70368744177664)) (by omega)) (Below.refl _ _) (Nat.le_refl _) ?_; intro v408 w25 ho26 hb hg_ hnew_; clear hg_ hnew_; (first | rw [← Ny407.out] at ho26 | (simp only [Int.reduceToNat] at ho26; rw [← Ny407.out] at ho26)); replace HO0 := Aside0.mk (Kd.V_elder' (xv HO0.out) (Kd.R_base ho26) hb); have HO409 := Aside0.mk (Kd.R_lower (Kd.R_new' (Kd.R_new' (Kd.R_newM (M := fun k_ => (w.heap.size ≤ k_)) ho26 (below_size (xs HB)) (fun k_ h_ => h_)) (Kd.R_lt (xr HO403.out))) (Kd.R_lt (xr HO406.out))) (below_size (xs HB))); replace HO403 := Aside0.mk (Kd.R_elder' (xr HO403.out) (Kd.R_base ho26) hb); replace HO406 := Aside0.mk (Kd.R_elder' (xr HO406.out) (Kd.R_base ho26) hb); replace HB := xS HB hb; clear hb ho26; obtain ⟨Ao27, co27, eo27⟩ := Kd.R_slice HO409.out; subst eo27))
   (try have eA19_ := Option.some.inj (A18.out.symm.trans A19.out))
   (try have eA19_ := Option.some.inj (A18.out.symm.trans A19.out))
   go_loopg [13] k (fun kq v13 w' => ∃ (x10_1 : List Int) (x11_1 : List Int) (x12_1 : List Int) (x13_1 : Int), v13 = .int .i64 x13_1 ∧ Aside0 (natural_divide.l0 kq (IntKind.u64.wrap (t400)) (l1.length : Int) x10_1 x11_1 x12_1 x13_1 = some (r1, r2)) ∧ Aside0 (kq ≤ k) ∧ Aside0 (Kd.R (Kd.int .u32) 85 w' w.heap.size (fun k_ => (w.heap.size ≤ k_) ∧ some k_ ≠ (v405 : Value).ownBlock ∧ some k_ ≠ ((.slice Ao27 y407.length co27) : Value).ownBlock) v402 x10_1) ∧ Aside0 (Kd.R (Kd.int .u32) 85 w' w.heap.size (fun k_ => (w.heap.size ≤ k_) ∧ some k_ ≠ (v402 : Value).ownBlock ∧ some k_ ≠ ((.slice Ao27 y407.length co27) : Value).ownBlock) v405 x11_1) ∧ Aside0 (Kd.R (Kd.int .u32) 85 w' w.heap.size (fun k_ => (w.heap.size ≤ k_) ∧ some k_ ≠ (v402 : Value).ownBlock ∧ some k_ ≠ (v405 : Value).ownBlock) (.slice Ao27 y407.length co27) x12_1) ∧ Aside0 (Below w.heap.size w w'))
   case atStart => exact ⟨(t401), (t404), (y407), (wrap64 ((y407.length : Int) - 1)), xz, H', ⟨Nat.le_refl _⟩, ⟨by (with_reducible repeat (first | apply Kd.R_alloc | apply Kd.R_drewN | apply Kd.R_drew)); exact Kd.R_mono HO403.out (fun _ hk => by first | exact ⟨hk.1.1.1, ⟨hk.1.2, hk.2⟩⟩ | (simp only [ob_map] at hk ⊢; first | exact ⟨hk.1.1.1, ⟨hk.1.2, hk.2⟩⟩ | grind) | grind)⟩, ⟨by (with_reducible repeat (first | apply Kd.R_alloc | apply Kd.R_drewN | apply Kd.R_drew)); exact Kd.R_mono HO406.out (fun _ hk => by first | exact ⟨hk.1.1.1, ⟨hk.1.2, hk.2⟩⟩ | (simp only [ob_map] at hk ⊢; first | exact ⟨hk.1.1.1, ⟨hk.1.2, hk.2⟩⟩ | grind) | grind)⟩, ⟨by (with_reducible repeat (first | apply Kd.R_alloc | apply Kd.R_drewN | apply Kd.R_drew)); exact Kd.R_mono HO409.out (fun _ hk => by first | exact ⟨hk.1.1.1, ⟨hk.1.2, hk.2⟩⟩ | (simp only [ob_map] at hk ⊢; first | exact ⟨hk.1.1.1, ⟨hk.1.2, hk.2⟩⟩ | grind) | grind)⟩, ⟨xs HB⟩⟩
   case round =>
    clear H'
    try clear c1
    try clear c2
    try clear p2
    try clear p3
    try clear q3
    try clear hx3
    try clear qi3
    try clear c4
    try clear c4b0
    try clear c5
    try clear c5b0
    try clear c5b1
    try clear c6
    try clear c6b0
    try clear c6b1
    try clear p6
    try clear c9
    try clear c10
    try clear c11
    try clear c15
    try clear c15b0
    try clear c16
    try clear c16b0
    try clear c21
    try clear c21b0
    try clear c21b1
    try clear c22
    try clear c22b0
    try clear c22b1
    try clear hx388_0
    try clear hx399_0
    try clear p388
    try clear p399
    try clear q388
    try clear q399
    obtain ⟨x10_1, x11_1, x12_1, x13_1, rfl, HA, HK1, HO_10, HO_11, HO_12, HB⟩ := hrel
    have hl12_1 := (Kd.R_reads' HO_12.out).1
    rw [hl12_1] at HO_12
    (try simp only [hl12_1])
    (try simp only [hl12_1] at HO_10)
    (try simp only [hl12_1] at HO_11)
    cases gk with
    | zero => exact absurd HA.out (by simp [natural_divide.l0])
    | succ k1 =>
     have H := HA.out
     clear HA
     simp only [natural_divide.l0] at H
     by_cases c28 : x13_1 ≥ 0
     ·rw [if_pos c28] at H
      have c28b0 : decide (0 ≤ x13_1) = true := decide_eq_true c28
      clear c28
      by_cases c29 : 0 ≤ x13_1
      rotate_left
      ·rw [if_neg c29] at H
       exact absurd H (by simp)
      rw [if_pos c29] at H
      have c29b0 := eq_true c29
      have c29b1 : decide (0 ≤ x13_1) = true := decide_eq_true c29
      clear c29
      by_cases c30 : x13_1 ≤ (wrap64 ((wrap64 (x13_1 + (l1.length : Int))) + 1))
      rotate_left
      ·rw [if_neg c30] at H
       exact absurd H (by simp)
      rw [if_pos c30] at H
      have c30b0 := eq_true c30
      have c30b1 : decide (x13_1 ≤ (wrap64 ((wrap64 (x13_1 + (l1.length : Int))) + 1))) = true := decide_eq_true c30
      (try simp only [hl12_1] at c30b1)
      (try simp only [hl12_1] at c30b1)
      by_cases c31 : (wrap64 ((wrap64 (x13_1 + (l1.length : Int))) + 1)) ≤ (x11_1.length : Int)
      rotate_left
      ·rw [if_neg c31] at H
       exact absurd H (by simp)
      rw [if_pos c31] at H
      have c31b0 := eq_true c31
      have c31b1 : decide ((wrap64 ((wrap64 (x13_1 + (l1.length : Int))) + 1)) ≤ (x11_1.length : Int)) = true := decide_eq_true c31
      (try simp only [hl12_1] at c31b1)
      (try simp only [hl12_1] at c31b1)
      replace H := xH H; obtain ⟨⟨t410, t411⟩, A32, H⟩ := H
      dsimp only at H
      by_cases c33 : x13_1 < (x12_1.length : Int)
      rotate_left
      ·rw [if_neg c33] at H
       exact absurd H (by simp)
      rw [if_pos c33] at H
      have c33b0 : decide (x13_1 < (x12_1.length : Int)) = true := decide_eq_true c33
      (try simp only [hl12_1] at c33b0)
      (try simp only [hl12_1] at c33b0)
      clear c33
      obtain ⟨y412, hy412⟩ : ∃ y_ : List Int, y_ = (x12_1.set (x13_1 : Int).toNat t410) := ⟨_, rfl⟩
      replace H : (natural_divide.l0 k1 (IntKind.u64.wrap (t400)) (l1.length : Int) x10_1 t411 y412 (wrap64 (x13_1 - 1))) = some (r1, r2) := by first | (rw [hy412]; with_reducible exact H) | (have H2_ := (Option.bind_some _ _).symm.trans H; rw [hy412]; with_reducible exact H2_) | (have H2_ := (Option.bind_some _ _).symm.trans H; with_reducible exact H2_) | with_reducible exact H | (rw [hy412]; exact H) | exact H
      have Ny412 := Aside0.mk hy412
      clear hy412
      have H' := Aside0.mk H
      clear H
      obtain ⟨Ao35, co35, eo35⟩ := Kd.R_slice HO_11.out
      subst eo35
      obtain ⟨Ao36, co36, eo36⟩ := Kd.R_slice HO_10.out
      subst eo36
      obtain ⟨i85_, hi85_, hz85_⟩ := Option.map_eq_some_iff.1 info85
      have hs85_ : i85_.size = 1 := by injection hz85_ with _ z; injection z with z _
      obtain ⟨A9_, hA9_, hcm_⟩ : ∃ A9_ : Option Addr, Aside0 (A9_ = (if co35 = (x13_1 : Int).toNat then Ao35 else Ao35.map (·.add ((x13_1 : Int).toNat * 1)))) ∧ ∀ W : World, (Instr.slice 83 (.slice Ao35 x11_1.length co35) (some (.int .i64 x13_1)) (some (.int .i64 (wrap64 ((wrap64 (x13_1 + (l1.length : Int))) + 1)))) none).run Tryd.prog W = .ok (.slice A9_ (((wrap64 ((wrap64 (x13_1 + (l1.length : Int))) + 1)) : Int).toNat - (x13_1 : Int).toNat) (co35 - (x13_1 : Int).toNat)) W := ⟨_, ⟨rfl⟩, fun W => cut_mid 83 85 .i64 .i64 Tryd.underlying83 hi85_ 1 hs85_ _ _ _ _ _ (of_eq_true c29b0) (of_eq_true c30b0) (of_eq_true c31b0) (Kd.R_reads' (by assumption : Aside0 (Kd.R (Kd.int .u32) 85 _ _ _ (.slice Ao35 x11_1.length co35) _)).out).2.1 W⟩
      clear hi85_ hz85_ hs85_
      go_wp2_with (first | (refine xg Tryd.func112 (some 77) #[.slice A9_ (((wrap64 ((wrap64 (x13_1 + (l1.length : Int))) + 1)) : Int).toNat - (x13_1 : Int).toNat) (co35 - (x13_1 : Int).toNat), .slice Ao36 x10_1.length co36] ?_; (with_reducible refine (natural_step.calls k1 (fun k_ => some k_ = (.slice Ao35 x11_1.length co35 : Value).ownBlock) (.slice Ao35 x11_1.length co35) x11_1 _ _ x10_1 t410 t411 w _ ?side1 ?side2 ?side3 ?side4 A32.out (fun _ _ _ e_ => by injection e_ with q1 q2 q3; subst q1; subst q2; subst q3; exact ⟨hA9_.out, rfl, rfl⟩)).mono ?_); (case side1 => repeat (first | (with_reducible first | exact HB.out | apply below_alloc | apply pw_below_drewN | apply below_drew1) | exact HB.out)); (case side2 => exact Kd.R_tight rfl HO_11.out); (case side3 => exact Kd.C_kept_own (HO_10.out) (fun k_ hk_ hs_ => (hk_.2.1) hs_)); (case side4 => exact (Kd.R_reads' HO_10.out).2.1); rintro e w37 ⟨rfl, hy0, hb, hkp⟩; refine ⟨_, rfl, ?_⟩; replace HO_10 := Aside0.mk (Kd.R_mono (ok' := fun k_ => (w.heap.size ≤ k_) ∧ some k_ ≠ (.slice Ao35 x11_1.length co35 : Value).ownBlock ∧ some k_ ≠ (.slice Ao27 x12_1.length co27 : Value).ownBlock) (Kd.R_keptB (HO_10.out) hkp (fun k_ hk_ hs_ => (hk_.2.1) hs_)) (fun k_ hk_ => ⟨hk_.1.1, hk_.1.2.1, hk_.1.2.2⟩)); replace HO_11 := Aside0.mk (Kd.R_reok rfl hy0 (fun k_ e_ => HO_11.out.1 k_ e_)); replace HO_12 := Aside0.mk (Kd.R_mono (ok' := fun k_ => (w.heap.size ≤ k_) ∧ some k_ ≠ (.slice Ao36 x10_1.length co36 : Value).ownBlock ∧ some k_ ≠ (.slice Ao35 x11_1.length co35 : Value).ownBlock) (Kd.R_keptB (HO_12.out) hkp (fun k_ hk_ hs_ => (hk_.2.2) hs_)) (fun k_ hk_ => ⟨hk_.1.1, hk_.1.2.1, hk_.1.2.2⟩)); replace HB := Aside0.mk (hb); clear hb hkp hy0; have p34 : 0 ≤ (x13_1 : Int) := xa; have q34 : (x13_1 : Int) < ((x12_1.length : Int) : Int) := xa; obtain ⟨go34, co34, eo34, gb34, gl34, cl34, HG34⟩ := Kd.R_form HO_12.out (by omega); (first | cases eo34 | (injection eo34 with ea_ en_ ec_; (first | subst ea_ | (injection ea_ with ea_; subst ea_)); subst ec_; clear en_)); have GB34 := Aside0.mk gb34; have GG34 := Aside0.mk HG34; clear gb34 gl34 HG34; obtain ⟨hx34_0, hf34_0⟩ := Kd.R_celln 0 HO_12.out (x13_1 : Int) p34 q34; replace p34 := eq_true p34; replace q34 := eq_true q34; obtain ⟨hy38_, hz38_⟩ := Kd.R_celln 0 HO_12.out (x13_1 : Int) (xa) (xa); have HP38 := Kd.R_putg HO_12.out (x13_1 : Int) t410) | ((with_reducible refine gate_store (t := 85) (p := 78) rfl ?_); refine store_event (t := 85) (p := 78) (v := ?vo_w39) (w1 := (w37.setCell ⟨go34, (x13_1 : Int).toNat, none⟩ (.int .u32 t410))) ?hg ?ho ?hn ?hr ?_; (case ho => rfl); (case hg => rfl); (case hn => rfl); (case hr => first | (go_simp; done) | (go_simp; rfl)); intro w39 hw; have hg : w37.grownBy w39 (some go34) := (by rw [hw]; exact HP38.2); have hp_ : Kd.R (Kd.int .u32) 85 w39 w.heap.size (fun k_ => (w.heap.size ≤ k_) ∧ some k_ ≠ (.slice Ao36 x10_1.length co36 : Value).ownBlock ∧ some k_ ≠ (.slice Ao35 x11_1.length co35 : Value).ownBlock) (.slice (some ⟨go34, 0, none⟩) x12_1.length co27) y412 := (by rw [hw, Ny412.out]; exact HP38.1); clear HP38; replace HO_10 := Aside0.mk (Kd.R_after (v := (.slice (some ⟨go34, 0, none⟩) x12_1.length co27)) (v1 := (.slice (some ⟨go34, 0, none⟩) x12_1.length co27)) (ok := (fun k_ => (w.heap.size ≤ k_) ∧ some k_ ≠ (.slice Ao35 x11_1.length co35 : Value).ownBlock)) (by (with_reducible repeat (first | apply Kd.R_alloc | apply Kd.R_drewN | apply Kd.R_drew)); exact Kd.R_mono HO_10.out (fun _ hk => by first | exact ⟨⟨hk.1, hk.2.1⟩, hk.2.2⟩ | (simp only [ob_map] at hk ⊢; first | exact ⟨⟨hk.1, hk.2.1⟩, hk.2.2⟩ | grind) | grind)) hg (.inl rfl)); replace HO_11 := Aside0.mk (Kd.R_after (v := (.slice (some ⟨go34, 0, none⟩) x12_1.length co27)) (v1 := (.slice (some ⟨go34, 0, none⟩) x12_1.length co27)) (ok := (fun k_ => (w.heap.size ≤ k_) ∧ some k_ ≠ (.slice Ao36 x10_1.length co36 : Value).ownBlock)) (by (with_reducible repeat (first | apply Kd.R_alloc | apply Kd.R_drewN | apply Kd.R_drew)); exact Kd.R_mono HO_11.out (fun _ hk => by first | exact ⟨⟨hk.1, hk.2.1⟩, hk.2.2⟩ | (simp only [ob_map] at hk ⊢; first | exact ⟨⟨hk.1, hk.2.1⟩, hk.2.2⟩ | grind) | grind)) hg (.inl rfl)); replace HO_12 := Aside0.mk (hp_); replace HB := Aside0.mk ((by rw [hw]; exact below_set (HB.out) GB34.out : Below w.heap.size w w39)); clear hg hw hp_))
      (try simp only [← hl12_1])
      (first | go_roundg k1 | (refine Handed.intro k1 ?measure ?_; rotate_left; go_step; (repeat apply Exists.intro); refine ⟨?rel, (by first | rfl | (simp only [add_plain]; rfl))⟩))
      case measure => have := HK1.out; omega
      case rel => exact ⟨(x10_1), (t411), (y412), (wrap64 (x13_1 - 1)), xz, H', ⟨by have := HK1.out; omega⟩, ⟨by (try simp only [hl12_1]); (with_reducible repeat (first | apply Kd.R_alloc | apply Kd.R_drewN | apply Kd.R_drew)); exact Kd.R_mono HO_10.out (fun _ hk => by first | exact ⟨hk.1.1, ⟨hk.1.2, hk.2⟩⟩ | (simp only [ob_map] at hk ⊢; first | exact ⟨hk.1.1, ⟨hk.1.2, hk.2⟩⟩ | grind) | grind)⟩, ⟨by (try simp only [hl12_1]); (with_reducible repeat (first | apply Kd.R_alloc | apply Kd.R_drewN | apply Kd.R_drew)); exact Kd.R_mono HO_11.out (fun _ hk => by first | exact ⟨hk.1.1, ⟨hk.1.2, hk.2⟩⟩ | (simp only [ob_map] at hk ⊢; first | exact ⟨hk.1.1, ⟨hk.1.2, hk.2⟩⟩ | grind) | grind)⟩, ⟨by (try simp only [hl12_1]); (with_reducible repeat (first | apply Kd.R_alloc | apply Kd.R_drewN | apply Kd.R_drew)); exact HO_12.out⟩, ⟨xs HB⟩⟩
     ·rw [if_neg c28] at H
      have c28b0 : decide (0 ≤ x13_1) = false := decide_eq_false c28
      clear c28
      replace H := xH H; obtain ⟨t413, A40, H⟩ := H
      by_cases c41 : 0 ≤ (l1.length : Int)
      rotate_left
      ·rw [if_neg c41] at H
       exact absurd H (by simp)
      rw [if_pos c41] at H
      have c41b0 := eq_true c41
      have c41b1 : decide (0 ≤ (l1.length : Int)) = true := decide_eq_true c41
      (try simp only [hl12_1] at c41b1)
      (try simp only [hl12_1] at c41b1)
      clear c41
      by_cases c42 : (l1.length : Int) ≤ (x11_1.length : Int)
      rotate_left
      ·rw [if_neg c42] at H
       exact absurd H (by simp)
      rw [if_pos c42] at H
      have c42b0 := eq_true c42
      have c42b1 : decide ((l1.length : Int) ≤ (x11_1.length : Int)) = true := decide_eq_true c42
      (try simp only [hl12_1] at c42b1)
      (try simp only [hl12_1] at c42b1)
      clear c42
      obtain ⟨y416, hy416⟩ : ∃ y_ : List Int, y_ = (x11_1.take ((l1.length : Int) : Int).toNat) := ⟨_, rfl⟩
      replace H : ((natural_unshift.f k1 y416 (IntKind.u64.wrap (t400))).bind fun t420 => (some (t413, t420))) = some (r1, r2) := by first | (rw [hy416]; with_reducible exact H) | (have H2_ := (Option.bind_some _ _).symm.trans H; rw [hy416]; with_reducible exact H2_) | (have H2_ := (Option.bind_some _ _).symm.trans H; with_reducible exact H2_) | with_reducible exact H | (rw [hy416]; exact H) | exact H
      have Ny416 := Aside0.mk hy416
      clear hy416
      replace H := xH H; obtain ⟨t420, A43, H⟩ := H
      simp only [Option.some.injEq, Prod.mk.injEq] at H
      obtain ⟨rfl, rfl⟩ := H
      try go_wp2
      replace HO_10 := Aside0.mk (Kd.R_drew HO_10.out)
      replace HO_11 := Aside0.mk (Kd.R_drew HO_11.out)
      replace HO_12 := Aside0.mk (Kd.R_drew HO_12.out)
      replace HB := xW HB
      obtain ⟨Ao46, co46, eo46⟩ := Kd.R_slice HO_11.out
      (first | subst eo46 | (injection eo46 with f1_ f2_ f3_; have f4_ := f1_.symm; have f5_ := f3_.symm; clear f1_ f2_ f3_; subst f4_; subst f5_))
      have q45 : ((l1.length : Int) : Int) ≤ ((x11_1.length : Int) : Int) := xa
      obtain ⟨i045, hi045, _, hsz45, _⟩ := info_parts info85
      have hroom45 : x11_1.length ≤ co46 := (Kd.R_reads' HO_11.out).2.1
      have hC45 : Kd.C (Kd.int .u32) _ Ao46 x11_1.length x11_1 := (Kd.R_reads' HO_11.out).2.2
      have hcut45 := cut_to (P := Tryd.prog) 83 85 .i64 Tryd.underlying83 hi045 Ao46 x11_1.length co46 (l1.length : Int) (xa) q45 hroom45
      have hr45 := Kd.C_take (m := ((l1.length : Int) : Int).toNat) hC45 (by omega)
      have hy45 : y416.length = ((l1.length : Int) : Int).toNat := (by rw [Ny416.out, List.length_take]; omega)
      rw [← Ny416.out] at hr45
      rw [← hy45] at hcut45
      have HR419 := Aside0.mk hr45
      have HC419 := Aside0.mk (show y416.length ≤ co46 from by omega)
      clear hr45 hC45 hroom45 hi045 hsz45
      have KY45 := Aside0.mk hy45
      clear hy45
      have KL45 := Aside0.mk (show ((l1.length : Int) : Int).toNat ≤ x11_1.length from by omega)
      replace q45 := eq_true q45
      refine start_ (n := 9) (S := fun w' => True) (ds := []) #[false, false, false, false, false, false, false, false, false] (by kernel_rfl) rfl rfl trivial (fun hHeld => ?_); refine with_tabW natural_divide.tab15 natural_divide.bits15 (fun HT_ HW_ => ?_)
      generalize wr.drew = w44 at HO_10 HO_11 HO_12 HB HR419 hHeld ⊢
      refine xP 0 (some 79) (b 9 1) rfl rfl ?_
      refine xP 2 (some 81) (b 9 5) rfl rfl ?_
      refine xP 3 (some 82) (b 9 13) rfl rfl ?_
      refine xP 4 (some 83) (b 9 29) rfl rfl ?_
      refine xP 5 (some 84) (b 9 61) rfl rfl ?_
      refine xO 1 (some 80) (b 9 63) rfl rfl fun K hK => ?_
      refine goes_ Tryd.func98 (by kernel_rfl) rfl #[.slice Ao27 x12_1.length co27] (by rfl) rfl rfl (by (try simp only [List.map_toArray, List.map_cons, List.map_nil]); first | done | rfl | (simp only [List.length_drop, List.length_take]; rfl)) ?_
      with_reducible refine (natural_limbs_trim.calls k1 (fun k_ => some k_ = (.slice Ao27 x12_1.length co27 : Value).ownBlock) _ _ x12_1 t413 _ ?side1 A40.out).mono ?_
      (case side1 => exact Kd.R_V (Kd.R_tight rfl (HO_12.out)))
      rintro e w47 ⟨v414, rfl, ho0, hb⟩
      refine ⟨_, rfl, ?_⟩
      have HO415 := Aside0.mk (Kd.V_lower (Kd.V_mono (ok' := fun k_ => (P0_ k_ ∨ w.heap.size ≤ k_) ∧ some k_ ≠ (v402 : Value).ownBlock ∧ some k_ ≠ (.slice Ao46 x11_1.length co46 : Value).ownBlock) ho0 (fun k_ hk_ => ⟨Or.elim hk_ (fun hs_ => (.inr (((HO_12.out).1 k_ hs_.symm).1))) (fun hn_ => (.inr (Nat.le_trans (below_size (xs HB)) hn_))), Or.elim hk_ (fun hs_ => ((HO_12.out).1 k_ hs_.symm).2.1) (fun hn_ => (Kd.fresh' (Kd.R_lt (xr HO_10.out)) k_ hn_)), Or.elim hk_ (fun hs_ => ((HO_12.out).1 k_ hs_.symm).2.2) (fun hn_ => (Kd.fresh' (Kd.R_lt (xr HO_11.out)) k_ hn_))⟩)) (below_size (xs HB)))
      replace HO_10 := Aside0.mk (Kd.R_below (xr HO_10.out) hb)
      replace HO_11 := Aside0.mk (Kd.R_below (xr HO_11.out) hb)
      replace HO_12 := Aside0.mk (Kd.R_below (xr HO_12.out) hb)
      replace HR419 := Aside0.mk (Kd.C_below (by repeat (first | (with_reducible exact HR419.out) | (with_reducible refine Kd.C_alloc ?_ _) | (with_reducible refine Kd.C_drewN ?_ _) | (with_reducible refine Kd.C_drew ?_) | exact HR419.out)) hb)
      replace HB := xS HB hb
      (try clear hb)
      (try clear hb2)
      (try clear hk)
      (try clear hi)
      (try clear ho0)
      refine hK.out _ _ trivial (fun hHeld => ?_)
      clear hK K
      refine xN 80 ?_
      refine xO 6 (some 85) (b 9 127) rfl rfl fun K hK => ?_
      refine goes_ Tryd.func113 (by kernel_rfl) rfl #[.slice Ao46 y416.length co46, .int .u64 (IntKind.u64.wrap (t400))] (by rfl) rfl rfl (by (try simp only [List.map_toArray, List.map_cons, List.map_nil]); first | done | rfl | (simp only [List.length_drop, List.length_take]; rfl)) ?_
      with_reducible refine (natural_unshift.calls k1 _ _ y416 (IntKind.u64.wrap (t400)) t420 _ ?side1 ?side2 A43.out).mono ?_
      (case side1 => repeat (first | exact (by repeat (first | (with_reducible exact HR419.out) | (with_reducible refine Kd.C_alloc ?_ _) | (with_reducible refine Kd.C_drewN ?_ _) | (with_reducible refine Kd.C_drew ?_) | exact HR419.out)) | (with_reducible refine Kd.C_alloc ?_ _) | (with_reducible refine Kd.C_drewN ?_ _) | (with_reducible refine Kd.C_drew ?_)))
      (case side2 => exact HC419.out)
      rintro e w48 ⟨v421, rfl, ho0, hb⟩
      refine ⟨_, rfl, ?_⟩
      replace HO415 := Aside0.mk (Kd.V_below (xv HO415.out) hb)
      have HO422 := Aside0.mk (Kd.V_lower (Kd.V_mono (ok' := fun k_ => (P0_ k_ ∨ w.heap.size ≤ k_) ∧ some k_ ≠ (v402 : Value).ownBlock ∧ some k_ ≠ (.slice Ao46 x11_1.length co46 : Value).ownBlock ∧ some k_ ≠ (.slice Ao27 x12_1.length co27 : Value).ownBlock) ho0 (fun k_ hk_ => ⟨(.inr (Nat.le_trans (below_size (xs HB)) hk_)), (Kd.fresh' (Kd.R_lt (xr HO_10.out)) k_ hk_), (Kd.fresh' (Kd.R_lt (xr HO_11.out)) k_ hk_), (Kd.fresh' (Kd.R_lt (xr HO_12.out)) k_ hk_)⟩)) (below_size (xs HB)))
      replace HO_10 := Aside0.mk (Kd.R_below (xr HO_10.out) hb)
      replace HO_11 := Aside0.mk (Kd.R_below (xr HO_11.out) hb)
      replace HO_12 := Aside0.mk (Kd.R_below (xr HO_12.out) hb)
      replace HR419 := Aside0.mk (Kd.C_below (by repeat (first | (with_reducible exact HR419.out) | (with_reducible refine Kd.C_alloc ?_ _) | (with_reducible refine Kd.C_drewN ?_ _) | (with_reducible refine Kd.C_drew ?_) | exact HR419.out)) hb)
      replace HB := xS HB hb
      (try clear hb)
      (try clear hb2)
      (try clear hk)
      (try clear hi)
      (try clear ho0)
      refine hK.out _ _ trivial (fun hHeld => ?_)
      clear hK K
      refine xN 85 ?_
      refine xP 7 (some 4) (b 9 255) rfl rfl ?_
      refine xP 8 (some 5) (b 9 511) rfl rfl ?_
      refine done_ (done_of HT_.out (by kernel_rfl)) ?_
      try go_wp2
      go_ret2
      exact ⟨_, _, by first | rfl | (simp [errW_none, errW_some] <;> rfl) | (simp only [← hji14, ← hji20]; first | rfl | (simp [errW_none, errW_some] <;> rfl)) | (simp [*, errW_none, errW_some] <;> rfl), by (with_reducible repeat (first | apply Kd.V_alloc | apply Kd.V_drewN | apply Kd.V_drew)); exact Kd.V_mono HO415.out (fun _ hk => hk.1), by (with_reducible repeat (first | apply Kd.V_alloc | apply Kd.V_drewN | apply Kd.V_drew)); exact Kd.V_mono HO422.out (fun _ hk => hk.1), xs HB⟩
/-! ### natural_GCD: function 83 -/
def natural_GCD.l0 : Nat → List Int → List Int → Option (ByteArray)
 | 0, _, _ => none
 | k + 1, x5, x6 => if (x6.length : Int) > 0 then ((natural_divide.f k x5 x6).bind fun bt429 => (natural_GCD.l0 k x6 bt429.2)) else ((natural_limbs_text.f k x5).bind fun t435 => (some t435))
def natural_GCD.f (k : Nat) (a0 : ByteArray) (a1 : ByteArray) : Option (ByteArray) := (natural_parse.f k a0).bind fun t423 => ((natural_parse.f k a1).bind fun t426 => (natural_GCD.l0 k t423 t426))
theorem natural_GCD.mono_l : ∀ k, (∀ y0 y1, LeO (natural_GCD.l0 k y0 y1) (natural_GCD.l0 (k + 1) y0 y1))
 | 0 => fun _ _ r h => by simp [natural_GCD.l0] at h
 | k + 1 => by
  have ih0 := natural_GCD.mono_l k
  ·intro y0 y1
   unfold natural_GCD.l0
   have m0 := @ih0; have m1 := @natural_divide.mono; have m2 := @natural_limbs_text.mono; have m3 := @natural_parse.mono; exact xM
theorem natural_GCD.mono : ∀ a0 a1 k, LeO (natural_GCD.f k a0 a1) (natural_GCD.f (k + 1) a0 a1) := by
 intro a0 a1 k
 have ih0 := natural_GCD.mono_l k
 unfold natural_GCD.f
 have m0 := @ih0; have m1 := @natural_divide.mono; have m2 := @natural_limbs_text.mono; have m3 := @natural_parse.mono; exact xM
set_option maxHeartbeats 8000000 in
set_option maxRecDepth 100000 in
theorem natural_GCD.calls (k : Nat) (a0 : ByteArray) (a1 : ByteArray) (r : ByteArray) (w : World) (h : natural_GCD.f k a0 a1 = some r) :
  Calls Tryd.prog 83 #[.string a0, .string a1] w fun e w' => e = .returned (.string r) ∧ Below w.heap.size w w' := by
 have HB := Aside0.mk (Below.refl w.heap.size w)
 have H : ((natural_parse.f k a0).bind fun t423 => ((natural_parse.f k a1).bind fun t426 => (natural_GCD.l0 k t423 t426))) = some r := h
 clear h
 replace H := xH H; obtain ⟨t423, A3, H⟩ := H
 replace H := xH H; obtain ⟨t426, A4, H⟩ := H
 have H' := Aside0.mk H
 clear H
 go_enter Tryd.func83, Tryd.ntmps83
 go_wp2_with (first | (refine xg Tryd.func77 (some 10) #[.string a0] ?_; (with_reducible refine (natural_parse.calls k a0 t423 _ A3.out).mono ?_); rintro e w5 ⟨v424, rfl, ho0, hb⟩; refine ⟨_, rfl, ?_⟩; have HO425 := Aside0.mk (Kd.V_lower (Kd.V_mono (ok' := fun k_ => True) ho0 (fun k_ hk_ => trivial)) (below_size (xs HB))); replace HB := xS HB hb; clear hb ho0) | (refine xg Tryd.func77 (some 12) #[.string a1] ?_; (with_reducible refine (natural_parse.calls k a1 t426 _ A4.out).mono ?_); rintro e w6 ⟨v427, rfl, ho0, hb⟩; refine ⟨_, rfl, ?_⟩; replace HO425 := Aside0.mk (Kd.V_below (xv HO425.out) hb); have HO428 := Aside0.mk (Kd.V_lower (Kd.V_mono (ok' := fun k_ => True) ho0 (fun k_ hk_ => trivial)) (below_size (xs HB))); replace HB := xS HB hb; clear hb ho0))
 (try have eA4_ := Option.some.inj (A3.out.symm.trans A4.out))
 go_loopg [5, 6] k (fun kq v5 v6 w' => ∃ (x5_1 : List Int) (x6_1 : List Int), Aside0 (natural_GCD.l0 kq x5_1 x6_1 = some r) ∧ Aside0 (kq ≤ k) ∧ Aside0 (Kd.V (Kd.int .u32) 85 w' w.heap.size (fun _ => True) v5 x5_1) ∧ Aside0 (Kd.V (Kd.int .u32) 85 w' w.heap.size (fun _ => True) v6 x6_1) ∧ Aside0 (Below w.heap.size w w'))
 case atStart => exact ⟨(t423), (t426), H', ⟨Nat.le_refl _⟩, ⟨xv HO425.out⟩, ⟨xv HO428.out⟩, ⟨xs HB⟩⟩
 case round =>
  clear H'
  try clear p2
  obtain ⟨x5_1, x6_1, HA, HK1, HO_5, HO_6, HB⟩ := hrel
  cases gk with
  | zero => exact absurd HA.out (by simp [natural_GCD.l0])
  | succ k1 =>
   have H := HA.out
   clear HA
   simp only [natural_GCD.l0] at H
   by_cases c7 : (x6_1.length : Int) > 0
   ·rw [if_pos c7] at H
    have c7b0 : decide (0 < (x6_1.length : Int)) = true := decide_eq_true c7
    have c7b1 : decide (0 < x6_1.length) = true := decide_eq_true (by omega)
    clear c7
    replace H := xH H; obtain ⟨⟨t429, t432⟩, A8, H⟩ := H
    dsimp only at H
    have H' := Aside0.mk H
    clear H
    obtain ⟨Ao9, co9, eo9⟩ := Kd.V_slice HO_6.out
    subst eo9
    obtain ⟨Ao10, co10, eo10⟩ := Kd.V_slice HO_5.out
    subst eo10
    go_wp2_with (first | (refine xg Tryd.func99 (some 19) #[.slice Ao10 x5_1.length co10, .slice Ao9 x6_1.length co9] ?_; (with_reducible refine (natural_divide.calls k1 (fun k_ => True) _ _ x5_1 _ _ x6_1 t429 t432 _ HO_5.out (xf (Kd.V_reads' HO_6.out).2.2) (Kd.V_reads' HO_6.out).2.1 A8.out).mono ?_); rintro e w11 ⟨v430, v433, rfl, ho0, ho1, hb⟩; refine ⟨_, rfl, ?_⟩; replace HO_5 := Aside0.mk (Kd.V_below (xv HO_5.out) hb); replace HO_6 := Aside0.mk (Kd.V_below (xv HO_6.out) hb); have HO431 := Aside0.mk (Kd.V_lower (Kd.V_mono (ok' := fun k_ => True) ho0 (fun k_ hk_ => trivial)) (below_size (xs HB))); have HO434 := Aside0.mk (Kd.V_lower (Kd.V_mono (ok' := fun k_ => True) ho1 (fun k_ hk_ => trivial)) (below_size (xs HB))); replace HB := xS HB hb; clear hb ho0 ho1))
    (first | go_roundg k1 | (refine Handed.intro k1 ?measure ?_; rotate_left; go_step; (repeat apply Exists.intro); refine ⟨?rel, (by first | rfl | (simp only [add_plain]; rfl))⟩))
    case measure => have := HK1.out; omega
    case rel => exact ⟨(x6_1), (t432), H', ⟨by have := HK1.out; omega⟩, ⟨xv HO_6.out⟩, ⟨xv HO434.out⟩, ⟨xs HB⟩⟩
   ·rw [if_neg c7] at H
    have c7b0 : decide (0 < (x6_1.length : Int)) = false := decide_eq_false c7
    have c7b1 : decide (0 < x6_1.length) = false := decide_eq_false (by omega)
    clear c7
    replace H := xH H; obtain ⟨t435, A12, H⟩ := H
    obtain rfl := Option.some.inj H
    obtain ⟨Ao13, co13, eo13⟩ := Kd.V_slice HO_6.out
    subst eo13
    obtain ⟨Ao14, co14, eo14⟩ := Kd.V_slice HO_5.out
    subst eo14
    go_wp2_with (first | (refine xg Tryd.func78 (some 25) #[.slice Ao14 x5_1.length co14] ?_; (with_reducible refine (natural_limbs_text.calls k1 _ _ x5_1 t435 _ (xf (Kd.V_reads' HO_5.out).2.2) (Kd.V_reads' HO_5.out).2.1 A12.out).mono ?_); rintro e w15 ⟨rfl, hb⟩; refine ⟨_, rfl, ?_⟩; replace HO_5 := Aside0.mk (Kd.V_below (xv HO_5.out) hb); replace HO_6 := Aside0.mk (Kd.V_below (xv HO_6.out) hb); replace HB := xS HB hb; clear hb))
    go_ret
    exact ⟨xy, xs HB⟩
/-! ### rational_Valid: function 62 -/
def rational_Valid.j0 : Nat → Bool → Bool → ByteArray → ByteArray → Option (Bool)
 | 0, _, _, _, _ => none
 | k + 1, x16, x437000, x437001, x437002 => if x16 = true then (some false) else (if x437001.toList = ([] : List UInt8) then (if x437000 = true then (some false) else (some (x437002.toList == ([] : List UInt8)))) else (if x437002.toList = ([] : List UInt8) then (some true) else (if x437002.toList = ([1] : List UInt8) then (some false) else ((natural_GCD.f k x437001 x437002).bind fun t439 => (some (t439.toList == ([1] : List UInt8)))))))
def rational_Valid.f (k : Nat) (a0_0 : Bool) (a0_1 : ByteArray) (a0_2 : ByteArray) : Option (Bool) := (natural_Normalize.f k a0_1).bind fun t437 => (if t437.toList = a0_1.toList then ((natural_Normalize.f k a0_2).bind fun t438 => (rational_Valid.j0 k (t438.toList != a0_2.toList) a0_0 a0_1 a0_2)) else (rational_Valid.j0 k true a0_0 a0_1 a0_2))
theorem rational_Valid.mono_l : ∀ k, (∀ y0 y1 y2 y3, LeO (rational_Valid.j0 k y0 y1 y2 y3) (rational_Valid.j0 (k + 1) y0 y1 y2 y3))
 | 0 => fun _ _ _ _ r h => by simp [rational_Valid.j0] at h
 | k + 1 => by
  have ih0 := rational_Valid.mono_l k
  ·intro y0 y1 y2 y3
   unfold rational_Valid.j0
   have m0 := @ih0; have m1 := @natural_GCD.mono; have m2 := @natural_Normalize.mono; exact xM
theorem rational_Valid.mono : ∀ a0 a1 a2 k, LeO (rational_Valid.f k a0 a1 a2) (rational_Valid.f (k + 1) a0 a1 a2) := by
 intro a0 a1 a2 k
 have ih0 := rational_Valid.mono_l k
 unfold rational_Valid.f
 have m0 := @ih0; have m1 := @natural_GCD.mono; have m2 := @natural_Normalize.mono; exact xM
def rational_Valid.T1 : Bool × List (List Nat × List Nat) := (true, [([], []), ([0], [0]), ([1], [1]), ([], []), ([3], [3]), ([2, 4], [2, 4]), ([5, 2], [5]), ([6], [6]), ([7, 6], [6, 7]), ([8, 6, 6], [6, 8]), ([6], [6]), ([10, 6], [6, 10]), ([9, 11, 6], [6, 9, 11]), ([6, 12], [6, 12])])
def rational_Valid.B1 : List Nat := [0, 1, 3, 0, 8, 31, 63, 127, 255, 511, 127, 1151, 4095, 8191]
theorem rational_Valid.tab1 : rtab .any (opsOf Tryd.f62 1) = rational_Valid.T1 := by kernel_rfl
theorem rational_Valid.bits1 : waitsOk rational_Valid.T1.2 rational_Valid.B1 = true := by kernel_rfl
set_option maxHeartbeats 8000000 in
set_option maxRecDepth 100000 in
theorem rational_Valid.calls (k : Nat) (a0_0 : Bool) (a0_1 : ByteArray) (a0_2 : ByteArray) (r : Bool) (w : World) (h : rational_Valid.f k a0_0 a0_1 a0_2 = some r) :
  Calls Tryd.prog 62 #[.agg #[.bool a0_0, .string a0_1, .string a0_2]] w fun e w' => e = .returned (.bool r) ∧ Below w.heap.size w w' := by
 have hu25 := Tryd.underlying25
 have HB := Aside0.mk (Below.refl w.heap.size w)
 have H : ((natural_Normalize.f k a0_1).bind fun t437 => (if t437.toList = a0_1.toList then ((natural_Normalize.f k a0_2).bind fun t438 => (rational_Valid.j0 k (t438.toList != a0_2.toList) a0_0 a0_1 a0_2)) else (rational_Valid.j0 k true a0_0 a0_1 a0_2))) = some r := h
 clear h
 have HC2 := Aside0.mk H
 clear H
 go_enter Tryd.func62, Tryd.ntmps62
 go_upto_region 1 with (first | (refine xE (N := 1) #[.bool a0_0, .string a0_1, .string a0_2] 25 rfl ?_; intro gb436 hg w3 hbox hb; have BK436 := Aside0.mk (hbox); have GW436 := (xG HB hg); have GE436 := (xG HB hg); replace HB := xS HB hb; clear hb hbox hg))
 (try simp only [Act.put, List.setIfInBounds_toArray, List.set_cons_zero, List.set_cons_succ])
 go_cut [16] (fun v16 wc => ∃ (kq : Nat) (x16_1 : Bool), v16 = .bool x16_1 ∧ Aside0 (rational_Valid.j0 kq x16_1 a0_0 a0_1 a0_2 = some r) ∧ Aside0 (kq ≤ k) ∧ Aside0 (wc.heap[gb436]? = some (.cells #[.bool a0_0, .string a0_1, .string a0_2] 25 (0, 0))) ∧ Aside0 (Below w.heap.size w wc))
 case first =>
  have H := HC2.out
  clear HC2
  replace H := xH H; obtain ⟨t437, A4, H⟩ := H
  by_cases c5 : t437.toList = a0_1.toList
  ·rw [if_pos c5] at H
   have c5b0 : (t437.toList == a0_1.toList) = true := beq_iff_eq.mpr c5
   have c5b1 : (t437.toList != a0_1.toList) = false := bne_eq_false_iff_eq.mpr c5
   clear c5
   (first | rw [c5b0] | (simp only [i64_w, i32_w]; rw [c5b0]) | rw [c5b1] | skip)
   replace H := xH H; obtain ⟨t438, A6, H⟩ := H
   have H' := Aside0.mk H
   clear H
   try go_wp2
   replace BK436 := xD BK436
   replace HB := xW HB
   refine start_ (n := 14) (S := fun w' => w'.cell? ⟨gb436, 0, none⟩ = some (.bool a0_0) ∧ w'.cell? ⟨gb436, 1, none⟩ = some (.string a0_1) ∧ w'.cell? ⟨gb436, 2, none⟩ = some (.string a0_2)) (ds := []) #[false, false, false, false, false, false, false, false, false, false, false, false, false, false] (by kernel_rfl) rfl rfl xV (fun hHeld => ?_); refine with_tabW rational_Valid.tab1 rational_Valid.bits1 (fun HT_ HW_ => ?_)
   generalize w3.drew = w7 at BK436 HB hHeld ⊢
   refine xP 0 (some 3) (b 14 1) rfl rfl ?_
   refine xP 3 (some 6) (b 14 9) rfl rfl ?_
   refine xT 1 (some 4) (b 14 11) rfl rfl hHeld ?_
   refine xT 4 (some 7) (b 14 27) rfl rfl hHeld ?_
   refine xO 2 (some 5) (b 14 31) rfl rfl fun K hK => ?_
   refine xc Tryd.func74 (natural_Normalize.calls k a0_1 t437 _ A4.out) ?_
   rintro w8 hb
   replace BK436 := xB BK436 hb
   replace HB := xS HB hb
   clear hb
   refine hK.out _ _ xV (fun hHeld => ?_)
   clear hK K
   refine xN 5 ?_
   refine xP 5 (some 8) (b 14 63) rfl rfl ?_
   refine xP 6 (some 9) (b 14 127) rfl rfl ?_
   refine xP 7 (some 10) (b 14 255) rfl rfl ?_
   refine xP 10 (some 13) (b 14 1279) rfl rfl ?_
   refine xT 8 (some 11) (b 14 1535) rfl rfl hHeld ?_
   refine xT 11 (some 14) (b 14 3583) rfl rfl hHeld ?_
   refine xO 9 (some 12) (b 14 4095) rfl rfl fun K hK => ?_
   refine xc Tryd.func74 (natural_Normalize.calls k a0_2 t438 _ A6.out) ?_
   rintro w9 hb
   replace BK436 := xB BK436 hb
   replace HB := xS HB hb
   clear hb
   refine hK.out _ _ xV (fun hHeld => ?_)
   clear hK K
   refine xN 12 ?_
   refine xP 12 (some 15) (b 14 8191) rfl rfl ?_
   refine xP 13 (some 16) (b 14 16383) rfl rfl ?_
   refine done_ (done_of HT_.out (by kernel_rfl)) ?_
   try go_wp2
   go_meet
   case rel => exact ⟨_, ((t438.toList != a0_2.toList)), xz, H', ⟨by first | omega | exact Nat.le_refl _⟩, ⟨xb BK436⟩, ⟨xs HB⟩⟩
  ·rw [if_neg c5] at H
   have c5b0 : (t437.toList == a0_1.toList) = false := beq_eq_false_iff_ne.mpr c5
   have c5b1 : (t437.toList != a0_1.toList) = true := bne_iff_ne.mpr c5
   (first | rw [c5b0] | (simp only [i64_w, i32_w]; rw [c5b0]) | rw [c5b1] | skip)
   have H' := Aside0.mk H
   clear H
   try go_wp2
   replace BK436 := xD BK436
   replace HB := xW HB
   refine start_ (n := 14) (S := fun w' => w'.cell? ⟨gb436, 0, none⟩ = some (.bool a0_0) ∧ w'.cell? ⟨gb436, 1, none⟩ = some (.string a0_1) ∧ w'.cell? ⟨gb436, 2, none⟩ = some (.string a0_2)) (ds := []) #[false, false, false, false, false, false, false, false, false, false, false, false, false, false] (by kernel_rfl) rfl rfl xV (fun hHeld => ?_); refine with_tabW rational_Valid.tab1 rational_Valid.bits1 (fun HT_ HW_ => ?_)
   generalize w3.drew = w10 at BK436 HB hHeld ⊢
   refine xP 0 (some 3) (b 14 1) rfl rfl ?_
   refine xP 3 (some 6) (b 14 9) rfl rfl ?_
   refine xT 1 (some 4) (b 14 11) rfl rfl hHeld ?_
   refine xT 4 (some 7) (b 14 27) rfl rfl hHeld ?_
   refine xO 2 (some 5) (b 14 31) rfl rfl fun K hK => ?_
   refine xc Tryd.func74 (natural_Normalize.calls k a0_1 t437 _ A4.out) ?_
   rintro w11 hb
   replace BK436 := xB BK436 hb
   replace HB := xS HB hb
   clear hb
   refine hK.out _ _ xV (fun hHeld => ?_)
   clear hK K
   refine xN 5 ?_
   refine xP 5 (some 8) (b 14 63) rfl rfl ?_
   refine xP 6 (some 9) (b 14 127) rfl rfl ?_
   refine xU 7 (some 10) (b 14 255) rfl rfl ?_
   refine xU 8 (some 11) (b 14 511) rfl rfl ?_
   refine xU 9 (some 12) (b 14 1023) rfl rfl ?_
   refine xU 10 (some 13) (b 14 2047) rfl rfl ?_
   refine xU 11 (some 14) (b 14 4095) rfl rfl ?_
   refine xU 12 (some 15) (b 14 8191) rfl rfl ?_
   refine xP 13 (some 16) (b 14 16383) rfl rfl ?_
   refine done_ (done_of HT_.out (by kernel_rfl)) ?_
   try go_wp2
   go_meet
   case rel => exact ⟨_, (true), xz, H', ⟨by first | omega | exact Nat.le_refl _⟩, ⟨xb BK436⟩, ⟨xs HB⟩⟩
 case rest =>
  clear HC2
  try clear p2
  try clear c5
  try clear c5b0
  try clear c5b1
  try clear c6
  try clear c7
  obtain ⟨kq, x16_1, rfl, HA, HJ1, BK436, HB⟩ := hcut
  cases kq with
  | zero => exact absurd HA.out (by simp [rational_Valid.j0])
  | succ kj1 =>
   have H := HA.out
   clear HA
   simp only [rational_Valid.j0] at H
   by_cases c12 : x16_1 = true
   ·subst c12
    replace H := xI H
    obtain rfl := Option.some.inj H
    go_wp2
    go_ret
    exact ⟨xy, xs HB⟩
   ·replace c12 := Bool.eq_false_iff.mpr c12
    subst c12
    have H1 : (if a0_1.toList = ([] : List UInt8) then (if a0_0 = true then (some false) else (some (a0_2.toList == ([] : List UInt8)))) else (if a0_2.toList = ([] : List UInt8) then (some true) else (if a0_2.toList = ([1] : List UInt8) then (some false) else ((natural_GCD.f kj1 a0_1 a0_2).bind fun t439 => (some (t439.toList == ([1] : List UInt8))))))) = some r := by rw [if_neg (show ¬ (false = true) by decide)] at H; exact H
    clear H
    have H := H1
    clear H1
    by_cases c13 : a0_1.toList = ([] : List UInt8)
    ·rw [if_pos c13] at H
     have c13b0 : (a0_1.toList == ([] : List UInt8)) = true := beq_iff_eq.mpr c13
     have c13b1 : (a0_1.toList != ([] : List UInt8)) = false := bne_eq_false_iff_eq.mpr c13
     clear c13
     by_cases c14 : a0_0 = true
     ·subst c14
      replace H := xI H
      obtain rfl := Option.some.inj H
      obtain ⟨hcz15_0, hcz15_1, hcz15_2, hfz15_0, hfz15_1, hfz15_2⟩ := x6 BK436
      go_wp2
      go_ret
      exact ⟨xy, xs HB⟩
     ·replace c14 := Bool.eq_false_iff.mpr c14
      subst c14
      have H1 : (some (a0_2.toList == ([] : List UInt8))) = some r := by rw [if_neg (show ¬ (false = true) by decide)] at H; exact H
      clear H
      have H := H1
      clear H1
      obtain rfl := Option.some.inj H
      obtain ⟨hcz16_0, hcz16_1, hcz16_2, hfz16_0, hfz16_1, hfz16_2⟩ := x6 BK436
      go_wp2
      go_ret
      exact ⟨xy, xs HB⟩
    ·rw [if_neg c13] at H
     have c13b0 : (a0_1.toList == ([] : List UInt8)) = false := beq_eq_false_iff_ne.mpr c13
     have c13b1 : (a0_1.toList != ([] : List UInt8)) = true := bne_iff_ne.mpr c13
     by_cases c17 : a0_2.toList = ([] : List UInt8)
     ·rw [if_pos c17] at H
      have c17b0 : (a0_2.toList == ([] : List UInt8)) = true := beq_iff_eq.mpr c17
      have c17b1 : (a0_2.toList != ([] : List UInt8)) = false := bne_eq_false_iff_eq.mpr c17
      clear c17
      obtain rfl := Option.some.inj H
      obtain ⟨hcz18_0, hcz18_1, hcz18_2, hfz18_0, hfz18_1, hfz18_2⟩ := x6 BK436
      go_wp2
      go_ret
      exact ⟨xy, xs HB⟩
     ·rw [if_neg c17] at H
      have c17b0 : (a0_2.toList == ([] : List UInt8)) = false := beq_eq_false_iff_ne.mpr c17
      have c17b1 : (a0_2.toList != ([] : List UInt8)) = true := bne_iff_ne.mpr c17
      by_cases c19 : a0_2.toList = ([1] : List UInt8)
      ·rw [if_pos c19] at H
       have c19b0 : (a0_2.toList == ([1] : List UInt8)) = true := beq_iff_eq.mpr c19
       have c19b1 : (a0_2.toList != ([1] : List UInt8)) = false := bne_eq_false_iff_eq.mpr c19
       clear c19
       obtain rfl := Option.some.inj H
       obtain ⟨hcz20_0, hcz20_1, hcz20_2, hfz20_0, hfz20_1, hfz20_2⟩ := x6 BK436
       go_wp2
       go_ret
       exact ⟨xy, xs HB⟩
      ·rw [if_neg c19] at H
       have c19b0 : (a0_2.toList == ([1] : List UInt8)) = false := beq_eq_false_iff_ne.mpr c19
       have c19b1 : (a0_2.toList != ([1] : List UInt8)) = true := bne_iff_ne.mpr c19
       replace H := xH H; obtain ⟨t439, A21, H⟩ := H
       obtain rfl := Option.some.inj H
       obtain ⟨hcz22_0, hcz22_1, hcz22_2, hfz22_0, hfz22_1, hfz22_2⟩ := x6 BK436
       go_wp2_with (first | (go_at_call 83; (with_reducible refine (natural_GCD.calls kj1 a0_1 a0_2 t439 _ A21.out).mono ?_); rintro e w23 ⟨rfl, hb⟩; replace BK436 := xB BK436 hb; replace HB := xS HB hb; clear hb))
       go_ret
       exact ⟨xy, xs HB⟩
/-! ### rational_clean: function 38 -/
def rational_clean.f (k : Nat) (a0_0 : Bool) (a0_1 : ByteArray) (a0_2 : ByteArray) : Option (Bool × ByteArray × ByteArray) := (rational_Valid.f k a0_0 a0_1 a0_2).bind fun t442 => (if t442 = true then (some (a0_0, a0_1, a0_2)) else (some (false, (⟨#[]⟩ : ByteArray), (⟨#[]⟩ : ByteArray))))
theorem rational_clean.mono : ∀ a0 a1 a2 k, LeO (rational_clean.f k a0 a1 a2) (rational_clean.f (k + 1) a0 a1 a2) := by
 intro a0 a1 a2 k
 unfold rational_clean.f
 have m0 := @rational_Valid.mono; exact xM
set_option maxHeartbeats 8000000 in
set_option maxRecDepth 100000 in
theorem rational_clean.calls (k : Nat) (a0_0 : Bool) (a0_1 : ByteArray) (a0_2 : ByteArray) (r1 : Bool) (r2 : ByteArray) (r3 : ByteArray) (w : World) (h : rational_clean.f k a0_0 a0_1 a0_2 = some (r1, r2, r3)) :
  Calls Tryd.prog 38 #[.agg #[.bool a0_0, .string a0_1, .string a0_2]] w fun e w' => e = .returned (.agg #[.bool r1, .string r2, .string r3]) ∧ Below w.heap.size w w' := by
 have hu25 := Tryd.underlying25
 have HB := Aside0.mk (Below.refl w.heap.size w)
 have H : ((rational_Valid.f k a0_0 a0_1 a0_2).bind fun t442 => (if t442 = true then (some (a0_0, a0_1, a0_2)) else (some (false, (⟨#[]⟩ : ByteArray), (⟨#[]⟩ : ByteArray))))) = some (r1, r2, r3) := h
 clear h
 replace H := xH H; obtain ⟨t442, A2, H⟩ := H
 by_cases c3 : t442 = true
 ·subst c3
  replace H := xI H
  simp only [Option.some.injEq, Prod.mk.injEq] at H
  obtain ⟨rfl, rfl, rfl⟩ := H
  go_enter Tryd.func38, Tryd.ntmps38
  go_wp2_with (first | (refine xE (N := 1) #[.bool a0_0, .string a0_1, .string a0_2] 25 rfl ?_; intro gb440 hg w4 hbox hb; have BK440 := Aside0.mk (hbox); have GW440 := (xG HB hg); have GE440 := (xG HB hg); replace HB := xS HB hb; clear hb hbox hg) | (refine xE (N := 2) #[.bool false, .string (⟨#[]⟩ : ByteArray), .string (⟨#[]⟩ : ByteArray)] 25 rfl ?_; intro gb441 hg w5 hbox hb; have BK441 := Aside0.mk (hbox); have GW441 := (xG HB hg); have GE441 := (xG HB hg); replace HB := xS HB hb; have NB440_441 := xL BK440 hg; have NB441_440 := xR BK440 hg; replace BK440 := xB BK440 hb; clear hb hbox hg; have hnb6 := NB440_441.out; have hnc6 := NB441_440.out; obtain ⟨hcz7_0, hcz7_1, hcz7_2, hfz7_0, hfz7_1, hfz7_2⟩ := x6 BK440) | (refine xC Tryd.func62 (some 4) (rational_Valid.calls k a0_0 a0_1 a0_2 true _ A2.out) ?_; rintro w8 hb; replace BK440 := xB BK440 hb; replace BK441 := xB BK441 hb; replace HB := xS HB hb; clear hb; obtain ⟨hcz9_0, hcz9_1, hcz9_2, hfz9_0, hfz9_1, hfz9_2⟩ := x6 BK440; obtain ⟨hcz10_0, hcz10_1, hcz10_2, hfz10_0, hfz10_1, hfz10_2⟩ := x6 BK441))
  refine bodyPost_ret (results_cell_row rfl _ _ gb441 25 #[.bool a0_0, .string a0_1, .string a0_2] (0, 0) _ rfl (xp BK441) Tryd.underlying25 rfl (by kernel_rfl)) rfl ?_
  exact ⟨xy, xs HB⟩
 ·replace c3 := Bool.eq_false_iff.mpr c3
  subst c3
  have H1 : (some (false, (⟨#[]⟩ : ByteArray), (⟨#[]⟩ : ByteArray))) = some (r1, r2, r3) := by rw [if_neg (show ¬ (false = true) by decide)] at H; exact H
  clear H
  have H := H1
  clear H1
  simp only [Option.some.injEq, Prod.mk.injEq] at H
  obtain ⟨rfl, rfl, rfl⟩ := H
  go_enter Tryd.func38, Tryd.ntmps38
  go_wp2_with (first | (refine xE (N := 1) #[.bool a0_0, .string a0_1, .string a0_2] 25 rfl ?_; intro gb440 hg w11 hbox hb; have BK440 := Aside0.mk (hbox); have GW440 := (xG HB hg); have GE440 := (xG HB hg); replace HB := xS HB hb; clear hb hbox hg) | (refine xE (N := 2) #[.bool false, .string (⟨#[]⟩ : ByteArray), .string (⟨#[]⟩ : ByteArray)] 25 rfl ?_; intro gb441 hg w12 hbox hb; have BK441 := Aside0.mk (hbox); have GW441 := (xG HB hg); have GE441 := (xG HB hg); replace HB := xS HB hb; have NB440_441 := xL BK440 hg; have NB441_440 := xR BK440 hg; replace BK440 := xB BK440 hb; clear hb hbox hg; have hnb13 := NB440_441.out; have hnc13 := NB441_440.out; obtain ⟨hcz14_0, hcz14_1, hcz14_2, hfz14_0, hfz14_1, hfz14_2⟩ := x6 BK440) | (refine xC Tryd.func62 (some 4) (rational_Valid.calls k a0_0 a0_1 a0_2 false _ A2.out) ?_; rintro w15 hb; replace BK440 := xB BK440 hb; replace BK441 := xB BK441 hb; replace HB := xS HB hb; clear hb; obtain ⟨hcz16_0, hcz16_1, hcz16_2, hfz16_0, hfz16_1, hfz16_2⟩ := x6 BK441))
  refine bodyPost_ret (results_cell_row rfl _ _ gb441 25 #[.bool false, .string (⟨#[]⟩ : ByteArray), .string (⟨#[]⟩ : ByteArray)] (0, 0) _ rfl (xp BK441) Tryd.underlying25 rfl (by kernel_rfl)) rfl ?_
  exact ⟨xy, xs HB⟩
end Go.Proofs.YtpoogjcgjpkbeaaDoor.XC
