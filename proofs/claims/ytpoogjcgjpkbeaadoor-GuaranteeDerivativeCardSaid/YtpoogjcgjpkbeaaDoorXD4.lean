/- Walks of functions of the program: a plain Lean function for each, and a proof that a call answers as it says. Written by a program (the kit's print with changes, then shortened). -/
import Derived.Test.YtpoogjcgjpkbeaaDoorXD3
namespace Go.Proofs.YtpoogjcgjpkbeaaDoor.XC
open Go.RowKit Go.Proofs.YtpoogjcgjpkbeaaDoorW.PrintWords Go.Proofs.YtpoogjcgjpkbeaaDoorW.PrintLast Go.Proofs.YtpoogjcgjpkbeaaDoorW.PrintMore Go.Proofs.YtpoogjcgjpkbeaaDoorW.Sq
attribute [local go_sem] max2_int min2_int max_two min_two max_three min_three max_four min_four   -- for this text's walks alone
set_option linter.unusedVariables false
set_option linter.unusedSimpArgs false
/-! ### natural_Multiply: function 48 -/
mutual
def natural_Multiply.l0 : Nat → List Int → List Int → List Int → Int → Int → Option (ByteArray)
 | 0, _, _, _, _, _ => none
 | k + 1, x6, x7, x24, x25, x26 => if x26 < x25 then (if 0 ≤ x26 then (if x26 < (x24.length : Int) then (natural_Multiply.l1 k x6 x7 x26 (rd x24 x26) 0 x24 x25 x26 x6 (x6.length : Int) 0) else (none)) else (none)) else ((natural_limbs_text.f k x7).bind fun t452 => (some t452))
def natural_Multiply.l1 : Nat → List Int → List Int → Int → Int → Int → List Int → Int → Int → List Int → Int → Int → Option (ByteArray)
 | 0, _, _, _, _, _, _, _, _, _, _, _ => none
 | k + 1, x6, x7, x8, x9, x10, x24, x25, x26, x31, x32, x33 => if x33 < x32 then (if 0 ≤ x33 then (if x33 < (x31.length : Int) then (if 0 ≤ (wrap64 (x8 + x33)) then (if (wrap64 (x8 + x33)) < (x7.length : Int) then (natural_Multiply.l1 k x6 (x7.set ((wrap64 (x8 + x33)) : Int).toNat ((IntKind.u64.wrap ((IntKind.u64.wrap ((IntKind.u64.wrap ((IntKind.u64.wrap (x9)) * (IntKind.u64.wrap (rd x31 x33)))) + (IntKind.u64.wrap (rd x7 (wrap64 (x8 + x33)))))) + x10)) % 4294967296)) x8 x9 ((IntKind.u64.wrap ((IntKind.u64.wrap ((IntKind.u64.wrap ((IntKind.u64.wrap (x9)) * (IntKind.u64.wrap (rd x31 x33)))) + (IntKind.u64.wrap (rd x7 (wrap64 (x8 + x33)))))) + x10)) / 4294967296) x24 x25 x26 x31 x32 (wrap64 (x33 + 1))) else (none)) else (none)) else (none)) else (none)) else (if 0 ≤ (wrap64 (x8 + (x6.length : Int))) then (if (wrap64 (x8 + (x6.length : Int))) < (x7.length : Int) then (natural_Multiply.l0 k x6 (x7.set ((wrap64 (x8 + (x6.length : Int))) : Int).toNat ((x10) % 4294967296)) x24 x25 (wrap64 (x26 + 1))) else (none)) else (none))
end
def natural_Multiply.f (k : Nat) (a0 : ByteArray) (a1 : ByteArray) : Option (ByteArray) := (natural_parse.f k a0).bind fun t443 => ((natural_parse.f k a1).bind fun t446 => (if 0 ≤ (wrap64 ((t443.length : Int) + (t446.length : Int))) then (if (wrap64 ((t443.length : Int) + (t446.length : Int)) : Int).toNat ≤ 70368744177664 then (natural_Multiply.l0 k t446 (List.replicate (wrap64 ((t443.length : Int) + (t446.length : Int)) : Int).toNat 0) t443 (t443.length : Int) 0) else (none)) else (none)))
theorem natural_Multiply.mono_l : ∀ k, (∀ y0 y1 y2 y3 y4, LeO (natural_Multiply.l0 k y0 y1 y2 y3 y4) (natural_Multiply.l0 (k + 1) y0 y1 y2 y3 y4)) ∧ (∀ y0 y1 y2 y3 y4 y5 y6 y7 y8 y9 y10, LeO (natural_Multiply.l1 k y0 y1 y2 y3 y4 y5 y6 y7 y8 y9 y10) (natural_Multiply.l1 (k + 1) y0 y1 y2 y3 y4 y5 y6 y7 y8 y9 y10))
 | 0 => ⟨fun _ _ _ _ _ r h => by simp [natural_Multiply.l0] at h, fun _ _ _ _ _ _ _ _ _ _ _ r h => by simp [natural_Multiply.l1] at h⟩
 | k + 1 => by
  obtain ⟨ih0, ih1⟩ := natural_Multiply.mono_l k
  refine ⟨?_, ?_⟩
  ·intro y0 y1 y2 y3 y4
   unfold natural_Multiply.l0
   have m0 := @ih0; have m1 := @ih1; have m2 := @natural_limbs_text.mono; have m3 := @natural_parse.mono; exact xM
  ·intro y0 y1 y2 y3 y4 y5 y6 y7 y8 y9 y10
   unfold natural_Multiply.l1
   have m0 := @ih0; have m1 := @ih1; have m2 := @natural_limbs_text.mono; have m3 := @natural_parse.mono; exact xM
theorem natural_Multiply.mono : ∀ a0 a1 k, LeO (natural_Multiply.f k a0 a1) (natural_Multiply.f (k + 1) a0 a1) := by
 intro a0 a1 k
 obtain ⟨ih0, ih1⟩ := natural_Multiply.mono_l k
 unfold natural_Multiply.f
 have m0 := @ih0; have m1 := @ih1; have m2 := @natural_limbs_text.mono; have m3 := @natural_parse.mono; exact xM
set_option maxHeartbeats 8000000 in
set_option maxRecDepth 100000 in
theorem natural_Multiply.calls (k : Nat) (a0 : ByteArray) (a1 : ByteArray) (r : ByteArray) (w : World) (h : natural_Multiply.f k a0 a1 = some r) :
  Calls Tryd.prog 48 #[.string a0, .string a1] w fun e w' => e = .returned (.string r) ∧ Below w.heap.size w w' := by
 have HB := Aside0.mk (Below.refl w.heap.size w)
 have H : ((natural_parse.f k a0).bind fun t443 => ((natural_parse.f k a1).bind fun t446 => (if 0 ≤ (wrap64 ((t443.length : Int) + (t446.length : Int))) then (if (wrap64 ((t443.length : Int) + (t446.length : Int)) : Int).toNat ≤ 70368744177664 then (natural_Multiply.l0 k t446 (List.replicate (wrap64 ((t443.length : Int) + (t446.length : Int)) : Int).toNat 0) t443 (t443.length : Int) 0) else (none)) else (none)))) = some r := h
 clear h
 replace H := xH H; obtain ⟨t443, A3, H⟩ := H
 replace H := xH H; obtain ⟨t446, A4, H⟩ := H
 obtain ⟨ji5, hji5⟩ : ∃ j_ : Int, (wrap64 ((t443.length : Int) + (t446.length : Int))) = j_ := ⟨_, rfl⟩
 replace H : (if 0 ≤ (ji5) then (if (ji5 : Int).toNat ≤ 70368744177664 then (natural_Multiply.l0 k t446 (List.replicate (ji5 : Int).toNat 0) t443 (t443.length : Int) 0) else (none)) else (none)) = some r := by first | (rw [hji5] at H; exact H) | (simp only [hji5] at H ⊢; exact H)
 (try rw [hji5] at A3)
 (try rw [hji5] at A4)
 have hji5w : (IntKind.i64.wrap ((t443.length : Int) + (t446.length : Int))) = ji5 := (i64_w _).trans hji5
 by_cases c6 : 0 ≤ (ji5)
 rotate_left
 ·rw [if_neg c6] at H
  exact absurd H (by simp)
 rw [if_pos c6] at H
 have c6b0 := eq_true c6
 have c6b1 : decide (0 ≤ (ji5)) = true := decide_eq_true c6
 clear c6
 by_cases c7 : (ji5 : Int).toNat ≤ 70368744177664
 rotate_left
 ·rw [if_neg c7] at H
  exact absurd H (by simp)
 rw [if_pos c7] at H
 have c7b0 := eq_true c7
 have c7b1 : decide ((ji5 : Int).toNat ≤ 70368744177664) = true := decide_eq_true c7
 clear c7
 obtain ⟨y449, hy449⟩ : ∃ y_ : List Int, y_ = (List.replicate (ji5 : Int).toNat 0) := ⟨_, rfl⟩
 replace H : (natural_Multiply.l0 k t446 y449 t443 (t443.length : Int) 0) = some r := by first | (rw [hy449]; with_reducible exact H) | (have H2_ := (Option.bind_some _ _).symm.trans H; rw [hy449]; with_reducible exact H2_) | (have H2_ := (Option.bind_some _ _).symm.trans H; with_reducible exact H2_) | with_reducible exact H | (rw [hy449]; exact H) | exact H
 have Ny449 := Aside0.mk hy449
 clear hy449
 have H' := Aside0.mk H
 clear H
 go_enter Tryd.func48, Tryd.ntmps48
 go_wp2_with (first | (refine xg Tryd.func77 (some 15) #[.string a0] ?_; (with_reducible refine (natural_parse.calls k a0 t443 _ A3.out).mono ?_); rintro e w8 ⟨v444, rfl, ho0, hb⟩; refine ⟨_, rfl, ?_⟩; have HO445 := Aside0.mk (Kd.V_lower (Kd.V_mono (ok' := fun k_ => True) ho0 (fun k_ hk_ => trivial)) (below_size (xs HB))); replace HB := xS HB hb; clear hb ho0) | (refine xg Tryd.func77 (some 17) #[.string a1] ?_; (with_reducible refine (natural_parse.calls k a1 t446 _ A4.out).mono ?_); rintro e w9 ⟨v447, rfl, ho0, hb⟩; refine ⟨_, rfl, ?_⟩; replace HO445 := Aside0.mk (Kd.V_below (xv HO445.out) hb); have HO448 := Aside0.mk (Kd.V_lower (Kd.V_mono (ok' := fun k_ => True) ho0 (fun k_ hk_ => trivial)) (below_size (xs HB))); replace HB := xS HB hb; clear hb ho0; obtain ⟨Ao10, co10, eo10⟩ := Kd.V_slice HO445.out; subst eo10; obtain ⟨Ao11, co11, eo11⟩ := Kd.V_slice HO448.out; subst eo11) | ((with_reducible refine gate_dst (N := 23) rfl ?_); refine Kd.R_make (Kd.int .u32) _ 85 rfl (N := 23) rfl 83 _ _ rfl ji5 rfl rfl Tryd.underlying83 (.int .u32 0) 4 info85 rfl (by decide) (by omega) 0 (ok := fun _ => True) (okp := fun _ => True) rfl (fun _ hk => hk) trivial (xa) (Nat.le_trans (Nat.mul_le_mul_right _ (xa : ji5.toNat ≤ 70368744177664)) (by omega)) (Below.refl _ _) (Nat.le_refl _) ?_; intro v450 w12 ho13 hb hg_ hnew_; clear hg_ hnew_; (first | rw [← Ny449.out] at ho13 | (simp only [Int.reduceToNat] at ho13; rw [← Ny449.out] at ho13)); replace HO445 := Aside0.mk (Kd.V_elder' (xv HO445.out) (Kd.R_base ho13) hb); replace HO448 := Aside0.mk (Kd.V_elder' (xv HO448.out) (Kd.R_base ho13) hb); have HO451 := Aside0.mk (Kd.R_lower ho13 (below_size (xs HB))); replace HB := xS HB hb; clear hb ho13))
 (try have eA4_ := Option.some.inj (A3.out.symm.trans A4.out))
 go_loopg [26] k (fun kq v26 w' => ∃ (x7_1 : List Int) (x26_1 : Int), v26 = .int .i64 x26_1 ∧ Aside0 (natural_Multiply.l0 kq t446 x7_1 t443 (t443.length : Int) x26_1 = some r) ∧ Aside0 (kq ≤ k) ∧ Aside0 (Kd.V (Kd.int .u32) 85 w' w.heap.size (fun k_ => some k_ ≠ (v450 : Value).ownBlock) (.slice Ao11 t446.length co11) t446) ∧ Aside0 (Kd.R (Kd.int .u32) 85 w' w.heap.size (fun _ => True) v450 x7_1) ∧ Aside0 (Kd.V (Kd.int .u32) 85 w' w.heap.size (fun k_ => some k_ ≠ (v450 : Value).ownBlock) (.slice Ao10 t443.length co10) t443) ∧ Aside0 (Below w.heap.size w w'))
 case atStart => exact ⟨(y449), (0), xz, H', ⟨Nat.le_refl _⟩, ⟨by (with_reducible repeat (first | apply Kd.V_alloc | apply Kd.V_drewN | apply Kd.V_drew)); exact Kd.V_mono HO448.out (fun _ hk => hk.2)⟩, ⟨xr HO451.out⟩, ⟨by (with_reducible repeat (first | apply Kd.V_alloc | apply Kd.V_drewN | apply Kd.V_drew)); exact Kd.V_mono HO445.out (fun _ hk => hk.2)⟩, ⟨xs HB⟩⟩
 case round =>
  clear H'
  try clear p2
  try clear c4
  try clear c6
  try clear c6b0
  try clear c6b1
  try clear p6
  try clear c7
  try clear c7b0
  try clear c7b1
  obtain ⟨x7_1, x26_1, rfl, HA, HK1, HO_6, HO_7, HO_24, HB⟩ := hrel
  cases gk with
  | zero => exact absurd HA.out (by simp [natural_Multiply.l0])
  | succ k1 =>
   have H := HA.out
   clear HA
   simp only [natural_Multiply.l0] at H
   by_cases c14 : x26_1 < (t443.length : Int)
   ·rw [if_pos c14] at H
    have c14b0 : decide (x26_1 < (t443.length : Int)) = true := decide_eq_true c14
    clear c14
    by_cases c15 : 0 ≤ x26_1
    rotate_left
    ·rw [if_neg c15] at H
     exact absurd H (by simp)
    rw [if_pos c15] at H
    have c15b0 : decide (0 ≤ x26_1) = true := decide_eq_true c15
    clear c15
    by_cases c16 : x26_1 < (t443.length : Int)
    rotate_left
    ·rw [if_neg c16] at H
     exact absurd H (by simp)
    rw [if_pos c16] at H
    have c16b0 : decide (x26_1 < (t443.length : Int)) = true := decide_eq_true c16
    clear c16
    have H' := Aside0.mk H
    clear H
    have p453 : 0 ≤ (x26_1 : Int) := xa
    have q453 : x26_1 < (t443.length : Int) := xa
    obtain ⟨ad453, e453, hx453_0⟩ := Kd.at_int (Kd.V_reads' HO_24.out).2.2 x26_1 p453 q453
    cases e453
    replace p453 := eq_true p453
    replace q453 := eq_true q453
    go_wp2
    go_loopg [10, 33] k1 (fun kq v10 v33 w' => ∃ (x7_2 : List Int) (x10_2 : Int) (x33_2 : Int), v10 = .int .u64 x10_2 ∧ v33 = .int .i64 x33_2 ∧ Aside0 (natural_Multiply.l1 kq t446 x7_2 x26_1 (rd t443 x26_1) x10_2 t443 (t443.length : Int) x26_1 t446 (t446.length : Int) x33_2 = some r) ∧ Aside0 (kq ≤ k1) ∧ Aside0 (Kd.V (Kd.int .u32) 85 w' w.heap.size (fun k_ => some k_ ≠ (v450 : Value).ownBlock) (.slice Ao11 t446.length co11) t446) ∧ Aside0 (Kd.R (Kd.int .u32) 85 w' w.heap.size (fun _ => True) v450 x7_2) ∧ Aside0 (Kd.V (Kd.int .u32) 85 w' w.heap.size (fun k_ => some k_ ≠ (v450 : Value).ownBlock) (.slice (some ad453) t443.length co10) t443) ∧ Aside0 (Kd.V (Kd.int .u32) 85 w' w.heap.size (fun k_ => some k_ ≠ (v450 : Value).ownBlock) (.slice Ao11 t446.length co11) t446) ∧ Aside0 (Below w.heap.size w w'))
    case atStart => exact ⟨(x7_1), (0), (0), xz, xz, H', ⟨Nat.le_refl _⟩, ⟨xv HO_6.out⟩, ⟨xr HO_7.out⟩, ⟨xv HO_24.out⟩, ⟨xv HO_6.out⟩, ⟨xs HB⟩⟩
    case round =>
     clear H'
     try clear c1
     try clear p2
     try clear c4
     try clear p4
     try clear q4
     try clear hx4
     try clear c6
     try clear c6b0
     try clear c6b1
     try clear p6
     try clear c7
     try clear c7b0
     try clear c7b1
     try clear c14
     try clear c14b0
     try clear c15
     try clear c15b0
     try clear c16
     try clear c16b0
     try clear hx453_0
     try clear p2
     try clear p453
     try clear p6
     try clear q453
     obtain ⟨x7_2, x10_2, x33_2, rfl, rfl, HA, HK2, HO_6, HO_7, HO_24, HO_31, HB⟩ := hrel
     cases gk with
     | zero => exact absurd HA.out (by simp [natural_Multiply.l1])
     | succ k2 =>
      have H := HA.out
      clear HA
      simp only [natural_Multiply.l1] at H
      by_cases c17 : x33_2 < (t446.length : Int)
      ·rw [if_pos c17] at H
       have c17b0 : decide (x33_2 < (t446.length : Int)) = true := decide_eq_true c17
       clear c17
       by_cases c18 : 0 ≤ x33_2
       rotate_left
       ·rw [if_neg c18] at H
        exact absurd H (by simp)
       rw [if_pos c18] at H
       have c18b0 : decide (0 ≤ x33_2) = true := decide_eq_true c18
       clear c18
       by_cases c19 : x33_2 < (t446.length : Int)
       rotate_left
       ·rw [if_neg c19] at H
        exact absurd H (by simp)
       rw [if_pos c19] at H
       have c19b0 : decide (x33_2 < (t446.length : Int)) = true := decide_eq_true c19
       clear c19
       obtain ⟨ji20, hji20⟩ : ∃ j_ : Int, (wrap64 (x26_1 + x33_2)) = j_ := ⟨_, rfl⟩
       replace H : (if 0 ≤ (ji20) then (if (ji20) < (x7_2.length : Int) then (natural_Multiply.l1 k2 t446 (x7_2.set ((ji20) : Int).toNat ((IntKind.u64.wrap ((IntKind.u64.wrap ((IntKind.u64.wrap ((IntKind.u64.wrap ((rd t443 x26_1))) * (IntKind.u64.wrap (rd t446 x33_2)))) + (IntKind.u64.wrap (rd x7_2 (ji20))))) + x10_2)) % 4294967296)) x26_1 (rd t443 x26_1) ((IntKind.u64.wrap ((IntKind.u64.wrap ((IntKind.u64.wrap ((IntKind.u64.wrap ((rd t443 x26_1))) * (IntKind.u64.wrap (rd t446 x33_2)))) + (IntKind.u64.wrap (rd x7_2 (ji20))))) + x10_2)) / 4294967296) t443 (t443.length : Int) x26_1 t446 (t446.length : Int) (wrap64 (x33_2 + 1))) else (none)) else (none)) = some r := by first | (rw [hji20] at H; exact H) | (simp only [hji20] at H ⊢; exact H)
       have hji20w : (IntKind.i64.wrap (x26_1 + x33_2)) = ji20 := (i64_w _).trans hji20
       by_cases c21 : 0 ≤ (ji20)
       rotate_left
       ·rw [if_neg c21] at H
        exact absurd H (by simp)
       rw [if_pos c21] at H
       have c21b0 : decide (0 ≤ (ji20)) = true := decide_eq_true c21
       clear c21
       by_cases c22 : (ji20) < (x7_2.length : Int)
       rotate_left
       ·rw [if_neg c22] at H
        exact absurd H (by simp)
       rw [if_pos c22] at H
       have c22b0 : decide ((ji20) < (x7_2.length : Int)) = true := decide_eq_true c22
       clear c22
       obtain ⟨y456, hy456⟩ : ∃ y_ : List Int, y_ = (x7_2.set ((ji20) : Int).toNat ((IntKind.u64.wrap ((IntKind.u64.wrap ((IntKind.u64.wrap ((IntKind.u64.wrap ((rd t443 x26_1))) * (IntKind.u64.wrap (rd t446 x33_2)))) + (IntKind.u64.wrap (rd x7_2 (ji20))))) + x10_2)) % 4294967296)) := ⟨_, rfl⟩
       replace H : (natural_Multiply.l1 k2 t446 y456 x26_1 (rd t443 x26_1) ((IntKind.u64.wrap ((IntKind.u64.wrap ((IntKind.u64.wrap ((IntKind.u64.wrap ((rd t443 x26_1))) * (IntKind.u64.wrap (rd t446 x33_2)))) + (IntKind.u64.wrap (rd x7_2 (ji20))))) + x10_2)) / 4294967296) t443 (t443.length : Int) x26_1 t446 (t446.length : Int) (wrap64 (x33_2 + 1))) = some r := by first | (rw [hy456]; with_reducible exact H) | (have H2_ := (Option.bind_some _ _).symm.trans H; rw [hy456]; with_reducible exact H2_) | (have H2_ := (Option.bind_some _ _).symm.trans H; with_reducible exact H2_) | with_reducible exact H | (rw [hy456]; exact H) | exact H
       have Ny456 := Aside0.mk hy456
       clear hy456
       have H' := Aside0.mk H
       clear H
       have p454 : 0 ≤ (x33_2 : Int) := xa
       have q454 : x33_2 < (t446.length : Int) := xa
       obtain ⟨ad454, e454, hx454_0⟩ := Kd.at_int (Kd.V_reads' HO_31.out).2.2 x33_2 p454 q454
       cases e454
       replace p454 := eq_true p454
       replace q454 := eq_true q454
       obtain ⟨Ao24, co24, eo24⟩ := Kd.R_slice HO_7.out
       subst eo24
       have p455 : 0 ≤ ((ji20) : Int) := xa
       have q455 : (ji20) < (x7_2.length : Int) := xa
       obtain ⟨ad455, e455, hx455_0⟩ := Kd.at_int (Kd.R_reads' HO_7.out).2.2 (ji20) p455 q455
       cases e455
       replace p455 := eq_true p455
       replace q455 := eq_true q455
       have p23 : 0 ≤ ((ji20) : Int) := xa
       have q23 : ((ji20) : Int) < ((x7_2.length : Int) : Int) := xa
       obtain ⟨go23, co23, eo23, gb23, gl23, cl23, HG23⟩ := Kd.R_form HO_7.out (by omega)
       (first | cases eo23 | (injection eo23 with ea_ en_ ec_; (first | subst ea_ | (injection ea_ with ea_; subst ea_)); subst ec_; clear en_))
       have GB23 := Aside0.mk gb23
       have GG23 := Aside0.mk HG23
       clear gb23 gl23 HG23
       (first | simp only [add_plain] at hx455_0 | skip)
       obtain ⟨hx23_0, hf23_0⟩ := Kd.R_celln 0 HO_7.out ((ji20) : Int) p23 q23
       replace p23 := eq_true p23
       replace q23 := eq_true q23
       have HP25 := Kd.R_putg HO_7.out ((ji20) : Int) ((IntKind.u64.wrap ((IntKind.u64.wrap ((IntKind.u64.wrap ((IntKind.u64.wrap ((rd t443 x26_1))) * (IntKind.u64.wrap (rd t446 x33_2)))) + (IntKind.u64.wrap (rd x7_2 (ji20))))) + x10_2)) % 4294967296)
       go_wp2_with (first | ((with_reducible refine gate_store (t := 85) (p := 59) rfl ?_); refine store_event (t := 85) (p := 59) (v := ?vo_w26) (w1 := (wr.setCell ⟨go23, ((ji20) : Int).toNat, none⟩ (.int .u32 ((IntKind.u64.wrap ((IntKind.u64.wrap ((IntKind.u64.wrap ((IntKind.u64.wrap ((rd t443 x26_1))) * (IntKind.u64.wrap (rd t446 x33_2)))) + (IntKind.u64.wrap (rd x7_2 (ji20))))) + x10_2)) % 4294967296)))) ?hg ?ho ?hn ?hr ?_; (case ho => rfl); (case hg => rfl); (case hn => rfl); (case hr => first | (go_simp; done) | (go_simp; rfl)); intro w26 hw; have hg : wr.grownBy w26 (some go23) := (by rw [hw]; exact HP25.2); have hp_ : Kd.R (Kd.int .u32) 85 w26 w.heap.size (fun _ => True) (.slice (some ⟨go23, 0, none⟩) x7_2.length co24) y456 := (by rw [hw, Ny456.out]; exact HP25.1); clear HP25; replace HO_6 := Aside0.mk (Kd.V_afterv (v := (.slice (some ⟨go23, 0, none⟩) x7_2.length co24)) (v1 := (.slice (some ⟨go23, 0, none⟩) x7_2.length co24)) (ok := (fun _ => True)) (by (with_reducible repeat (first | apply Kd.V_alloc | apply Kd.V_drewN | apply Kd.V_drew)); exact Kd.V_mono HO_6.out (fun _ hk => by first | exact ⟨trivial, hk⟩ | (simp only [ob_map] at hk ⊢; first | exact ⟨trivial, hk⟩ | grind) | grind)) hg (.inl rfl)); replace HO_7 := Aside0.mk (hp_); replace HO_24 := Aside0.mk (Kd.V_afterv (v := (.slice (some ⟨go23, 0, none⟩) x7_2.length co24)) (v1 := (.slice (some ⟨go23, 0, none⟩) x7_2.length co24)) (ok := (fun _ => True)) (by (with_reducible repeat (first | apply Kd.V_alloc | apply Kd.V_drewN | apply Kd.V_drew)); exact Kd.V_mono HO_24.out (fun _ hk => by first | exact ⟨trivial, hk⟩ | (simp only [ob_map] at hk ⊢; first | exact ⟨trivial, hk⟩ | grind) | grind)) hg (.inl rfl)); replace HO_31 := Aside0.mk (Kd.V_afterv (v := (.slice (some ⟨go23, 0, none⟩) x7_2.length co24)) (v1 := (.slice (some ⟨go23, 0, none⟩) x7_2.length co24)) (ok := (fun _ => True)) (by (with_reducible repeat (first | apply Kd.V_alloc | apply Kd.V_drewN | apply Kd.V_drew)); exact Kd.V_mono HO_31.out (fun _ hk => by first | exact ⟨trivial, hk⟩ | (simp only [ob_map] at hk ⊢; first | exact ⟨trivial, hk⟩ | grind) | grind)) hg (.inl rfl)); replace HB := Aside0.mk ((by rw [hw]; exact below_set (HB.out) GB23.out : Below w.heap.size w w26)); clear hg hw hp_))
       (first | go_roundg k2 | (refine Handed.intro k2 ?measure ?_; rotate_left; go_step; (repeat apply Exists.intro); refine ⟨?rel, (by first | rfl | (simp only [add_plain]; rfl))⟩))
       case measure => have := HK1.out; have := HK2.out; omega
       case rel => exact ⟨(y456), ((IntKind.u64.wrap ((IntKind.u64.wrap ((IntKind.u64.wrap ((IntKind.u64.wrap ((rd t443 x26_1))) * (IntKind.u64.wrap (rd t446 x33_2)))) + (IntKind.u64.wrap (rd x7_2 (ji20))))) + x10_2)) / 4294967296), (wrap64 (x33_2 + 1)), (by first | rfl | (simp; done) | (simp only [← hji20] <;> (first | rfl | simp)) | (simp [*]; done)), xz, H', ⟨by have := HK1.out; have := HK2.out; omega⟩, ⟨by (with_reducible repeat (first | apply Kd.V_alloc | apply Kd.V_drewN | apply Kd.V_drew)); exact Kd.V_mono HO_6.out (fun _ hk => hk.2)⟩, ⟨xr HO_7.out⟩, ⟨by (with_reducible repeat (first | apply Kd.V_alloc | apply Kd.V_drewN | apply Kd.V_drew)); exact Kd.V_mono HO_24.out (fun _ hk => hk.2)⟩, ⟨by (with_reducible repeat (first | apply Kd.V_alloc | apply Kd.V_drewN | apply Kd.V_drew)); exact Kd.V_mono HO_31.out (fun _ hk => hk.2)⟩, ⟨xs HB⟩⟩
      ·rw [if_neg c17] at H
       have c17b0 : decide (x33_2 < (t446.length : Int)) = false := decide_eq_false c17
       clear c17
       obtain ⟨ji27, hji27⟩ : ∃ j_ : Int, (wrap64 (x26_1 + (t446.length : Int))) = j_ := ⟨_, rfl⟩
       replace H : (if 0 ≤ (ji27) then (if (ji27) < (x7_2.length : Int) then (natural_Multiply.l0 k2 t446 (x7_2.set ((ji27) : Int).toNat ((x10_2) % 4294967296)) t443 (t443.length : Int) (wrap64 (x26_1 + 1))) else (none)) else (none)) = some r := by first | (rw [hji27] at H; exact H) | (simp only [hji27] at H ⊢; exact H)
       have hji27w : (IntKind.i64.wrap (x26_1 + (t446.length : Int))) = ji27 := (i64_w _).trans hji27
       by_cases c28 : 0 ≤ (ji27)
       rotate_left
       ·rw [if_neg c28] at H
        exact absurd H (by simp)
       rw [if_pos c28] at H
       have c28b0 : decide (0 ≤ (ji27)) = true := decide_eq_true c28
       clear c28
       by_cases c29 : (ji27) < (x7_2.length : Int)
       rotate_left
       ·rw [if_neg c29] at H
        exact absurd H (by simp)
       rw [if_pos c29] at H
       have c29b0 : decide ((ji27) < (x7_2.length : Int)) = true := decide_eq_true c29
       clear c29
       obtain ⟨y457, hy457⟩ : ∃ y_ : List Int, y_ = (x7_2.set ((ji27) : Int).toNat ((x10_2) % 4294967296)) := ⟨_, rfl⟩
       replace H : (natural_Multiply.l0 k2 t446 y457 t443 (t443.length : Int) (wrap64 (x26_1 + 1))) = some r := by first | (rw [hy457]; with_reducible exact H) | (have H2_ := (Option.bind_some _ _).symm.trans H; rw [hy457]; with_reducible exact H2_) | (have H2_ := (Option.bind_some _ _).symm.trans H; with_reducible exact H2_) | with_reducible exact H | (rw [hy457]; exact H) | exact H
       have Ny457 := Aside0.mk hy457
       clear hy457
       have H' := Aside0.mk H
       clear H
       have p30 : 0 ≤ ((ji27) : Int) := xa
       have q30 : ((ji27) : Int) < ((x7_2.length : Int) : Int) := xa
       obtain ⟨go30, co30, eo30, gb30, gl30, cl30, HG30⟩ := Kd.R_form HO_7.out (by omega)
       (first | cases eo30 | (injection eo30 with ea_ en_ ec_; (first | subst ea_ | (injection ea_ with ea_; subst ea_)); subst ec_; clear en_))
       have GB30 := Aside0.mk gb30
       have GG30 := Aside0.mk HG30
       clear gb30 gl30 HG30
       obtain ⟨hx30_0, hf30_0⟩ := Kd.R_celln 0 HO_7.out ((ji27) : Int) p30 q30
       replace p30 := eq_true p30
       replace q30 := eq_true q30
       have HP31 := Kd.R_putg HO_7.out ((ji27) : Int) ((x10_2) % 4294967296)
       go_wp2_with (first | ((with_reducible refine gate_store (t := 85) (p := 70) rfl ?_); refine store_event (t := 85) (p := 70) (v := ?vo_w32) (w1 := (wr.setCell ⟨go30, ((ji27) : Int).toNat, none⟩ (.int .u32 ((x10_2) % 4294967296)))) ?hg ?ho ?hn ?hr ?_; (case ho => rfl); (case hg => rfl); (case hn => rfl); (case hr => first | (go_simp; done) | (go_simp; rfl)); intro w32 hw; have hg : wr.grownBy w32 (some go30) := (by rw [hw]; exact HP31.2); have hp_ : Kd.R (Kd.int .u32) 85 w32 w.heap.size (fun _ => True) (.slice (some ⟨go30, 0, none⟩) x7_2.length co30) y457 := (by rw [hw, Ny457.out]; exact HP31.1); clear HP31; replace HO_6 := Aside0.mk (Kd.V_afterv (v := (.slice (some ⟨go30, 0, none⟩) x7_2.length co30)) (v1 := (.slice (some ⟨go30, 0, none⟩) x7_2.length co30)) (ok := (fun _ => True)) (by (with_reducible repeat (first | apply Kd.V_alloc | apply Kd.V_drewN | apply Kd.V_drew)); exact Kd.V_mono HO_6.out (fun _ hk => by first | exact ⟨trivial, hk⟩ | (simp only [ob_map] at hk ⊢; first | exact ⟨trivial, hk⟩ | grind) | grind)) hg (.inl rfl)); replace HO_7 := Aside0.mk (hp_); replace HO_24 := Aside0.mk (Kd.V_afterv (v := (.slice (some ⟨go30, 0, none⟩) x7_2.length co30)) (v1 := (.slice (some ⟨go30, 0, none⟩) x7_2.length co30)) (ok := (fun _ => True)) (by (with_reducible repeat (first | apply Kd.V_alloc | apply Kd.V_drewN | apply Kd.V_drew)); exact Kd.V_mono HO_24.out (fun _ hk => by first | exact ⟨trivial, hk⟩ | (simp only [ob_map] at hk ⊢; first | exact ⟨trivial, hk⟩ | grind) | grind)) hg (.inl rfl)); replace HO_31 := Aside0.mk (Kd.V_afterv (v := (.slice (some ⟨go30, 0, none⟩) x7_2.length co30)) (v1 := (.slice (some ⟨go30, 0, none⟩) x7_2.length co30)) (ok := (fun _ => True)) (by (with_reducible repeat (first | apply Kd.V_alloc | apply Kd.V_drewN | apply Kd.V_drew)); exact Kd.V_mono HO_31.out (fun _ hk => by first | exact ⟨trivial, hk⟩ | (simp only [ob_map] at hk ⊢; first | exact ⟨trivial, hk⟩ | grind) | grind)) hg (.inl rfl)); replace HB := Aside0.mk ((by rw [hw]; exact below_set (HB.out) GB30.out : Below w.heap.size w w32)); clear hg hw hp_))
       (first | go_roundg k2 | (refine Handed.intro k2 ?measure ?_; rotate_left; go_step; (repeat apply Exists.intro); refine ⟨?rel, (by first | rfl | (simp only [add_plain]; rfl))⟩))
       case measure => have := HK1.out; have := HK2.out; omega
       case rel => exact ⟨(y457), (wrap64 (x26_1 + 1)), xz, H', ⟨by have := HK1.out; have := HK2.out; omega⟩, ⟨by (with_reducible repeat (first | apply Kd.V_alloc | apply Kd.V_drewN | apply Kd.V_drew)); exact Kd.V_mono HO_6.out (fun _ hk => hk.2)⟩, ⟨xr HO_7.out⟩, ⟨by (with_reducible repeat (first | apply Kd.V_alloc | apply Kd.V_drewN | apply Kd.V_drew)); exact Kd.V_mono HO_24.out (fun _ hk => hk.2)⟩, ⟨xs HB⟩⟩
   ·rw [if_neg c14] at H
    have c14b0 : decide (x26_1 < (t443.length : Int)) = false := decide_eq_false c14
    clear c14
    replace H := xH H; obtain ⟨t452, A33, H⟩ := H
    obtain rfl := Option.some.inj H
    obtain ⟨Ao34, co34, eo34⟩ := Kd.R_slice HO_7.out
    subst eo34
    go_wp2_with (first | (refine xg Tryd.func78 (some 73) #[.slice Ao34 x7_1.length co34] ?_; (with_reducible refine (natural_limbs_text.calls k1 _ _ x7_1 t452 _ ?side1 ?side2 A33.out).mono ?_); (case side1 => repeat (first | exact (Kd.R_reads' HO_7.out).2.2 | (with_reducible refine Kd.C_alloc ?_ _) | (with_reducible refine Kd.C_drewN ?_ _) | (with_reducible refine Kd.C_drew ?_))); (case side2 => exact (Kd.R_reads' HO_7.out).2.1); rintro e w35 ⟨rfl, hb⟩; refine ⟨_, rfl, ?_⟩; replace HO_6 := Aside0.mk (Kd.V_below (xv HO_6.out) hb); replace HO_7 := Aside0.mk (Kd.R_below (xr HO_7.out) hb); replace HO_24 := Aside0.mk (Kd.V_below (xv HO_24.out) hb); replace HB := xS HB hb; clear hb))
    go_ret
    exact ⟨by first | rfl | (simp [errW_none, errW_some] <;> rfl) | (simp only [← hji5]; first | rfl | (simp [errW_none, errW_some] <;> rfl)) | (simp [*, errW_none, errW_some] <;> rfl), xs HB⟩
/-! ### rational_den: function 49 -/
def rational_den.f (a0_0 : Bool) (a0_1 : ByteArray) (a0_2 : ByteArray) : Option (ByteArray) := if a0_2.toList = ([] : List UInt8) then (some (⟨#[1]⟩ : ByteArray)) else (some a0_2)
set_option maxHeartbeats 8000000 in
set_option maxRecDepth 100000 in
theorem rational_den.calls (a0_0 : Bool) (a0_1 : ByteArray) (a0_2 : ByteArray) (r : ByteArray) (w : World) (h : rational_den.f a0_0 a0_1 a0_2 = some r) :
  Calls Tryd.prog 49 #[.agg #[.bool a0_0, .string a0_1, .string a0_2]] w fun e w' => e = .returned (.string r) ∧ Below w.heap.size w w' := by
 have hu25 := Tryd.underlying25
 have HB := Aside0.mk (Below.refl w.heap.size w)
 have H : (if a0_2.toList = ([] : List UInt8) then (some (⟨#[1]⟩ : ByteArray)) else (some a0_2)) = some r := h
 clear h
 by_cases c2 : a0_2.toList = ([] : List UInt8)
 ·rw [if_pos c2] at H
  have c2b0 : (a0_2.toList == ([] : List UInt8)) = true := beq_iff_eq.mpr c2
  have c2b1 : (a0_2.toList != ([] : List UInt8)) = false := bne_eq_false_iff_eq.mpr c2
  clear c2
  obtain rfl := Option.some.inj H
  go_enter Tryd.func49, Tryd.ntmps49
  go_wp2_with (first | (refine xE (N := 1) #[.bool a0_0, .string a0_1, .string a0_2] 25 rfl ?_; intro gb458 hg w3 hbox hb; have BK458 := Aside0.mk (hbox); have GW458 := (xG HB hg); have GE458 := (xG HB hg); replace HB := xS HB hb; clear hb hbox hg; obtain ⟨hcz4_0, hcz4_1, hcz4_2, hfz4_0, hfz4_1, hfz4_2⟩ := x6 BK458))
  go_ret
  exact ⟨xy, xs HB⟩
 ·rw [if_neg c2] at H
  have c2b0 : (a0_2.toList == ([] : List UInt8)) = false := beq_eq_false_iff_ne.mpr c2
  have c2b1 : (a0_2.toList != ([] : List UInt8)) = true := bne_iff_ne.mpr c2
  obtain rfl := Option.some.inj H
  go_enter Tryd.func49, Tryd.ntmps49
  go_wp2_with (first | (refine xE (N := 1) #[.bool a0_0, .string a0_1, .string a0_2] 25 rfl ?_; intro gb458 hg w5 hbox hb; have BK458 := Aside0.mk (hbox); have GW458 := (xG HB hg); have GE458 := (xG HB hg); replace HB := xS HB hb; clear hb hbox hg; obtain ⟨hcz6_0, hcz6_1, hcz6_2, hfz6_0, hfz6_1, hfz6_2⟩ := x6 BK458))
  go_ret
  exact ⟨xy, xs HB⟩
/-! ### natural_Divide: function 84 -/
def natural_Divide.f (k : Nat) (a0 : ByteArray) (a1 : ByteArray) : Option (ByteArray × ByteArray × Bool) := (natural_parse.f k a1).bind fun t459 => (if (t459.length : Int) = 0 then (some ((⟨#[]⟩ : ByteArray), (⟨#[]⟩ : ByteArray), false)) else ((natural_parse.f k a0).bind fun t462 => ((natural_divide.f k t462 t459).bind fun bt465 => ((natural_limbs_text.f k bt465.1).bind fun t471 => ((natural_limbs_text.f k bt465.2).bind fun t472 => (some (t471, t472, true)))))))
theorem natural_Divide.mono : ∀ a0 a1 k, LeO (natural_Divide.f k a0 a1) (natural_Divide.f (k + 1) a0 a1) := by
 intro a0 a1 k
 unfold natural_Divide.f
 have m0 := @natural_divide.mono; have m1 := @natural_limbs_text.mono; have m2 := @natural_parse.mono; exact xM
set_option maxHeartbeats 8000000 in
set_option maxRecDepth 100000 in
theorem natural_Divide.calls (k : Nat) (a0 : ByteArray) (a1 : ByteArray) (r1 : ByteArray) (r2 : ByteArray) (r3 : Bool) (w : World) (h : natural_Divide.f k a0 a1 = some (r1, r2, r3)) :
  Calls Tryd.prog 84 #[.string a0, .string a1] w fun e w' => e = .returned (.tuple #[.string r1, .string r2, .bool r3]) ∧ Below w.heap.size w w' := by
 have HB := Aside0.mk (Below.refl w.heap.size w)
 have H : ((natural_parse.f k a1).bind fun t459 => (if (t459.length : Int) = 0 then (some ((⟨#[]⟩ : ByteArray), (⟨#[]⟩ : ByteArray), false)) else ((natural_parse.f k a0).bind fun t462 => ((natural_divide.f k t462 t459).bind fun bt465 => ((natural_limbs_text.f k bt465.1).bind fun t471 => ((natural_limbs_text.f k bt465.2).bind fun t472 => (some (t471, t472, true)))))))) = some (r1, r2, r3) := h
 clear h
 replace H := xH H; obtain ⟨t459, A3, H⟩ := H
 by_cases c4 : (t459.length : Int) = 0
 ·rw [if_pos c4] at H
  have c4b0 : ((t459.length : Int) == 0) = true := beq_iff_eq.mpr c4
  have c4b1 : ((t459.length : Int) != 0) = false := bne_eq_false_iff_eq.mpr c4
  clear c4
  simp only [Option.some.injEq, Prod.mk.injEq] at H
  obtain ⟨rfl, rfl, rfl⟩ := H
  go_enter Tryd.func84, Tryd.ntmps84
  go_wp2_with (first | (refine xg Tryd.func77 (some 11) #[.string a1] ?_; (with_reducible refine (natural_parse.calls k a1 t459 _ A3.out).mono ?_); rintro e w5 ⟨v460, rfl, ho0, hb⟩; refine ⟨_, rfl, ?_⟩; have HO461 := Aside0.mk (Kd.V_lower (Kd.V_mono (ok' := fun k_ => True) ho0 (fun k_ hk_ => trivial)) (below_size (xs HB))); replace HB := xS HB hb; clear hb ho0; obtain ⟨Ao6, co6, eo6⟩ := Kd.V_slice HO461.out; subst eo6))
  go_ret3
  exact ⟨xy, xs HB⟩
 ·rw [if_neg c4] at H
  have c4b0 : ((t459.length : Int) == 0) = false := beq_eq_false_iff_ne.mpr c4
  have c4b1 : ((t459.length : Int) != 0) = true := bne_iff_ne.mpr c4
  have c4b2 : ¬ (t459 = []) := fun h_ => c4 (by rw [h_]; rfl)
  replace H := xH H; obtain ⟨t462, A7, H⟩ := H
  replace H := xH H; obtain ⟨⟨t465, t468⟩, A8, H⟩ := H
  dsimp only at H
  replace H := xH H; obtain ⟨t471, A9, H⟩ := H
  replace H := xH H; obtain ⟨t472, A10, H⟩ := H
  simp only [Option.some.injEq, Prod.mk.injEq] at H
  obtain ⟨rfl, rfl, rfl⟩ := H
  go_enter Tryd.func84, Tryd.ntmps84
  go_wp2_with (first | (refine xg Tryd.func77 (some 11) #[.string a1] ?_; (with_reducible refine (natural_parse.calls k a1 t459 _ A3.out).mono ?_); rintro e w11 ⟨v460, rfl, ho0, hb⟩; refine ⟨_, rfl, ?_⟩; have HO461 := Aside0.mk (Kd.V_lower (Kd.V_mono (ok' := fun k_ => True) ho0 (fun k_ hk_ => trivial)) (below_size (xs HB))); replace HB := xS HB hb; clear hb ho0; obtain ⟨Ao12, co12, eo12⟩ := Kd.V_slice HO461.out; subst eo12) | (refine xg Tryd.func77 (some 17) #[.string a0] ?_; (with_reducible refine (natural_parse.calls k a0 t462 _ A7.out).mono ?_); rintro e w13 ⟨v463, rfl, ho0, hb⟩; refine ⟨_, rfl, ?_⟩; replace HO461 := Aside0.mk (Kd.V_below (xv HO461.out) hb); have HO464 := Aside0.mk (Kd.V_lower (Kd.V_mono (ok' := fun k_ => True) ho0 (fun k_ hk_ => trivial)) (below_size (xs HB))); replace HB := xS HB hb; clear hb ho0; obtain ⟨Ao14, co14, eo14⟩ := Kd.V_slice HO464.out; subst eo14) | (refine xg Tryd.func99 (some 19) #[.slice Ao14 t462.length co14, .slice Ao12 t459.length co12] ?_; (with_reducible refine (natural_divide.calls k (fun k_ => True) _ _ t462 _ _ t459 t465 t468 _ HO464.out (xf (Kd.V_reads' HO461.out).2.2) (Kd.V_reads' HO461.out).2.1 A8.out).mono ?_); rintro e w15 ⟨v466, v469, rfl, ho0, ho1, hb⟩; refine ⟨_, rfl, ?_⟩; replace HO461 := Aside0.mk (Kd.V_below (xv HO461.out) hb); replace HO464 := Aside0.mk (Kd.V_below (xv HO464.out) hb); have HO467 := Aside0.mk (Kd.V_lower (Kd.V_mono (ok' := fun k_ => True) ho0 (fun k_ hk_ => trivial)) (below_size (xs HB))); have HO470 := Aside0.mk (Kd.V_lower (Kd.V_mono (ok' := fun k_ => True) ho1 (fun k_ hk_ => trivial)) (below_size (xs HB))); replace HB := xS HB hb; clear hb ho0 ho1; obtain ⟨Ao16, co16, eo16⟩ := Kd.V_slice HO467.out; subst eo16) | (refine xg Tryd.func78 (some 23) #[.slice Ao16 t465.length co16] ?_; (with_reducible refine (natural_limbs_text.calls k _ _ t465 t471 _ (xf (Kd.V_reads' HO467.out).2.2) (Kd.V_reads' HO467.out).2.1 A9.out).mono ?_); rintro e w17 ⟨rfl, hb⟩; refine ⟨_, rfl, ?_⟩; replace HO461 := Aside0.mk (Kd.V_below (xv HO461.out) hb); replace HO464 := Aside0.mk (Kd.V_below (xv HO464.out) hb); replace HO467 := Aside0.mk (Kd.V_below (xv HO467.out) hb); replace HO470 := Aside0.mk (Kd.V_below (xv HO470.out) hb); replace HB := xS HB hb; clear hb; obtain ⟨Ao18, co18, eo18⟩ := Kd.V_slice HO470.out; subst eo18) | (refine xg Tryd.func78 (some 25) #[.slice Ao18 t468.length co18] ?_; (with_reducible refine (natural_limbs_text.calls k _ _ t468 t472 _ (xf (Kd.V_reads' HO470.out).2.2) (Kd.V_reads' HO470.out).2.1 A10.out).mono ?_); rintro e w19 ⟨rfl, hb⟩; refine ⟨_, rfl, ?_⟩; replace HO461 := Aside0.mk (Kd.V_below (xv HO461.out) hb); replace HO464 := Aside0.mk (Kd.V_below (xv HO464.out) hb); replace HO467 := Aside0.mk (Kd.V_below (xv HO467.out) hb); replace HO470 := Aside0.mk (Kd.V_below (xv HO470.out) hb); replace HB := xS HB hb; clear hb))
  (try have eA7_ := Option.some.inj (A3.out.symm.trans A7.out))
  (try have eA10_ := Option.some.inj (A9.out.symm.trans A10.out))
  go_ret3
  exact ⟨xy, xs HB⟩
/-! ### rational_reduced: function 52 -/
def rational_reduced.f (k : Nat) (a0 : Bool) (a1 : ByteArray) (a2 : ByteArray) : Option (Bool × ByteArray × ByteArray) := (natural_Normalize.f k a1).bind fun t474 => ((natural_Normalize.f k a2).bind fun t475 => (if t474.toList = ([] : List UInt8) then (some (false, (⟨#[]⟩ : ByteArray), (⟨#[]⟩ : ByteArray))) else (if t475.toList = ([1] : List UInt8) then (some (a0, t474, (⟨#[]⟩ : ByteArray))) else ((natural_GCD.f k t474 t475).bind fun t476 => (if t476.toList = ([1] : List UInt8) then (some (a0, t474, t475)) else ((natural_Divide.f k t474 t476).bind fun bt477 => ((natural_Divide.f k t475 t476).bind fun bt480 => (if bt480.1.toList = ([1] : List UInt8) then (some (a0, bt477.1, (⟨#[]⟩ : ByteArray))) else (some (a0, bt477.1, bt480.1))))))))))
theorem rational_reduced.mono : ∀ a0 a1 a2 k, LeO (rational_reduced.f k a0 a1 a2) (rational_reduced.f (k + 1) a0 a1 a2) := by
 intro a0 a1 a2 k
 unfold rational_reduced.f
 have m0 := @natural_Divide.mono; have m1 := @natural_GCD.mono; have m2 := @natural_Normalize.mono; exact xM
set_option maxHeartbeats 8000000 in
set_option maxRecDepth 100000 in
theorem rational_reduced.calls (k : Nat) (a0 : Bool) (a1 : ByteArray) (a2 : ByteArray) (r1 : Bool) (r2 : ByteArray) (r3 : ByteArray) (w : World) (h : rational_reduced.f k a0 a1 a2 = some (r1, r2, r3)) :
  Calls Tryd.prog 52 #[.bool a0, .string a1, .string a2] w fun e w' => e = .returned (.agg #[.bool r1, .string r2, .string r3]) ∧ Below w.heap.size w w' := by
 have hu25 := Tryd.underlying25
 have HB := Aside0.mk (Below.refl w.heap.size w)
 have H : ((natural_Normalize.f k a1).bind fun t474 => ((natural_Normalize.f k a2).bind fun t475 => (if t474.toList = ([] : List UInt8) then (some (false, (⟨#[]⟩ : ByteArray), (⟨#[]⟩ : ByteArray))) else (if t475.toList = ([1] : List UInt8) then (some (a0, t474, (⟨#[]⟩ : ByteArray))) else ((natural_GCD.f k t474 t475).bind fun t476 => (if t476.toList = ([1] : List UInt8) then (some (a0, t474, t475)) else ((natural_Divide.f k t474 t476).bind fun bt477 => ((natural_Divide.f k t475 t476).bind fun bt480 => (if bt480.1.toList = ([1] : List UInt8) then (some (a0, bt477.1, (⟨#[]⟩ : ByteArray))) else (some (a0, bt477.1, bt480.1))))))))))) = some (r1, r2, r3) := h
 clear h
 replace H := xH H; obtain ⟨t474, A4, H⟩ := H
 replace H := xH H; obtain ⟨t475, A5, H⟩ := H
 by_cases c6 : t474.toList = ([] : List UInt8)
 ·rw [if_pos c6] at H
  have c6b0 : (t474.toList == ([] : List UInt8)) = true := beq_iff_eq.mpr c6
  have c6b1 : (t474.toList != ([] : List UInt8)) = false := bne_eq_false_iff_eq.mpr c6
  clear c6
  simp only [Option.some.injEq, Prod.mk.injEq] at H
  obtain ⟨rfl, rfl, rfl⟩ := H
  go_enter Tryd.func52, Tryd.ntmps52
  go_wp2_with (first | (refine xE (N := 6) #[.bool false, .string (⟨#[]⟩ : ByteArray), .string (⟨#[]⟩ : ByteArray)] 25 rfl ?_; intro gb473 hg w7 hbox hb; have BK473 := Aside0.mk (hbox); have GW473 := (xG HB hg); have GE473 := (xG HB hg); replace HB := xS HB hb; clear hb hbox hg) | (refine xC Tryd.func74 (some 9) (natural_Normalize.calls k a1 t474 _ A4.out) ?_; rintro w8 hb; replace BK473 := xB BK473 hb; replace HB := xS HB hb; clear hb) | (refine xC Tryd.func74 (some 11) (natural_Normalize.calls k a2 t475 _ A5.out) ?_; rintro w9 hb; replace BK473 := xB BK473 hb; replace HB := xS HB hb; clear hb; obtain ⟨hcz10_0, hcz10_1, hcz10_2, hfz10_0, hfz10_1, hfz10_2⟩ := x6 BK473))
  (try have eA5_ := Option.some.inj (A4.out.symm.trans A5.out))
  refine bodyPost_ret (results_cell_row rfl _ _ gb473 25 #[.bool false, .string (⟨#[]⟩ : ByteArray), .string (⟨#[]⟩ : ByteArray)] (0, 0) _ rfl (xp BK473) Tryd.underlying25 rfl (by kernel_rfl)) rfl ?_
  exact ⟨xy, xs HB⟩
 ·rw [if_neg c6] at H
  have c6b0 : (t474.toList == ([] : List UInt8)) = false := beq_eq_false_iff_ne.mpr c6
  have c6b1 : (t474.toList != ([] : List UInt8)) = true := bne_iff_ne.mpr c6
  by_cases c11 : t475.toList = ([1] : List UInt8)
  ·rw [if_pos c11] at H
   have c11b0 : (t475.toList == ([1] : List UInt8)) = true := beq_iff_eq.mpr c11
   have c11b1 : (t475.toList != ([1] : List UInt8)) = false := bne_eq_false_iff_eq.mpr c11
   clear c11
   simp only [Option.some.injEq, Prod.mk.injEq] at H
   obtain ⟨rfl, rfl, rfl⟩ := H
   go_enter Tryd.func52, Tryd.ntmps52
   go_wp2_with (first | (refine xE (N := 6) #[.bool false, .string (⟨#[]⟩ : ByteArray), .string (⟨#[]⟩ : ByteArray)] 25 rfl ?_; intro gb473 hg w12 hbox hb; have BK473 := Aside0.mk (hbox); have GW473 := (xG HB hg); have GE473 := (xG HB hg); replace HB := xS HB hb; clear hb hbox hg) | (refine xC Tryd.func74 (some 9) (natural_Normalize.calls k a1 t474 _ A4.out) ?_; rintro w13 hb; replace BK473 := xB BK473 hb; replace HB := xS HB hb; clear hb) | (refine xC Tryd.func74 (some 11) (natural_Normalize.calls k a2 t475 _ A5.out) ?_; rintro w14 hb; replace BK473 := xB BK473 hb; replace HB := xS HB hb; clear hb; obtain ⟨hcz15_0, hcz15_1, hcz15_2, hfz15_0, hfz15_1, hfz15_2⟩ := x6 BK473))
   (try have eA5_ := Option.some.inj (A4.out.symm.trans A5.out))
   refine bodyPost_ret (results_cell_row rfl _ _ gb473 25 #[.bool a0, .string t474, .string (⟨#[]⟩ : ByteArray)] (0, 0) _ rfl (xp BK473) Tryd.underlying25 rfl (by kernel_rfl)) rfl ?_
   exact ⟨xy, xs HB⟩
  ·rw [if_neg c11] at H
   have c11b0 : (t475.toList == ([1] : List UInt8)) = false := beq_eq_false_iff_ne.mpr c11
   have c11b1 : (t475.toList != ([1] : List UInt8)) = true := bne_iff_ne.mpr c11
   replace H := xH H; obtain ⟨t476, A16, H⟩ := H
   by_cases c17 : t476.toList = ([1] : List UInt8)
   ·rw [if_pos c17] at H
    have c17b0 : (t476.toList == ([1] : List UInt8)) = true := beq_iff_eq.mpr c17
    have c17b1 : (t476.toList != ([1] : List UInt8)) = false := bne_eq_false_iff_eq.mpr c17
    clear c17
    simp only [Option.some.injEq, Prod.mk.injEq] at H
    obtain ⟨rfl, rfl, rfl⟩ := H
    go_enter Tryd.func52, Tryd.ntmps52
    go_wp2_with (first | (refine xE (N := 6) #[.bool false, .string (⟨#[]⟩ : ByteArray), .string (⟨#[]⟩ : ByteArray)] 25 rfl ?_; intro gb473 hg w18 hbox hb; have BK473 := Aside0.mk (hbox); have GW473 := (xG HB hg); have GE473 := (xG HB hg); replace HB := xS HB hb; clear hb hbox hg) | (refine xC Tryd.func74 (some 9) (natural_Normalize.calls k a1 t474 _ A4.out) ?_; rintro w19 hb; replace BK473 := xB BK473 hb; replace HB := xS HB hb; clear hb) | (refine xC Tryd.func74 (some 11) (natural_Normalize.calls k a2 t475 _ A5.out) ?_; rintro w20 hb; replace BK473 := xB BK473 hb; replace HB := xS HB hb; clear hb) | (refine xC Tryd.func83 (some 19) (natural_GCD.calls k t474 t475 t476 _ A16.out) ?_; rintro w21 hb; replace BK473 := xB BK473 hb; replace HB := xS HB hb; clear hb; obtain ⟨hcz22_0, hcz22_1, hcz22_2, hfz22_0, hfz22_1, hfz22_2⟩ := x6 BK473))
    (try have eA5_ := Option.some.inj (A4.out.symm.trans A5.out))
    refine bodyPost_ret (results_cell_row rfl _ _ gb473 25 #[.bool a0, .string t474, .string t475] (0, 0) _ rfl (xp BK473) Tryd.underlying25 rfl (by kernel_rfl)) rfl ?_
    exact ⟨xy, xs HB⟩
   ·rw [if_neg c17] at H
    have c17b0 : (t476.toList == ([1] : List UInt8)) = false := beq_eq_false_iff_ne.mpr c17
    have c17b1 : (t476.toList != ([1] : List UInt8)) = true := bne_iff_ne.mpr c17
    replace H := xH H; obtain ⟨⟨t477, t478, t479⟩, A23, H⟩ := H
    dsimp only at H
    replace H := xH H; obtain ⟨⟨t480, t481, t482⟩, A24, H⟩ := H
    dsimp only at H
    by_cases c25 : t480.toList = ([1] : List UInt8)
    ·rw [if_pos c25] at H
     have c25b0 : (t480.toList == ([1] : List UInt8)) = true := beq_iff_eq.mpr c25
     have c25b1 : (t480.toList != ([1] : List UInt8)) = false := bne_eq_false_iff_eq.mpr c25
     clear c25
     simp only [Option.some.injEq, Prod.mk.injEq] at H
     obtain ⟨rfl, rfl, rfl⟩ := H
     go_enter Tryd.func52, Tryd.ntmps52
     go_wp2_with (first | (refine xE (N := 6) #[.bool false, .string (⟨#[]⟩ : ByteArray), .string (⟨#[]⟩ : ByteArray)] 25 rfl ?_; intro gb473 hg w26 hbox hb; have BK473 := Aside0.mk (hbox); have GW473 := (xG HB hg); have GE473 := (xG HB hg); replace HB := xS HB hb; clear hb hbox hg) | (refine xC Tryd.func74 (some 9) (natural_Normalize.calls k a1 t474 _ A4.out) ?_; rintro w27 hb; replace BK473 := xB BK473 hb; replace HB := xS HB hb; clear hb) | (refine xC Tryd.func74 (some 11) (natural_Normalize.calls k a2 t475 _ A5.out) ?_; rintro w28 hb; replace BK473 := xB BK473 hb; replace HB := xS HB hb; clear hb) | (refine xC Tryd.func83 (some 19) (natural_GCD.calls k t474 t475 t476 _ A16.out) ?_; rintro w29 hb; replace BK473 := xB BK473 hb; replace HB := xS HB hb; clear hb) | (refine xC Tryd.func84 (some 25) (natural_Divide.calls k t474 t476 t477 t478 t479 _ A23.out) ?_; rintro w30 hb; replace BK473 := xB BK473 hb; replace HB := xS HB hb; clear hb) | (refine xC Tryd.func84 (some 32) (natural_Divide.calls k t475 t476 t480 t481 t482 _ A24.out) ?_; rintro w31 hb; replace BK473 := xB BK473 hb; replace HB := xS HB hb; clear hb; obtain ⟨hcz32_0, hcz32_1, hcz32_2, hfz32_0, hfz32_1, hfz32_2⟩ := x6 BK473))
     (try have eA5_ := Option.some.inj (A4.out.symm.trans A5.out))
     (try have eA24_ := Option.some.inj (A23.out.symm.trans A24.out))
     refine bodyPost_ret (results_cell_row rfl _ _ gb473 25 #[.bool a0, .string t477, .string (⟨#[]⟩ : ByteArray)] (0, 0) _ rfl (xp BK473) Tryd.underlying25 rfl (by kernel_rfl)) rfl ?_
     exact ⟨xy, xs HB⟩
    ·rw [if_neg c25] at H
     have c25b0 : (t480.toList == ([1] : List UInt8)) = false := beq_eq_false_iff_ne.mpr c25
     have c25b1 : (t480.toList != ([1] : List UInt8)) = true := bne_iff_ne.mpr c25
     simp only [Option.some.injEq, Prod.mk.injEq] at H
     obtain ⟨rfl, rfl, rfl⟩ := H
     go_enter Tryd.func52, Tryd.ntmps52
     go_wp2_with (first | (refine xE (N := 6) #[.bool false, .string (⟨#[]⟩ : ByteArray), .string (⟨#[]⟩ : ByteArray)] 25 rfl ?_; intro gb473 hg w33 hbox hb; have BK473 := Aside0.mk (hbox); have GW473 := (xG HB hg); have GE473 := (xG HB hg); replace HB := xS HB hb; clear hb hbox hg) | (refine xC Tryd.func74 (some 9) (natural_Normalize.calls k a1 t474 _ A4.out) ?_; rintro w34 hb; replace BK473 := xB BK473 hb; replace HB := xS HB hb; clear hb) | (refine xC Tryd.func74 (some 11) (natural_Normalize.calls k a2 t475 _ A5.out) ?_; rintro w35 hb; replace BK473 := xB BK473 hb; replace HB := xS HB hb; clear hb) | (refine xC Tryd.func83 (some 19) (natural_GCD.calls k t474 t475 t476 _ A16.out) ?_; rintro w36 hb; replace BK473 := xB BK473 hb; replace HB := xS HB hb; clear hb) | (refine xC Tryd.func84 (some 25) (natural_Divide.calls k t474 t476 t477 t478 t479 _ A23.out) ?_; rintro w37 hb; replace BK473 := xB BK473 hb; replace HB := xS HB hb; clear hb) | (refine xC Tryd.func84 (some 32) (natural_Divide.calls k t475 t476 t480 t481 t482 _ A24.out) ?_; rintro w38 hb; replace BK473 := xB BK473 hb; replace HB := xS HB hb; clear hb; obtain ⟨hcz39_0, hcz39_1, hcz39_2, hfz39_0, hfz39_1, hfz39_2⟩ := x6 BK473))
     (try have eA5_ := Option.some.inj (A4.out.symm.trans A5.out))
     (try have eA24_ := Option.some.inj (A23.out.symm.trans A24.out))
     refine bodyPost_ret (results_cell_row rfl _ _ gb473 25 #[.bool a0, .string t477, .string t480] (0, 0) _ rfl (xp BK473) Tryd.underlying25 rfl (by kernel_rfl)) rfl ?_
     exact ⟨xy, xs HB⟩
/-! ### natural_Add: function 72 -/
mutual
def natural_Add.j0 : Nat → List Int → List Int → Option (ByteArray)
 | 0, _, _ => none
 | k + 1, x5, x6 => if 0 ≤ (wrap64 ((x5.length : Int) + 1)) then (if (wrap64 ((x5.length : Int) + 1) : Int).toNat ≤ 70368744177664 then (natural_Add.l0 k x5 x6 (List.replicate (wrap64 ((x5.length : Int) + 1) : Int).toNat 0) 0 (x5.length : Int) 0) else (none)) else (none)
def natural_Add.l0 : Nat → List Int → List Int → List Int → Int → Int → Int → Option (ByteArray)
 | 0, _, _, _, _, _, _ => none
 | k + 1, x5, x6, x7, x8, x27, x28 => if x28 < x27 then (if x28 < (x6.length : Int) then (if 0 ≤ x28 then (if x28 < (x5.length : Int) then ((bits_Add32.f (rd x5 x28) (rd x6 x28) x8).bind fun bt494 => (if x28 < (x7.length : Int) then (natural_Add.l0 k x5 x6 (x7.set (x28 : Int).toNat bt494.1) bt494.2 x27 (wrap64 (x28 + 1))) else (none))) else (none)) else (none)) else (if 0 ≤ x28 then (if x28 < (x5.length : Int) then ((bits_Add32.f (rd x5 x28) 0 x8).bind fun bt498 => (if x28 < (x7.length : Int) then (natural_Add.l0 k x5 x6 (x7.set (x28 : Int).toNat bt498.1) bt498.2 x27 (wrap64 (x28 + 1))) else (none))) else (none)) else (none))) else (if 0 ≤ (x5.length : Int) then (if (x5.length : Int) < (x7.length : Int) then ((natural_limbs_text.f k (x7.set ((x5.length : Int) : Int).toNat x8)).bind fun t502 => (some t502)) else (none)) else (none))
end
def natural_Add.f (k : Nat) (a0 : ByteArray) (a1 : ByteArray) : Option (ByteArray) := (natural_parse.f k a0).bind fun t483 => ((natural_parse.f k a1).bind fun t486 => (if (t483.length : Int) < (t486.length : Int) then (natural_Add.j0 k t486 t483) else (natural_Add.j0 k t483 t486)))
theorem natural_Add.mono_l : ∀ k, (∀ y0 y1, LeO (natural_Add.j0 k y0 y1) (natural_Add.j0 (k + 1) y0 y1)) ∧ (∀ y0 y1 y2 y3 y4 y5, LeO (natural_Add.l0 k y0 y1 y2 y3 y4 y5) (natural_Add.l0 (k + 1) y0 y1 y2 y3 y4 y5))
 | 0 => ⟨fun _ _ r h => by simp [natural_Add.j0] at h, fun _ _ _ _ _ _ r h => by simp [natural_Add.l0] at h⟩
 | k + 1 => by
  obtain ⟨ih0, ih1⟩ := natural_Add.mono_l k
  refine ⟨?_, ?_⟩
  ·intro y0 y1
   unfold natural_Add.j0
   have m0 := @ih0; have m1 := @ih1; have m2 := @natural_limbs_text.mono; have m3 := @natural_parse.mono; exact xM
  ·intro y0 y1 y2 y3 y4 y5
   unfold natural_Add.l0
   have m0 := @ih0; have m1 := @ih1; have m2 := @natural_limbs_text.mono; have m3 := @natural_parse.mono; exact xM
theorem natural_Add.mono : ∀ a0 a1 k, LeO (natural_Add.f k a0 a1) (natural_Add.f (k + 1) a0 a1) := by
 intro a0 a1 k
 obtain ⟨ih0, ih1⟩ := natural_Add.mono_l k
 unfold natural_Add.f
 have m0 := @ih0; have m1 := @ih1; have m2 := @natural_limbs_text.mono; have m3 := @natural_parse.mono; exact xM
set_option maxHeartbeats 8000000 in
set_option maxRecDepth 100000 in
theorem natural_Add.calls (k : Nat) (a0 : ByteArray) (a1 : ByteArray) (r : ByteArray) (w : World) (h : natural_Add.f k a0 a1 = some r) :
  Calls Tryd.prog 72 #[.string a0, .string a1] w fun e w' => e = .returned (.string r) ∧ Below w.heap.size w w' := by
 have HB := Aside0.mk (Below.refl w.heap.size w)
 have H : ((natural_parse.f k a0).bind fun t483 => ((natural_parse.f k a1).bind fun t486 => (if (t483.length : Int) < (t486.length : Int) then (natural_Add.j0 k t486 t483) else (natural_Add.j0 k t483 t486)))) = some r := h
 clear h
 replace H := xH H; obtain ⟨t483, A3, H⟩ := H
 replace H := xH H; obtain ⟨t486, A4, H⟩ := H
 have HC5 := Aside0.mk H
 clear H
 go_enter Tryd.func72, Tryd.ntmps72
 go_upto_if 19 with (first | (refine xg Tryd.func77 (some 12) #[.string a0] ?_; (with_reducible refine (natural_parse.calls k a0 t483 _ A3.out).mono ?_); rintro e w6 ⟨v484, rfl, ho0, hb⟩; refine ⟨_, rfl, ?_⟩; have HO485 := Aside0.mk (Kd.V_lower (Kd.V_mono (ok' := fun k_ => True) ho0 (fun k_ hk_ => trivial)) (below_size (xs HB))); replace HB := xS HB hb; clear hb ho0) | (refine xg Tryd.func77 (some 14) #[.string a1] ?_; (with_reducible refine (natural_parse.calls k a1 t486 _ A4.out).mono ?_); rintro e w7 ⟨v487, rfl, ho0, hb⟩; refine ⟨_, rfl, ?_⟩; replace HO485 := Aside0.mk (Kd.V_below (xv HO485.out) hb); have HO488 := Aside0.mk (Kd.V_lower (Kd.V_mono (ok' := fun k_ => True) ho0 (fun k_ hk_ => trivial)) (below_size (xs HB))); replace HB := xS HB hb; clear hb ho0; obtain ⟨Ao8, co8, eo8⟩ := Kd.V_slice HO485.out; subst eo8; obtain ⟨Ao9, co9, eo9⟩ := Kd.V_slice HO488.out; subst eo9))
 (try simp only [Act.put, List.setIfInBounds_toArray, List.set_cons_zero, List.set_cons_succ])
 go_cut [5, 6] (fun v5 v6 wc => ∃ (kq : Nat) (x5_4 : List Int) (x6_4 : List Int), Aside0 (natural_Add.j0 kq x5_4 x6_4 = some r) ∧ Aside0 (kq ≤ k) ∧ Aside0 (Kd.V (Kd.int .u32) 85 wc w.heap.size (fun _ => True) v5 x5_4) ∧ Aside0 (Kd.V (Kd.int .u32) 85 wc w.heap.size (fun _ => True) v6 x6_4) ∧ Aside0 (Below w.heap.size w wc))
 case first =>
  have H := HC5.out
  clear HC5
  by_cases c10 : (t483.length : Int) < (t486.length : Int)
  ·rw [if_pos c10] at H
   have c10b0 : decide ((t483.length : Int) < (t486.length : Int)) = true := decide_eq_true c10
   have c10b1 : decide (t483.length < t486.length) = true := decide_eq_true (Int.ofNat_lt.mp c10)
   clear c10
   (first | rw [c10b0] | (simp only [i64_w, i32_w]; rw [c10b0]) | rw [c10b1] | skip)
   have H' := Aside0.mk H
   clear H
   go_wp2
   go_meet
   case rel => exact ⟨_, (t486), (t483), H', ⟨by first | omega | exact Nat.le_refl _⟩, ⟨xv HO488.out⟩, ⟨xv HO485.out⟩, ⟨xs HB⟩⟩
  ·rw [if_neg c10] at H
   have c10b0 : decide ((t483.length : Int) < (t486.length : Int)) = false := decide_eq_false c10
   have c10b1 : decide (t483.length < t486.length) = false := decide_eq_false (fun h => c10 (Int.ofNat_lt.mpr h))
   clear c10
   (first | rw [c10b0] | (simp only [i64_w, i32_w]; rw [c10b0]) | rw [c10b1] | skip)
   have H' := Aside0.mk H
   clear H
   go_wp2
   go_meet
   case rel => exact ⟨_, (t483), (t486), H', ⟨by first | omega | exact Nat.le_refl _⟩, ⟨xv HO485.out⟩, ⟨xv HO488.out⟩, ⟨xs HB⟩⟩
 case rest =>
  clear HC5
  try clear c1
  try clear p2
  try clear c7
  try clear c10
  try clear c10b0
  try clear c10b1
  obtain ⟨kq, x5_4, x6_4, HA, HJ4, HO_5, HO_6, HB⟩ := hcut
  cases kq with
  | zero => exact absurd HA.out (by simp [natural_Add.j0])
  | succ kj4 =>
   have H := HA.out
   clear HA
   simp only [natural_Add.j0] at H
   obtain ⟨ji11, hji11⟩ : ∃ j_ : Int, (wrap64 ((x5_4.length : Int) + 1)) = j_ := ⟨_, rfl⟩
   replace H : (if 0 ≤ (ji11) then (if (ji11 : Int).toNat ≤ 70368744177664 then (natural_Add.l0 kj4 x5_4 x6_4 (List.replicate (ji11 : Int).toNat 0) 0 (x5_4.length : Int) 0) else (none)) else (none)) = some r := by first | (rw [hji11] at H; exact H) | (simp only [hji11] at H ⊢; exact H)
   have hji11w : (IntKind.i64.wrap ((x5_4.length : Int) + 1)) = ji11 := (i64_w _).trans hji11
   by_cases c12 : 0 ≤ (ji11)
   rotate_left
   ·rw [if_neg c12] at H
    exact absurd H (by simp)
   rw [if_pos c12] at H
   have c12b0 := eq_true c12
   have c12b1 : decide (0 ≤ (ji11)) = true := decide_eq_true c12
   clear c12
   by_cases c13 : (ji11 : Int).toNat ≤ 70368744177664
   rotate_left
   ·rw [if_neg c13] at H
    exact absurd H (by simp)
   rw [if_pos c13] at H
   have c13b0 := eq_true c13
   have c13b1 : decide ((ji11 : Int).toNat ≤ 70368744177664) = true := decide_eq_true c13
   clear c13
   obtain ⟨y489, hy489⟩ : ∃ y_ : List Int, y_ = (List.replicate (ji11 : Int).toNat 0) := ⟨_, rfl⟩
   replace H : (natural_Add.l0 kj4 x5_4 x6_4 y489 0 (x5_4.length : Int) 0) = some r := by first | (rw [hy489]; with_reducible exact H) | (have H2_ := (Option.bind_some _ _).symm.trans H; rw [hy489]; with_reducible exact H2_) | (have H2_ := (Option.bind_some _ _).symm.trans H; with_reducible exact H2_) | with_reducible exact H | (rw [hy489]; exact H) | exact H
   have Ny489 := Aside0.mk hy489
   clear hy489
   have H' := Aside0.mk H
   clear H
   obtain ⟨Ao14, co14, eo14⟩ := Kd.V_slice HO_5.out
   subst eo14
   go_wp2_with (first | ((with_reducible refine gate_dst (N := 25) rfl ?_); refine Kd.R_make (Kd.int .u32) _ 85 rfl (N := 25) rfl 83 _ _ rfl ji11 rfl rfl Tryd.underlying83 (.int .u32 0) 4 info85 rfl (by decide) (by omega) 0 (ok := fun _ => True) (okp := fun _ => True) rfl (fun _ hk => hk) trivial (xa) (Nat.le_trans (Nat.mul_le_mul_right _ (xa : ji11.toNat ≤ 70368744177664)) (by omega)) (Below.refl _ _) (Nat.le_refl _) ?_; intro v490 w15 ho16 hb hg_ hnew_; clear hg_ hnew_; (first | rw [← Ny489.out] at ho16 | (simp only [Int.reduceToNat] at ho16; rw [← Ny489.out] at ho16)); replace HO_5 := Aside0.mk (Kd.V_elder' (xv HO_5.out) (Kd.R_base ho16) hb); replace HO_6 := Aside0.mk (Kd.V_elder' (xv HO_6.out) (Kd.R_base ho16) hb); have HO491 := Aside0.mk (Kd.R_lower ho16 (below_size (xs HB))); replace HB := xS HB hb; clear hb ho16))
   go_loopg [8, 28] kj4 (fun kq v8 v28 w' => ∃ (x7_2 : List Int) (x8_2 : Int) (x28_2 : Int), v8 = .int .u32 x8_2 ∧ v28 = .int .i64 x28_2 ∧ Aside0 (natural_Add.l0 kq x5_4 x6_4 x7_2 x8_2 (x5_4.length : Int) x28_2 = some r) ∧ Aside0 (kq ≤ kj4) ∧ Aside0 (Kd.V (Kd.int .u32) 85 w' w.heap.size (fun k_ => some k_ ≠ (v490 : Value).ownBlock) (.slice Ao14 x5_4.length co14) x5_4) ∧ Aside0 (Kd.V (Kd.int .u32) 85 w' w.heap.size (fun k_ => some k_ ≠ (v490 : Value).ownBlock) u6 x6_4) ∧ Aside0 (Kd.R (Kd.int .u32) 85 w' w.heap.size (fun _ => True) v490 x7_2) ∧ Aside0 (Below w.heap.size w w'))
   case atStart => exact ⟨(y489), (0), (0), xz, xz, H', ⟨Nat.le_refl _⟩, ⟨by (with_reducible repeat (first | apply Kd.V_alloc | apply Kd.V_drewN | apply Kd.V_drew)); exact Kd.V_mono HO_5.out (fun _ hk => hk.2)⟩, ⟨by (with_reducible repeat (first | apply Kd.V_alloc | apply Kd.V_drewN | apply Kd.V_drew)); exact Kd.V_mono HO_6.out (fun _ hk => hk.2)⟩, ⟨xr HO491.out⟩, ⟨xs HB⟩⟩
   case round =>
    clear H'
    try clear c1
    try clear p2
    try clear p6
    try clear c7
    try clear c10
    try clear c10b0
    try clear c10b1
    try clear c12
    try clear c12b0
    try clear c12b1
    try clear c13
    try clear c13b0
    try clear c13b1
    try clear p2
    obtain ⟨x7_2, x8_2, x28_2, rfl, rfl, HA, HK2, HO_5, HO_6, HO_7, HB⟩ := hrel
    cases gk with
    | zero => exact absurd HA.out (by simp [natural_Add.l0])
    | succ k2 =>
     have H := HA.out
     clear HA
     simp only [natural_Add.l0] at H
     by_cases c17 : x28_2 < (x5_4.length : Int)
     ·rw [if_pos c17] at H
      have c17b0 : decide (x28_2 < (x5_4.length : Int)) = true := decide_eq_true c17
      clear c17
      by_cases c18 : x28_2 < (x6_4.length : Int)
      ·rw [if_pos c18] at H
       have c18b0 : decide (x28_2 < (x6_4.length : Int)) = true := decide_eq_true c18
       clear c18
       by_cases c19 : 0 ≤ x28_2
       rotate_left
       ·rw [if_neg c19] at H
        exact absurd H (by simp)
       rw [if_pos c19] at H
       have c19b0 : decide (0 ≤ x28_2) = true := decide_eq_true c19
       clear c19
       by_cases c20 : x28_2 < (x5_4.length : Int)
       rotate_left
       ·rw [if_neg c20] at H
        exact absurd H (by simp)
       rw [if_pos c20] at H
       have c20b0 : decide (x28_2 < (x5_4.length : Int)) = true := decide_eq_true c20
       clear c20
       replace H := xH H; obtain ⟨⟨t494, t495⟩, A21, H⟩ := H
       dsimp only at H
       by_cases c22 : x28_2 < (x7_2.length : Int)
       rotate_left
       ·rw [if_neg c22] at H
        exact absurd H (by simp)
       rw [if_pos c22] at H
       have c22b0 : decide (x28_2 < (x7_2.length : Int)) = true := decide_eq_true c22
       clear c22
       obtain ⟨y496, hy496⟩ : ∃ y_ : List Int, y_ = (x7_2.set (x28_2 : Int).toNat t494) := ⟨_, rfl⟩
       replace H : (natural_Add.l0 k2 x5_4 x6_4 y496 t495 (x5_4.length : Int) (wrap64 (x28_2 + 1))) = some r := by first | (rw [hy496]; with_reducible exact H) | (have H2_ := (Option.bind_some _ _).symm.trans H; rw [hy496]; with_reducible exact H2_) | (have H2_ := (Option.bind_some _ _).symm.trans H; with_reducible exact H2_) | with_reducible exact H | (rw [hy496]; exact H) | exact H
       have Ny496 := Aside0.mk hy496
       clear hy496
       have H' := Aside0.mk H
       clear H
       obtain ⟨Ao24, co24, eo24⟩ := Kd.V_slice HO_6.out
       subst eo24
       have p492 : 0 ≤ (x28_2 : Int) := xa
       have q492 : x28_2 < (x6_4.length : Int) := xa
       obtain ⟨ad492, e492, hx492_0⟩ := Kd.at_int (Kd.V_reads' HO_6.out).2.2 x28_2 p492 q492
       cases e492
       replace p492 := eq_true p492
       replace q492 := eq_true q492
       have p493 : 0 ≤ (x28_2 : Int) := xa
       have q493 : x28_2 < (x5_4.length : Int) := xa
       obtain ⟨ad493, e493, hx493_0⟩ := Kd.at_int (Kd.V_reads' HO_5.out).2.2 x28_2 p493 q493
       cases e493
       replace p493 := eq_true p493
       replace q493 := eq_true q493
       go_wp2_with (first | (refine xg Tryd.func93 (some 48) #[.int .u32 (rd x5_4 x28_2), .int .u32 (rd x6_4 x28_2), .int .u32 x8_2] ?_; (with_reducible refine (bits_Add32.calls (rd x5_4 x28_2) (rd x6_4 x28_2) x8_2 t494 t495 _ A21.out).mono ?_); rintro e w' ⟨rfl, ⟨nd, rfl⟩⟩; refine ⟨_, rfl, ?_⟩; (try (rw [drewN_self wr]; generalize hq_ : World.drewN wr _ = wr; have n0_ : Aside0 (Kd.V (Kd.int .u32) 85 wr w.heap.size (fun k_ => some k_ ≠ (v490 : Value).ownBlock) (.slice (some ad493) x5_4.length co14) x5_4) := ⟨by rw [← hq_]; exact (xv HO_5.out)⟩; have n1_ : Aside0 (Kd.V (Kd.int .u32) 85 wr w.heap.size (fun k_ => some k_ ≠ (v490 : Value).ownBlock) (.slice (some ad492) x6_4.length co24) x6_4) := ⟨by rw [← hq_]; exact (xv HO_6.out)⟩; have n2_ : Aside0 (Kd.R (Kd.int .u32) 85 wr w.heap.size (fun _ => True) v490 x7_2) := ⟨by rw [← hq_]; exact (xr HO_7.out)⟩; have n3_ : Aside0 (Below w.heap.size w wr) := ⟨by rw [← hq_]; exact (xs HB)⟩; clear HO_5 HO_6 HO_7 HB hq_; have HO_5 := n0_; have HO_6 := n1_; have HO_7 := n2_; have HB := n3_; clear n0_ n1_ n2_ n3_)); have p23 : 0 ≤ (x28_2 : Int) := xa; have q23 : (x28_2 : Int) < ((x7_2.length : Int) : Int) := xa; obtain ⟨go23, co23, eo23, gb23, gl23, cl23, HG23⟩ := Kd.R_form HO_7.out (by omega); (first | cases eo23 | (injection eo23 with ea_ en_ ec_; (first | subst ea_ | (injection ea_ with ea_; subst ea_)); subst ec_; clear en_)); have GB23 := Aside0.mk gb23; have GG23 := Aside0.mk HG23; clear gb23 gl23 HG23; obtain ⟨hx23_0, hf23_0⟩ := Kd.R_celln 0 HO_7.out (x28_2 : Int) p23 q23; replace p23 := eq_true p23; replace q23 := eq_true q23; obtain ⟨hy25_, hz25_⟩ := Kd.R_celln 0 HO_7.out (x28_2 : Int) (xa) (xa); have HP25 := Kd.R_putg HO_7.out (x28_2 : Int) t494) | ((with_reducible refine gate_store (t := 85) (p := 51) rfl ?_); refine store_event (t := 85) (p := 51) (v := ?vo_w26) (w1 := (wr.setCell ⟨go23, (x28_2 : Int).toNat, none⟩ (.int .u32 t494))) ?hg ?ho ?hn ?hr ?_; (case ho => rfl); (case hg => rfl); (case hn => rfl); (case hr => first | (go_simp; done) | (go_simp; rfl)); intro w26 hw; have hg : wr.grownBy w26 (some go23) := (by rw [hw]; exact HP25.2); have hp_ : Kd.R (Kd.int .u32) 85 w26 w.heap.size (fun _ => True) (.slice (some ⟨go23, 0, none⟩) x7_2.length co23) y496 := (by rw [hw, Ny496.out]; exact HP25.1); clear HP25; replace HO_5 := Aside0.mk (Kd.V_afterv (v := (.slice (some ⟨go23, 0, none⟩) x7_2.length co23)) (v1 := (.slice (some ⟨go23, 0, none⟩) x7_2.length co23)) (ok := (fun _ => True)) (by (with_reducible repeat (first | apply Kd.V_alloc | apply Kd.V_drewN | apply Kd.V_drew)); exact Kd.V_mono HO_5.out (fun _ hk => by first | exact ⟨trivial, hk⟩ | (simp only [ob_map] at hk ⊢; first | exact ⟨trivial, hk⟩ | grind) | grind)) hg (.inl rfl)); replace HO_6 := Aside0.mk (Kd.V_afterv (v := (.slice (some ⟨go23, 0, none⟩) x7_2.length co23)) (v1 := (.slice (some ⟨go23, 0, none⟩) x7_2.length co23)) (ok := (fun _ => True)) (by (with_reducible repeat (first | apply Kd.V_alloc | apply Kd.V_drewN | apply Kd.V_drew)); exact Kd.V_mono HO_6.out (fun _ hk => by first | exact ⟨trivial, hk⟩ | (simp only [ob_map] at hk ⊢; first | exact ⟨trivial, hk⟩ | grind) | grind)) hg (.inl rfl)); replace HO_7 := Aside0.mk (hp_); replace HB := Aside0.mk ((by rw [hw]; exact below_set (HB.out) GB23.out : Below w.heap.size w w26)); clear hg hw hp_))
       (first | go_roundg k2 | (refine Handed.intro k2 ?measure ?_; rotate_left; go_step; (repeat apply Exists.intro); refine ⟨?rel, (by first | rfl | (simp only [add_plain]; rfl))⟩))
       case measure => have := HJ4.out; have := HK2.out; omega
       case rel => exact ⟨(y496), (t495), (wrap64 (x28_2 + 1)), xz, xz, H', ⟨by have := HJ4.out; have := HK2.out; omega⟩, ⟨by (with_reducible repeat (first | apply Kd.V_alloc | apply Kd.V_drewN | apply Kd.V_drew)); exact Kd.V_mono HO_5.out (fun _ hk => hk.2)⟩, ⟨by (with_reducible repeat (first | apply Kd.V_alloc | apply Kd.V_drewN | apply Kd.V_drew)); exact Kd.V_mono HO_6.out (fun _ hk => hk.2)⟩, ⟨xr HO_7.out⟩, ⟨xs HB⟩⟩
      ·rw [if_neg c18] at H
       have c18b0 : decide (x28_2 < (x6_4.length : Int)) = false := decide_eq_false c18
       clear c18
       by_cases c27 : 0 ≤ x28_2
       rotate_left
       ·rw [if_neg c27] at H
        exact absurd H (by simp)
       rw [if_pos c27] at H
       have c27b0 : decide (0 ≤ x28_2) = true := decide_eq_true c27
       clear c27
       by_cases c28 : x28_2 < (x5_4.length : Int)
       rotate_left
       ·rw [if_neg c28] at H
        exact absurd H (by simp)
       rw [if_pos c28] at H
       have c28b0 : decide (x28_2 < (x5_4.length : Int)) = true := decide_eq_true c28
       clear c28
       replace H := xH H; obtain ⟨⟨t498, t499⟩, A29, H⟩ := H
       dsimp only at H
       by_cases c30 : x28_2 < (x7_2.length : Int)
       rotate_left
       ·rw [if_neg c30] at H
        exact absurd H (by simp)
       rw [if_pos c30] at H
       have c30b0 : decide (x28_2 < (x7_2.length : Int)) = true := decide_eq_true c30
       clear c30
       obtain ⟨y500, hy500⟩ : ∃ y_ : List Int, y_ = (x7_2.set (x28_2 : Int).toNat t498) := ⟨_, rfl⟩
       replace H : (natural_Add.l0 k2 x5_4 x6_4 y500 t499 (x5_4.length : Int) (wrap64 (x28_2 + 1))) = some r := by first | (rw [hy500]; with_reducible exact H) | (have H2_ := (Option.bind_some _ _).symm.trans H; rw [hy500]; with_reducible exact H2_) | (have H2_ := (Option.bind_some _ _).symm.trans H; with_reducible exact H2_) | with_reducible exact H | (rw [hy500]; exact H) | exact H
       have Ny500 := Aside0.mk hy500
       clear hy500
       have H' := Aside0.mk H
       clear H
       obtain ⟨Ao32, co32, eo32⟩ := Kd.V_slice HO_6.out
       subst eo32
       have p497 : 0 ≤ (x28_2 : Int) := xa
       have q497 : x28_2 < (x5_4.length : Int) := xa
       obtain ⟨ad497, e497, hx497_0⟩ := Kd.at_int (Kd.V_reads' HO_5.out).2.2 x28_2 p497 q497
       cases e497
       replace p497 := eq_true p497
       replace q497 := eq_true q497
       go_wp2_with (first | (refine xg Tryd.func93 (some 48) #[.int .u32 (rd x5_4 x28_2), .int .u32 0, .int .u32 x8_2] ?_; (with_reducible refine (bits_Add32.calls (rd x5_4 x28_2) 0 x8_2 t498 t499 _ A29.out).mono ?_); rintro e w' ⟨rfl, ⟨nd, rfl⟩⟩; refine ⟨_, rfl, ?_⟩; (try (rw [drewN_self wr]; generalize hq_ : World.drewN wr _ = wr; have n0_ : Aside0 (Kd.V (Kd.int .u32) 85 wr w.heap.size (fun k_ => some k_ ≠ (v490 : Value).ownBlock) (.slice (some ad497) x5_4.length co14) x5_4) := ⟨by rw [← hq_]; exact (xv HO_5.out)⟩; have n1_ : Aside0 (Kd.V (Kd.int .u32) 85 wr w.heap.size (fun k_ => some k_ ≠ (v490 : Value).ownBlock) (.slice Ao32 x6_4.length co32) x6_4) := ⟨by rw [← hq_]; exact (xv HO_6.out)⟩; have n2_ : Aside0 (Kd.R (Kd.int .u32) 85 wr w.heap.size (fun _ => True) v490 x7_2) := ⟨by rw [← hq_]; exact (xr HO_7.out)⟩; have n3_ : Aside0 (Below w.heap.size w wr) := ⟨by rw [← hq_]; exact (xs HB)⟩; clear HO_5 HO_6 HO_7 HB hq_; have HO_5 := n0_; have HO_6 := n1_; have HO_7 := n2_; have HB := n3_; clear n0_ n1_ n2_ n3_)); have p31 : 0 ≤ (x28_2 : Int) := xa; have q31 : (x28_2 : Int) < ((x7_2.length : Int) : Int) := xa; obtain ⟨go31, co31, eo31, gb31, gl31, cl31, HG31⟩ := Kd.R_form HO_7.out (by omega); (first | cases eo31 | (injection eo31 with ea_ en_ ec_; (first | subst ea_ | (injection ea_ with ea_; subst ea_)); subst ec_; clear en_)); have GB31 := Aside0.mk gb31; have GG31 := Aside0.mk HG31; clear gb31 gl31 HG31; obtain ⟨hx31_0, hf31_0⟩ := Kd.R_celln 0 HO_7.out (x28_2 : Int) p31 q31; replace p31 := eq_true p31; replace q31 := eq_true q31; obtain ⟨hy33_, hz33_⟩ := Kd.R_celln 0 HO_7.out (x28_2 : Int) (xa) (xa); have HP33 := Kd.R_putg HO_7.out (x28_2 : Int) t498) | ((with_reducible refine gate_store (t := 85) (p := 51) rfl ?_); refine store_event (t := 85) (p := 51) (v := ?vo_w34) (w1 := (wr.setCell ⟨go31, (x28_2 : Int).toNat, none⟩ (.int .u32 t498))) ?hg ?ho ?hn ?hr ?_; (case ho => rfl); (case hg => rfl); (case hn => rfl); (case hr => first | (go_simp; done) | (go_simp; rfl)); intro w34 hw; have hg : wr.grownBy w34 (some go31) := (by rw [hw]; exact HP33.2); have hp_ : Kd.R (Kd.int .u32) 85 w34 w.heap.size (fun _ => True) (.slice (some ⟨go31, 0, none⟩) x7_2.length co31) y500 := (by rw [hw, Ny500.out]; exact HP33.1); clear HP33; replace HO_5 := Aside0.mk (Kd.V_afterv (v := (.slice (some ⟨go31, 0, none⟩) x7_2.length co31)) (v1 := (.slice (some ⟨go31, 0, none⟩) x7_2.length co31)) (ok := (fun _ => True)) (by (with_reducible repeat (first | apply Kd.V_alloc | apply Kd.V_drewN | apply Kd.V_drew)); exact Kd.V_mono HO_5.out (fun _ hk => by first | exact ⟨trivial, hk⟩ | (simp only [ob_map] at hk ⊢; first | exact ⟨trivial, hk⟩ | grind) | grind)) hg (.inl rfl)); replace HO_6 := Aside0.mk (Kd.V_afterv (v := (.slice (some ⟨go31, 0, none⟩) x7_2.length co31)) (v1 := (.slice (some ⟨go31, 0, none⟩) x7_2.length co31)) (ok := (fun _ => True)) (by (with_reducible repeat (first | apply Kd.V_alloc | apply Kd.V_drewN | apply Kd.V_drew)); exact Kd.V_mono HO_6.out (fun _ hk => by first | exact ⟨trivial, hk⟩ | (simp only [ob_map] at hk ⊢; first | exact ⟨trivial, hk⟩ | grind) | grind)) hg (.inl rfl)); replace HO_7 := Aside0.mk (hp_); replace HB := Aside0.mk ((by rw [hw]; exact below_set (HB.out) GB31.out : Below w.heap.size w w34)); clear hg hw hp_))
       (first | go_roundg k2 | (refine Handed.intro k2 ?measure ?_; rotate_left; go_step; (repeat apply Exists.intro); refine ⟨?rel, (by first | rfl | (simp only [add_plain]; rfl))⟩))
       case measure => have := HJ4.out; have := HK2.out; omega
       case rel => exact ⟨(y500), (t499), (wrap64 (x28_2 + 1)), xz, xz, H', ⟨by have := HJ4.out; have := HK2.out; omega⟩, ⟨by (with_reducible repeat (first | apply Kd.V_alloc | apply Kd.V_drewN | apply Kd.V_drew)); exact Kd.V_mono HO_5.out (fun _ hk => hk.2)⟩, ⟨by (with_reducible repeat (first | apply Kd.V_alloc | apply Kd.V_drewN | apply Kd.V_drew)); exact Kd.V_mono HO_6.out (fun _ hk => hk.2)⟩, ⟨xr HO_7.out⟩, ⟨xs HB⟩⟩
     ·rw [if_neg c17] at H
      have c17b0 : decide (x28_2 < (x5_4.length : Int)) = false := decide_eq_false c17
      clear c17
      by_cases c35 : 0 ≤ (x5_4.length : Int)
      rotate_left
      ·rw [if_neg c35] at H
       exact absurd H (by simp)
      rw [if_pos c35] at H
      have c35b0 : decide (0 ≤ (x5_4.length : Int)) = true := decide_eq_true c35
      have c35b1 : decide (0 ≤ x5_4.length) = true := decide_eq_true (by omega)
      clear c35
      by_cases c36 : (x5_4.length : Int) < (x7_2.length : Int)
      rotate_left
      ·rw [if_neg c36] at H
       exact absurd H (by simp)
      rw [if_pos c36] at H
      have c36b0 : decide ((x5_4.length : Int) < (x7_2.length : Int)) = true := decide_eq_true c36
      have c36b1 : decide (x5_4.length < x7_2.length) = true := decide_eq_true (Int.ofNat_lt.mp c36)
      clear c36
      obtain ⟨y501, hy501⟩ : ∃ y_ : List Int, y_ = (x7_2.set ((x5_4.length : Int) : Int).toNat x8_2) := ⟨_, rfl⟩
      replace H : ((natural_limbs_text.f k2 y501).bind fun t502 => (some t502)) = some r := by first | (rw [hy501]; with_reducible exact H) | (have H2_ := (Option.bind_some _ _).symm.trans H; rw [hy501]; with_reducible exact H2_) | (have H2_ := (Option.bind_some _ _).symm.trans H; with_reducible exact H2_) | with_reducible exact H | (rw [hy501]; exact H) | exact H
      have Ny501 := Aside0.mk hy501
      clear hy501
      replace H := xH H; obtain ⟨t502, A38, H⟩ := H
      obtain rfl := Option.some.inj H
      have p37 : 0 ≤ ((x5_4.length : Int) : Int) := xa
      have q37 : ((x5_4.length : Int) : Int) < ((x7_2.length : Int) : Int) := xa
      obtain ⟨go37, co37, eo37, gb37, gl37, cl37, HG37⟩ := Kd.R_form HO_7.out (by omega)
      (first | cases eo37 | (injection eo37 with ea_ en_ ec_; (first | subst ea_ | (injection ea_ with ea_; subst ea_)); subst ec_; clear en_))
      have GB37 := Aside0.mk gb37
      have GG37 := Aside0.mk HG37
      clear gb37 gl37 HG37
      obtain ⟨hx37_0, hf37_0⟩ := Kd.R_celln 0 HO_7.out ((x5_4.length : Int) : Int) p37 q37
      (try simp only [Int.toNat_natCast] at hx37_0)
      (try simp only [Int.toNat_natCast] at hf37_0)
      replace p37 := eq_true p37
      replace q37 := eq_true q37
      have HP39 := Kd.R_putg HO_7.out ((x5_4.length : Int) : Int) x8_2
      go_wp2_with (first | ((with_reducible refine gate_store (t := 85) (p := 57) rfl ?_); refine store_event (t := 85) (p := 57) (v := ?vo_w40) (w1 := (wr.setCell ⟨go37, ((x5_4.length : Int) : Int).toNat, none⟩ (.int .u32 x8_2))) ?hg ?ho ?hn ?hr ?_; (case ho => rfl); (case hg => rfl); (case hn => rfl); (case hr => first | (go_simp; done) | (go_simp; rfl)); intro w40 hw; have hg : wr.grownBy w40 (some go37) := (by rw [hw]; exact HP39.2); have hp_ : Kd.R (Kd.int .u32) 85 w40 w.heap.size (fun _ => True) (.slice (some ⟨go37, 0, none⟩) x7_2.length co37) y501 := (by rw [hw, Ny501.out]; exact HP39.1); clear HP39; replace HO_5 := Aside0.mk (Kd.V_afterv (v := (.slice (some ⟨go37, 0, none⟩) x7_2.length co37)) (v1 := (.slice (some ⟨go37, 0, none⟩) x7_2.length co37)) (ok := (fun _ => True)) (by (with_reducible repeat (first | apply Kd.V_alloc | apply Kd.V_drewN | apply Kd.V_drew)); exact Kd.V_mono HO_5.out (fun _ hk => by first | exact ⟨trivial, hk⟩ | (simp only [ob_map] at hk ⊢; first | exact ⟨trivial, hk⟩ | grind) | grind)) hg (.inl rfl)); replace HO_6 := Aside0.mk (Kd.V_afterv (v := (.slice (some ⟨go37, 0, none⟩) x7_2.length co37)) (v1 := (.slice (some ⟨go37, 0, none⟩) x7_2.length co37)) (ok := (fun _ => True)) (by (with_reducible repeat (first | apply Kd.V_alloc | apply Kd.V_drewN | apply Kd.V_drew)); exact Kd.V_mono HO_6.out (fun _ hk => by first | exact ⟨trivial, hk⟩ | (simp only [ob_map] at hk ⊢; first | exact ⟨trivial, hk⟩ | grind) | grind)) hg (.inl rfl)); replace HO_7 := Aside0.mk (hp_); replace HB := Aside0.mk ((by rw [hw]; exact below_set (HB.out) GB37.out : Below w.heap.size w w40)); clear hg hw hp_) | (refine xg Tryd.func78 (some 59) #[.slice (some ⟨go37, 0, none⟩) y501.length co37] ?_ (hargs := (by (try simp only [List.map_toArray, List.map_cons, List.map_nil]); first | done | (rw [show y501.length = x7_2.length from (Kd.R_reads' HO_7.out).1.symm] <;> rfl) | rfl | (simp only [List.length_drop, List.length_take]; rfl))); (with_reducible refine (natural_limbs_text.calls k2 _ _ y501 t502 _ ?side1 ?side2 A38.out).mono ?_); (case side1 => repeat (first | exact (Kd.R_reads' HO_7.out).2.2 | (with_reducible refine Kd.C_alloc ?_ _) | (with_reducible refine Kd.C_drewN ?_ _) | (with_reducible refine Kd.C_drew ?_))); (case side2 => rw [show y501.length = x7_2.length from (Kd.R_reads' HO_7.out).1.symm]; exact (Kd.R_reads' HO_7.out).2.1); rintro e w41 ⟨rfl, hb⟩; refine ⟨_, rfl, ?_⟩; replace HO_5 := Aside0.mk (Kd.V_below (xv HO_5.out) hb); replace HO_6 := Aside0.mk (Kd.V_below (xv HO_6.out) hb); replace HO_7 := Aside0.mk (Kd.R_below (xr HO_7.out) hb); replace HB := xS HB hb; clear hb))
      go_ret
      exact ⟨by first | rfl | (simp [errW_none, errW_some] <;> rfl) | (simp only [← hji11]; first | rfl | (simp [errW_none, errW_some] <;> rfl)) | (simp [*, errW_none, errW_some] <;> rfl), xs HB⟩
/-! ### natural_subtract: function 95 -/
def natural_subtract.l0 : Nat → List Int → List Int → List Int → Int → Int → Int → Option (List Int)
 | 0, _, _, _, _, _, _ => none
 | k + 1, x0, x1, x5, x6, x13, x14 => if x14 < x13 then (if x14 < (x1.length : Int) then (if 0 ≤ x14 then (if x14 < (x0.length : Int) then ((bits_Sub32.f (rd x0 x14) (rd x1 x14) x6).bind fun bt508 => (if x14 < (x5.length : Int) then (natural_subtract.l0 k x0 x1 (x5.set (x14 : Int).toNat bt508.1) bt508.2 x13 (wrap64 (x14 + 1))) else (none))) else (none)) else (none)) else (if 0 ≤ x14 then (if x14 < (x0.length : Int) then ((bits_Sub32.f (rd x0 x14) 0 x6).bind fun bt512 => (if x14 < (x5.length : Int) then (natural_subtract.l0 k x0 x1 (x5.set (x14 : Int).toNat bt512.1) bt512.2 x13 (wrap64 (x14 + 1))) else (none))) else (none)) else (none))) else ((natural_limbs_trim.f k x5).bind fun t515 => (some t515))
def natural_subtract.f (k : Nat) (l0 : List Int) (l1 : List Int) : Option (List Int) := if 0 ≤ (l0.length : Int) then (if ((l0.length : Int) : Int).toNat ≤ 70368744177664 then (natural_subtract.l0 k l0 l1 (List.replicate ((l0.length : Int) : Int).toNat 0) 0 (l0.length : Int) 0) else (none)) else (none)
theorem natural_subtract.mono_l : ∀ k, (∀ y0 y1 y2 y3 y4 y5, LeO (natural_subtract.l0 k y0 y1 y2 y3 y4 y5) (natural_subtract.l0 (k + 1) y0 y1 y2 y3 y4 y5))
 | 0 => fun _ _ _ _ _ _ r h => by simp [natural_subtract.l0] at h
 | k + 1 => by
  have ih0 := natural_subtract.mono_l k
  ·intro y0 y1 y2 y3 y4 y5
   unfold natural_subtract.l0
   have m0 := @ih0; have m1 := @natural_limbs_trim.mono; exact xM
theorem natural_subtract.mono : ∀ a0 a1 k, LeO (natural_subtract.f k a0 a1) (natural_subtract.f (k + 1) a0 a1) := by
 intro a0 a1 k
 have ih0 := natural_subtract.mono_l k
 unfold natural_subtract.f
 have m0 := @ih0; have m1 := @natural_limbs_trim.mono; exact xM
set_option maxHeartbeats 8000000 in
set_option maxRecDepth 100000 in
theorem natural_subtract.calls (k : Nat) (A0 : Option Addr) (c0 : Nat) (l0 : List Int) (A1 : Option Addr) (c1 : Nat) (l1 : List Int) (r : List Int) (w : World) (hr0 : Kd.C (Kd.int .u32) w A0 l0.length l0) (hc0 : l0.length ≤ c0) (hr1 : Kd.C (Kd.int .u32) w A1 l1.length l1) (hc1 : l1.length ≤ c1) (h : natural_subtract.f k l0 l1 = some r) :
  Calls Tryd.prog 95 #[.slice A0 l0.length c0, .slice A1 l1.length c1] w fun e w' => ∃ v0_ : Value, e = .returned (v0_) ∧ Kd.V (Kd.int .u32) 85 w' w.heap.size (fun k_ => (w.heap.size ≤ k_)) v0_ r ∧ Below w.heap.size w w' := by
 have HR0 := Aside0.mk hr0
 have HC0 := Aside0.mk hc0
 clear hr0 hc0
 have HR1 := Aside0.mk hr1
 have HC1 := Aside0.mk hc1
 clear hr1 hc1
 have HB := Aside0.mk (Below.refl w.heap.size w)
 have H : (if 0 ≤ (l0.length : Int) then (if ((l0.length : Int) : Int).toNat ≤ 70368744177664 then (natural_subtract.l0 k l0 l1 (List.replicate ((l0.length : Int) : Int).toNat 0) 0 (l0.length : Int) 0) else (none)) else (none)) = some r := h
 clear h
 by_cases c3 : 0 ≤ (l0.length : Int)
 rotate_left
 ·rw [if_neg c3] at H
  exact absurd H (by simp)
 rw [if_pos c3] at H
 have c3b0 := eq_true c3
 have c3b1 : decide (0 ≤ (l0.length : Int)) = true := decide_eq_true c3
 clear c3
 by_cases c4 : ((l0.length : Int) : Int).toNat ≤ 70368744177664
 rotate_left
 ·rw [if_neg c4] at H
  exact absurd H (by simp)
 rw [if_pos c4] at H
 have c4b0 := eq_true c4
 have c4b1 : decide (((l0.length : Int) : Int).toNat ≤ 70368744177664) = true := decide_eq_true c4
 clear c4
 obtain ⟨y503, hy503⟩ : ∃ y_ : List Int, y_ = (List.replicate ((l0.length : Int) : Int).toNat 0) := ⟨_, rfl⟩
 replace H : (natural_subtract.l0 k l0 l1 y503 0 (l0.length : Int) 0) = some r := by first | (rw [hy503]; with_reducible exact H) | (have H2_ := (Option.bind_some _ _).symm.trans H; rw [hy503]; with_reducible exact H2_) | (have H2_ := (Option.bind_some _ _).symm.trans H; with_reducible exact H2_) | with_reducible exact H | (rw [hy503]; exact H) | exact H
 have Ny503 := Aside0.mk hy503
 clear hy503
 have H' := Aside0.mk H
 clear H
 go_enter Tryd.func95, Tryd.ntmps95
 go_wp2_with (first | ((with_reducible refine gate_dst (N := 11) rfl ?_); refine Kd.R_make (Kd.int .u32) _ 85 rfl (N := 11) rfl 83 _ _ rfl (l0.length : Int) rfl rfl Tryd.underlying83 (.int .u32 0) 4 info85 rfl (by decide) (by omega) 0 (ok := fun _ => True) (okp := fun _ => True) rfl (fun _ hk => hk) trivial (xa) (Nat.le_trans (Nat.mul_le_mul_right _ (xa : (l0.length : Int).toNat ≤ 70368744177664)) (by omega)) (Below.refl _ _) (Nat.le_refl _) ?_; intro v504 w5 ho6 hb hg_ hnew_; clear hg_ hnew_; (first | rw [← Ny503.out] at ho6 | (simp only [Int.reduceToNat] at ho6; rw [← Ny503.out] at ho6)); have HO505 := Aside0.mk (Kd.R_lower (Kd.R_newM (M := fun k_ => (w.heap.size ≤ k_)) ho6 (below_size (xs HB)) (fun k_ h_ => h_)) (below_size (xs HB))); replace HB := xS HB hb; clear hb ho6))
 go_loopg [6, 14] k (fun kq v6 v14 w' => ∃ (x5_1 : List Int) (x6_1 : Int) (x14_1 : Int), v6 = .int .u32 x6_1 ∧ v14 = .int .i64 x14_1 ∧ Aside0 (natural_subtract.l0 kq l0 l1 x5_1 x6_1 (l0.length : Int) x14_1 = some r) ∧ Aside0 (kq ≤ k) ∧ Aside0 (Kd.R (Kd.int .u32) 85 w' w.heap.size (fun k_ => (w.heap.size ≤ k_)) v504 x5_1) ∧ Aside0 (Below w.heap.size w w'))
 case atStart => exact ⟨(y503), (0), (0), xz, xz, H', ⟨Nat.le_refl _⟩, ⟨by (with_reducible repeat (first | apply Kd.R_alloc | apply Kd.R_drewN | apply Kd.R_drew)); exact Kd.R_mono HO505.out (fun _ hk => hk.1)⟩, ⟨xs HB⟩⟩
 case round =>
  clear H'
  try clear c1
  try clear p2
  try clear c3
  try clear c3b0
  try clear c3b1
  try clear c4
  try clear c4b0
  try clear c4b1
  obtain ⟨x5_1, x6_1, x14_1, rfl, rfl, HA, HK1, HO_5, HB⟩ := hrel
  cases gk with
  | zero => exact absurd HA.out (by simp [natural_subtract.l0])
  | succ k1 =>
   have H := HA.out
   clear HA
   simp only [natural_subtract.l0] at H
   by_cases c7 : x14_1 < (l0.length : Int)
   ·rw [if_pos c7] at H
    have c7b0 : decide (x14_1 < (l0.length : Int)) = true := decide_eq_true c7
    clear c7
    by_cases c8 : x14_1 < (l1.length : Int)
    ·rw [if_pos c8] at H
     have c8b0 : decide (x14_1 < (l1.length : Int)) = true := decide_eq_true c8
     clear c8
     by_cases c9 : 0 ≤ x14_1
     rotate_left
     ·rw [if_neg c9] at H
      exact absurd H (by simp)
     rw [if_pos c9] at H
     have c9b0 : decide (0 ≤ x14_1) = true := decide_eq_true c9
     clear c9
     by_cases c10 : x14_1 < (l0.length : Int)
     rotate_left
     ·rw [if_neg c10] at H
      exact absurd H (by simp)
     rw [if_pos c10] at H
     have c10b0 : decide (x14_1 < (l0.length : Int)) = true := decide_eq_true c10
     clear c10
     replace H := xH H; obtain ⟨⟨t508, t509⟩, A11, H⟩ := H
     dsimp only at H
     by_cases c12 : x14_1 < (x5_1.length : Int)
     rotate_left
     ·rw [if_neg c12] at H
      exact absurd H (by simp)
     rw [if_pos c12] at H
     have c12b0 : decide (x14_1 < (x5_1.length : Int)) = true := decide_eq_true c12
     clear c12
     obtain ⟨y510, hy510⟩ : ∃ y_ : List Int, y_ = (x5_1.set (x14_1 : Int).toNat t508) := ⟨_, rfl⟩
     replace H : (natural_subtract.l0 k1 l0 l1 y510 t509 (l0.length : Int) (wrap64 (x14_1 + 1))) = some r := by first | (rw [hy510]; with_reducible exact H) | (have H2_ := (Option.bind_some _ _).symm.trans H; rw [hy510]; with_reducible exact H2_) | (have H2_ := (Option.bind_some _ _).symm.trans H; with_reducible exact H2_) | with_reducible exact H | (rw [hy510]; exact H) | exact H
     have Ny510 := Aside0.mk hy510
     clear hy510
     have H' := Aside0.mk H
     clear H
     have p506 : 0 ≤ (x14_1 : Int) := xa
     have q506 : x14_1 < (l1.length : Int) := xa
     obtain ⟨ad506, e506, hx506_0⟩ := Kd.at_int HR1.out x14_1 p506 q506
     cases e506
     (try replace hx506_0 := (HB.out.cell (World.block_lt_of_cell? w _ hx506_0)).trans hx506_0)
     replace p506 := eq_true p506
     replace q506 := eq_true q506
     have p507 : 0 ≤ (x14_1 : Int) := xa
     have q507 : x14_1 < (l0.length : Int) := xa
     obtain ⟨ad507, e507, hx507_0⟩ := Kd.at_int HR0.out x14_1 p507 q507
     cases e507
     (try replace hx507_0 := (HB.out.cell (World.block_lt_of_cell? w _ hx507_0)).trans hx507_0)
     replace p507 := eq_true p507
     replace q507 := eq_true q507
     go_wp2_with (first | (refine xg Tryd.func103 (some 34) #[.int .u32 (rd l0 x14_1), .int .u32 (rd l1 x14_1), .int .u32 x6_1] ?_; (with_reducible refine (bits_Sub32.calls (rd l0 x14_1) (rd l1 x14_1) x6_1 t508 t509 _ A11.out).mono ?_); rintro e w' ⟨rfl, ⟨nd, rfl⟩⟩; refine ⟨_, rfl, ?_⟩; (try (rw [drewN_self wr]; generalize hq_ : World.drewN wr _ = wr; have n0_ : Aside0 (Kd.R (Kd.int .u32) 85 wr w.heap.size (fun k_ => (w.heap.size ≤ k_)) v504 x5_1) := ⟨by rw [← hq_]; exact (xr HO_5.out)⟩; have n1_ : Aside0 (Below w.heap.size w wr) := ⟨by rw [← hq_]; exact (xs HB)⟩; clear HO_5 HB hq_; have HO_5 := n0_; have HB := n1_; clear n0_ n1_)); have p13 : 0 ≤ (x14_1 : Int) := xa; have q13 : (x14_1 : Int) < ((x5_1.length : Int) : Int) := xa; obtain ⟨go13, co13, eo13, gb13, gl13, cl13, HG13⟩ := Kd.R_form HO_5.out (by omega); (first | cases eo13 | (injection eo13 with ea_ en_ ec_; (first | subst ea_ | (injection ea_ with ea_; subst ea_)); subst ec_; clear en_)); have GB13 := Aside0.mk gb13; have GG13 := Aside0.mk HG13; clear gb13 gl13 HG13; obtain ⟨hx13_0, hf13_0⟩ := Kd.R_celln 0 HO_5.out (x14_1 : Int) p13 q13; replace p13 := eq_true p13; replace q13 := eq_true q13; obtain ⟨hy14_, hz14_⟩ := Kd.R_celln 0 HO_5.out (x14_1 : Int) (xa) (xa); have HP14 := Kd.R_putg HO_5.out (x14_1 : Int) t508) | ((with_reducible refine gate_store (t := 85) (p := 37) rfl ?_); refine store_event (t := 85) (p := 37) (v := ?vo_w15) (w1 := (wr.setCell ⟨go13, (x14_1 : Int).toNat, none⟩ (.int .u32 t508))) ?hg ?ho ?hn ?hr ?_; (case ho => rfl); (case hg => rfl); (case hn => rfl); (case hr => first | (go_simp; done) | (go_simp; rfl)); intro w15 hw; have hg : wr.grownBy w15 (some go13) := (by rw [hw]; exact HP14.2); have hp_ : Kd.R (Kd.int .u32) 85 w15 w.heap.size (fun k_ => (w.heap.size ≤ k_)) (.slice (some ⟨go13, 0, none⟩) x5_1.length co13) y510 := (by rw [hw, Ny510.out]; exact HP14.1); clear HP14; replace HO_5 := Aside0.mk (hp_); replace HB := Aside0.mk ((by rw [hw]; exact below_set (HB.out) GB13.out : Below w.heap.size w w15)); clear hg hw hp_))
     (first | go_roundg k1 | (refine Handed.intro k1 ?measure ?_; rotate_left; go_step; (repeat apply Exists.intro); refine ⟨?rel, (by first | rfl | (simp only [add_plain]; rfl))⟩))
     case measure => have := HK1.out; omega
     case rel => exact ⟨(y510), (t509), (wrap64 (x14_1 + 1)), xz, xz, H', ⟨by have := HK1.out; omega⟩, ⟨xr HO_5.out⟩, ⟨xs HB⟩⟩
    ·rw [if_neg c8] at H
     have c8b0 : decide (x14_1 < (l1.length : Int)) = false := decide_eq_false c8
     clear c8
     by_cases c16 : 0 ≤ x14_1
     rotate_left
     ·rw [if_neg c16] at H
      exact absurd H (by simp)
     rw [if_pos c16] at H
     have c16b0 : decide (0 ≤ x14_1) = true := decide_eq_true c16
     clear c16
     by_cases c17 : x14_1 < (l0.length : Int)
     rotate_left
     ·rw [if_neg c17] at H
      exact absurd H (by simp)
     rw [if_pos c17] at H
     have c17b0 : decide (x14_1 < (l0.length : Int)) = true := decide_eq_true c17
     clear c17
     replace H := xH H; obtain ⟨⟨t512, t513⟩, A18, H⟩ := H
     dsimp only at H
     by_cases c19 : x14_1 < (x5_1.length : Int)
     rotate_left
     ·rw [if_neg c19] at H
      exact absurd H (by simp)
     rw [if_pos c19] at H
     have c19b0 : decide (x14_1 < (x5_1.length : Int)) = true := decide_eq_true c19
     clear c19
     obtain ⟨y514, hy514⟩ : ∃ y_ : List Int, y_ = (x5_1.set (x14_1 : Int).toNat t512) := ⟨_, rfl⟩
     replace H : (natural_subtract.l0 k1 l0 l1 y514 t513 (l0.length : Int) (wrap64 (x14_1 + 1))) = some r := by first | (rw [hy514]; with_reducible exact H) | (have H2_ := (Option.bind_some _ _).symm.trans H; rw [hy514]; with_reducible exact H2_) | (have H2_ := (Option.bind_some _ _).symm.trans H; with_reducible exact H2_) | with_reducible exact H | (rw [hy514]; exact H) | exact H
     have Ny514 := Aside0.mk hy514
     clear hy514
     have H' := Aside0.mk H
     clear H
     have p511 : 0 ≤ (x14_1 : Int) := xa
     have q511 : x14_1 < (l0.length : Int) := xa
     obtain ⟨ad511, e511, hx511_0⟩ := Kd.at_int HR0.out x14_1 p511 q511
     cases e511
     (try replace hx511_0 := (HB.out.cell (World.block_lt_of_cell? w _ hx511_0)).trans hx511_0)
     replace p511 := eq_true p511
     replace q511 := eq_true q511
     go_wp2_with (first | (refine xg Tryd.func103 (some 34) #[.int .u32 (rd l0 x14_1), .int .u32 0, .int .u32 x6_1] ?_; (with_reducible refine (bits_Sub32.calls (rd l0 x14_1) 0 x6_1 t512 t513 _ A18.out).mono ?_); rintro e w' ⟨rfl, ⟨nd, rfl⟩⟩; refine ⟨_, rfl, ?_⟩; (try (rw [drewN_self wr]; generalize hq_ : World.drewN wr _ = wr; have n0_ : Aside0 (Kd.R (Kd.int .u32) 85 wr w.heap.size (fun k_ => (w.heap.size ≤ k_)) v504 x5_1) := ⟨by rw [← hq_]; exact (xr HO_5.out)⟩; have n1_ : Aside0 (Below w.heap.size w wr) := ⟨by rw [← hq_]; exact (xs HB)⟩; clear HO_5 HB hq_; have HO_5 := n0_; have HB := n1_; clear n0_ n1_)); have p20 : 0 ≤ (x14_1 : Int) := xa; have q20 : (x14_1 : Int) < ((x5_1.length : Int) : Int) := xa; obtain ⟨go20, co20, eo20, gb20, gl20, cl20, HG20⟩ := Kd.R_form HO_5.out (by omega); (first | cases eo20 | (injection eo20 with ea_ en_ ec_; (first | subst ea_ | (injection ea_ with ea_; subst ea_)); subst ec_; clear en_)); have GB20 := Aside0.mk gb20; have GG20 := Aside0.mk HG20; clear gb20 gl20 HG20; obtain ⟨hx20_0, hf20_0⟩ := Kd.R_celln 0 HO_5.out (x14_1 : Int) p20 q20; replace p20 := eq_true p20; replace q20 := eq_true q20; obtain ⟨hy21_, hz21_⟩ := Kd.R_celln 0 HO_5.out (x14_1 : Int) (xa) (xa); have HP21 := Kd.R_putg HO_5.out (x14_1 : Int) t512) | ((with_reducible refine gate_store (t := 85) (p := 37) rfl ?_); refine store_event (t := 85) (p := 37) (v := ?vo_w22) (w1 := (wr.setCell ⟨go20, (x14_1 : Int).toNat, none⟩ (.int .u32 t512))) ?hg ?ho ?hn ?hr ?_; (case ho => rfl); (case hg => rfl); (case hn => rfl); (case hr => first | (go_simp; done) | (go_simp; rfl)); intro w22 hw; have hg : wr.grownBy w22 (some go20) := (by rw [hw]; exact HP21.2); have hp_ : Kd.R (Kd.int .u32) 85 w22 w.heap.size (fun k_ => (w.heap.size ≤ k_)) (.slice (some ⟨go20, 0, none⟩) x5_1.length co20) y514 := (by rw [hw, Ny514.out]; exact HP21.1); clear HP21; replace HO_5 := Aside0.mk (hp_); replace HB := Aside0.mk ((by rw [hw]; exact below_set (HB.out) GB20.out : Below w.heap.size w w22)); clear hg hw hp_))
     (first | go_roundg k1 | (refine Handed.intro k1 ?measure ?_; rotate_left; go_step; (repeat apply Exists.intro); refine ⟨?rel, (by first | rfl | (simp only [add_plain]; rfl))⟩))
     case measure => have := HK1.out; omega
     case rel => exact ⟨(y514), (t513), (wrap64 (x14_1 + 1)), xz, xz, H', ⟨by have := HK1.out; omega⟩, ⟨xr HO_5.out⟩, ⟨xs HB⟩⟩
   ·rw [if_neg c7] at H
    have c7b0 : decide (x14_1 < (l0.length : Int)) = false := decide_eq_false c7
    clear c7
    replace H := xH H; obtain ⟨t515, A23, H⟩ := H
    obtain rfl := Option.some.inj H
    obtain ⟨Ao24, co24, eo24⟩ := Kd.R_slice HO_5.out
    subst eo24
    go_wp2_with (first | (refine xg Tryd.func98 (some 40) #[.slice Ao24 x5_1.length co24] ?_; (with_reducible refine (natural_limbs_trim.calls k1 (fun k_ => some k_ = (.slice Ao24 x5_1.length co24 : Value).ownBlock) _ _ x5_1 t515 _ ?side1 A23.out).mono ?_); (case side1 => exact Kd.R_V (Kd.R_tight rfl (HO_5.out))); rintro e w25 ⟨v516, rfl, ho0, hb⟩; refine ⟨_, rfl, ?_⟩; have HO517 := Aside0.mk (Kd.V_lower (Kd.V_mono (ok' := fun k_ => (w.heap.size ≤ k_)) ho0 (fun k_ hk_ => Or.elim hk_ (fun hs_ => ((HO_5.out).1 k_ hs_.symm)) (fun hn_ => (Nat.le_trans (below_size (xs HB)) hn_)))) (below_size (xs HB))); replace HO_5 := Aside0.mk (Kd.R_below (xr HO_5.out) hb); replace HB := xS HB hb; clear hb ho0))
    go_ret
    exact ⟨_, xy, by (with_reducible repeat (first | apply Kd.V_alloc | apply Kd.V_drewN | apply Kd.V_drew)); exact HO517.out, xs HB⟩
/-! ### natural_Subtract: function 73 -/
def natural_Subtract.f (k : Nat) (a0 : ByteArray) (a1 : ByteArray) : Option (ByteArray × Bool) := (natural_parse.f k a0).bind fun t518 => ((natural_parse.f k a1).bind fun t521 => ((natural_compare.f k t518 t521).bind fun t524 => (if t524 < 0 then (some ((⟨#[]⟩ : ByteArray), false)) else ((natural_subtract.f k t518 t521).bind fun t525 => ((natural_limbs_text.f k t525).bind fun t528 => (some (t528, true)))))))
theorem natural_Subtract.mono : ∀ a0 a1 k, LeO (natural_Subtract.f k a0 a1) (natural_Subtract.f (k + 1) a0 a1) := by
 intro a0 a1 k
 unfold natural_Subtract.f
 have m0 := @natural_compare.mono; have m1 := @natural_limbs_text.mono; have m2 := @natural_parse.mono; have m3 := @natural_subtract.mono; exact xM
set_option maxHeartbeats 8000000 in
set_option maxRecDepth 100000 in
theorem natural_Subtract.calls (k : Nat) (a0 : ByteArray) (a1 : ByteArray) (r1 : ByteArray) (r2 : Bool) (w : World) (h : natural_Subtract.f k a0 a1 = some (r1, r2)) :
  Calls Tryd.prog 73 #[.string a0, .string a1] w fun e w' => e = .returned (.tuple #[.string r1, .bool r2]) ∧ Below w.heap.size w w' := by
 have HB := Aside0.mk (Below.refl w.heap.size w)
 have H : ((natural_parse.f k a0).bind fun t518 => ((natural_parse.f k a1).bind fun t521 => ((natural_compare.f k t518 t521).bind fun t524 => (if t524 < 0 then (some ((⟨#[]⟩ : ByteArray), false)) else ((natural_subtract.f k t518 t521).bind fun t525 => ((natural_limbs_text.f k t525).bind fun t528 => (some (t528, true)))))))) = some (r1, r2) := h
 clear h
 replace H := xH H; obtain ⟨t518, A3, H⟩ := H
 replace H := xH H; obtain ⟨t521, A4, H⟩ := H
 replace H := xH H; obtain ⟨t524, A5, H⟩ := H
 by_cases c6 : t524 < 0
 ·rw [if_pos c6] at H
  have c6b0 : decide (t524 < 0) = true := decide_eq_true c6
  clear c6
  simp only [Option.some.injEq, Prod.mk.injEq] at H
  obtain ⟨rfl, rfl⟩ := H
  go_enter Tryd.func73, Tryd.ntmps73
  go_wp2_with (first | (refine xg Tryd.func77 (some 9) #[.string a0] ?_; (with_reducible refine (natural_parse.calls k a0 t518 _ A3.out).mono ?_); rintro e w7 ⟨v519, rfl, ho0, hb⟩; refine ⟨_, rfl, ?_⟩; have HO520 := Aside0.mk (Kd.V_lower (Kd.V_mono (ok' := fun k_ => True) ho0 (fun k_ hk_ => trivial)) (below_size (xs HB))); replace HB := xS HB hb; clear hb ho0) | (refine xg Tryd.func77 (some 11) #[.string a1] ?_; (with_reducible refine (natural_parse.calls k a1 t521 _ A4.out).mono ?_); rintro e w8 ⟨v522, rfl, ho0, hb⟩; refine ⟨_, rfl, ?_⟩; replace HO520 := Aside0.mk (Kd.V_below (xv HO520.out) hb); have HO523 := Aside0.mk (Kd.V_lower (Kd.V_mono (ok' := fun k_ => True) ho0 (fun k_ hk_ => trivial)) (below_size (xs HB))); replace HB := xS HB hb; clear hb ho0; obtain ⟨Ao9, co9, eo9⟩ := Kd.V_slice HO520.out; subst eo9; obtain ⟨Ao10, co10, eo10⟩ := Kd.V_slice HO523.out; subst eo10) | (refine xg Tryd.func94 (some 14) #[.slice Ao9 t518.length co9, .slice Ao10 t521.length co10] ?_; (with_reducible refine (natural_compare.calls k _ _ t518 _ _ t521 t524 _ (xf (Kd.V_reads' HO520.out).2.2) (Kd.V_reads' HO520.out).2.1 (xf (Kd.V_reads' HO523.out).2.2) (Kd.V_reads' HO523.out).2.1 A5.out).mono ?_); rintro e w' ⟨rfl, ⟨nd, rfl⟩⟩; refine ⟨_, rfl, ?_⟩))
  (try have eA4_ := Option.some.inj (A3.out.symm.trans A4.out))
  go_ret2
  exact ⟨xy, xs HB⟩
 ·rw [if_neg c6] at H
  have c6b0 : decide (t524 < 0) = false := decide_eq_false c6
  clear c6
  replace H := xH H; obtain ⟨t525, A11, H⟩ := H
  replace H := xH H; obtain ⟨t528, A12, H⟩ := H
  simp only [Option.some.injEq, Prod.mk.injEq] at H
  obtain ⟨rfl, rfl⟩ := H
  go_enter Tryd.func73, Tryd.ntmps73
  go_wp2_with (first | (refine xg Tryd.func77 (some 9) #[.string a0] ?_; (with_reducible refine (natural_parse.calls k a0 t518 _ A3.out).mono ?_); rintro e w13 ⟨v519, rfl, ho0, hb⟩; refine ⟨_, rfl, ?_⟩; have HO520 := Aside0.mk (Kd.V_lower (Kd.V_mono (ok' := fun k_ => True) ho0 (fun k_ hk_ => trivial)) (below_size (xs HB))); replace HB := xS HB hb; clear hb ho0) | (refine xg Tryd.func77 (some 11) #[.string a1] ?_; (with_reducible refine (natural_parse.calls k a1 t521 _ A4.out).mono ?_); rintro e w14 ⟨v522, rfl, ho0, hb⟩; refine ⟨_, rfl, ?_⟩; replace HO520 := Aside0.mk (Kd.V_below (xv HO520.out) hb); have HO523 := Aside0.mk (Kd.V_lower (Kd.V_mono (ok' := fun k_ => True) ho0 (fun k_ hk_ => trivial)) (below_size (xs HB))); replace HB := xS HB hb; clear hb ho0; obtain ⟨Ao15, co15, eo15⟩ := Kd.V_slice HO520.out; subst eo15; obtain ⟨Ao16, co16, eo16⟩ := Kd.V_slice HO523.out; subst eo16) | (refine xg Tryd.func94 (some 14) #[.slice Ao15 t518.length co15, .slice Ao16 t521.length co16] ?_; (with_reducible refine (natural_compare.calls k _ _ t518 _ _ t521 t524 _ (xf (Kd.V_reads' HO520.out).2.2) (Kd.V_reads' HO520.out).2.1 (xf (Kd.V_reads' HO523.out).2.2) (Kd.V_reads' HO523.out).2.1 A5.out).mono ?_); rintro e w' ⟨rfl, ⟨nd, rfl⟩⟩; refine ⟨_, rfl, ?_⟩) | (refine xg Tryd.func95 (some 18) #[.slice Ao15 t518.length co15, .slice Ao16 t521.length co16] ?_; (with_reducible refine (natural_subtract.calls k _ _ t518 _ _ t521 t525 _ (xf (Kd.V_reads' HO520.out).2.2) (Kd.V_reads' HO520.out).2.1 (xf (Kd.V_reads' HO523.out).2.2) (Kd.V_reads' HO523.out).2.1 A11.out).mono ?_); rintro e w17 ⟨v526, rfl, ho0, hb⟩; refine ⟨_, rfl, ?_⟩; replace HO520 := Aside0.mk (Kd.V_below (xv HO520.out) hb); replace HO523 := Aside0.mk (Kd.V_below (xv HO523.out) hb); have HO527 := Aside0.mk (Kd.V_lower (Kd.V_mono (ok' := fun k_ => True) ho0 (fun k_ hk_ => trivial)) (below_size (xs HB))); replace HB := xS HB hb; clear hb ho0; obtain ⟨Ao18, co18, eo18⟩ := Kd.V_slice HO527.out; subst eo18) | (refine xg Tryd.func78 (some 19) #[.slice Ao18 t525.length co18] ?_; (with_reducible refine (natural_limbs_text.calls k _ _ t525 t528 _ (xf (Kd.V_reads' HO527.out).2.2) (Kd.V_reads' HO527.out).2.1 A12.out).mono ?_); rintro e w19 ⟨rfl, hb⟩; refine ⟨_, rfl, ?_⟩; replace HO520 := Aside0.mk (Kd.V_below (xv HO520.out) hb); replace HO523 := Aside0.mk (Kd.V_below (xv HO523.out) hb); replace HO527 := Aside0.mk (Kd.V_below (xv HO527.out) hb); replace HB := xS HB hb; clear hb))
  (try have eA4_ := Option.some.inj (A3.out.symm.trans A4.out))
  go_ret2
  exact ⟨xy, xs HB⟩
/-! ### rational_add: function 46 -/
def rational_add.j0 : Nat → ByteArray → ByteArray → ByteArray → Bool → ByteArray → ByteArray → Bool → ByteArray → ByteArray → Option (Bool × ByteArray × ByteArray)
 | 0, _, _, _, _, _, _, _, _, _ => none
 | k + 1, x5, x6, x7, x530000, x530001, x530002, x531000, x531001, x531002 => if (x530000 == x531000) = true then ((natural_Add.f k x5 x6).bind fun t540 => ((rational_reduced.f k x530000 t540 x7).bind fun bt541 => (some (bt541.1, bt541.2.1, bt541.2.2)))) else ((natural_Subtract.f k x5 x6).bind fun bt544 => (if bt544.2 = true then ((rational_reduced.f k x530000 bt544.1 x7).bind fun bt546 => (some (bt546.1, bt546.2.1, bt546.2.2))) else ((natural_Subtract.f k x6 x5).bind fun bt549 => ((rational_reduced.f k x531000 bt549.1 x7).bind fun bt551 => (some (bt551.1, bt551.2.1, bt551.2.2))))))
def rational_add.f (k : Nat) (a0_0 : Bool) (a0_1 : ByteArray) (a0_2 : ByteArray) (a1_0 : Bool) (a1_1 : ByteArray) (a1_2 : ByteArray) : Option (Bool × ByteArray × ByteArray) := if a0_2.toList = a1_2.toList then ((rational_den.f a0_0 a0_1 a0_2).bind fun t532 => (rational_add.j0 k a0_1 a1_1 t532 a0_0 a0_1 a0_2 a1_0 a1_1 a1_2)) else ((rational_den.f a1_0 a1_1 a1_2).bind fun t533 => ((natural_Multiply.f k a0_1 t533).bind fun t534 => ((rational_den.f a0_0 a0_1 a0_2).bind fun t535 => ((natural_Multiply.f k a1_1 t535).bind fun t536 => ((rational_den.f a0_0 a0_1 a0_2).bind fun t537 => ((rational_den.f a1_0 a1_1 a1_2).bind fun t538 => ((natural_Multiply.f k t537 t538).bind fun t539 => (rational_add.j0 k t534 t536 t539 a0_0 a0_1 a0_2 a1_0 a1_1 a1_2))))))))
theorem rational_add.mono_l : ∀ k, (∀ y0 y1 y2 y3 y4 y5 y6 y7 y8, LeO (rational_add.j0 k y0 y1 y2 y3 y4 y5 y6 y7 y8) (rational_add.j0 (k + 1) y0 y1 y2 y3 y4 y5 y6 y7 y8))
 | 0 => fun _ _ _ _ _ _ _ _ _ r h => by simp [rational_add.j0] at h
 | k + 1 => by
  have ih0 := rational_add.mono_l k
  ·intro y0 y1 y2 y3 y4 y5 y6 y7 y8
   unfold rational_add.j0
   have m0 := @ih0; have m1 := @natural_Add.mono; have m2 := @natural_Multiply.mono; have m3 := @natural_Subtract.mono; have m4 := @rational_reduced.mono; exact xM
theorem rational_add.mono : ∀ a0 a1 a2 a3 a4 a5 k, LeO (rational_add.f k a0 a1 a2 a3 a4 a5) (rational_add.f (k + 1) a0 a1 a2 a3 a4 a5) := by
 intro a0 a1 a2 a3 a4 a5 k
 have ih0 := rational_add.mono_l k
 unfold rational_add.f
 have m0 := @ih0; have m1 := @natural_Add.mono; have m2 := @natural_Multiply.mono; have m3 := @natural_Subtract.mono; have m4 := @rational_reduced.mono; exact xM
def rational_add.T3 : Bool × List (List Nat × List Nat) := (true, [([], []), ([], []), ([1], [1]), ([0, 2, 2], [0, 2]), ([], []), ([], []), ([5, 3], [5]), ([4, 6, 6], [4, 6]), ([3, 7, 0, 1, 2, 3], [0, 3]), ([7, 8, 0, 1, 2, 3, 4, 5, 6, 7, 8], [4, 7])])
def rational_add.B3 : List Nat := [0, 0, 2, 7, 0, 0, 47, 127, 255, 511]
theorem rational_add.tab3 : rtab .any (opsOf Tryd.f46 3) = rational_add.T3 := by kernel_rfl
theorem rational_add.bits3 : waitsOk rational_add.T3.2 rational_add.B3 = true := by kernel_rfl
def rational_add.T7 : Bool × List (List Nat × List Nat) := (true, [([], []), ([0], [0]), ([], []), ([], []), ([2, 3], [2, 3]), ([], []), ([1, 4, 5, 4], [1, 4, 5]), ([6, 6, 0, 1, 2, 3, 4, 5, 6], [6])])
def rational_add.B7 : List Nat := [0, 1, 0, 0, 12, 0, 63, 127]
theorem rational_add.tab7 : rtab .any (opsOf Tryd.f46 7) = rational_add.T7 := by kernel_rfl
theorem rational_add.bits7 : waitsOk rational_add.T7.2 rational_add.B7 = true := by kernel_rfl
set_option maxHeartbeats 8000000 in
set_option maxRecDepth 100000 in
theorem rational_add.calls (k : Nat) (a0_0 : Bool) (a0_1 : ByteArray) (a0_2 : ByteArray) (a1_0 : Bool) (a1_1 : ByteArray) (a1_2 : ByteArray) (r1 : Bool) (r2 : ByteArray) (r3 : ByteArray) (w : World) (h : rational_add.f k a0_0 a0_1 a0_2 a1_0 a1_1 a1_2 = some (r1, r2, r3)) :
  Calls Tryd.prog 46 #[.agg #[.bool a0_0, .string a0_1, .string a0_2], .agg #[.bool a1_0, .string a1_1, .string a1_2]] w fun e w' => e = .returned (.agg #[.bool r1, .string r2, .string r3]) ∧ Below w.heap.size w w' := by
 have hu25 := Tryd.underlying25
 have HB := Aside0.mk (Below.refl w.heap.size w)
 have H : (if a0_2.toList = a1_2.toList then ((rational_den.f a0_0 a0_1 a0_2).bind fun t532 => (rational_add.j0 k a0_1 a1_1 t532 a0_0 a0_1 a0_2 a1_0 a1_1 a1_2)) else ((rational_den.f a1_0 a1_1 a1_2).bind fun t533 => ((natural_Multiply.f k a0_1 t533).bind fun t534 => ((rational_den.f a0_0 a0_1 a0_2).bind fun t535 => ((natural_Multiply.f k a1_1 t535).bind fun t536 => ((rational_den.f a0_0 a0_1 a0_2).bind fun t537 => ((rational_den.f a1_0 a1_1 a1_2).bind fun t538 => ((natural_Multiply.f k t537 t538).bind fun t539 => (rational_add.j0 k t534 t536 t539 a0_0 a0_1 a0_2 a1_0 a1_1 a1_2))))))))) = some (r1, r2, r3) := h
 clear h
 have HC3 := Aside0.mk H
 clear H
 go_enter Tryd.func46, Tryd.ntmps46
 try go_wp2_with (first | (refine xE (N := 2) #[.bool a0_0, .string a0_1, .string a0_2] 25 rfl ?_; intro gb529 hg w4 hbox hb; have BK529 := Aside0.mk (hbox); have GW529 := (xG HB hg); have GE529 := (xG HB hg); replace HB := xS HB hb; clear hb hbox hg) | (refine xE (N := 3) #[.bool a1_0, .string a1_1, .string a1_2] 25 rfl ?_; intro gb530 hg w5 hbox hb; have BK530 := Aside0.mk (hbox); have GW530 := (xG HB hg); have GE530 := (xG HB hg); replace HB := xS HB hb; have NB529_530 := xL BK529 hg; have NB530_529 := xR BK529 hg; replace BK529 := xB BK529 hb; clear hb hbox hg) | (refine xE (N := 4) #[.bool false, .string (⟨#[]⟩ : ByteArray), .string (⟨#[]⟩ : ByteArray)] 25 rfl ?_; intro gb531 hg w6 hbox hb; have BK531 := Aside0.mk (hbox); have GW531 := (xG HB hg); have GE531 := (xG HB hg); replace HB := xS HB hb; have NB529_531 := xL BK529 hg; have NB531_529 := xR BK529 hg; replace BK529 := xB BK529 hb; have NB530_531 := xL BK530 hg; have NB531_530 := xR BK530 hg; replace BK530 := xB BK530 hb; clear hb hbox hg))
 replace BK529 := xD BK529
 replace BK530 := xD BK530
 replace BK531 := xD BK531
 replace HB := xW HB
 refine start_ (n := 7) (S := fun w' => w'.cell? ⟨gb529, 0, none⟩ = some (.bool a0_0) ∧ w'.cell? ⟨gb529, 1, none⟩ = some (.string a0_1) ∧ w'.cell? ⟨gb529, 2, none⟩ = some (.string a0_2) ∧ w'.cell? ⟨gb530, 0, none⟩ = some (.bool a1_0) ∧ w'.cell? ⟨gb530, 1, none⟩ = some (.string a1_1) ∧ w'.cell? ⟨gb530, 2, none⟩ = some (.string a1_2)) (ds := []) #[false, false, false, false, false, false, false] (by kernel_rfl) rfl rfl xV (fun hHeld => ?_)
 generalize w6.drew = w7 at BK529 BK530 BK531 HB hHeld ⊢
 refine xP 0 (some 12) (b 7 1) rfl rfl ?_
 refine xP 2 (some 14) (b 7 5) rfl rfl ?_
 refine xT 1 (some 13) (b 7 7) rfl rfl hHeld ?_
 refine xP 4 (some 5) (b 7 23) rfl rfl ?_
 refine xT 3 (some 15) (b 7 31) rfl rfl hHeld ?_
 refine xP 5 (some 6) (b 7 63) rfl rfl ?_
 refine xP 6 (some 7) (b 7 127) rfl rfl ?_
 refine done_ (by kernel_rfl) ?_
 have hnb8 := NB529_530.out
 have hnc8 := NB530_529.out
 have hnb9 := NB529_531.out
 have hnc9 := NB531_529.out
 obtain ⟨hcz10_0, hcz10_1, hcz10_2, hfz10_0, hfz10_1, hfz10_2⟩ := x6 BK529
 have hnb11 := NB530_531.out
 have hnc11 := NB531_530.out
 obtain ⟨hcz12_0, hcz12_1, hcz12_2, hfz12_0, hfz12_1, hfz12_2⟩ := x6 BK530
 go_upto_if 20 with (fail)
 repeat (go_quiet (fail); go_upto_if 20 with (fail))
 go_cut [5, 6, 7] (fun v5 v6 v7 wc => ∃ (kq : Nat) (x5_2 : ByteArray) (x6_2 : ByteArray) (x7_2 : ByteArray), v5 = .string x5_2 ∧ v6 = .string x6_2 ∧ v7 = .string x7_2 ∧ Aside0 (rational_add.j0 kq x5_2 x6_2 x7_2 a0_0 a0_1 a0_2 a1_0 a1_1 a1_2 = some (r1, r2, r3)) ∧ Aside0 (kq ≤ k) ∧ Aside0 (wc.heap[gb529]? = some (.cells #[.bool a0_0, .string a0_1, .string a0_2] 25 (0, 0))) ∧ Aside0 (wc.heap[gb530]? = some (.cells #[.bool a1_0, .string a1_1, .string a1_2] 25 (0, 0))) ∧ Aside0 (wc.heap[gb531]? = some (.cells #[.bool false, .string (⟨#[]⟩ : ByteArray), .string (⟨#[]⟩ : ByteArray)] 25 (0, 0))) ∧ Aside0 (Below w.heap.size w wc))
 case first =>
  have H := HC3.out
  clear HC3
  by_cases c13 : a0_2.toList = a1_2.toList
  ·rw [if_pos c13] at H
   have c13b0 : (a0_2.toList == a1_2.toList) = true := beq_iff_eq.mpr c13
   have c13b1 : (a0_2.toList != a1_2.toList) = false := bne_eq_false_iff_eq.mpr c13
   clear c13
   (first | rw [c13b0] | (simp only [i64_w, i32_w]; rw [c13b0]) | rw [c13b1] | skip)
   replace H := xH H; obtain ⟨t532, A14, H⟩ := H
   have H' := Aside0.mk H
   clear H
   have hnb15 := NB529_530.out
   have hnc15 := NB530_529.out
   have hnb16 := NB529_531.out
   have hnc16 := NB531_529.out
   obtain ⟨hcz17_0, hcz17_1, hcz17_2, hfz17_0, hfz17_1, hfz17_2⟩ := x6 BK529
   go_wp2_with (first | (refine xC Tryd.func49 (some 35) (rational_den.calls a0_0 a0_1 a0_2 t532 _ A14.out) ?_; rintro w18 hb; replace BK529 := xB BK529 hb; replace BK530 := xB BK530 hb; replace BK531 := xB BK531 hb; replace HB := xS HB hb; clear hb))
   go_meet
   case rel => exact ⟨_, (a0_1), (a1_1), (t532), xz, xz, xz, H', ⟨by first | omega | exact Nat.le_refl _⟩, ⟨xb BK529⟩, ⟨xb BK530⟩, ⟨xb BK531⟩, ⟨xs HB⟩⟩
  ·rw [if_neg c13] at H
   have c13b0 : (a0_2.toList == a1_2.toList) = false := beq_eq_false_iff_ne.mpr c13
   have c13b1 : (a0_2.toList != a1_2.toList) = true := bne_iff_ne.mpr c13
   (first | rw [c13b0] | (simp only [i64_w, i32_w]; rw [c13b0]) | rw [c13b1] | skip)
   replace H := xH H; obtain ⟨t533, A19, H⟩ := H
   replace H := xH H; obtain ⟨t534, A20, H⟩ := H
   replace H := xH H; obtain ⟨t535, A21, H⟩ := H
   replace H := xH H; obtain ⟨t536, A22, H⟩ := H
   replace H := xH H; obtain ⟨t537, A23, H⟩ := H
   replace H := xH H; obtain ⟨t538, A24, H⟩ := H
   replace H := xH H; obtain ⟨t539, A25, H⟩ := H
   have H' := Aside0.mk H
   clear H
   try go_wp2
   replace BK529 := xD BK529
   replace BK530 := xD BK530
   replace BK531 := xD BK531
   replace HB := xW HB
   refine start_ (n := 10) (S := fun w' => w'.cell? ⟨gb530, 0, none⟩ = some (.bool a1_0) ∧ w'.cell? ⟨gb530, 1, none⟩ = some (.string a1_1) ∧ w'.cell? ⟨gb530, 2, none⟩ = some (.string a1_2) ∧ w'.cell? ⟨gb529, 0, none⟩ = some (.bool a0_0) ∧ w'.cell? ⟨gb529, 1, none⟩ = some (.string a0_1) ∧ w'.cell? ⟨gb529, 2, none⟩ = some (.string a0_2)) (ds := []) #[false, false, false, false, false, false, false, false, false, false] (by kernel_rfl) rfl rfl xV (fun hHeld => ?_); refine with_tabW rational_add.tab3 rational_add.bits3 (fun HT_ HW_ => ?_)
   generalize w7.drew = w26 at BK529 BK530 BK531 HB hHeld ⊢
   refine xP 0 (some 21) (b 10 1) rfl rfl ?_
   refine xP 4 (some 25) (b 10 17) rfl rfl ?_
   refine xT 1 (some 22) (b 10 19) rfl rfl hHeld ?_
   refine xT 5 (some 26) (b 10 51) rfl rfl hHeld ?_
   refine xO 2 (some 23) (b 10 55) rfl rfl fun K hK => ?_
   refine xc Tryd.func49 (rational_den.calls a1_0 a1_1 a1_2 t533 _ A19.out) ?_
   rintro w27 hb
   replace BK529 := xB BK529 hb
   replace BK530 := xB BK530 hb
   replace BK531 := xB BK531 hb
   replace HB := xS HB hb
   clear hb
   refine hK.out _ _ xV (fun hHeld => ?_)
   clear hK K
   refine xN 23 ?_
   refine xO 3 (some 24) (b 10 63) rfl rfl fun K hK => ?_
   refine xc Tryd.func48 (natural_Multiply.calls k a0_1 t533 t534 _ A20.out) ?_
   rintro w28 hb
   replace BK529 := xB BK529 hb
   replace BK530 := xB BK530 hb
   replace BK531 := xB BK531 hb
   replace HB := xS HB hb
   clear hb
   refine hK.out _ _ xV (fun hHeld => ?_)
   clear hK K
   refine xN 24 ?_
   refine xO 6 (some 27) (b 10 127) rfl rfl fun K hK => ?_
   refine xc Tryd.func49 (rational_den.calls a0_0 a0_1 a0_2 t535 _ A21.out) ?_
   rintro w29 hb
   replace BK529 := xB BK529 hb
   replace BK530 := xB BK530 hb
   replace BK531 := xB BK531 hb
   replace HB := xS HB hb
   clear hb
   refine hK.out _ _ xV (fun hHeld => ?_)
   clear hK K
   refine xN 27 ?_
   refine xO 7 (some 28) (b 10 255) rfl rfl fun K hK => ?_
   refine xc Tryd.func48 (natural_Multiply.calls k a1_1 t535 t536 _ A22.out) ?_
   rintro w30 hb
   replace BK529 := xB BK529 hb
   replace BK530 := xB BK530 hb
   replace BK531 := xB BK531 hb
   replace HB := xS HB hb
   clear hb
   refine hK.out _ _ xV (fun hHeld => ?_)
   clear hK K
   refine xN 28 ?_
   refine xP 8 (some 5) (b 10 511) rfl rfl ?_
   refine xP 9 (some 6) (b 10 1023) rfl rfl ?_
   refine done_ (done_of HT_.out (by kernel_rfl)) ?_
   try go_wp2
   replace BK529 := xD BK529
   replace BK530 := xD BK530
   replace BK531 := xD BK531
   replace HB := xW HB
   refine start_ (n := 6) (S := fun w' => w'.cell? ⟨gb529, 0, none⟩ = some (.bool a0_0) ∧ w'.cell? ⟨gb529, 1, none⟩ = some (.string a0_1) ∧ w'.cell? ⟨gb529, 2, none⟩ = some (.string a0_2) ∧ w'.cell? ⟨gb530, 0, none⟩ = some (.bool a1_0) ∧ w'.cell? ⟨gb530, 1, none⟩ = some (.string a1_1) ∧ w'.cell? ⟨gb530, 2, none⟩ = some (.string a1_2)) (ds := []) #[false, false, false, false, false, false] (by kernel_rfl) rfl rfl xV (fun hHeld => ?_)
   generalize w30.drew = w31 at BK529 BK530 BK531 HB hHeld ⊢
   refine xT 0 (some 29) (b 6 1) rfl rfl hHeld ?_
   refine xT 2 (some 31) (b 6 5) rfl rfl hHeld ?_
   refine xO 1 (some 30) (b 6 7) rfl rfl fun K hK => ?_
   refine xc Tryd.func49 (rational_den.calls a0_0 a0_1 a0_2 t537 _ A23.out) ?_
   rintro w32 hb
   replace BK529 := xB BK529 hb
   replace BK530 := xB BK530 hb
   replace BK531 := xB BK531 hb
   replace HB := xS HB hb
   clear hb
   refine hK.out _ _ xV (fun hHeld => ?_)
   clear hK K
   refine xN 30 ?_
   refine xO 3 (some 32) (b 6 15) rfl rfl fun K hK => ?_
   refine xc Tryd.func49 (rational_den.calls a1_0 a1_1 a1_2 t538 _ A24.out) ?_
   rintro w33 hb
   replace BK529 := xB BK529 hb
   replace BK530 := xB BK530 hb
   replace BK531 := xB BK531 hb
   replace HB := xS HB hb
   clear hb
   refine hK.out _ _ xV (fun hHeld => ?_)
   clear hK K
   refine xN 32 ?_
   refine xO 4 (some 33) (b 6 31) rfl rfl fun K hK => ?_
   refine xc Tryd.func48 (natural_Multiply.calls k t537 t538 t539 _ A25.out) ?_
   rintro w34 hb
   replace BK529 := xB BK529 hb
   replace BK530 := xB BK530 hb
   replace BK531 := xB BK531 hb
   replace HB := xS HB hb
   clear hb
   refine hK.out _ _ xV (fun hHeld => ?_)
   clear hK K
   refine xN 33 ?_
   refine xP 5 (some 7) (b 6 63) rfl rfl ?_
   refine done_ (by kernel_rfl) ?_
   try go_wp2
   go_meet
   case rel => exact ⟨_, (t534), (t536), (t539), xz, xz, xz, H', ⟨by first | omega | exact Nat.le_refl _⟩, ⟨xb BK529⟩, ⟨xb BK530⟩, ⟨xb BK531⟩, ⟨xs HB⟩⟩
 case rest =>
  clear HC3
  try clear c1
  try clear p2
  try clear c4
  try clear c8
  try clear c9
  try clear c11
  try clear c13
  try clear c13b0
  try clear c13b1
  try clear c15
  try clear c16
  try clear hcz10_0
  try clear hcz10_1
  try clear hcz10_2
  try clear hcz12_0
  try clear hcz12_1
  try clear hcz12_2
  try clear hcz17_0
  try clear hcz17_1
  try clear hcz17_2
  try clear hfz10_0
  try clear hfz10_1
  try clear hfz10_2
  try clear hfz12_0
  try clear hfz12_1
  try clear hfz12_2
  try clear hfz17_0
  try clear hfz17_1
  try clear hfz17_2
  obtain ⟨kq, x5_2, x6_2, x7_2, rfl, rfl, rfl, HA, HJ2, BK529, BK530, BK531, HB⟩ := hcut
  cases kq with
  | zero => exact absurd HA.out (by simp [rational_add.j0])
  | succ kj2 =>
   have H := HA.out
   clear HA
   simp only [rational_add.j0] at H
   by_cases c35 : (a0_0 == a1_0) = true
   ·rw [if_pos c35] at H
    have c35b0 : (a0_0 == a1_0) = true := c35
    (try (have c35b1 : decide (a0_0 = a1_0) = true := by simpa using c35))
    (try (have c35b2 : (a0_0 == a1_0) = true := by simpa using c35))
    clear c35
    replace H := xH H; obtain ⟨t540, A36, H⟩ := H
    replace H := xH H; obtain ⟨⟨t541, t542, t543⟩, A37, H⟩ := H
    dsimp only at H
    simp only [Option.some.injEq, Prod.mk.injEq] at H
    obtain ⟨rfl, rfl, rfl⟩ := H
    have hnb38 := NB529_530.out
    have hnc38 := NB530_529.out
    have hnb39 := NB529_531.out
    have hnc39 := NB531_529.out
    obtain ⟨hcz40_0, hcz40_1, hcz40_2, hfz40_0, hfz40_1, hfz40_2⟩ := x6 BK529
    have hnb41 := NB530_531.out
    have hnc41 := NB531_530.out
    obtain ⟨hcz42_0, hcz42_1, hcz42_2, hfz42_0, hfz42_1, hfz42_2⟩ := x6 BK530
    try go_wp2
    replace BK529 := xD BK529
    replace BK530 := xD BK530
    replace BK531 := xD BK531
    replace HB := xW HB
    refine start_ (n := 8) (S := fun w' => w'.cell? ⟨gb529, 0, none⟩ = some (.bool a0_0) ∧ w'.cell? ⟨gb529, 1, none⟩ = some (.string a0_1) ∧ w'.cell? ⟨gb529, 2, none⟩ = some (.string a0_2)) (ds := []) #[false, false, false, false, false, false, false, false] (by kernel_rfl) rfl rfl xV (fun hHeld => ?_); refine with_tabW rational_add.tab7 rational_add.bits7 (fun HT_ HW_ => ?_)
    generalize wc.drew = w43 at BK529 BK530 BK531 HB hHeld ⊢
    refine xP 0 (some 41) (b 8 1) rfl rfl ?_
    refine xP 2 (some 43) (b 8 5) rfl rfl ?_
    refine xP 3 (some 44) (b 8 13) rfl rfl ?_
    refine xP 5 (some 46) (b 8 45) rfl rfl ?_
    refine xT 1 (some 42) (b 8 47) rfl rfl hHeld ?_
    refine xO 4 (some 45) (b 8 63) rfl rfl fun K hK => ?_
    refine xc Tryd.func72 (natural_Add.calls kj2 x5_2 x6_2 t540 _ A36.out) ?_
    rintro w44 hb
    replace BK529 := xB BK529 hb
    replace BK530 := xB BK530 hb
    replace BK531 := xB BK531 hb
    replace HB := xS HB hb
    clear hb
    refine hK.out _ _ xV (fun hHeld => ?_)
    clear hK K
    refine xN 45 ?_
    refine xO 6 (some 47) (b 8 127) rfl rfl fun K hK => ?_
    refine xc Tryd.func52 (rational_reduced.calls kj2 a0_0 t540 x7_2 t541 t542 t543 _ A37.out) ?_
    rintro w45 hb
    replace BK529 := xB BK529 hb
    replace BK530 := xB BK530 hb
    replace BK531 := xB BK531 hb
    replace HB := xS HB hb
    clear hb
    refine hK.out _ _ xV (fun hHeld => ?_)
    clear hK K
    refine xN 47 ?_
    refine xO 7 none (b 8 255) rfl rfl fun K hK => ?_
    obtain ⟨hs46, hs47, hs48, hfs46, hfs47, hfs48⟩ := x6 BK531
    have hns46_0 := NB529_531.out
    have hns46_1 := NB530_531.out
    have hms46_0 := NB531_529.out
    have hms46_1 := NB531_530.out
    refine xk ?_
    refine hK.out _ _ ⟨((cell_far (p := ⟨gb531, _, none⟩) NB529_531.out _).trans (((cell_far (p := ⟨gb531, _, none⟩) NB529_531.out _).trans (((cell_far (p := ⟨gb531, _, none⟩) NB529_531.out _).trans (hHeld.1)))))), ((cell_far (p := ⟨gb531, _, none⟩) NB529_531.out _).trans (((cell_far (p := ⟨gb531, _, none⟩) NB529_531.out _).trans (((cell_far (p := ⟨gb531, _, none⟩) NB529_531.out _).trans (hHeld.2.1)))))), ((cell_far (p := ⟨gb531, _, none⟩) NB529_531.out _).trans (((cell_far (p := ⟨gb531, _, none⟩) NB529_531.out _).trans (((cell_far (p := ⟨gb531, _, none⟩) NB529_531.out _).trans (hHeld.2.2))))))⟩ (fun hHeld => ?_)
    clear hK K
    refine done_ (done_of HT_.out (by kernel_rfl)) ?_
    try go_wp2
    refine bodyPost_ret (results_cell_row rfl _ _ gb531 25 #[.bool t541, .string t542, .string t543] (0, 0) _ rfl (xp BK531) Tryd.underlying25 rfl (by kernel_rfl)) rfl ?_
    exact ⟨xy, xs HB⟩
   ·rw [if_neg c35] at H
    have c35b0 : (a0_0 == a1_0) = false := by simpa using c35
    (try (have c35b1 : decide (a0_0 = a1_0) = false := by simpa using c35))
    (try (have c35b2 : (a0_0 == a1_0) = false := by simpa using c35))
    (try (have c35b3 : ¬ (a0_0 = a1_0) := by simpa using c35))
    clear c35
    replace H := xH H; obtain ⟨⟨t544, t545⟩, A49, H⟩ := H
    dsimp only at H
    by_cases c50 : t545 = true
    ·subst c50
     replace H := xI H
     replace H := xH H; obtain ⟨⟨t546, t547, t548⟩, A51, H⟩ := H
     dsimp only at H
     simp only [Option.some.injEq, Prod.mk.injEq] at H
     obtain ⟨rfl, rfl, rfl⟩ := H
     have hnb52 := NB529_530.out
     have hnc52 := NB530_529.out
     have hnb53 := NB529_531.out
     have hnc53 := NB531_529.out
     obtain ⟨hcz54_0, hcz54_1, hcz54_2, hfz54_0, hfz54_1, hfz54_2⟩ := x6 BK529
     have hnb55 := NB530_531.out
     have hnc55 := NB531_530.out
     obtain ⟨hcz56_0, hcz56_1, hcz56_2, hfz56_0, hfz56_1, hfz56_2⟩ := x6 BK530
     go_wp2_with (first | (refine xC Tryd.func73 (some 51) (natural_Subtract.calls kj2 x5_2 x6_2 t544 true _ A49.out) ?_; rintro w57 hb; replace BK529 := xB BK529 hb; replace BK530 := xB BK530 hb; replace BK531 := xB BK531 hb; replace HB := xS HB hb; clear hb; obtain ⟨hcz58_0, hcz58_1, hcz58_2, hfz58_0, hfz58_1, hfz58_2⟩ := x6 BK529) | (refine xC Tryd.func52 (some 59) (rational_reduced.calls kj2 a0_0 t544 x7_2 t546 t547 t548 _ A51.out) ?_; rintro w59 hb; replace BK529 := xB BK529 hb; replace BK530 := xB BK530 hb; replace BK531 := xB BK531 hb; replace HB := xS HB hb; clear hb; obtain ⟨hcz60_0, hcz60_1, hcz60_2, hfz60_0, hfz60_1, hfz60_2⟩ := x6 BK531))
     refine bodyPost_ret (results_cell_row rfl _ _ gb531 25 #[.bool t546, .string t547, .string t548] (0, 0) _ rfl (xp BK531) Tryd.underlying25 rfl (by kernel_rfl)) rfl ?_
     exact ⟨xy, xs HB⟩
    ·replace c50 := Bool.eq_false_iff.mpr c50
     subst c50
     have H1 : ((natural_Subtract.f kj2 x6_2 x5_2).bind fun bt549 => ((rational_reduced.f kj2 a1_0 bt549.1 x7_2).bind fun bt551 => (some (bt551.1, bt551.2.1, bt551.2.2)))) = some (r1, r2, r3) := by rw [if_neg (show ¬ (false = true) by decide)] at H; exact H
     clear H
     have H := H1
     clear H1
     replace H := xH H; obtain ⟨⟨t549, t550⟩, A61, H⟩ := H
     dsimp only at H
     replace H := xH H; obtain ⟨⟨t551, t552, t553⟩, A62, H⟩ := H
     dsimp only at H
     simp only [Option.some.injEq, Prod.mk.injEq] at H
     obtain ⟨rfl, rfl, rfl⟩ := H
     have hnb63 := NB529_530.out
     have hnc63 := NB530_529.out
     have hnb64 := NB529_531.out
     have hnc64 := NB531_529.out
     obtain ⟨hcz65_0, hcz65_1, hcz65_2, hfz65_0, hfz65_1, hfz65_2⟩ := x6 BK529
     have hnb66 := NB530_531.out
     have hnc66 := NB531_530.out
     obtain ⟨hcz67_0, hcz67_1, hcz67_2, hfz67_0, hfz67_1, hfz67_2⟩ := x6 BK530
     go_wp2_with (first | (refine xC Tryd.func73 (some 51) (natural_Subtract.calls kj2 x5_2 x6_2 t544 false _ A49.out) ?_; rintro w68 hb; replace BK529 := xB BK529 hb; replace BK530 := xB BK530 hb; replace BK531 := xB BK531 hb; replace HB := xS HB hb; clear hb) | (refine xC Tryd.func73 (some 63) (natural_Subtract.calls kj2 x6_2 x5_2 t549 t550 _ A61.out) ?_; rintro w69 hb; replace BK529 := xB BK529 hb; replace BK530 := xB BK530 hb; replace BK531 := xB BK531 hb; replace HB := xS HB hb; clear hb; obtain ⟨hcz70_0, hcz70_1, hcz70_2, hfz70_0, hfz70_1, hfz70_2⟩ := x6 BK530) | (refine xC Tryd.func52 (some 70) (rational_reduced.calls kj2 a1_0 t549 x7_2 t551 t552 t553 _ A62.out) ?_; rintro w71 hb; replace BK529 := xB BK529 hb; replace BK530 := xB BK530 hb; replace BK531 := xB BK531 hb; replace HB := xS HB hb; clear hb; obtain ⟨hcz72_0, hcz72_1, hcz72_2, hfz72_0, hfz72_1, hfz72_2⟩ := x6 BK531))
     (try have eA61_ := Option.some.inj (A49.out.symm.trans A61.out))
     refine bodyPost_ret (results_cell_row rfl _ _ gb531 25 #[.bool t551, .string t552, .string t553] (0, 0) _ rfl (xp BK531) Tryd.underlying25 rfl (by kernel_rfl)) rfl ?_
     exact ⟨xy, xs HB⟩
/-! ### rational_Add: function 21 -/
def rational_Add.f (k : Nat) (a0_0 : Bool) (a0_1 : ByteArray) (a0_2 : ByteArray) (a1_0 : Bool) (a1_1 : ByteArray) (a1_2 : ByteArray) : Option (Bool × ByteArray × ByteArray) := (rational_clean.f k a0_0 a0_1 a0_2).bind fun bt557 => ((rational_clean.f k a1_0 a1_1 a1_2).bind fun bt560 => ((rational_add.f k bt557.1 bt557.2.1 bt557.2.2 bt560.1 bt560.2.1 bt560.2.2).bind fun bt563 => (some (bt563.1, bt563.2.1, bt563.2.2))))
theorem rational_Add.mono : ∀ a0 a1 a2 a3 a4 a5 k, LeO (rational_Add.f k a0 a1 a2 a3 a4 a5) (rational_Add.f (k + 1) a0 a1 a2 a3 a4 a5) := by
 intro a0 a1 a2 a3 a4 a5 k
 unfold rational_Add.f
 have m0 := @rational_add.mono; have m1 := @rational_clean.mono; exact xM
set_option maxHeartbeats 8000000 in
set_option maxRecDepth 100000 in
theorem rational_Add.calls (k : Nat) (a0_0 : Bool) (a0_1 : ByteArray) (a0_2 : ByteArray) (a1_0 : Bool) (a1_1 : ByteArray) (a1_2 : ByteArray) (r1 : Bool) (r2 : ByteArray) (r3 : ByteArray) (w : World) (h : rational_Add.f k a0_0 a0_1 a0_2 a1_0 a1_1 a1_2 = some (r1, r2, r3)) :
  Calls Tryd.prog 21 #[.agg #[.bool a0_0, .string a0_1, .string a0_2], .agg #[.bool a1_0, .string a1_1, .string a1_2]] w fun e w' => e = .returned (.agg #[.bool r1, .string r2, .string r3]) ∧ Below w.heap.size w w' := by
 have hu25 := Tryd.underlying25
 have HB := Aside0.mk (Below.refl w.heap.size w)
 have H : ((rational_clean.f k a0_0 a0_1 a0_2).bind fun bt557 => ((rational_clean.f k a1_0 a1_1 a1_2).bind fun bt560 => ((rational_add.f k bt557.1 bt557.2.1 bt557.2.2 bt560.1 bt560.2.1 bt560.2.2).bind fun bt563 => (some (bt563.1, bt563.2.1, bt563.2.2))))) = some (r1, r2, r3) := h
 clear h
 replace H := xH H; obtain ⟨⟨t557, t558, t559⟩, A3, H⟩ := H
 dsimp only at H
 replace H := xH H; obtain ⟨⟨t560, t561, t562⟩, A4, H⟩ := H
 dsimp only at H
 replace H := xH H; obtain ⟨⟨t563, t564, t565⟩, A5, H⟩ := H
 dsimp only at H
 simp only [Option.some.injEq, Prod.mk.injEq] at H
 obtain ⟨rfl, rfl, rfl⟩ := H
 go_enter Tryd.func21, Tryd.ntmps21
 try go_wp2_with (first | (refine xE (N := 2) #[.bool a0_0, .string a0_1, .string a0_2] 25 rfl ?_; intro gb554 hg w6 hbox hb; have BK554 := Aside0.mk (hbox); have GW554 := (xG HB hg); have GE554 := (xG HB hg); replace HB := xS HB hb; clear hb hbox hg) | (refine xE (N := 3) #[.bool a1_0, .string a1_1, .string a1_2] 25 rfl ?_; intro gb555 hg w7 hbox hb; have BK555 := Aside0.mk (hbox); have GW555 := (xG HB hg); have GE555 := (xG HB hg); replace HB := xS HB hb; have NB554_555 := xL BK554 hg; have NB555_554 := xR BK554 hg; replace BK554 := xB BK554 hb; clear hb hbox hg) | (refine xE (N := 4) #[.bool false, .string (⟨#[]⟩ : ByteArray), .string (⟨#[]⟩ : ByteArray)] 25 rfl ?_; intro gb556 hg w8 hbox hb; have BK556 := Aside0.mk (hbox); have GW556 := (xG HB hg); have GE556 := (xG HB hg); replace HB := xS HB hb; have NB554_556 := xL BK554 hg; have NB556_554 := xR BK554 hg; replace BK554 := xB BK554 hb; have NB555_556 := xL BK555 hg; have NB556_555 := xR BK555 hg; replace BK555 := xB BK555 hb; clear hb hbox hg))
 replace BK554 := xD BK554
 replace BK555 := xD BK555
 replace BK556 := xD BK556
 replace HB := xW HB
 refine start_ (n := 6) (S := fun w' => w'.cell? ⟨gb554, 0, none⟩ = some (.bool a0_0) ∧ w'.cell? ⟨gb554, 1, none⟩ = some (.string a0_1) ∧ w'.cell? ⟨gb554, 2, none⟩ = some (.string a0_2) ∧ w'.cell? ⟨gb555, 0, none⟩ = some (.bool a1_0) ∧ w'.cell? ⟨gb555, 1, none⟩ = some (.string a1_1) ∧ w'.cell? ⟨gb555, 2, none⟩ = some (.string a1_2)) (ds := []) #[false, false, false, false, false, false] (by kernel_rfl) rfl rfl xV (fun hHeld => ?_)
 generalize w8.drew = w9 at BK554 BK555 BK556 HB hHeld ⊢
 refine xT 0 (some 5) (b 6 1) rfl rfl hHeld ?_
 refine xT 2 (some 7) (b 6 5) rfl rfl hHeld ?_
 refine xO 1 (some 6) (b 6 7) rfl rfl fun K hK => ?_
 refine xc Tryd.func38 (rational_clean.calls k a0_0 a0_1 a0_2 t557 t558 t559 _ A3.out) ?_
 rintro w10 hb
 replace BK554 := xB BK554 hb
 replace BK555 := xB BK555 hb
 replace BK556 := xB BK556 hb
 replace HB := xS HB hb
 clear hb
 refine hK.out _ _ xV (fun hHeld => ?_)
 clear hK K
 refine xN 6 ?_
 refine xO 3 (some 8) (b 6 15) rfl rfl fun K hK => ?_
 refine xc Tryd.func38 (rational_clean.calls k a1_0 a1_1 a1_2 t560 t561 t562 _ A4.out) ?_
 rintro w11 hb
 replace BK554 := xB BK554 hb
 replace BK555 := xB BK555 hb
 replace BK556 := xB BK556 hb
 replace HB := xS HB hb
 clear hb
 refine hK.out _ _ xV (fun hHeld => ?_)
 clear hK K
 refine xN 8 ?_
 refine xO 4 (some 9) (b 6 31) rfl rfl fun K hK => ?_
 refine xc Tryd.func46 (rational_add.calls k t557 t558 t559 t560 t561 t562 t563 t564 t565 _ A5.out) ?_
 rintro w12 hb
 replace BK554 := xB BK554 hb
 replace BK555 := xB BK555 hb
 replace BK556 := xB BK556 hb
 replace HB := xS HB hb
 clear hb
 refine hK.out _ _ xV (fun hHeld => ?_)
 clear hK K
 refine xN 9 ?_
 refine xO 5 none (b 6 63) rfl rfl fun K hK => ?_
 obtain ⟨hs13, hs14, hs15, hfs13, hfs14, hfs15⟩ := x6 BK556
 have hns13_0 := NB554_556.out
 have hns13_1 := NB555_556.out
 have hms13_0 := NB556_554.out
 have hms13_1 := NB556_555.out
 refine xk ?_
 refine hK.out _ _ ⟨((cell_far (p := ⟨gb556, _, none⟩) NB554_556.out _).trans (((cell_far (p := ⟨gb556, _, none⟩) NB554_556.out _).trans (((cell_far (p := ⟨gb556, _, none⟩) NB554_556.out _).trans (hHeld.1)))))), ((cell_far (p := ⟨gb556, _, none⟩) NB554_556.out _).trans (((cell_far (p := ⟨gb556, _, none⟩) NB554_556.out _).trans (((cell_far (p := ⟨gb556, _, none⟩) NB554_556.out _).trans (hHeld.2.1)))))), ((cell_far (p := ⟨gb556, _, none⟩) NB554_556.out _).trans (((cell_far (p := ⟨gb556, _, none⟩) NB554_556.out _).trans (((cell_far (p := ⟨gb556, _, none⟩) NB554_556.out _).trans (hHeld.2.2.1)))))), ((cell_far (p := ⟨gb556, _, none⟩) NB555_556.out _).trans (((cell_far (p := ⟨gb556, _, none⟩) NB555_556.out _).trans (((cell_far (p := ⟨gb556, _, none⟩) NB555_556.out _).trans (hHeld.2.2.2.1)))))), ((cell_far (p := ⟨gb556, _, none⟩) NB555_556.out _).trans (((cell_far (p := ⟨gb556, _, none⟩) NB555_556.out _).trans (((cell_far (p := ⟨gb556, _, none⟩) NB555_556.out _).trans (hHeld.2.2.2.2.1)))))), ((cell_far (p := ⟨gb556, _, none⟩) NB555_556.out _).trans (((cell_far (p := ⟨gb556, _, none⟩) NB555_556.out _).trans (((cell_far (p := ⟨gb556, _, none⟩) NB555_556.out _).trans (hHeld.2.2.2.2.2))))))⟩ (fun hHeld => ?_)
 clear hK K
 refine done_ (by kernel_rfl) ?_
 try go_wp2
 refine bodyPost_ret (results_cell_row rfl _ _ gb556 25 #[.bool t563, .string t564, .string t565] (0, 0) _ rfl (xp BK556) Tryd.underlying25 rfl (by kernel_rfl)) rfl ?_
 exact ⟨xy, xs HB⟩
/-! ### rational_signOf: function 37 -/
def rational_signOf.f (a0_0 : Bool) (a0_1 : ByteArray) (a0_2 : ByteArray) : Option (Int) := if a0_1.toList = ([] : List UInt8) then (some 0) else (if a0_0 = true then (some (-1)) else (some 1))
set_option maxHeartbeats 8000000 in
set_option maxRecDepth 100000 in
theorem rational_signOf.calls (a0_0 : Bool) (a0_1 : ByteArray) (a0_2 : ByteArray) (r : Int) (w : World) (h : rational_signOf.f a0_0 a0_1 a0_2 = some r) :
  Calls Tryd.prog 37 #[.agg #[.bool a0_0, .string a0_1, .string a0_2]] w fun e w' => e = .returned (.int .i64 r) ∧ Below w.heap.size w w' := by
 have hu25 := Tryd.underlying25
 have HB := Aside0.mk (Below.refl w.heap.size w)
 have H : (if a0_1.toList = ([] : List UInt8) then (some 0) else (if a0_0 = true then (some (-1)) else (some 1))) = some r := h
 clear h
 by_cases c2 : a0_1.toList = ([] : List UInt8)
 ·rw [if_pos c2] at H
  have c2b0 : (a0_1.toList == ([] : List UInt8)) = true := beq_iff_eq.mpr c2
  have c2b1 : (a0_1.toList != ([] : List UInt8)) = false := bne_eq_false_iff_eq.mpr c2
  clear c2
  obtain rfl := Option.some.inj H
  go_enter Tryd.func37, Tryd.ntmps37
  go_wp2_with (first | (refine xE (N := 1) #[.bool a0_0, .string a0_1, .string a0_2] 25 rfl ?_; intro gb566 hg w3 hbox hb; have BK566 := Aside0.mk (hbox); have GW566 := (xG HB hg); have GE566 := (xG HB hg); replace HB := xS HB hb; clear hb hbox hg; obtain ⟨hcz4_0, hcz4_1, hcz4_2, hfz4_0, hfz4_1, hfz4_2⟩ := x6 BK566))
  go_ret
  exact ⟨xy, xs HB⟩
 ·rw [if_neg c2] at H
  have c2b0 : (a0_1.toList == ([] : List UInt8)) = false := beq_eq_false_iff_ne.mpr c2
  have c2b1 : (a0_1.toList != ([] : List UInt8)) = true := bne_iff_ne.mpr c2
  by_cases c5 : a0_0 = true
  ·subst c5
   replace H := xI H
   obtain rfl := Option.some.inj H
   go_enter Tryd.func37, Tryd.ntmps37
   go_wp2_with (first | (refine xE (N := 1) #[.bool true, .string a0_1, .string a0_2] 25 rfl ?_; intro gb566 hg w6 hbox hb; have BK566 := Aside0.mk (hbox); have GW566 := (xG HB hg); have GE566 := (xG HB hg); replace HB := xS HB hb; clear hb hbox hg; obtain ⟨hcz7_0, hcz7_1, hcz7_2, hfz7_0, hfz7_1, hfz7_2⟩ := x6 BK566))
   go_ret
   exact ⟨xy, xs HB⟩
  ·replace c5 := Bool.eq_false_iff.mpr c5
   subst c5
   have H1 : (some 1) = some r := by rw [if_neg (show ¬ (false = true) by decide)] at H; exact H
   clear H
   have H := H1
   clear H1
   obtain rfl := Option.some.inj H
   go_enter Tryd.func37, Tryd.ntmps37
   go_wp2_with (first | (refine xE (N := 1) #[.bool false, .string a0_1, .string a0_2] 25 rfl ?_; intro gb566 hg w8 hbox hb; have BK566 := Aside0.mk (hbox); have GW566 := (xG HB hg); have GE566 := (xG HB hg); replace HB := xS HB hb; clear hb hbox hg; obtain ⟨hcz9_0, hcz9_1, hcz9_2, hfz9_0, hfz9_1, hfz9_2⟩ := x6 BK566))
   go_ret
   exact ⟨xy, xs HB⟩
-- NOT PRINTED: function 108 (bytealg_abigen_runtime_cmpstring)
-- NOT PRINTED: function 97 (bytealg_CompareString)
/-! ### strings_Compare: function 76 -/
def strings_Compare.f (a0 : ByteArray) (a1 : ByteArray) : Option Int := some (Go.Lib.compareBytes a0.data.toList a1.data.toList)
theorem strings_Compare.calls (a0 : ByteArray) (a1 : ByteArray) (r : Int) (w : World) (h : strings_Compare.f a0 a1 = some r) :
  Calls Tryd.prog 76 #[.string a0, .string a1] w fun e w' => e = .returned (.int .i64 r) ∧ Drawn0 w w' := by
 obtain rfl := Option.some.inj h
 refine (Go.Proofs.Tryd.strings_Compare a0 a1 w).mono ?_
 rintro e w' ⟨rfl, rfl⟩
 exact ⟨rfl, Drawn0.refl _⟩
/-! ### natural_Compare: function 47 -/
def natural_Compare.f (k : Nat) (a0 : ByteArray) (a1 : ByteArray) : Option (Int) := (natural_Normalize.f k a0).bind fun t567 => ((natural_Normalize.f k a1).bind fun t568 => (if (t567.size : Int) = (t568.size : Int) then ((strings_Compare.f t567 t568).bind fun t569 => (some t569)) else ((natural_sign.f (wrap64 ((t567.size : Int) - (t568.size : Int)))).bind fun t570 => (some t570))))
theorem natural_Compare.mono : ∀ a0 a1 k, LeO (natural_Compare.f k a0 a1) (natural_Compare.f (k + 1) a0 a1) := by
 intro a0 a1 k
 unfold natural_Compare.f
 have m0 := @natural_Normalize.mono; exact xM
set_option maxHeartbeats 8000000 in
set_option maxRecDepth 100000 in
theorem natural_Compare.calls (k : Nat) (a0 : ByteArray) (a1 : ByteArray) (r : Int) (w : World) (h : natural_Compare.f k a0 a1 = some r) :
  Calls Tryd.prog 47 #[.string a0, .string a1] w fun e w' => e = .returned (.int .i64 r) ∧ Below w.heap.size w w' := by
 have HB := Aside0.mk (Below.refl w.heap.size w)
 have H : ((natural_Normalize.f k a0).bind fun t567 => ((natural_Normalize.f k a1).bind fun t568 => (if (t567.size : Int) = (t568.size : Int) then ((strings_Compare.f t567 t568).bind fun t569 => (some t569)) else ((natural_sign.f (wrap64 ((t567.size : Int) - (t568.size : Int)))).bind fun t570 => (some t570))))) = some r := h
 clear h
 replace H := xH H; obtain ⟨t567, A3, H⟩ := H
 replace H := xH H; obtain ⟨t568, A4, H⟩ := H
 by_cases c5 : (t567.size : Int) = (t568.size : Int)
 ·rw [if_pos c5] at H
  have c5b0 : ((t567.size : Int) == (t568.size : Int)) = true := beq_iff_eq.mpr c5
  have c5b1 : ((t567.size : Int) != (t568.size : Int)) = false := bne_eq_false_iff_eq.mpr c5
  have c5b2 : (t567.size == t568.size) = true := by first | simpa using c5 | (simp at c5 ⊢; omega)
  clear c5
  replace H := xH H; obtain ⟨t569, A6, H⟩ := H
  obtain rfl := Option.some.inj H
  go_enter Tryd.func47, Tryd.ntmps47
  go_wp2_with (first | (refine xC Tryd.func74 (some 6) (natural_Normalize.calls k a0 t567 _ A3.out) ?_; rintro w7 hb; replace HB := xS HB hb; clear hb) | (refine xC Tryd.func74 (some 8) (natural_Normalize.calls k a1 t568 _ A4.out) ?_; rintro w8 hb; replace HB := xS HB hb; clear hb) | (refine xg Tryd.func76 (some 22) #[.string t567, .string t568] ?_; (with_reducible refine (strings_Compare.calls t567 t568 t569 _ A6.out).mono ?_); rintro e w' ⟨rfl, ⟨nd, rfl⟩⟩; refine ⟨_, rfl, ?_⟩))
  (try have eA4_ := Option.some.inj (A3.out.symm.trans A4.out))
  go_ret
  exact ⟨xy, xs HB⟩
 ·rw [if_neg c5] at H
  have c5b0 : ((t567.size : Int) == (t568.size : Int)) = false := beq_eq_false_iff_ne.mpr c5
  have c5b1 : ((t567.size : Int) != (t568.size : Int)) = true := bne_iff_ne.mpr c5
  have c5b2 : (t567.size == t568.size) = false := by first | simpa using c5 | (simp at c5 ⊢; omega)
  replace H := xH H; obtain ⟨t570, A9, H⟩ := H
  obtain rfl := Option.some.inj H
  go_enter Tryd.func47, Tryd.ntmps47
  go_wp2_with (first | (refine xC Tryd.func74 (some 6) (natural_Normalize.calls k a0 t567 _ A3.out) ?_; rintro w10 hb; replace HB := xS HB hb; clear hb) | (refine xC Tryd.func74 (some 8) (natural_Normalize.calls k a1 t568 _ A4.out) ?_; rintro w11 hb; replace HB := xS HB hb; clear hb) | (refine xg Tryd.func75 (some 19) #[.int .i64 (wrap64 ((t567.size : Int) - (t568.size : Int)))] ?_; (with_reducible refine (natural_sign.calls (wrap64 ((t567.size : Int) - (t568.size : Int))) t570 _ A9.out).mono ?_); rintro e w' ⟨rfl, ⟨nd, rfl⟩⟩; refine ⟨_, rfl, ?_⟩))
  (try have eA4_ := Option.some.inj (A3.out.symm.trans A4.out))
  go_ret
  exact ⟨xy, xs HB⟩
/-! ### rational_Compare: function 22 -/
def rational_Compare.f (k : Nat) (a0_0 : Bool) (a0_1 : ByteArray) (a0_2 : ByteArray) (a1_0 : Bool) (a1_1 : ByteArray) (a1_2 : ByteArray) : Option (Int) := (rational_clean.f k a0_0 a0_1 a0_2).bind fun bt573 => ((rational_clean.f k a1_0 a1_1 a1_2).bind fun bt576 => ((rational_signOf.f bt573.1 bt573.2.1 bt573.2.2).bind fun t579 => ((rational_signOf.f bt576.1 bt576.2.1 bt576.2.2).bind fun t580 => (if t579 = t580 then ((rational_den.f bt576.1 bt576.2.1 bt576.2.2).bind fun t581 => ((natural_Multiply.f k bt573.2.1 t581).bind fun t582 => ((rational_den.f bt573.1 bt573.2.1 bt573.2.2).bind fun t583 => ((natural_Multiply.f k bt576.2.1 t583).bind fun t584 => ((natural_Compare.f k t582 t584).bind fun t585 => (if bt573.1 = true then (some (wrap64 (-t585))) else (some t585))))))) else (if t579 < t580 then (some (-1)) else (some 1))))))
theorem rational_Compare.mono : ∀ a0 a1 a2 a3 a4 a5 k, LeO (rational_Compare.f k a0 a1 a2 a3 a4 a5) (rational_Compare.f (k + 1) a0 a1 a2 a3 a4 a5) := by
 intro a0 a1 a2 a3 a4 a5 k
 unfold rational_Compare.f
 have m0 := @natural_Compare.mono; have m1 := @natural_Multiply.mono; have m2 := @rational_clean.mono; exact xM
def rational_Compare.T7 : Bool × List (List Nat × List Nat) := (true, [([], []), ([0], [0]), ([], []), ([2], [2]), ([1, 3, 3], [1, 3]), ([], []), ([5], [5]), ([], []), ([7, 4], [7]), ([6, 8, 8], [6, 8]), ([4, 9, 9], [4, 9]), ([10, 10, 0, 1, 2, 3, 4, 5, 6, 7, 8, 9, 10], [10])])
def rational_Compare.B7 : List Nat := [0, 1, 0, 4, 15, 0, 32, 0, 159, 511, 1023, 2047]
theorem rational_Compare.tab7 : rtab .any (opsOf Tryd.f22 7) = rational_Compare.T7 := by kernel_rfl
theorem rational_Compare.bits7 : waitsOk rational_Compare.T7.2 rational_Compare.B7 = true := by kernel_rfl
set_option maxHeartbeats 8000000 in
set_option maxRecDepth 100000 in
theorem rational_Compare.calls (k : Nat) (a0_0 : Bool) (a0_1 : ByteArray) (a0_2 : ByteArray) (a1_0 : Bool) (a1_1 : ByteArray) (a1_2 : ByteArray) (r : Int) (w : World) (h : rational_Compare.f k a0_0 a0_1 a0_2 a1_0 a1_1 a1_2 = some r) :
  Calls Tryd.prog 22 #[.agg #[.bool a0_0, .string a0_1, .string a0_2], .agg #[.bool a1_0, .string a1_1, .string a1_2]] w fun e w' => e = .returned (.int .i64 r) ∧ Below w.heap.size w w' := by
 have hu25 := Tryd.underlying25
 have HB := Aside0.mk (Below.refl w.heap.size w)
 have H : ((rational_clean.f k a0_0 a0_1 a0_2).bind fun bt573 => ((rational_clean.f k a1_0 a1_1 a1_2).bind fun bt576 => ((rational_signOf.f bt573.1 bt573.2.1 bt573.2.2).bind fun t579 => ((rational_signOf.f bt576.1 bt576.2.1 bt576.2.2).bind fun t580 => (if t579 = t580 then ((rational_den.f bt576.1 bt576.2.1 bt576.2.2).bind fun t581 => ((natural_Multiply.f k bt573.2.1 t581).bind fun t582 => ((rational_den.f bt573.1 bt573.2.1 bt573.2.2).bind fun t583 => ((natural_Multiply.f k bt576.2.1 t583).bind fun t584 => ((natural_Compare.f k t582 t584).bind fun t585 => (if bt573.1 = true then (some (wrap64 (-t585))) else (some t585))))))) else (if t579 < t580 then (some (-1)) else (some 1))))))) = some r := h
 clear h
 replace H := xH H; obtain ⟨⟨t573, t574, t575⟩, A3, H⟩ := H
 dsimp only at H
 replace H := xH H; obtain ⟨⟨t576, t577, t578⟩, A4, H⟩ := H
 dsimp only at H
 replace H := xH H; obtain ⟨t579, A5, H⟩ := H
 replace H := xH H; obtain ⟨t580, A6, H⟩ := H
 by_cases c7 : t579 = t580
 ·rw [if_pos c7] at H
  have c7b0 : (t579 == t580) = true := beq_iff_eq.mpr c7
  have c7b1 : (t579 != t580) = false := bne_eq_false_iff_eq.mpr c7
  clear c7
  replace H := xH H; obtain ⟨t581, A8, H⟩ := H
  replace H := xH H; obtain ⟨t582, A9, H⟩ := H
  replace H := xH H; obtain ⟨t583, A10, H⟩ := H
  replace H := xH H; obtain ⟨t584, A11, H⟩ := H
  replace H := xH H; obtain ⟨t585, A12, H⟩ := H
  by_cases c13 : t573 = true
  ·subst c13
   replace H := xI H
   obtain rfl := Option.some.inj H
   go_enter Tryd.func22, Tryd.ntmps22
   try go_wp2_with (first | (refine xE (N := 2) #[.bool a0_0, .string a0_1, .string a0_2] 25 rfl ?_; intro gb571 hg w14 hbox hb; have BK571 := Aside0.mk (hbox); have GW571 := (xG HB hg); have GE571 := (xG HB hg); replace HB := xS HB hb; clear hb hbox hg) | (refine xE (N := 3) #[.bool a1_0, .string a1_1, .string a1_2] 25 rfl ?_; intro gb572 hg w15 hbox hb; have BK572 := Aside0.mk (hbox); have GW572 := (xG HB hg); have GE572 := (xG HB hg); replace HB := xS HB hb; have NB571_572 := xL BK571 hg; have NB572_571 := xR BK571 hg; replace BK571 := xB BK571 hb; clear hb hbox hg))
   replace BK571 := xD BK571
   replace BK572 := xD BK572
   replace HB := xW HB
   refine start_ (n := 6) (S := fun w' => w'.cell? ⟨gb571, 0, none⟩ = some (.bool a0_0) ∧ w'.cell? ⟨gb571, 1, none⟩ = some (.string a0_1) ∧ w'.cell? ⟨gb571, 2, none⟩ = some (.string a0_2) ∧ w'.cell? ⟨gb572, 0, none⟩ = some (.bool a1_0) ∧ w'.cell? ⟨gb572, 1, none⟩ = some (.string a1_1) ∧ w'.cell? ⟨gb572, 2, none⟩ = some (.string a1_2)) (ds := [4, 5]) #[false, false, false, false, false, false] (by kernel_rfl) rfl rfl xV (fun hHeld => ?_)
   generalize w15.drew = w16 at BK571 BK572 HB hHeld ⊢
   refine xT 0 (some 8) (b 6 1) rfl rfl hHeld ?_
   refine xT 2 (some 10) (b 6 5) rfl rfl hHeld ?_
   refine xO 1 (some 9) (b 6 7) rfl rfl fun K hK => ?_
   refine xc Tryd.func38 (rational_clean.calls k a0_0 a0_1 a0_2 true t574 t575 _ A3.out) ?_
   rintro w17 hb
   replace BK571 := xB BK571 hb
   replace BK572 := xB BK572 hb
   replace HB := xS HB hb
   clear hb
   refine hK.out _ _ xV (fun hHeld => ?_)
   clear hK K
   refine xN 9 ?_
   refine xO 3 (some 11) (b 6 15) rfl rfl fun K hK => ?_
   refine xc Tryd.func38 (rational_clean.calls k a1_0 a1_1 a1_2 t576 t577 t578 _ A4.out) ?_
   rintro w18 hb
   replace BK571 := xB BK571 hb
   replace BK572 := xB BK572 hb
   replace HB := xS HB hb
   clear hb
   refine hK.out _ _ xV (fun hHeld => ?_)
   clear hK K
   refine xN 11 ?_
   refine xZ 4 none (b 6 31) rfl rfl fun K hK => ?_
   obtain ⟨hs19, hs20, hs21, hfs19, hfs20, hfs21⟩ := x6 BK571
   have hns19_1 := NB572_571.out
   have hms19_1 := NB571_572.out
   refine xk ?_
   refine hK.out _ _ ?_
   clear hK K
   refine xZ 5 none (b 6 63) rfl rfl fun K hK => ?_
   obtain ⟨hs22, hs23, hs24, hfs22, hfs23, hfs24⟩ := x6 BK572
   have hns22_0 := NB571_572.out
   have hms22_0 := NB572_571.out
   refine xk ?_
   refine hK.out _ _ ?_
   clear hK K
   refine done_ (by kernel_rfl) ?_
   try go_wp2
   have n0_ : Aside0 (((((((w18.setCell ⟨gb571, 0, none⟩ (.bool true)).setCell ⟨gb571, 1, none⟩ (.string t574)).setCell ⟨gb571, 2, none⟩ (.string t575)).setCell ⟨gb572, 0, none⟩ (.bool t576)).setCell ⟨gb572, 1, none⟩ (.string t577)).setCell ⟨gb572, 2, none⟩ (.string t578)).heap[gb571]? = some (.cells #[.bool true, .string t574, .string t575] 25 (0, 0))) := ⟨xp BK571⟩
   have n1_ : Aside0 (((((((w18.setCell ⟨gb571, 0, none⟩ (.bool true)).setCell ⟨gb571, 1, none⟩ (.string t574)).setCell ⟨gb571, 2, none⟩ (.string t575)).setCell ⟨gb572, 0, none⟩ (.bool t576)).setCell ⟨gb572, 1, none⟩ (.string t577)).setCell ⟨gb572, 2, none⟩ (.string t578)).heap[gb572]? = some (.cells #[.bool t576, .string t577, .string t578] 25 (0, 0))) := ⟨xp BK572⟩
   have n2_ : Aside0 (Below w.heap.size w ((((((w18.setCell ⟨gb571, 0, none⟩ (.bool true)).setCell ⟨gb571, 1, none⟩ (.string t574)).setCell ⟨gb571, 2, none⟩ (.string t575)).setCell ⟨gb572, 0, none⟩ (.bool t576)).setCell ⟨gb572, 1, none⟩ (.string t577)).setCell ⟨gb572, 2, none⟩ (.string t578))) := ⟨xs HB⟩
   (try clear BK571)
   (try clear BK572)
   (try clear HB)
   generalize ((((((w18.setCell ⟨gb571, 0, none⟩ (.bool true)).setCell ⟨gb571, 1, none⟩ (.string t574)).setCell ⟨gb571, 2, none⟩ (.string t575)).setCell ⟨gb572, 0, none⟩ (.bool t576)).setCell ⟨gb572, 1, none⟩ (.string t577)).setCell ⟨gb572, 2, none⟩ (.string t578)) = w25 at n0_ n1_ n2_ ⊢
   have BK571 := n0_
   have BK572 := n1_
   have HB := n2_
   clear n0_ n1_ n2_
   replace BK571 := xD BK571
   replace BK572 := xD BK572
   replace HB := xW HB
   refine start_ (n := 6) (S := fun w' => w'.cell? ⟨gb571, 0, none⟩ = some (.bool true) ∧ w'.cell? ⟨gb571, 1, none⟩ = some (.string t574) ∧ w'.cell? ⟨gb571, 2, none⟩ = some (.string t575) ∧ w'.cell? ⟨gb572, 0, none⟩ = some (.bool t576) ∧ w'.cell? ⟨gb572, 1, none⟩ = some (.string t577) ∧ w'.cell? ⟨gb572, 2, none⟩ = some (.string t578)) (ds := []) #[false, false, false, false, false, false] (by kernel_rfl) rfl rfl xV (fun hHeld => ?_)
   generalize w25.drew = w26 at BK571 BK572 HB hHeld ⊢
   refine xT 0 (some 12) (b 6 1) rfl rfl hHeld ?_
   refine xT 2 (some 14) (b 6 5) rfl rfl hHeld ?_
   refine xO 1 (some 13) (b 6 7) rfl rfl fun K hK => ?_
   refine xc Tryd.func37 (rational_signOf.calls true t574 t575 t579 _ A5.out) ?_
   rintro w27 hb
   replace BK571 := xB BK571 hb
   replace BK572 := xB BK572 hb
   replace HB := xS HB hb
   clear hb
   refine hK.out _ _ xV (fun hHeld => ?_)
   clear hK K
   refine xN 13 ?_
   refine xO 3 (some 15) (b 6 15) rfl rfl fun K hK => ?_
   refine xc Tryd.func37 (rational_signOf.calls t576 t577 t578 t580 _ A6.out) ?_
   rintro w28 hb
   replace BK571 := xB BK571 hb
   replace BK572 := xB BK572 hb
   replace HB := xS HB hb
   clear hb
   refine hK.out _ _ xV (fun hHeld => ?_)
   clear hK K
   refine xN 15 ?_
   refine xP 4 (some 5) (b 6 31) rfl rfl ?_
   refine xP 5 (some 6) (b 6 63) rfl rfl ?_
   refine done_ (by kernel_rfl) ?_
   try go_wp2
   replace BK571 := xD BK571
   replace BK572 := xD BK572
   replace HB := xW HB
   refine start_ (n := 12) (S := fun w' => w'.cell? ⟨gb571, 0, none⟩ = some (.bool true) ∧ w'.cell? ⟨gb571, 1, none⟩ = some (.string t574) ∧ w'.cell? ⟨gb571, 2, none⟩ = some (.string t575) ∧ w'.cell? ⟨gb572, 0, none⟩ = some (.bool t576) ∧ w'.cell? ⟨gb572, 1, none⟩ = some (.string t577) ∧ w'.cell? ⟨gb572, 2, none⟩ = some (.string t578)) (ds := []) #[false, false, false, false, false, false, false, false, false, false, false, false] (by kernel_rfl) rfl rfl xV (fun hHeld => ?_); refine with_tabW rational_Compare.tab7 rational_Compare.bits7 (fun HT_ HW_ => ?_)
   generalize w28.drew = w29 at BK571 BK572 HB hHeld ⊢
   refine xP 0 (some 22) (b 12 1) rfl rfl ?_
   refine xP 5 (some 27) (b 12 33) rfl rfl ?_
   refine xT 1 (some 23) (b 12 35) rfl rfl hHeld ?_
   refine xT 2 (some 24) (b 12 39) rfl rfl hHeld ?_
   refine xT 6 (some 28) (b 12 103) rfl rfl hHeld ?_
   refine xT 7 (some 29) (b 12 231) rfl rfl hHeld ?_
   refine xO 3 (some 25) (b 12 239) rfl rfl fun K hK => ?_
   refine xc Tryd.func49 (rational_den.calls t576 t577 t578 t581 _ A8.out) ?_
   rintro w30 hb
   replace BK571 := xB BK571 hb
   replace BK572 := xB BK572 hb
   replace HB := xS HB hb
   clear hb
   refine hK.out _ _ xV (fun hHeld => ?_)
   clear hK K
   refine xN 25 ?_
   refine xO 4 (some 26) (b 12 255) rfl rfl fun K hK => ?_
   refine xc Tryd.func48 (natural_Multiply.calls k t574 t581 t582 _ A9.out) ?_
   rintro w31 hb
   replace BK571 := xB BK571 hb
   replace BK572 := xB BK572 hb
   replace HB := xS HB hb
   clear hb
   refine hK.out _ _ xV (fun hHeld => ?_)
   clear hK K
   refine xN 26 ?_
   refine xO 8 (some 30) (b 12 511) rfl rfl fun K hK => ?_
   refine xc Tryd.func49 (rational_den.calls true t574 t575 t583 _ A10.out) ?_
   rintro w32 hb
   replace BK571 := xB BK571 hb
   replace BK572 := xB BK572 hb
   replace HB := xS HB hb
   clear hb
   refine hK.out _ _ xV (fun hHeld => ?_)
   clear hK K
   refine xN 30 ?_
   refine xO 9 (some 31) (b 12 1023) rfl rfl fun K hK => ?_
   refine xc Tryd.func48 (natural_Multiply.calls k t577 t583 t584 _ A11.out) ?_
   rintro w33 hb
   replace BK571 := xB BK571 hb
   replace BK572 := xB BK572 hb
   replace HB := xS HB hb
   clear hb
   refine hK.out _ _ xV (fun hHeld => ?_)
   clear hK K
   refine xN 31 ?_
   refine xO 10 (some 32) (b 12 2047) rfl rfl fun K hK => ?_
   refine xc Tryd.func47 (natural_Compare.calls k t582 t584 t585 _ A12.out) ?_
   rintro w34 hb
   replace BK571 := xB BK571 hb
   replace BK572 := xB BK572 hb
   replace HB := xS HB hb
   clear hb
   refine hK.out _ _ xV (fun hHeld => ?_)
   clear hK K
   refine xN 32 ?_
   refine xP 11 (some 7) (b 12 4095) rfl rfl ?_
   refine done_ (done_of HT_.out (by kernel_rfl)) ?_
   have hnb35 := NB571_572.out
   have hnc35 := NB572_571.out
   obtain ⟨hcz36_0, hcz36_1, hcz36_2, hfz36_0, hfz36_1, hfz36_2⟩ := x6 BK571
   try go_wp2
   go_ret
   exact ⟨xy, xs HB⟩
  ·replace c13 := Bool.eq_false_iff.mpr c13
   subst c13
   have H1 : (some t585) = some r := by rw [if_neg (show ¬ (false = true) by decide)] at H; exact H
   clear H
   have H := H1
   clear H1
   obtain rfl := Option.some.inj H
   go_enter Tryd.func22, Tryd.ntmps22
   try go_wp2_with (first | (refine xE (N := 2) #[.bool a0_0, .string a0_1, .string a0_2] 25 rfl ?_; intro gb571 hg w37 hbox hb; have BK571 := Aside0.mk (hbox); have GW571 := (xG HB hg); have GE571 := (xG HB hg); replace HB := xS HB hb; clear hb hbox hg) | (refine xE (N := 3) #[.bool a1_0, .string a1_1, .string a1_2] 25 rfl ?_; intro gb572 hg w38 hbox hb; have BK572 := Aside0.mk (hbox); have GW572 := (xG HB hg); have GE572 := (xG HB hg); replace HB := xS HB hb; have NB571_572 := xL BK571 hg; have NB572_571 := xR BK571 hg; replace BK571 := xB BK571 hb; clear hb hbox hg))
   replace BK571 := xD BK571
   replace BK572 := xD BK572
   replace HB := xW HB
   refine start_ (n := 6) (S := fun w' => w'.cell? ⟨gb571, 0, none⟩ = some (.bool a0_0) ∧ w'.cell? ⟨gb571, 1, none⟩ = some (.string a0_1) ∧ w'.cell? ⟨gb571, 2, none⟩ = some (.string a0_2) ∧ w'.cell? ⟨gb572, 0, none⟩ = some (.bool a1_0) ∧ w'.cell? ⟨gb572, 1, none⟩ = some (.string a1_1) ∧ w'.cell? ⟨gb572, 2, none⟩ = some (.string a1_2)) (ds := [4, 5]) #[false, false, false, false, false, false] (by kernel_rfl) rfl rfl xV (fun hHeld => ?_)
   generalize w38.drew = w39 at BK571 BK572 HB hHeld ⊢
   refine xT 0 (some 8) (b 6 1) rfl rfl hHeld ?_
   refine xT 2 (some 10) (b 6 5) rfl rfl hHeld ?_
   refine xO 1 (some 9) (b 6 7) rfl rfl fun K hK => ?_
   refine xc Tryd.func38 (rational_clean.calls k a0_0 a0_1 a0_2 false t574 t575 _ A3.out) ?_
   rintro w40 hb
   replace BK571 := xB BK571 hb
   replace BK572 := xB BK572 hb
   replace HB := xS HB hb
   clear hb
   refine hK.out _ _ xV (fun hHeld => ?_)
   clear hK K
   refine xN 9 ?_
   refine xO 3 (some 11) (b 6 15) rfl rfl fun K hK => ?_
   refine xc Tryd.func38 (rational_clean.calls k a1_0 a1_1 a1_2 t576 t577 t578 _ A4.out) ?_
   rintro w41 hb
   replace BK571 := xB BK571 hb
   replace BK572 := xB BK572 hb
   replace HB := xS HB hb
   clear hb
   refine hK.out _ _ xV (fun hHeld => ?_)
   clear hK K
   refine xN 11 ?_
   refine xZ 4 none (b 6 31) rfl rfl fun K hK => ?_
   obtain ⟨hs42, hs43, hs44, hfs42, hfs43, hfs44⟩ := x6 BK571
   have hns42_1 := NB572_571.out
   have hms42_1 := NB571_572.out
   refine xk ?_
   refine hK.out _ _ ?_
   clear hK K
   refine xZ 5 none (b 6 63) rfl rfl fun K hK => ?_
   obtain ⟨hs45, hs46, hs47, hfs45, hfs46, hfs47⟩ := x6 BK572
   have hns45_0 := NB571_572.out
   have hms45_0 := NB572_571.out
   refine xk ?_
   refine hK.out _ _ ?_
   clear hK K
   refine done_ (by kernel_rfl) ?_
   try go_wp2
   have n0_ : Aside0 (((((((w41.setCell ⟨gb571, 0, none⟩ (.bool false)).setCell ⟨gb571, 1, none⟩ (.string t574)).setCell ⟨gb571, 2, none⟩ (.string t575)).setCell ⟨gb572, 0, none⟩ (.bool t576)).setCell ⟨gb572, 1, none⟩ (.string t577)).setCell ⟨gb572, 2, none⟩ (.string t578)).heap[gb571]? = some (.cells #[.bool false, .string t574, .string t575] 25 (0, 0))) := ⟨xp BK571⟩
   have n1_ : Aside0 (((((((w41.setCell ⟨gb571, 0, none⟩ (.bool false)).setCell ⟨gb571, 1, none⟩ (.string t574)).setCell ⟨gb571, 2, none⟩ (.string t575)).setCell ⟨gb572, 0, none⟩ (.bool t576)).setCell ⟨gb572, 1, none⟩ (.string t577)).setCell ⟨gb572, 2, none⟩ (.string t578)).heap[gb572]? = some (.cells #[.bool t576, .string t577, .string t578] 25 (0, 0))) := ⟨xp BK572⟩
   have n2_ : Aside0 (Below w.heap.size w ((((((w41.setCell ⟨gb571, 0, none⟩ (.bool false)).setCell ⟨gb571, 1, none⟩ (.string t574)).setCell ⟨gb571, 2, none⟩ (.string t575)).setCell ⟨gb572, 0, none⟩ (.bool t576)).setCell ⟨gb572, 1, none⟩ (.string t577)).setCell ⟨gb572, 2, none⟩ (.string t578))) := ⟨xs HB⟩
   (try clear BK571)
   (try clear BK572)
   (try clear HB)
   generalize ((((((w41.setCell ⟨gb571, 0, none⟩ (.bool false)).setCell ⟨gb571, 1, none⟩ (.string t574)).setCell ⟨gb571, 2, none⟩ (.string t575)).setCell ⟨gb572, 0, none⟩ (.bool t576)).setCell ⟨gb572, 1, none⟩ (.string t577)).setCell ⟨gb572, 2, none⟩ (.string t578)) = w48 at n0_ n1_ n2_ ⊢
   have BK571 := n0_
   have BK572 := n1_
   have HB := n2_
   clear n0_ n1_ n2_
   replace BK571 := xD BK571
   replace BK572 := xD BK572
   replace HB := xW HB
   refine start_ (n := 6) (S := fun w' => w'.cell? ⟨gb571, 0, none⟩ = some (.bool false) ∧ w'.cell? ⟨gb571, 1, none⟩ = some (.string t574) ∧ w'.cell? ⟨gb571, 2, none⟩ = some (.string t575) ∧ w'.cell? ⟨gb572, 0, none⟩ = some (.bool t576) ∧ w'.cell? ⟨gb572, 1, none⟩ = some (.string t577) ∧ w'.cell? ⟨gb572, 2, none⟩ = some (.string t578)) (ds := []) #[false, false, false, false, false, false] (by kernel_rfl) rfl rfl xV (fun hHeld => ?_)
   generalize w48.drew = w49 at BK571 BK572 HB hHeld ⊢
   refine xT 0 (some 12) (b 6 1) rfl rfl hHeld ?_
   refine xT 2 (some 14) (b 6 5) rfl rfl hHeld ?_
   refine xO 1 (some 13) (b 6 7) rfl rfl fun K hK => ?_
   refine xc Tryd.func37 (rational_signOf.calls false t574 t575 t579 _ A5.out) ?_
   rintro w50 hb
   replace BK571 := xB BK571 hb
   replace BK572 := xB BK572 hb
   replace HB := xS HB hb
   clear hb
   refine hK.out _ _ xV (fun hHeld => ?_)
   clear hK K
   refine xN 13 ?_
   refine xO 3 (some 15) (b 6 15) rfl rfl fun K hK => ?_
   refine xc Tryd.func37 (rational_signOf.calls t576 t577 t578 t580 _ A6.out) ?_
   rintro w51 hb
   replace BK571 := xB BK571 hb
   replace BK572 := xB BK572 hb
   replace HB := xS HB hb
   clear hb
   refine hK.out _ _ xV (fun hHeld => ?_)
   clear hK K
   refine xN 15 ?_
   refine xP 4 (some 5) (b 6 31) rfl rfl ?_
   refine xP 5 (some 6) (b 6 63) rfl rfl ?_
   refine done_ (by kernel_rfl) ?_
   try go_wp2
   replace BK571 := xD BK571
   replace BK572 := xD BK572
   replace HB := xW HB
   refine start_ (n := 12) (S := fun w' => w'.cell? ⟨gb571, 0, none⟩ = some (.bool false) ∧ w'.cell? ⟨gb571, 1, none⟩ = some (.string t574) ∧ w'.cell? ⟨gb571, 2, none⟩ = some (.string t575) ∧ w'.cell? ⟨gb572, 0, none⟩ = some (.bool t576) ∧ w'.cell? ⟨gb572, 1, none⟩ = some (.string t577) ∧ w'.cell? ⟨gb572, 2, none⟩ = some (.string t578)) (ds := []) #[false, false, false, false, false, false, false, false, false, false, false, false] (by kernel_rfl) rfl rfl xV (fun hHeld => ?_); refine with_tabW rational_Compare.tab7 rational_Compare.bits7 (fun HT_ HW_ => ?_)
   generalize w51.drew = w52 at BK571 BK572 HB hHeld ⊢
   refine xP 0 (some 22) (b 12 1) rfl rfl ?_
   refine xP 5 (some 27) (b 12 33) rfl rfl ?_
   refine xT 1 (some 23) (b 12 35) rfl rfl hHeld ?_
   refine xT 2 (some 24) (b 12 39) rfl rfl hHeld ?_
   refine xT 6 (some 28) (b 12 103) rfl rfl hHeld ?_
   refine xT 7 (some 29) (b 12 231) rfl rfl hHeld ?_
   refine xO 3 (some 25) (b 12 239) rfl rfl fun K hK => ?_
   refine xc Tryd.func49 (rational_den.calls t576 t577 t578 t581 _ A8.out) ?_
   rintro w53 hb
   replace BK571 := xB BK571 hb
   replace BK572 := xB BK572 hb
   replace HB := xS HB hb
   clear hb
   refine hK.out _ _ xV (fun hHeld => ?_)
   clear hK K
   refine xN 25 ?_
   refine xO 4 (some 26) (b 12 255) rfl rfl fun K hK => ?_
   refine xc Tryd.func48 (natural_Multiply.calls k t574 t581 t582 _ A9.out) ?_
   rintro w54 hb
   replace BK571 := xB BK571 hb
   replace BK572 := xB BK572 hb
   replace HB := xS HB hb
   clear hb
   refine hK.out _ _ xV (fun hHeld => ?_)
   clear hK K
   refine xN 26 ?_
   refine xO 8 (some 30) (b 12 511) rfl rfl fun K hK => ?_
   refine xc Tryd.func49 (rational_den.calls false t574 t575 t583 _ A10.out) ?_
   rintro w55 hb
   replace BK571 := xB BK571 hb
   replace BK572 := xB BK572 hb
   replace HB := xS HB hb
   clear hb
   refine hK.out _ _ xV (fun hHeld => ?_)
   clear hK K
   refine xN 30 ?_
   refine xO 9 (some 31) (b 12 1023) rfl rfl fun K hK => ?_
   refine xc Tryd.func48 (natural_Multiply.calls k t577 t583 t584 _ A11.out) ?_
   rintro w56 hb
   replace BK571 := xB BK571 hb
   replace BK572 := xB BK572 hb
   replace HB := xS HB hb
   clear hb
   refine hK.out _ _ xV (fun hHeld => ?_)
   clear hK K
   refine xN 31 ?_
   refine xO 10 (some 32) (b 12 2047) rfl rfl fun K hK => ?_
   refine xc Tryd.func47 (natural_Compare.calls k t582 t584 t585 _ A12.out) ?_
   rintro w57 hb
   replace BK571 := xB BK571 hb
   replace BK572 := xB BK572 hb
   replace HB := xS HB hb
   clear hb
   refine hK.out _ _ xV (fun hHeld => ?_)
   clear hK K
   refine xN 32 ?_
   refine xP 11 (some 7) (b 12 4095) rfl rfl ?_
   refine done_ (done_of HT_.out (by kernel_rfl)) ?_
   have hnb58 := NB571_572.out
   have hnc58 := NB572_571.out
   obtain ⟨hcz59_0, hcz59_1, hcz59_2, hfz59_0, hfz59_1, hfz59_2⟩ := x6 BK571
   try go_wp2
   go_ret
   exact ⟨xy, xs HB⟩
 ·rw [if_neg c7] at H
  have c7b0 : (t579 == t580) = false := beq_eq_false_iff_ne.mpr c7
  have c7b1 : (t579 != t580) = true := bne_iff_ne.mpr c7
  by_cases c60 : t579 < t580
  ·rw [if_pos c60] at H
   have c60b0 : decide (t579 < t580) = true := decide_eq_true c60
   clear c60
   obtain rfl := Option.some.inj H
   go_enter Tryd.func22, Tryd.ntmps22
   try go_wp2_with (first | (refine xE (N := 2) #[.bool a0_0, .string a0_1, .string a0_2] 25 rfl ?_; intro gb571 hg w61 hbox hb; have BK571 := Aside0.mk (hbox); have GW571 := (xG HB hg); have GE571 := (xG HB hg); replace HB := xS HB hb; clear hb hbox hg) | (refine xE (N := 3) #[.bool a1_0, .string a1_1, .string a1_2] 25 rfl ?_; intro gb572 hg w62 hbox hb; have BK572 := Aside0.mk (hbox); have GW572 := (xG HB hg); have GE572 := (xG HB hg); replace HB := xS HB hb; have NB571_572 := xL BK571 hg; have NB572_571 := xR BK571 hg; replace BK571 := xB BK571 hb; clear hb hbox hg))
   replace BK571 := xD BK571
   replace BK572 := xD BK572
   replace HB := xW HB
   refine start_ (n := 6) (S := fun w' => w'.cell? ⟨gb571, 0, none⟩ = some (.bool a0_0) ∧ w'.cell? ⟨gb571, 1, none⟩ = some (.string a0_1) ∧ w'.cell? ⟨gb571, 2, none⟩ = some (.string a0_2) ∧ w'.cell? ⟨gb572, 0, none⟩ = some (.bool a1_0) ∧ w'.cell? ⟨gb572, 1, none⟩ = some (.string a1_1) ∧ w'.cell? ⟨gb572, 2, none⟩ = some (.string a1_2)) (ds := [4, 5]) #[false, false, false, false, false, false] (by kernel_rfl) rfl rfl xV (fun hHeld => ?_)
   generalize w62.drew = w63 at BK571 BK572 HB hHeld ⊢
   refine xT 0 (some 8) (b 6 1) rfl rfl hHeld ?_
   refine xT 2 (some 10) (b 6 5) rfl rfl hHeld ?_
   refine xO 1 (some 9) (b 6 7) rfl rfl fun K hK => ?_
   refine xc Tryd.func38 (rational_clean.calls k a0_0 a0_1 a0_2 t573 t574 t575 _ A3.out) ?_
   rintro w64 hb
   replace BK571 := xB BK571 hb
   replace BK572 := xB BK572 hb
   replace HB := xS HB hb
   clear hb
   refine hK.out _ _ xV (fun hHeld => ?_)
   clear hK K
   refine xN 9 ?_
   refine xO 3 (some 11) (b 6 15) rfl rfl fun K hK => ?_
   refine xc Tryd.func38 (rational_clean.calls k a1_0 a1_1 a1_2 t576 t577 t578 _ A4.out) ?_
   rintro w65 hb
   replace BK571 := xB BK571 hb
   replace BK572 := xB BK572 hb
   replace HB := xS HB hb
   clear hb
   refine hK.out _ _ xV (fun hHeld => ?_)
   clear hK K
   refine xN 11 ?_
   refine xZ 4 none (b 6 31) rfl rfl fun K hK => ?_
   obtain ⟨hs66, hs67, hs68, hfs66, hfs67, hfs68⟩ := x6 BK571
   have hns66_1 := NB572_571.out
   have hms66_1 := NB571_572.out
   refine xk ?_
   refine hK.out _ _ ?_
   clear hK K
   refine xZ 5 none (b 6 63) rfl rfl fun K hK => ?_
   obtain ⟨hs69, hs70, hs71, hfs69, hfs70, hfs71⟩ := x6 BK572
   have hns69_0 := NB571_572.out
   have hms69_0 := NB572_571.out
   refine xk ?_
   refine hK.out _ _ ?_
   clear hK K
   refine done_ (by kernel_rfl) ?_
   try go_wp2
   have n0_ : Aside0 (((((((w65.setCell ⟨gb571, 0, none⟩ (.bool t573)).setCell ⟨gb571, 1, none⟩ (.string t574)).setCell ⟨gb571, 2, none⟩ (.string t575)).setCell ⟨gb572, 0, none⟩ (.bool t576)).setCell ⟨gb572, 1, none⟩ (.string t577)).setCell ⟨gb572, 2, none⟩ (.string t578)).heap[gb571]? = some (.cells #[.bool t573, .string t574, .string t575] 25 (0, 0))) := ⟨xp BK571⟩
   have n1_ : Aside0 (((((((w65.setCell ⟨gb571, 0, none⟩ (.bool t573)).setCell ⟨gb571, 1, none⟩ (.string t574)).setCell ⟨gb571, 2, none⟩ (.string t575)).setCell ⟨gb572, 0, none⟩ (.bool t576)).setCell ⟨gb572, 1, none⟩ (.string t577)).setCell ⟨gb572, 2, none⟩ (.string t578)).heap[gb572]? = some (.cells #[.bool t576, .string t577, .string t578] 25 (0, 0))) := ⟨xp BK572⟩
   have n2_ : Aside0 (Below w.heap.size w ((((((w65.setCell ⟨gb571, 0, none⟩ (.bool t573)).setCell ⟨gb571, 1, none⟩ (.string t574)).setCell ⟨gb571, 2, none⟩ (.string t575)).setCell ⟨gb572, 0, none⟩ (.bool t576)).setCell ⟨gb572, 1, none⟩ (.string t577)).setCell ⟨gb572, 2, none⟩ (.string t578))) := ⟨xs HB⟩
   (try clear BK571)
   (try clear BK572)
   (try clear HB)
   generalize ((((((w65.setCell ⟨gb571, 0, none⟩ (.bool t573)).setCell ⟨gb571, 1, none⟩ (.string t574)).setCell ⟨gb571, 2, none⟩ (.string t575)).setCell ⟨gb572, 0, none⟩ (.bool t576)).setCell ⟨gb572, 1, none⟩ (.string t577)).setCell ⟨gb572, 2, none⟩ (.string t578)) = w72 at n0_ n1_ n2_ ⊢
   have BK571 := n0_
   have BK572 := n1_
   have HB := n2_
   clear n0_ n1_ n2_
   replace BK571 := xD BK571
   replace BK572 := xD BK572
   replace HB := xW HB
   refine start_ (n := 6) (S := fun w' => w'.cell? ⟨gb571, 0, none⟩ = some (.bool t573) ∧ w'.cell? ⟨gb571, 1, none⟩ = some (.string t574) ∧ w'.cell? ⟨gb571, 2, none⟩ = some (.string t575) ∧ w'.cell? ⟨gb572, 0, none⟩ = some (.bool t576) ∧ w'.cell? ⟨gb572, 1, none⟩ = some (.string t577) ∧ w'.cell? ⟨gb572, 2, none⟩ = some (.string t578)) (ds := []) #[false, false, false, false, false, false] (by kernel_rfl) rfl rfl xV (fun hHeld => ?_)
   generalize w72.drew = w73 at BK571 BK572 HB hHeld ⊢
   refine xT 0 (some 12) (b 6 1) rfl rfl hHeld ?_
   refine xT 2 (some 14) (b 6 5) rfl rfl hHeld ?_
   refine xO 1 (some 13) (b 6 7) rfl rfl fun K hK => ?_
   refine xc Tryd.func37 (rational_signOf.calls t573 t574 t575 t579 _ A5.out) ?_
   rintro w74 hb
   replace BK571 := xB BK571 hb
   replace BK572 := xB BK572 hb
   replace HB := xS HB hb
   clear hb
   refine hK.out _ _ xV (fun hHeld => ?_)
   clear hK K
   refine xN 13 ?_
   refine xO 3 (some 15) (b 6 15) rfl rfl fun K hK => ?_
   refine xc Tryd.func37 (rational_signOf.calls t576 t577 t578 t580 _ A6.out) ?_
   rintro w75 hb
   replace BK571 := xB BK571 hb
   replace BK572 := xB BK572 hb
   replace HB := xS HB hb
   clear hb
   refine hK.out _ _ xV (fun hHeld => ?_)
   clear hK K
   refine xN 15 ?_
   refine xP 4 (some 5) (b 6 31) rfl rfl ?_
   refine xP 5 (some 6) (b 6 63) rfl rfl ?_
   refine done_ (by kernel_rfl) ?_
   try go_wp2
   go_ret
   exact ⟨xy, xs HB⟩
  ·rw [if_neg c60] at H
   have c60b0 : decide (t579 < t580) = false := decide_eq_false c60
   clear c60
   obtain rfl := Option.some.inj H
   go_enter Tryd.func22, Tryd.ntmps22
   try go_wp2_with (first | (refine xE (N := 2) #[.bool a0_0, .string a0_1, .string a0_2] 25 rfl ?_; intro gb571 hg w76 hbox hb; have BK571 := Aside0.mk (hbox); have GW571 := (xG HB hg); have GE571 := (xG HB hg); replace HB := xS HB hb; clear hb hbox hg) | (refine xE (N := 3) #[.bool a1_0, .string a1_1, .string a1_2] 25 rfl ?_; intro gb572 hg w77 hbox hb; have BK572 := Aside0.mk (hbox); have GW572 := (xG HB hg); have GE572 := (xG HB hg); replace HB := xS HB hb; have NB571_572 := xL BK571 hg; have NB572_571 := xR BK571 hg; replace BK571 := xB BK571 hb; clear hb hbox hg))
   replace BK571 := xD BK571
   replace BK572 := xD BK572
   replace HB := xW HB
   refine start_ (n := 6) (S := fun w' => w'.cell? ⟨gb571, 0, none⟩ = some (.bool a0_0) ∧ w'.cell? ⟨gb571, 1, none⟩ = some (.string a0_1) ∧ w'.cell? ⟨gb571, 2, none⟩ = some (.string a0_2) ∧ w'.cell? ⟨gb572, 0, none⟩ = some (.bool a1_0) ∧ w'.cell? ⟨gb572, 1, none⟩ = some (.string a1_1) ∧ w'.cell? ⟨gb572, 2, none⟩ = some (.string a1_2)) (ds := [4, 5]) #[false, false, false, false, false, false] (by kernel_rfl) rfl rfl xV (fun hHeld => ?_)
   generalize w77.drew = w78 at BK571 BK572 HB hHeld ⊢
   refine xT 0 (some 8) (b 6 1) rfl rfl hHeld ?_
   refine xT 2 (some 10) (b 6 5) rfl rfl hHeld ?_
   refine xO 1 (some 9) (b 6 7) rfl rfl fun K hK => ?_
   refine xc Tryd.func38 (rational_clean.calls k a0_0 a0_1 a0_2 t573 t574 t575 _ A3.out) ?_
   rintro w79 hb
   replace BK571 := xB BK571 hb
   replace BK572 := xB BK572 hb
   replace HB := xS HB hb
   clear hb
   refine hK.out _ _ xV (fun hHeld => ?_)
   clear hK K
   refine xN 9 ?_
   refine xO 3 (some 11) (b 6 15) rfl rfl fun K hK => ?_
   refine xc Tryd.func38 (rational_clean.calls k a1_0 a1_1 a1_2 t576 t577 t578 _ A4.out) ?_
   rintro w80 hb
   replace BK571 := xB BK571 hb
   replace BK572 := xB BK572 hb
   replace HB := xS HB hb
   clear hb
   refine hK.out _ _ xV (fun hHeld => ?_)
   clear hK K
   refine xN 11 ?_
   refine xZ 4 none (b 6 31) rfl rfl fun K hK => ?_
   obtain ⟨hs81, hs82, hs83, hfs81, hfs82, hfs83⟩ := x6 BK571
   have hns81_1 := NB572_571.out
   have hms81_1 := NB571_572.out
   refine xk ?_
   refine hK.out _ _ ?_
   clear hK K
   refine xZ 5 none (b 6 63) rfl rfl fun K hK => ?_
   obtain ⟨hs84, hs85, hs86, hfs84, hfs85, hfs86⟩ := x6 BK572
   have hns84_0 := NB571_572.out
   have hms84_0 := NB572_571.out
   refine xk ?_
   refine hK.out _ _ ?_
   clear hK K
   refine done_ (by kernel_rfl) ?_
   try go_wp2
   have n0_ : Aside0 (((((((w80.setCell ⟨gb571, 0, none⟩ (.bool t573)).setCell ⟨gb571, 1, none⟩ (.string t574)).setCell ⟨gb571, 2, none⟩ (.string t575)).setCell ⟨gb572, 0, none⟩ (.bool t576)).setCell ⟨gb572, 1, none⟩ (.string t577)).setCell ⟨gb572, 2, none⟩ (.string t578)).heap[gb571]? = some (.cells #[.bool t573, .string t574, .string t575] 25 (0, 0))) := ⟨xp BK571⟩
   have n1_ : Aside0 (((((((w80.setCell ⟨gb571, 0, none⟩ (.bool t573)).setCell ⟨gb571, 1, none⟩ (.string t574)).setCell ⟨gb571, 2, none⟩ (.string t575)).setCell ⟨gb572, 0, none⟩ (.bool t576)).setCell ⟨gb572, 1, none⟩ (.string t577)).setCell ⟨gb572, 2, none⟩ (.string t578)).heap[gb572]? = some (.cells #[.bool t576, .string t577, .string t578] 25 (0, 0))) := ⟨xp BK572⟩
   have n2_ : Aside0 (Below w.heap.size w ((((((w80.setCell ⟨gb571, 0, none⟩ (.bool t573)).setCell ⟨gb571, 1, none⟩ (.string t574)).setCell ⟨gb571, 2, none⟩ (.string t575)).setCell ⟨gb572, 0, none⟩ (.bool t576)).setCell ⟨gb572, 1, none⟩ (.string t577)).setCell ⟨gb572, 2, none⟩ (.string t578))) := ⟨xs HB⟩
   (try clear BK571)
   (try clear BK572)
   (try clear HB)
   generalize ((((((w80.setCell ⟨gb571, 0, none⟩ (.bool t573)).setCell ⟨gb571, 1, none⟩ (.string t574)).setCell ⟨gb571, 2, none⟩ (.string t575)).setCell ⟨gb572, 0, none⟩ (.bool t576)).setCell ⟨gb572, 1, none⟩ (.string t577)).setCell ⟨gb572, 2, none⟩ (.string t578)) = w87 at n0_ n1_ n2_ ⊢
   have BK571 := n0_
   have BK572 := n1_
   have HB := n2_
   clear n0_ n1_ n2_
   replace BK571 := xD BK571
   replace BK572 := xD BK572
   replace HB := xW HB
   refine start_ (n := 6) (S := fun w' => w'.cell? ⟨gb571, 0, none⟩ = some (.bool t573) ∧ w'.cell? ⟨gb571, 1, none⟩ = some (.string t574) ∧ w'.cell? ⟨gb571, 2, none⟩ = some (.string t575) ∧ w'.cell? ⟨gb572, 0, none⟩ = some (.bool t576) ∧ w'.cell? ⟨gb572, 1, none⟩ = some (.string t577) ∧ w'.cell? ⟨gb572, 2, none⟩ = some (.string t578)) (ds := []) #[false, false, false, false, false, false] (by kernel_rfl) rfl rfl xV (fun hHeld => ?_)
   generalize w87.drew = w88 at BK571 BK572 HB hHeld ⊢
   refine xT 0 (some 12) (b 6 1) rfl rfl hHeld ?_
   refine xT 2 (some 14) (b 6 5) rfl rfl hHeld ?_
   refine xO 1 (some 13) (b 6 7) rfl rfl fun K hK => ?_
   refine xc Tryd.func37 (rational_signOf.calls t573 t574 t575 t579 _ A5.out) ?_
   rintro w89 hb
   replace BK571 := xB BK571 hb
   replace BK572 := xB BK572 hb
   replace HB := xS HB hb
   clear hb
   refine hK.out _ _ xV (fun hHeld => ?_)
   clear hK K
   refine xN 13 ?_
   refine xO 3 (some 15) (b 6 15) rfl rfl fun K hK => ?_
   refine xc Tryd.func37 (rational_signOf.calls t576 t577 t578 t580 _ A6.out) ?_
   rintro w90 hb
   replace BK571 := xB BK571 hb
   replace BK572 := xB BK572 hb
   replace HB := xS HB hb
   clear hb
   refine hK.out _ _ xV (fun hHeld => ?_)
   clear hK K
   refine xN 15 ?_
   refine xP 4 (some 5) (b 6 31) rfl rfl ?_
   refine xP 5 (some 6) (b 6 63) rfl rfl ?_
   refine done_ (by kernel_rfl) ?_
   try go_wp2
   go_ret
   exact ⟨xy, xs HB⟩
/-! ### rational_Max: function 56 -/
def rational_Max.f (k : Nat) (a0_0 : Bool) (a0_1 : ByteArray) (a0_2 : ByteArray) (a1_0 : Bool) (a1_1 : ByteArray) (a1_2 : ByteArray) : Option (Bool × ByteArray × ByteArray) := (rational_Compare.f k a0_0 a0_1 a0_2 a1_0 a1_1 a1_2).bind fun t589 => (if t589 ≥ 0 then ((rational_clean.f k a0_0 a0_1 a0_2).bind fun bt590 => (some (bt590.1, bt590.2.1, bt590.2.2))) else ((rational_clean.f k a1_0 a1_1 a1_2).bind fun bt593 => (some (bt593.1, bt593.2.1, bt593.2.2))))
theorem rational_Max.mono : ∀ a0 a1 a2 a3 a4 a5 k, LeO (rational_Max.f k a0 a1 a2 a3 a4 a5) (rational_Max.f (k + 1) a0 a1 a2 a3 a4 a5) := by
 intro a0 a1 a2 a3 a4 a5 k
 unfold rational_Max.f
 have m0 := @rational_Compare.mono; have m1 := @rational_clean.mono; exact xM
set_option maxHeartbeats 8000000 in
set_option maxRecDepth 100000 in
theorem rational_Max.calls (k : Nat) (a0_0 : Bool) (a0_1 : ByteArray) (a0_2 : ByteArray) (a1_0 : Bool) (a1_1 : ByteArray) (a1_2 : ByteArray) (r1 : Bool) (r2 : ByteArray) (r3 : ByteArray) (w : World) (h : rational_Max.f k a0_0 a0_1 a0_2 a1_0 a1_1 a1_2 = some (r1, r2, r3)) :
  Calls Tryd.prog 56 #[.agg #[.bool a0_0, .string a0_1, .string a0_2], .agg #[.bool a1_0, .string a1_1, .string a1_2]] w fun e w' => e = .returned (.agg #[.bool r1, .string r2, .string r3]) ∧ Below w.heap.size w w' := by
 have hu25 := Tryd.underlying25
 have HB := Aside0.mk (Below.refl w.heap.size w)
 have H : ((rational_Compare.f k a0_0 a0_1 a0_2 a1_0 a1_1 a1_2).bind fun t589 => (if t589 ≥ 0 then ((rational_clean.f k a0_0 a0_1 a0_2).bind fun bt590 => (some (bt590.1, bt590.2.1, bt590.2.2))) else ((rational_clean.f k a1_0 a1_1 a1_2).bind fun bt593 => (some (bt593.1, bt593.2.1, bt593.2.2))))) = some (r1, r2, r3) := h
 clear h
 replace H := xH H; obtain ⟨t589, A3, H⟩ := H
 by_cases c4 : t589 ≥ 0
 ·rw [if_pos c4] at H
  have c4b0 : decide (0 ≤ t589) = true := decide_eq_true c4
  clear c4
  replace H := xH H; obtain ⟨⟨t590, t591, t592⟩, A5, H⟩ := H
  dsimp only at H
  simp only [Option.some.injEq, Prod.mk.injEq] at H
  obtain ⟨rfl, rfl, rfl⟩ := H
  go_enter Tryd.func56, Tryd.ntmps56
  go_wp2_with (first | (refine xE (N := 2) #[.bool a0_0, .string a0_1, .string a0_2] 25 rfl ?_; intro gb586 hg w6 hbox hb; have BK586 := Aside0.mk (hbox); have GW586 := (xG HB hg); have GE586 := (xG HB hg); replace HB := xS HB hb; clear hb hbox hg) | (refine xE (N := 3) #[.bool a1_0, .string a1_1, .string a1_2] 25 rfl ?_; intro gb587 hg w7 hbox hb; have BK587 := Aside0.mk (hbox); have GW587 := (xG HB hg); have GE587 := (xG HB hg); replace HB := xS HB hb; have NB586_587 := xL BK586 hg; have NB587_586 := xR BK586 hg; replace BK586 := xB BK586 hb; clear hb hbox hg) | (refine xE (N := 4) #[.bool false, .string (⟨#[]⟩ : ByteArray), .string (⟨#[]⟩ : ByteArray)] 25 rfl ?_; intro gb588 hg w8 hbox hb; have BK588 := Aside0.mk (hbox); have GW588 := (xG HB hg); have GE588 := (xG HB hg); replace HB := xS HB hb; have NB586_588 := xL BK586 hg; have NB588_586 := xR BK586 hg; replace BK586 := xB BK586 hb; have NB587_588 := xL BK587 hg; have NB588_587 := xR BK587 hg; replace BK587 := xB BK587 hb; clear hb hbox hg; have hnb9 := NB586_587.out; have hnc9 := NB587_586.out; have hnb10 := NB586_588.out; have hnc10 := NB588_586.out; obtain ⟨hcz11_0, hcz11_1, hcz11_2, hfz11_0, hfz11_1, hfz11_2⟩ := x6 BK586; have hnb12 := NB587_588.out; have hnc12 := NB588_587.out; obtain ⟨hcz13_0, hcz13_1, hcz13_2, hfz13_0, hfz13_1, hfz13_2⟩ := x6 BK587) | (refine xC Tryd.func22 (some 7) (rational_Compare.calls k a0_0 a0_1 a0_2 a1_0 a1_1 a1_2 t589 _ A3.out) ?_; rintro w14 hb; replace BK586 := xB BK586 hb; replace BK587 := xB BK587 hb; replace BK588 := xB BK588 hb; replace HB := xS HB hb; clear hb; obtain ⟨hcz15_0, hcz15_1, hcz15_2, hfz15_0, hfz15_1, hfz15_2⟩ := x6 BK586) | (refine xC Tryd.func38 (some 10) (rational_clean.calls k a0_0 a0_1 a0_2 t590 t591 t592 _ A5.out) ?_; rintro w16 hb; replace BK586 := xB BK586 hb; replace BK587 := xB BK587 hb; replace BK588 := xB BK588 hb; replace HB := xS HB hb; clear hb; obtain ⟨hcz17_0, hcz17_1, hcz17_2, hfz17_0, hfz17_1, hfz17_2⟩ := x6 BK588))
  refine bodyPost_ret (results_cell_row rfl _ _ gb588 25 #[.bool t590, .string t591, .string t592] (0, 0) _ rfl (xp BK588) Tryd.underlying25 rfl (by kernel_rfl)) rfl ?_
  exact ⟨xy, xs HB⟩
 ·rw [if_neg c4] at H
  have c4b0 : decide (0 ≤ t589) = false := decide_eq_false c4
  clear c4
  replace H := xH H; obtain ⟨⟨t593, t594, t595⟩, A18, H⟩ := H
  dsimp only at H
  simp only [Option.some.injEq, Prod.mk.injEq] at H
  obtain ⟨rfl, rfl, rfl⟩ := H
  go_enter Tryd.func56, Tryd.ntmps56
  go_wp2_with (first | (refine xE (N := 2) #[.bool a0_0, .string a0_1, .string a0_2] 25 rfl ?_; intro gb586 hg w19 hbox hb; have BK586 := Aside0.mk (hbox); have GW586 := (xG HB hg); have GE586 := (xG HB hg); replace HB := xS HB hb; clear hb hbox hg) | (refine xE (N := 3) #[.bool a1_0, .string a1_1, .string a1_2] 25 rfl ?_; intro gb587 hg w20 hbox hb; have BK587 := Aside0.mk (hbox); have GW587 := (xG HB hg); have GE587 := (xG HB hg); replace HB := xS HB hb; have NB586_587 := xL BK586 hg; have NB587_586 := xR BK586 hg; replace BK586 := xB BK586 hb; clear hb hbox hg) | (refine xE (N := 4) #[.bool false, .string (⟨#[]⟩ : ByteArray), .string (⟨#[]⟩ : ByteArray)] 25 rfl ?_; intro gb588 hg w21 hbox hb; have BK588 := Aside0.mk (hbox); have GW588 := (xG HB hg); have GE588 := (xG HB hg); replace HB := xS HB hb; have NB586_588 := xL BK586 hg; have NB588_586 := xR BK586 hg; replace BK586 := xB BK586 hb; have NB587_588 := xL BK587 hg; have NB588_587 := xR BK587 hg; replace BK587 := xB BK587 hb; clear hb hbox hg; have hnb22 := NB586_587.out; have hnc22 := NB587_586.out; have hnb23 := NB586_588.out; have hnc23 := NB588_586.out; obtain ⟨hcz24_0, hcz24_1, hcz24_2, hfz24_0, hfz24_1, hfz24_2⟩ := x6 BK586; have hnb25 := NB587_588.out; have hnc25 := NB588_587.out; obtain ⟨hcz26_0, hcz26_1, hcz26_2, hfz26_0, hfz26_1, hfz26_2⟩ := x6 BK587) | (refine xC Tryd.func22 (some 7) (rational_Compare.calls k a0_0 a0_1 a0_2 a1_0 a1_1 a1_2 t589 _ A3.out) ?_; rintro w27 hb; replace BK586 := xB BK586 hb; replace BK587 := xB BK587 hb; replace BK588 := xB BK588 hb; replace HB := xS HB hb; clear hb; obtain ⟨hcz28_0, hcz28_1, hcz28_2, hfz28_0, hfz28_1, hfz28_2⟩ := x6 BK587) | (refine xC Tryd.func38 (some 12) (rational_clean.calls k a1_0 a1_1 a1_2 t593 t594 t595 _ A18.out) ?_; rintro w29 hb; replace BK586 := xB BK586 hb; replace BK587 := xB BK587 hb; replace BK588 := xB BK588 hb; replace HB := xS HB hb; clear hb; obtain ⟨hcz30_0, hcz30_1, hcz30_2, hfz30_0, hfz30_1, hfz30_2⟩ := x6 BK588))
  refine bodyPost_ret (results_cell_row rfl _ _ gb588 25 #[.bool t593, .string t594, .string t595] (0, 0) _ rfl (xp BK588) Tryd.underlying25 rfl (by kernel_rfl)) rfl ?_
  exact ⟨xy, xs HB⟩
/-! ### guarantee_positive: function 35 -/
def guarantee_positive.f (k : Nat) (a0_0 : Bool) (a0_1 : ByteArray) (a0_2 : ByteArray) : Option (Bool × ByteArray × ByteArray) := (rational_Max.f k a0_0 a0_1 a0_2 false (⟨#[]⟩ : ByteArray) (⟨#[]⟩ : ByteArray)).bind fun bt598 => (some (bt598.1, bt598.2.1, bt598.2.2))
theorem guarantee_positive.mono : ∀ a0 a1 a2 k, LeO (guarantee_positive.f k a0 a1 a2) (guarantee_positive.f (k + 1) a0 a1 a2) := by
 intro a0 a1 a2 k
 unfold guarantee_positive.f
 have m0 := @rational_Max.mono; exact xM
set_option maxHeartbeats 8000000 in
set_option maxRecDepth 100000 in
theorem guarantee_positive.calls (k : Nat) (a0_0 : Bool) (a0_1 : ByteArray) (a0_2 : ByteArray) (r1 : Bool) (r2 : ByteArray) (r3 : ByteArray) (w : World) (h : guarantee_positive.f k a0_0 a0_1 a0_2 = some (r1, r2, r3)) :
  Calls Tryd.prog 35 #[.agg #[.bool a0_0, .string a0_1, .string a0_2]] w fun e w' => e = .returned (.agg #[.bool r1, .string r2, .string r3]) ∧ Below w.heap.size w w' := by
 have hu25 := Tryd.underlying25
 have HB := Aside0.mk (Below.refl w.heap.size w)
 have H : ((rational_Max.f k a0_0 a0_1 a0_2 false (⟨#[]⟩ : ByteArray) (⟨#[]⟩ : ByteArray)).bind fun bt598 => (some (bt598.1, bt598.2.1, bt598.2.2))) = some (r1, r2, r3) := h
 clear h
 replace H := xH H; obtain ⟨⟨t598, t599, t600⟩, A2, H⟩ := H
 dsimp only at H
 simp only [Option.some.injEq, Prod.mk.injEq] at H
 obtain ⟨rfl, rfl, rfl⟩ := H
 go_enter Tryd.func35, Tryd.ntmps35
 go_wp2_with (first | (refine xE (N := 1) #[.bool a0_0, .string a0_1, .string a0_2] 25 rfl ?_; intro gb596 hg w3 hbox hb; have BK596 := Aside0.mk (hbox); have GW596 := (xG HB hg); have GE596 := (xG HB hg); replace HB := xS HB hb; clear hb hbox hg) | (refine xE (N := 2) #[.bool false, .string (⟨#[]⟩ : ByteArray), .string (⟨#[]⟩ : ByteArray)] 25 rfl ?_; intro gb597 hg w4 hbox hb; have BK597 := Aside0.mk (hbox); have GW597 := (xG HB hg); have GE597 := (xG HB hg); replace HB := xS HB hb; have NB596_597 := xL BK596 hg; have NB597_596 := xR BK596 hg; replace BK596 := xB BK596 hb; clear hb hbox hg; have hnb5 := NB596_597.out; have hnc5 := NB597_596.out; obtain ⟨hcz6_0, hcz6_1, hcz6_2, hfz6_0, hfz6_1, hfz6_2⟩ := x6 BK596) | (refine xC Tryd.func56 (some 5) (rational_Max.calls k a0_0 a0_1 a0_2 false (⟨#[]⟩ : ByteArray) (⟨#[]⟩ : ByteArray) t598 t599 t600 _ A2.out) ?_; rintro w7 hb; replace BK596 := xB BK596 hb; replace BK597 := xB BK597 hb; replace HB := xS HB hb; clear hb; obtain ⟨hcz8_0, hcz8_1, hcz8_2, hfz8_0, hfz8_1, hfz8_2⟩ := x6 BK597))
 refine bodyPost_ret (results_cell_row rfl _ _ gb597 25 #[.bool t598, .string t599, .string t600] (0, 0) _ rfl (xp BK597) Tryd.underlying25 rfl (by kernel_rfl)) rfl ?_
 exact ⟨xy, xs HB⟩
/-! ### rational_negate: function 61 -/
def rational_negate.f (a0_0 : Bool) (a0_1 : ByteArray) (a0_2 : ByteArray) : Option (Bool × ByteArray × ByteArray) := if a0_0 = true then (some (false, a0_1, a0_2)) else (some ((a0_1.toList != ([] : List UInt8)), a0_1, a0_2))
set_option maxHeartbeats 8000000 in
set_option maxRecDepth 100000 in
theorem rational_negate.calls (a0_0 : Bool) (a0_1 : ByteArray) (a0_2 : ByteArray) (r1 : Bool) (r2 : ByteArray) (r3 : ByteArray) (w : World) (h : rational_negate.f a0_0 a0_1 a0_2 = some (r1, r2, r3)) :
  Calls Tryd.prog 61 #[.agg #[.bool a0_0, .string a0_1, .string a0_2]] w fun e w' => e = .returned (.agg #[.bool r1, .string r2, .string r3]) ∧ Below w.heap.size w w' := by
 have hu25 := Tryd.underlying25
 have HB := Aside0.mk (Below.refl w.heap.size w)
 have H : (if a0_0 = true then (some (false, a0_1, a0_2)) else (some ((a0_1.toList != ([] : List UInt8)), a0_1, a0_2))) = some (r1, r2, r3) := h
 clear h
 by_cases c2 : a0_0 = true
 ·subst c2
  replace H := xI H
  simp only [Option.some.injEq, Prod.mk.injEq] at H
  obtain ⟨rfl, rfl, rfl⟩ := H
  go_enter Tryd.func61, Tryd.ntmps61
  go_wp2_with (first | (refine xE (N := 1) #[.bool true, .string a0_1, .string a0_2] 25 rfl ?_; intro gb601 hg w3 hbox hb; have BK601 := Aside0.mk (hbox); have GW601 := (xG HB hg); have GE601 := (xG HB hg); replace HB := xS HB hb; clear hb hbox hg) | (refine xE (N := 2) #[.bool false, .string (⟨#[]⟩ : ByteArray), .string (⟨#[]⟩ : ByteArray)] 25 rfl ?_; intro gb602 hg w4 hbox hb; have BK602 := Aside0.mk (hbox); have GW602 := (xG HB hg); have GE602 := (xG HB hg); replace HB := xS HB hb; have NB601_602 := xL BK601 hg; have NB602_601 := xR BK601 hg; replace BK601 := xB BK601 hb; clear hb hbox hg; have hnb5 := NB601_602.out; have hnc5 := NB602_601.out; obtain ⟨hcz6_0, hcz6_1, hcz6_2, hfz6_0, hfz6_1, hfz6_2⟩ := x6 BK601; obtain ⟨hcz7_0, hcz7_1, hcz7_2, hfz7_0, hfz7_1, hfz7_2⟩ := x6 BK602))
  refine bodyPost_ret (results_cell_row rfl _ _ gb602 25 #[.bool false, .string a0_1, .string a0_2] (0, 0) _ rfl (xp BK602) Tryd.underlying25 rfl (by kernel_rfl)) rfl ?_
  exact ⟨xy, xs HB⟩
 ·replace c2 := Bool.eq_false_iff.mpr c2
  subst c2
  have H1 : (some ((a0_1.toList != ([] : List UInt8)), a0_1, a0_2)) = some (r1, r2, r3) := by rw [if_neg (show ¬ (false = true) by decide)] at H; exact H
  clear H
  have H := H1
  clear H1
  simp only [Option.some.injEq, Prod.mk.injEq] at H
  obtain ⟨rfl, rfl, rfl⟩ := H
  go_enter Tryd.func61, Tryd.ntmps61
  go_wp2_with (first | (refine xE (N := 1) #[.bool false, .string a0_1, .string a0_2] 25 rfl ?_; intro gb601 hg w8 hbox hb; have BK601 := Aside0.mk (hbox); have GW601 := (xG HB hg); have GE601 := (xG HB hg); replace HB := xS HB hb; clear hb hbox hg) | (refine xE (N := 2) #[.bool false, .string (⟨#[]⟩ : ByteArray), .string (⟨#[]⟩ : ByteArray)] 25 rfl ?_; intro gb602 hg w9 hbox hb; have BK602 := Aside0.mk (hbox); have GW602 := (xG HB hg); have GE602 := (xG HB hg); replace HB := xS HB hb; have NB601_602 := xL BK601 hg; have NB602_601 := xR BK601 hg; replace BK601 := xB BK601 hb; clear hb hbox hg; have hnb10 := NB601_602.out; have hnc10 := NB602_601.out; obtain ⟨hcz11_0, hcz11_1, hcz11_2, hfz11_0, hfz11_1, hfz11_2⟩ := x6 BK601; obtain ⟨hcz12_0, hcz12_1, hcz12_2, hfz12_0, hfz12_1, hfz12_2⟩ := x6 BK602))
  refine bodyPost_ret (results_cell_row rfl _ _ gb602 25 #[.bool (a0_1.toList != ([] : List UInt8)), .string a0_1, .string a0_2] (0, 0) _ rfl (xp BK602) Tryd.underlying25 rfl (by kernel_rfl)) rfl ?_
  exact ⟨xy, xs HB⟩
end Go.Proofs.YtpoogjcgjpkbeaaDoor.XC
