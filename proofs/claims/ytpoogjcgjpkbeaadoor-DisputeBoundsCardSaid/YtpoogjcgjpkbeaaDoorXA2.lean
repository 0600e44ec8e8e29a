/- Walks of functions of the program: a plain Lean function for each, and a proof that a call answers as it says. Written by a program (the kit's print with changes, then shortened). -/
import Derived.Test.YtpoogjcgjpkbeaaDoorXA1
namespace Go.Proofs.YtpoogjcgjpkbeaaDoor.XA
open Go.RowKit Go.Proofs.YtpoogjcgjpkbeaaDoorW.PrintWords Go.Proofs.YtpoogjcgjpkbeaaDoorW.PrintLast Go.Proofs.YtpoogjcgjpkbeaaDoorW.PrintMore Go.Proofs.YtpoogjcgjpkbeaaDoorW.Sq Go.Proofs.YtpoogjcgjpkbeaaDoorW.Sr Go.Proofs.YtpoogjcgjpkbeaaDoorW.Ss
attribute [local go_sem] max2_int min2_int max_two min_two max_three min_three max_four min_four   -- for this text's walks alone
set_option linter.unusedVariables false
set_option linter.unusedSimpArgs false
set_option maxHeartbeats 8000000
set_option maxRecDepth 100000
open Go.RowKit Go.Proofs.YtpoogjcgjpkbeaaDoorW.PrintWords Go.Proofs.YtpoogjcgjpkbeaaDoorW.PrintLast Go.Proofs.YtpoogjcgjpkbeaaDoorW.PrintMore Go.Proofs.YtpoogjcgjpkbeaaDoorW.Sq Go.Proofs.YtpoogjcgjpkbeaaDoorW.Sr
/-! ### nt_divideSmall: function 109 -/
def nt_divideSmall.l0 : Nat → List Int → Int → List Int → Int → Int → Option (List Int × Int)
 | 0, _, _, _, _, _ => none
 | k + 1, x0, x1, x6, x7, x8 => if x8 ≥ 0 then (if 0 ≤ x8 then (if x8 < (x0.length : Int) then (if (IntKind.u64.wrap (x1)) = 0 then (none) else (if x8 < (x6.length : Int) then (nt_divideSmall.l0 k x0 x1 (x6.set (x8 : Int).toNat ((IntKind.u64.wrap (Int.tdiv (Go.bits .or .u64 (IntKind.u64.wrap (x7 * 4294967296)) (IntKind.u64.wrap (rd x0 x8))) (IntKind.u64.wrap (x1)))) % 4294967296)) (Int.tmod (Go.bits .or .u64 (IntKind.u64.wrap (x7 * 4294967296)) (IntKind.u64.wrap (rd x0 x8))) (IntKind.u64.wrap (x1))) (wrap64 (x8 - 1))) else (none))) else (none)) else (none)) else ((nt_limbs_trim.f k x6).bind fun t354 => (some (t354, (x7) % 4294967296)))
def nt_divideSmall.f (k : Nat) (l0 : List Int) (a1 : Int) : Option (List Int × Int) := if 0 ≤ (l0.length : Int) then (if ((l0.length : Int) : Int).toNat ≤ 70368744177664 then (nt_divideSmall.l0 k l0 a1 (List.replicate ((l0.length : Int) : Int).toNat 0) 0 (wrap64 ((l0.length : Int) - 1))) else (none)) else (none)
theorem nt_divideSmall.mono_l : ∀ k, (∀ y0 y1 y2 y3 y4, LeO (nt_divideSmall.l0 k y0 y1 y2 y3 y4) (nt_divideSmall.l0 (k + 1) y0 y1 y2 y3 y4))
 | 0 => fun _ _ _ _ _ r h => by simp [nt_divideSmall.l0] at h
 | k + 1 => by
  have ih0 := nt_divideSmall.mono_l k
  ·intro y0 y1 y2 y3 y4
   unfold nt_divideSmall.l0
   have m0 := @ih0; have m1 := @nt_limbs_trim.mono; exact xM
theorem nt_divideSmall.mono : ∀ a0 a1 k, LeO (nt_divideSmall.f k a0 a1) (nt_divideSmall.f (k + 1) a0 a1) := by
 intro a0 a1 k
 have ih0 := nt_divideSmall.mono_l k
 unfold nt_divideSmall.f
 have m0 := @ih0; have m1 := @nt_limbs_trim.mono; exact xM
theorem nt_divideSmall.calls (k : Nat) (A0 : Option Addr) (c0 : Nat) (l0 : List Int) (a1 : Int) (r1 : List Int) (r2 : Int) (w : World) (hr0 : Kd.C (Kd.int .u32) w A0 l0.length l0) (hc0 : l0.length ≤ c0) (h : nt_divideSmall.f k l0 a1 = some (r1, r2)) :
  Calls Tryd.prog 109 #[.slice A0 l0.length c0, .int .u32 a1] w fun e w' => ∃ v0_ : Value, e = .returned (.tuple #[v0_, .int .u32 r2]) ∧ Kd.V (Kd.int .u32) 85 w' w.heap.size (fun k_ => (w.heap.size ≤ k_)) v0_ r1 ∧ Below w.heap.size w w' := by
 have HR0 := Aside0.mk hr0
 have HC0 := Aside0.mk hc0
 clear hr0 hc0
 have HB := Aside0.mk (Below.refl w.heap.size w)
 have H := h; clear h
 unfold nt_divideSmall.f at H
 obtain ⟨c3b0, c3b1, H⟩ := xQt H
 obtain ⟨c4b0, c4b1, H⟩ := xQt H
 generalize hy349 : (List.replicate ((l0.length : Int) : Int).toNat 0 : List Int) = y349 at H
 have Ny349 := Aside0.mk hy349.symm
 clear hy349
 have H' := Aside0.mk H
 clear H
 go_enter Tryd.func109, Tryd.ntmps109
 go_wp2_with ((with_reducible refine gate_dst (N := 12) rfl ?_); refine Kd.R_make (Kd.int .u32) _ 85 rfl (N := 12) rfl 83 _ _ rfl (l0.length : Int) rfl rfl Tryd.underlying83 (.int .u32 0) 4 info85 rfl (by decide) (by omega) 0 (ok := fun _ => True) (okp := fun _ => True) rfl (fun _ hk => hk) trivial (xa) (Nat.le_trans (Nat.mul_le_mul_right _ (xa : (l0.length : Int).toNat ≤ 70368744177664)) (by omega)) (Below.refl _ _) (Nat.le_refl _) ?_; intro v350 w5 ho6 hb hg_ hnew_; clear hg_ hnew_; (rw [← Ny349.out] at ho6); have HO351 := Aside0.mk (Kd.R_lower (Kd.R_newM (M := fun k_ => (w.heap.size ≤ k_)) ho6 (below_size (xs HB)) (fun k_ h_ => h_)) (below_size (xs HB))); replace HB := xS HB hb; clear hb ho6)
 go_loopg [7, 8] k (fun kq v7 v8 w' => ∃ (x6_1 : List Int) (x7_1 : Int) (x8_1 : Int), v7 = .int .u64 x7_1 ∧ v8 = .int .i64 x8_1 ∧ Aside0 (nt_divideSmall.l0 kq l0 a1 x6_1 x7_1 x8_1 = some (r1, r2)) ∧ Aside0 (kq ≤ k) ∧ Aside0 (Kd.R (Kd.int .u32) 85 w' w.heap.size (fun k_ => (w.heap.size ≤ k_)) v350 x6_1) ∧ Aside0 (Below w.heap.size w w'))
 case atStart => exact ⟨(y349), (0), (wrap64 ((l0.length : Int) - 1)), xz, xz, H', ⟨Nat.le_refl _⟩, ⟨by exact Kd.R_mono HO351.out (fun _ hk => hk.1)⟩, ⟨xs HB⟩⟩
 case round =>
  clear H'
  clear c3b0 c3b1 c4b0 c4b1
  obtain ⟨x6_1, x7_1, x8_1, rfl, rfl, HA, HK1, HO_6, HB⟩ := hrel
  cases gk with
  | zero => exact absurd HA.out (by simp [nt_divideSmall.l0])
  | succ k1 =>
   have H := HA.out
   clear HA
   simp only [nt_divideSmall.l0] at H
   obtain ⟨c7b0, H⟩ | ⟨c7b0, H⟩ := xOd H
   ·obtain ⟨c8b0, H⟩ := xQd H
    obtain ⟨c9b0, H⟩ := xQd H
    obtain ⟨c10, H⟩ := xR H
    have c10b0 := beq_eq_false_iff_ne.mpr c10
    have c10b1 := bne_iff_ne.mpr c10
    obtain ⟨c11b0, H⟩ := xQd H
    generalize hy353 : (x6_1.set (x8_1 : Int).toNat ((IntKind.u64.wrap (Int.tdiv (Go.bits .or .u64 (IntKind.u64.wrap (x7_1 * 4294967296)) (IntKind.u64.wrap (rd l0 x8_1))) (IntKind.u64.wrap (a1)))) % 4294967296) : List Int) = y353 at H
    have Ny353 := Aside0.mk hy353.symm
    clear hy353
    have H' := Aside0.mk H
    clear H
    obtain ⟨p352, q352, ad352, e352, hx352_0⟩ := xA (Kd.at_int HR0.out x8_1)
    cases e352
    (try replace hx352_0 := xcl HB hx352_0)
    have p12 : 0 ≤ (x8_1 : Int) := xa
    have q12 : (x8_1 : Int) < ((x6_1.length : Int) : Int) := xa
    obtain ⟨go12, co12, eo12, gb12, gl12, cl12, HG12⟩ := Kd.R_form HO_6.out (by omega)
    cases eo12
    have GB12 := Aside0.mk gb12
    have GG12 := Aside0.mk HG12
    clear gb12 gl12 HG12
    obtain ⟨hx12_0, hf12_0⟩ := Kd.R_celln 0 HO_6.out (x8_1 : Int) p12 q12
    replace p12 := eq_true p12
    replace q12 := eq_true q12
    have HP13 := Kd.R_putg HO_6.out (x8_1 : Int) ((IntKind.u64.wrap (Int.tdiv (Go.bits .or .u64 (IntKind.u64.wrap (x7_1 * 4294967296)) (IntKind.u64.wrap (rd l0 x8_1))) (IntKind.u64.wrap (a1)))) % 4294967296)
    go_wp2_with (refine xst 85 35 (wr.setCell ⟨go12, (x8_1 : Int).toNat, none⟩ (.int .u32 ((IntKind.u64.wrap (Int.tdiv (Go.bits .or .u64 (IntKind.u64.wrap (x7_1 * 4294967296)) (IntKind.u64.wrap (rd l0 x8_1))) (IntKind.u64.wrap (a1)))) % 4294967296))) ?_; intro w14 hw; have hg : wr.grownBy w14 (some go12) := (by rw [hw]; exact HP13.2); have hp_ : Kd.R (Kd.int .u32) 85 w14 w.heap.size (fun k_ => (w.heap.size ≤ k_)) (.slice (some ⟨go12, 0, none⟩) x6_1.length co12) y353 := (by rw [hw, Ny353.out]; exact HP13.1); clear HP13; replace HO_6 := Aside0.mk (hp_); replace HB := Aside0.mk (by rw [hw]; exact below_set (HB.out) GB12.out : Below w.heap.size w w14); clear hg hw hp_)
    go_roundg k1
    case measure => have := HK1.out; omega
    case rel => exact ⟨(y353), (Int.tmod (Go.bits .or .u64 (IntKind.u64.wrap (x7_1 * 4294967296)) (IntKind.u64.wrap (rd l0 x8_1))) (IntKind.u64.wrap (a1))), (wrap64 (x8_1 - 1)), xz, xz, H', ⟨by have := HK1.out; omega⟩, ⟨xr HO_6.out⟩, ⟨xs HB⟩⟩
   replace H := xH H; obtain ⟨t354, A15, H⟩ := H
   simp only [Option.some.injEq, Prod.mk.injEq] at H
   obtain ⟨rfl, rfl⟩ := H
   obtain ⟨Ao16, co16, eo16⟩ := Kd.R_slice HO_6.out
   subst eo16
   go_wp2_with (refine xg Tryd.func98 (some 41) #[.slice Ao16 x6_1.length co16] ?_; (with_reducible refine (nt_limbs_trim.calls k1 (fun k_ => some k_ = (.slice Ao16 x6_1.length co16 : Value).ownBlock) _ _ x6_1 t354 _ ?side1 A15.out).mono ?_); (case side1 => exact Kd.R_V (Kd.R_tight rfl (HO_6.out))); rintro e w17 ⟨v355, rfl, ho0, hb⟩; refine ⟨_, rfl, ?_⟩; have HO356 := xVm w (fun k_ => (w.heap.size ≤ k_)) ho0 (fun k_ hk_ => Or.elim hk_ (fun hs_ => ((HO_6.out).1 k_ hs_.symm)) (fun hn_ => (Nat.le_trans (below_size (xs HB)) hn_))); replace HO_6 := xRb HO_6 hb; replace HB := xS HB hb; clear hb ho0)
   go_ret2
   exact ⟨_, xy, HO356.out, xs HB⟩
-- NOT PRINTED: function 118 (bits_Len32)
/-! ### bits_LeadingZeros32: function 110 -/
def bits_LeadingZeros32.f (a0 : Int) : Option Int := if 0 ≤ a0 ∧ a0 ≤ 4294967295 then some (32 - (Go.Lib.bitLen a0.toNat : Int)) else none
theorem bits_LeadingZeros32.calls (a0 : Int) (r : Int) (w : World) (h : bits_LeadingZeros32.f a0 = some r) :
  Calls Tryd.prog 110 #[.int .u32 a0] w fun e w' => e = .returned (.int .i64 r) ∧ Drawn0 w w' := by
 unfold bits_LeadingZeros32.f at h
 by_cases c : 0 ≤ a0 ∧ a0 ≤ 4294967295
 ·rw [if_pos c] at h
  obtain rfl := Option.some.inj h
  refine (Go.Proofs.Tryd.bits_LeadingZeros32 a0 w c.1 c.2).mono ?_
  rintro e w' ⟨rfl, rfl⟩
  exact ⟨rfl, Drawn0.refl _⟩
 rw [if_neg c] at h
 cases h
/-! ### nt_shift: function 111 -/
def nt_shift.l0 : Nat → Int → Int → List Int → List Int → Int → Int → Option (List Int)
 | 0, _, _, _, _, _, _ => none
 | k + 1, x1, x2, x7, x13, x14, x15 => if x15 < x14 then (if 0 ≤ x15 then (if x15 < (x13.length : Int) then (if 0 ≤ x1 then (if x15 < (x7.length : Int) then ((some (x7.set (x15 : Int).toNat (Go.bits .or .u32 (rd x7 x15) ((shl .u64 (IntKind.u64.wrap (rd x13 x15)) x1) % 4294967296)) : List Int)).bind fun y362 => (if (wrap64 (x15 + 1)) < x2 then (if 0 ≤ (wrap64 (x15 + 1)) then (if (wrap64 (x15 + 1)) < (x7.length : Int) then (nt_shift.l0 k x1 x2 (y362.set ((wrap64 (x15 + 1)) : Int).toNat (Go.bits .or .u32 (rd y362 (wrap64 (x15 + 1))) (((shl .u64 (IntKind.u64.wrap (rd x13 x15)) x1) / 4294967296) % 4294967296))) x13 x14 (wrap64 (x15 + 1))) else (none)) else (none)) else (nt_shift.l0 k x1 x2 y362 x13 x14 (wrap64 (x15 + 1))))) else (none)) else (none)) else (none)) else (none)) else (some x7)
def nt_shift.f (k : Nat) (l0 : List Int) (a1 : Int) (a2 : Int) : Option (List Int) := if 0 ≤ a2 then (if (a2 : Int).toNat ≤ 70368744177664 then (nt_shift.l0 k a1 a2 (List.replicate (a2 : Int).toNat 0) l0 (l0.length : Int) 0) else (none)) else (none)
theorem nt_shift.mono_l : ∀ k, (∀ y0 y1 y2 y3 y4 y5, LeO (nt_shift.l0 k y0 y1 y2 y3 y4 y5) (nt_shift.l0 (k + 1) y0 y1 y2 y3 y4 y5))
 | 0 => fun _ _ _ _ _ _ r h => by simp [nt_shift.l0] at h
 | k + 1 => by
  have ih0 := nt_shift.mono_l k
  ·intro y0 y1 y2 y3 y4 y5
   unfold nt_shift.l0
   have m0 := @ih0; exact xM
theorem nt_shift.mono : ∀ a0 a1 a2 k, LeO (nt_shift.f k a0 a1 a2) (nt_shift.f (k + 1) a0 a1 a2) := by
 intro a0 a1 a2 k
 have ih0 := nt_shift.mono_l k
 unfold nt_shift.f
 have m0 := @ih0; exact xM
theorem nt_shift.calls (k : Nat) (A0 : Option Addr) (c0 : Nat) (l0 : List Int) (a1 : Int) (a2 : Int) (r : List Int) (w : World) (hr0 : Kd.C (Kd.int .u32) w A0 l0.length l0) (hc0 : l0.length ≤ c0) (h : nt_shift.f k l0 a1 a2 = some r) :
  Calls Tryd.prog 111 #[.slice A0 l0.length c0, .int .u64 a1, .int .i64 a2] w fun e w' => ∃ v0_ : Value, e = .returned (v0_) ∧ Kd.R (Kd.int .u32) 85 w' w.heap.size (fun _ => True) v0_ r ∧ Below w.heap.size w w' := by
 have HR0 := Aside0.mk hr0
 have HC0 := Aside0.mk hc0
 clear hr0 hc0
 have HB := Aside0.mk (Below.refl w.heap.size w)
 have H := h; clear h
 unfold nt_shift.f at H
 obtain ⟨c4b0, c4b1, H⟩ := xQt H
 obtain ⟨c5b0, c5b1, H⟩ := xQt H
 generalize hy357 : (List.replicate (a2 : Int).toNat 0 : List Int) = y357 at H
 have Ny357 := Aside0.mk hy357.symm
 clear hy357
 have H' := Aside0.mk H
 clear H
 go_enter Tryd.func111, Tryd.ntmps111
 go_wp2_with ((with_reducible refine gate_dst (N := 12) rfl ?_); refine Kd.R_make (Kd.int .u32) _ 85 rfl (N := 12) rfl 83 _ _ rfl a2 rfl rfl Tryd.underlying83 (.int .u32 0) 4 info85 rfl (by decide) (by omega) 0 (ok := fun _ => True) (okp := fun _ => True) rfl (fun _ hk => hk) trivial (xa) (Nat.le_trans (Nat.mul_le_mul_right _ (xa : a2.toNat ≤ 70368744177664)) (by omega)) (Below.refl _ _) (Nat.le_refl _) ?_; intro v358 w6 ho7 hb hg_ hnew_; clear hg_ hnew_; (rw [← Ny357.out] at ho7); have HO359 := Aside0.mk (Kd.R_lower ho7 (below_size (xs HB))); replace HB := xS HB hb; clear hb ho7)
 go_loopg [15] k (fun kq v15 w' => ∃ (x7_1 : List Int) (x15_1 : Int), v15 = .int .i64 x15_1 ∧ Aside0 (nt_shift.l0 kq a1 a2 x7_1 l0 (l0.length : Int) x15_1 = some r) ∧ Aside0 (kq ≤ k) ∧ Aside0 (Kd.R (Kd.int .u32) 85 w' w.heap.size (fun _ => True) v358 x7_1) ∧ Aside0 (Below w.heap.size w w'))
 case atStart => exact ⟨(y357), (0), xz, H', ⟨Nat.le_refl _⟩, ⟨xr HO359.out⟩, ⟨xs HB⟩⟩
 case round =>
  clear H'
  clear c4b0 c4b1 c5b0 c5b1
  obtain ⟨x7_1, x15_1, rfl, HA, HK1, HO_7, HB⟩ := hrel
  cases gk with
  | zero => exact absurd HA.out (by simp [nt_shift.l0])
  | succ k1 =>
   have H := HA.out
   clear HA
   simp only [nt_shift.l0] at H
   obtain ⟨c8b0, H⟩ | ⟨c8b0, H⟩ := xOd H
   ·obtain ⟨c9b0, H⟩ := xQd H
    obtain ⟨c10b0, H⟩ := xQd H
    obtain ⟨c11b0, c11b1, H⟩ := xQt H
    generalize hji12 : (shl .u64 (IntKind.u64.wrap (rd l0 x15_1)) a1) = ji12 at H
    have hji12_ : (IntKind.u64.wrap ((IntKind.u64.wrap (rd l0 x15_1)) * 2 ^ min a1.toNat 64)) = ji12 := hji12
    have hji12z : a1 ≤ 64 → (IntKind.u64.wrap ((IntKind.u64.wrap (rd l0 x15_1)) * 2 ^ a1.toNat)) = ji12 := shl_small hji12
    obtain ⟨c13b0, H⟩ := xQd H
    obtain ⟨y362, Ny362, H⟩ := xYa H
    obtain ⟨c15b0, H⟩ | ⟨c15b0, H⟩ := xOd H
    ·generalize hji16 : (wrap64 (x15_1 + 1)) = ji16 at H
     (try rw [hji16] at c15b0)
     have hji16w : (IntKind.i64.wrap (x15_1 + 1)) = ji16 := (i64_w _).trans hji16
     obtain ⟨c17b0, H⟩ := xQd H
     obtain ⟨c18b0, H⟩ := xQd H
     generalize hy364 : (y362.set ((ji16) : Int).toNat (Go.bits .or .u32 (rd y362 (ji16)) (((ji12) / 4294967296) % 4294967296)) : List Int) = y364 at H
     have Ny364 := Aside0.mk hy364.symm
     clear hy364
     have H' := Aside0.mk H
     clear H
     obtain ⟨p360, q360, ad360, e360, hx360_0⟩ := xA (Kd.at_int HR0.out x15_1)
     cases e360
     (try replace hx360_0 := xcl HB hx360_0)
     obtain ⟨Ao20, co20, eo20⟩ := Kd.R_slice HO_7.out
     subst eo20
     obtain ⟨p361, q361, ad361, e361, hx361_0⟩ := xA (Kd.at_int (Kd.R_reads' HO_7.out).2.2 x15_1)
     cases e361
     have p14 : 0 ≤ (x15_1 : Int) := xa
     have q14 : (x15_1 : Int) < ((x7_1.length : Int) : Int) := xa
     obtain ⟨go14, co14, eo14, gb14, gl14, cl14, HG14⟩ := Kd.R_form HO_7.out (by omega)
     cases eo14
     have GB14 := Aside0.mk gb14
     have GG14 := Aside0.mk HG14
     clear gb14 gl14 HG14
     simp only [add_plain] at hx361_0
     obtain ⟨hx14_0, hf14_0⟩ := Kd.R_celln 0 HO_7.out (x15_1 : Int) p14 q14
     replace p14 := eq_true p14
     replace q14 := eq_true q14
     have HP21 := Kd.R_putg HO_7.out (x15_1 : Int) (Go.bits .or .u32 (rd x7_1 x15_1) ((ji12) % 4294967296))
     go_wp2_with (first | (refine xst 85 31 (wr.setCell ⟨go14, (x15_1 : Int).toNat, none⟩ (.int .u32 (Go.bits .or .u32 (rd x7_1 x15_1) ((ji12) % 4294967296)))) ?_; intro w22 hw; have hg : wr.grownBy w22 (some go14) := (by rw [hw]; exact HP21.2); have hp_ : Kd.R (Kd.int .u32) 85 w22 w.heap.size (fun _ => True) (.slice (some ⟨go14, 0, none⟩) x7_1.length co20) y362 := (by rw [hw, Ny362.out]; exact HP21.1); clear HP21; replace HO_7 := Aside0.mk (hp_); replace HB := Aside0.mk (by rw [hw]; exact below_set (HB.out) GB14.out : Below w.heap.size w w22); clear hg hw hp_; have p363 : 0 ≤ ((ji16) : Int) := xa; have q363 : (ji16) < (y362.length : Int) := (by have h_ : ((ji16) : Int) < ((x7_1.length : Int) : Int) := xa; (have e_ := (Kd.R_reads' HO_7.out).1; omega)); have ql363 : (((ji16) : Int) < ((x7_1.length : Int) : Int)) = True := eq_true (xa); obtain ⟨ad363, e363, hx363_0⟩ := Kd.at_int (Kd.R_reads' HO_7.out).2.2 (ji16) p363 q363; obtain rfl : (⟨go14, 0, none⟩ : Addr) = ad363 := (by injection e363); (simp only [add_plain] at hx363_0); replace p363 := eq_true p363; replace q363 := eq_true q363; have p19 : 0 ≤ ((ji16) : Int) := xa; have q19 : ((ji16) : Int) < ((x7_1.length : Int) : Int) := xa; obtain ⟨hx19_0, hf19_0⟩ := Kd.R_celln 0 HO_7.out ((ji16) : Int) p19 q19; replace p19 := eq_true p19; replace q19 := eq_true q19; obtain ⟨hy23_, hz23_⟩ := Kd.R_celln 0 HO_7.out ((ji16) : Int) (xa) (xa); have HP23 := Kd.R_putg HO_7.out ((ji16) : Int) (Go.bits .or .u32 (rd y362 (ji16)) (((ji12) / 4294967296) % 4294967296))) | (refine xst 85 45 (w22.setCell ⟨go14, ((ji16) : Int).toNat, none⟩ (.int .u32 (Go.bits .or .u32 (rd y362 (ji16)) (((ji12) / 4294967296) % 4294967296)))) ?_; intro w24 hw; have hg : w22.grownBy w24 (some go14) := (by rw [hw]; exact HP23.2); have hp_ : Kd.R (Kd.int .u32) 85 w24 w.heap.size (fun _ => True) (.slice (some ⟨go14, 0, none⟩) x7_1.length co20) y364 := (by rw [hw, Ny364.out]; exact HP23.1); clear HP23; replace HO_7 := Aside0.mk (hp_); replace HB := Aside0.mk (by rw [hw]; exact below_set (HB.out) GB14.out : Below w.heap.size w w24); clear hg hw hp_))
     go_roundg k1
     case measure => have := HK1.out; omega
     case rel => exact ⟨(y364), (ji16), (by rfl), H', ⟨by have := HK1.out; omega⟩, ⟨xr HO_7.out⟩, ⟨xs HB⟩⟩
    have H' := Aside0.mk H
    clear H
    obtain ⟨p360, q360, ad360, e360, hx360_0⟩ := xA (Kd.at_int HR0.out x15_1)
    cases e360
    (try replace hx360_0 := xcl HB hx360_0)
    obtain ⟨Ao25, co25, eo25⟩ := Kd.R_slice HO_7.out
    subst eo25
    obtain ⟨p361, q361, ad361, e361, hx361_0⟩ := xA (Kd.at_int (Kd.R_reads' HO_7.out).2.2 x15_1)
    cases e361
    have p14 : 0 ≤ (x15_1 : Int) := xa
    have q14 : (x15_1 : Int) < ((x7_1.length : Int) : Int) := xa
    obtain ⟨go14, co14, eo14, gb14, gl14, cl14, HG14⟩ := Kd.R_form HO_7.out (by omega)
    cases eo14
    have GB14 := Aside0.mk gb14
    have GG14 := Aside0.mk HG14
    clear gb14 gl14 HG14
    simp only [add_plain] at hx361_0
    obtain ⟨hx14_0, hf14_0⟩ := Kd.R_celln 0 HO_7.out (x15_1 : Int) p14 q14
    replace p14 := eq_true p14
    replace q14 := eq_true q14
    have HP26 := Kd.R_putg HO_7.out (x15_1 : Int) (Go.bits .or .u32 (rd x7_1 x15_1) ((ji12) % 4294967296))
    go_wp2_with (refine xst 85 31 (wr.setCell ⟨go14, (x15_1 : Int).toNat, none⟩ (.int .u32 (Go.bits .or .u32 (rd x7_1 x15_1) ((ji12) % 4294967296)))) ?_; intro w27 hw; have hg : wr.grownBy w27 (some go14) := (by rw [hw]; exact HP26.2); have hp_ : Kd.R (Kd.int .u32) 85 w27 w.heap.size (fun _ => True) (.slice (some ⟨go14, 0, none⟩) x7_1.length co25) y362 := (by rw [hw, Ny362.out]; exact HP26.1); clear HP26; replace HO_7 := Aside0.mk (hp_); replace HB := Aside0.mk (by rw [hw]; exact below_set (HB.out) GB14.out : Below w.heap.size w w27); clear hg hw hp_)
    go_roundg k1
    case measure => have := HK1.out; omega
    case rel => exact ⟨(y362), (wrap64 (x15_1 + 1)), xz, H', ⟨by have := HK1.out; omega⟩, ⟨xr HO_7.out⟩, ⟨xs HB⟩⟩
   obtain rfl := Option.some.inj H
   go_wp2
   go_ret
   exact ⟨_, xy, HO_7.out, xs HB⟩
/-! ### bits_Add32: function 93 -/
def bits_Add32.f (a0 : Int) (a1 : Int) (a2 : Int) : Option (Int × Int) := some ((IntKind.u64.wrap ((IntKind.u64.wrap ((IntKind.u64.wrap (a0)) + (IntKind.u64.wrap (a1)))) + (IntKind.u64.wrap (a2)))) % 4294967296, ((IntKind.u64.wrap ((IntKind.u64.wrap ((IntKind.u64.wrap (a0)) + (IntKind.u64.wrap (a1)))) + (IntKind.u64.wrap (a2)))) / 4294967296) % 4294967296)
theorem bits_Add32.calls (a0 : Int) (a1 : Int) (a2 : Int) (r1 : Int) (r2 : Int) (w : World) (h : bits_Add32.f a0 a1 a2 = some (r1, r2)) :
  Calls Tryd.prog 93 #[.int .u32 a0, .int .u32 a1, .int .u32 a2] w fun e w' => e = .returned (.tuple #[.int .u32 r1, .int .u32 r2]) ∧ Drawn0 w w' := by
 have H := h; clear h
 unfold bits_Add32.f at H
 simp only [Option.some.injEq, Prod.mk.injEq] at H
 obtain ⟨rfl, rfl⟩ := H
 go_enter Tryd.func93, Tryd.ntmps93
 go_wp2
 go_ret2
 exact ⟨xz, xd⟩
/-! ### bits_Sub32: function 103 -/
def bits_Sub32.f (a0 : Int) (a1 : Int) (a2 : Int) : Option (Int × Int) := some ((((a0 - a1) % 4294967296) - a2) % 4294967296, (Go.bits .or .u32 (Go.bits .and .u32 (Go.bits .xor .u32 4294967295 a0) a1) (Go.bits .and .u32 (Go.bits .xor .u32 4294967295 (Go.bits .xor .u32 a0 a1)) ((((a0 - a1) % 4294967296) - a2) % 4294967296))) / 2147483648)
theorem bits_Sub32.calls (a0 : Int) (a1 : Int) (a2 : Int) (r1 : Int) (r2 : Int) (w : World) (h : bits_Sub32.f a0 a1 a2 = some (r1, r2)) :
  Calls Tryd.prog 103 #[.int .u32 a0, .int .u32 a1, .int .u32 a2] w fun e w' => e = .returned (.tuple #[.int .u32 r1, .int .u32 r2]) ∧ Drawn0 w w' := by
 have H := h; clear h
 unfold bits_Sub32.f at H
 simp only [Option.some.injEq, Prod.mk.injEq] at H
 obtain ⟨rfl, rfl⟩ := H
 go_enter Tryd.func103, Tryd.ntmps103
 go_wp2
 go_ret2
 exact ⟨xz, xd⟩
/-! ### nt_step0: function 112 -/
mutual
def nt_step0.j2 : Nat → List Int → List Int → Int → Int → Option (Int × List Int)
 | 0, _, _, _, _ => none
 | k + 1, x0, x1, x5, x7 => nt_step0.l1 k x0 x1 x5 x7 0 0 x1 (x1.length : Int) 0
def nt_step0.l1 : Nat → List Int → List Int → Int → Int → Int → Int → List Int → Int → Int → Option (Int × List Int)
 | 0, _, _, _, _, _, _, _, _, _ => none
 | k + 1, x0, x1, x5, x7, x9, x10, x82, x83, x84 => if x84 < x83 then (if 0 ≤ x84 then (if x84 < (x82.length : Int) then (if x84 < (x0.length : Int) then ((bits_Sub32.f (rd x0 x84) ((IntKind.u64.wrap ((IntKind.u64.wrap (x7 * (IntKind.u64.wrap (rd x82 x84)))) + x9)) % 4294967296) x10).bind fun bt385 => (nt_step0.l1 k (x0.set (x84 : Int).toNat bt385.1) x1 x5 x7 ((IntKind.u64.wrap ((IntKind.u64.wrap (x7 * (IntKind.u64.wrap (rd x82 x84)))) + x9)) / 4294967296) bt385.2 x82 x83 (wrap64 (x84 + 1)))) else (none)) else (none)) else (none)) else (if 0 ≤ x5 then (if x5 < (x0.length : Int) then ((bits_Sub32.f (rd x0 x5) ((x9) % 4294967296) x10).bind fun bt389 => ((some (x0.set (x5 : Int).toNat bt389.1 : List Int)).bind fun y391 => (if bt389.2 = 0 then (some ((x7) % 4294967296, y391)) else (nt_step0.l2 k y391 x5 x7 0 x1 (x1.length : Int) 0)))) else (none)) else (none))
def nt_step0.l2 : Nat → List Int → Int → Int → Int → List Int → Int → Int → Option (Int × List Int)
 | 0, _, _, _, _, _, _, _ => none
 | k + 1, x0, x5, x7, x14, x130, x131, x132 => if x132 < x131 then (if 0 ≤ x132 then (if x132 < (x130.length : Int) then (if x132 < (x0.length : Int) then ((bits_Add32.f (rd x0 x132) (rd x130 x132) x14).bind fun bt394 => (nt_step0.l2 k (x0.set (x132 : Int).toNat bt394.1) x5 x7 bt394.2 x130 x131 (wrap64 (x132 + 1)))) else (none)) else (none)) else (none)) else (if 0 ≤ x5 then (if x5 < (x0.length : Int) then (some ((IntKind.u64.wrap (x7 - 1)) % 4294967296, (x0.set (x5 : Int).toNat (((rd x0 x5) + x14) % 4294967296)))) else (none)) else (none))
def nt_step0.l0 : Nat → List Int → List Int → Int → Int → Int → Option (Int × List Int)
 | 0, _, _, _, _, _ => none
 | k + 1, x0, x1, x5, x7, x8 => if x7 ≥ 4294967296 then (nt_step0.j1 k x0 x1 x5 x7 x8 true) else (if 0 ≤ (wrap64 (x5 - 2)) then (if (wrap64 (x5 - 2)) < (x1.length : Int) then (if (wrap64 (x5 - 2)) < (x0.length : Int) then (nt_step0.j1 k x0 x1 x5 x7 x8 (decide ((IntKind.u64.wrap (x7 * (IntKind.u64.wrap (rd x1 (wrap64 (x5 - 2)))))) > (Go.bits .or .u64 (IntKind.u64.wrap (x8 * 4294967296)) (IntKind.u64.wrap (rd x0 (wrap64 (x5 - 2)))))))) else (none)) else (none)) else (none))
def nt_step0.j1 : Nat → List Int → List Int → Int → Int → Int → Bool → Option (Int × List Int)
 | 0, _, _, _, _, _, _ => none
 | k + 1, x0, x1, x5, x7, x8, x69 => if x69 = true then (if 0 ≤ (wrap64 (x5 - 1)) then (if (wrap64 (x5 - 1)) < (x1.length : Int) then (if (IntKind.u64.wrap (x8 + (IntKind.u64.wrap (rd x1 (wrap64 (x5 - 1)))))) ≥ 4294967296 then (nt_step0.j2 k x0 x1 x5 (IntKind.u64.wrap (x7 - 1))) else (nt_step0.l0 k x0 x1 x5 (IntKind.u64.wrap (x7 - 1)) (IntKind.u64.wrap (x8 + (IntKind.u64.wrap (rd x1 (wrap64 (x5 - 1)))))))) else (none)) else (none)) else (nt_step0.j2 k x0 x1 x5 x7)
end
def nt_step0.f (k : Nat) (l0 : List Int) (l1 : List Int) : Option (Int × List Int) := if 0 ≤ (l1.length : Int) then (if (l1.length : Int) < (l0.length : Int) then (if 0 ≤ (wrap64 ((l1.length : Int) - 1)) then (if (wrap64 ((l1.length : Int) - 1)) < (l0.length : Int) then (if (wrap64 ((l1.length : Int) - 1)) < (l1.length : Int) then (if (IntKind.u64.wrap (rd l1 (wrap64 ((l1.length : Int) - 1)))) = 0 then (none) else (nt_step0.l0 k l0 l1 (l1.length : Int) (IntKind.u64.wrap (Int.tdiv (Go.bits .or .u64 (IntKind.u64.wrap ((IntKind.u64.wrap (rd l0 (l1.length : Int))) * 4294967296)) (IntKind.u64.wrap (rd l0 (wrap64 ((l1.length : Int) - 1))))) (IntKind.u64.wrap (rd l1 (wrap64 ((l1.length : Int) - 1)))))) (Int.tmod (Go.bits .or .u64 (IntKind.u64.wrap ((IntKind.u64.wrap (rd l0 (l1.length : Int))) * 4294967296)) (IntKind.u64.wrap (rd l0 (wrap64 ((l1.length : Int) - 1))))) (IntKind.u64.wrap (rd l1 (wrap64 ((l1.length : Int) - 1))))))) else (none)) else (none)) else (none)) else (none)) else (none)
theorem nt_step0.mono_l : ∀ k, (∀ y0 y1 y2 y3, LeO (nt_step0.j2 k y0 y1 y2 y3) (nt_step0.j2 (k + 1) y0 y1 y2 y3)) ∧ (∀ y0 y1 y2 y3 y4 y5 y6 y7 y8, LeO (nt_step0.l1 k y0 y1 y2 y3 y4 y5 y6 y7 y8) (nt_step0.l1 (k + 1) y0 y1 y2 y3 y4 y5 y6 y7 y8)) ∧ (∀ y0 y1 y2 y3 y4 y5 y6, LeO (nt_step0.l2 k y0 y1 y2 y3 y4 y5 y6) (nt_step0.l2 (k + 1) y0 y1 y2 y3 y4 y5 y6)) ∧ (∀ y0 y1 y2 y3 y4, LeO (nt_step0.l0 k y0 y1 y2 y3 y4) (nt_step0.l0 (k + 1) y0 y1 y2 y3 y4)) ∧ (∀ y0 y1 y2 y3 y4 y5, LeO (nt_step0.j1 k y0 y1 y2 y3 y4 y5) (nt_step0.j1 (k + 1) y0 y1 y2 y3 y4 y5))
 | 0 => ⟨fun _ _ _ _ r h => by simp [nt_step0.j2] at h, fun _ _ _ _ _ _ _ _ _ r h => by simp [nt_step0.l1] at h, fun _ _ _ _ _ _ _ r h => by simp [nt_step0.l2] at h, fun _ _ _ _ _ r h => by simp [nt_step0.l0] at h, fun _ _ _ _ _ _ r h => by simp [nt_step0.j1] at h⟩
 | k + 1 => by
  obtain ⟨ih0, ih1, ih2, ih3, ih4⟩ := nt_step0.mono_l k
  refine ⟨?_, ?_, ?_, ?_, ?_⟩
  ·intro y0 y1 y2 y3
   unfold nt_step0.j2
   have m0 := @ih0; have m1 := @ih1; have m2 := @ih2; have m3 := @ih3; have m4 := @ih4; exact xM
  ·intro y0 y1 y2 y3 y4 y5 y6 y7 y8
   unfold nt_step0.l1
   have m0 := @ih0; have m1 := @ih1; have m2 := @ih2; have m3 := @ih3; have m4 := @ih4; exact xM
  ·intro y0 y1 y2 y3 y4 y5 y6
   unfold nt_step0.l2
   have m0 := @ih0; have m1 := @ih1; have m2 := @ih2; have m3 := @ih3; have m4 := @ih4; exact xM
  ·intro y0 y1 y2 y3 y4
   unfold nt_step0.l0
   have m0 := @ih0; have m1 := @ih1; have m2 := @ih2; have m3 := @ih3; have m4 := @ih4; exact xM
  ·intro y0 y1 y2 y3 y4 y5
   unfold nt_step0.j1
   have m0 := @ih0; have m1 := @ih1; have m2 := @ih2; have m3 := @ih3; have m4 := @ih4; exact xM
theorem nt_step0.mono : ∀ a0 a1 k, LeO (nt_step0.f k a0 a1) (nt_step0.f (k + 1) a0 a1) := by
 intro a0 a1 k
 obtain ⟨ih0, ih1, ih2, ih3, ih4⟩ := nt_step0.mono_l k
 unfold nt_step0.f
 have m0 := @ih0; have m1 := @ih1; have m2 := @ih2; have m3 := @ih3; have m4 := @ih4; exact xM
theorem nt_step0.calls (k : Nat) (P0_ : Nat → Prop) (uw_ : Value) (pre_ post_ : List Int) (u9000_ : Value) (l0 : List Int) (A1 : Option Addr) (c1 : Nat) (l1 : List Int) (r1 : Int) (r2 : List Int) (w0 w : World) (hB : Below w0.heap.size w0 w) (ho0 : Kd.Wn uw_ pre_ post_ 85 w w0.heap.size P0_ u9000_ l0) (hr1 : ∀ W_, Kept w W_ (fun k_ => P0_ k_) → Kd.C (Kd.int .u32) W_ A1 l1.length l1) (hc1 : l1.length ≤ c1) (h : nt_step0.f k l0 l1 = some (r1, r2)) :
  Calls Tryd.prog 112 #[u9000_, .slice A1 l1.length c1] w fun e w' => e = .returned (.int .u32 r1) ∧ Kd.Wn uw_ pre_ post_ 85 w' w0.heap.size (fun k_ => (P0_ k_ ∨ w.heap.size ≤ k_)) u9000_ r2 ∧ Below w0.heap.size w0 w' ∧ Kept w w' (fun k_ => P0_ k_) := by
 have HO0 := Aside0.mk (show Kd.Wn uw_ pre_ post_ 85 w w0.heap.size (fun k_ => (P0_ k_ ∨ w.heap.size ≤ k_)) u9000_ l0 from Kd.Wn_mono ho0 (fun k_ hk => (.inl hk)))
 have HR1 := Aside0.mk hr1
 have HC1 := Aside0.mk hc1
 clear hr1 hc1
 have HK := Aside0.mk (Kept.refl w (fun k_ => P0_ k_))
 have HW0 := Aside0.mk hB.size
 have HB := Aside0.mk hB
 clear hB
 have H := h; clear h
 unfold nt_step0.f at H
 obtain ⟨c3, H⟩ := xQ H
 have c3b0 := decide_eq_true c3
 have c3b1 : decide (0 ≤ l1.length) = true := decide_eq_true (by omega)
 clear c3
 obtain ⟨c4, H⟩ := xQ H
 have c4b0 := decide_eq_true c4
 have c4b1 : decide (l1.length < l0.length) = true := decide_eq_true (Int.ofNat_lt.mp c4)
 clear c4
 generalize hji5 : (wrap64 ((l1.length : Int) - 1)) = ji5 at H
 have hji5w : (IntKind.i64.wrap ((l1.length : Int) - 1)) = ji5 := (i64_w _).trans hji5
 obtain ⟨c6b0, H⟩ := xQd H
 obtain ⟨c7b0, H⟩ := xQd H
 obtain ⟨c8b0, H⟩ := xQd H
 obtain ⟨c9, H⟩ := xR H
 have c9b0 := beq_eq_false_iff_ne.mpr c9
 have c9b1 := bne_iff_ne.mpr c9
 have HC10 := Aside0.mk H
 clear H
 obtain ⟨Ao11, co11, eo11⟩ := Kd.Wn_slice HO0.out
 subst eo11
 obtain ⟨p376, q376, ad376, e376, hx376_0⟩ := xA (Kd.at_int (Kd.Wn_reads' HO0.out).2.2 (l1.length : Int))
 cases e376
 (try simp only [Go.IntWalk.toNatUp] at hx376_0)
 obtain ⟨p377, q377, ad377, e377, hx377_0⟩ := xA (Kd.at_int (Kd.Wn_reads' HO0.out).2.2 (ji5))
 obtain rfl : ad376 = ad377 := (by injection e377)
 obtain ⟨p378, q378, ad378, e378, hx378_0⟩ := xA (Kd.at_int (Kd.C_kept_now HR1.out HK.out) (ji5))
 cases e378
 obtain ⟨p379, q379, ad379, e379, hx379_0⟩ := xA (Kd.at_int (Kd.C_kept_now HR1.out HK.out) (ji5))
 obtain rfl : ad378 = ad379 := (by injection e379)
 go_enter Tryd.func112, Tryd.ntmps112
 go_upto_block 0 with (fail)
 repeat (go_quiet (fail); go_upto_block 0 with (fail))
 go_cut [7] (fun v7 wc => ∃ (kq : Nat) (x7_9 : Int), v7 = .int .u64 x7_9 ∧ Aside0 (nt_step0.j2 kq l0 l1 (l1.length : Int) x7_9 = some (r1, r2)) ∧ Aside0 (kq ≤ k) ∧ Aside0 (Kd.Wn uw_ pre_ post_ 85 wc w0.heap.size (fun k_ => (P0_ k_ ∨ w.heap.size ≤ k_)) (.slice (some ad376) l0.length co11) l0) ∧ Aside0 (Kept w wc (fun k_ => P0_ k_)) ∧ Aside0 (Below w0.heap.size w0 wc))
 case first =>
  have H := HC10.out
  clear HC10
  have H' := Aside0.mk H
  clear H
  go_wp2
  repeat (go_quiet (fail); try go_wp2)
  go_loopg [7, 8] k (fun kq v7 v8 w' => ∃ (x7_1 : Int) (x8_1 : Int), v7 = .int .u64 x7_1 ∧ v8 = .int .u64 x8_1 ∧ Aside0 (nt_step0.l0 kq l0 l1 (l1.length : Int) x7_1 x8_1 = some (r1, r2)) ∧ Aside0 (kq ≤ k) ∧ Aside0 (Kd.Wn uw_ pre_ post_ 85 w' w0.heap.size (fun k_ => (P0_ k_ ∨ w.heap.size ≤ k_)) (.slice (some ad376) l0.length co11) l0) ∧ Aside0 (Kept w w' (fun k_ => P0_ k_)) ∧ Aside0 (Below w0.heap.size w0 w'))
  case atStart => exact ⟨(IntKind.u64.wrap (Int.tdiv (Go.bits .or .u64 (IntKind.u64.wrap ((IntKind.u64.wrap (rd l0 (l1.length : Int))) * 4294967296)) (IntKind.u64.wrap (rd l0 (ji5)))) (IntKind.u64.wrap (rd l1 (ji5))))), (Int.tmod (Go.bits .or .u64 (IntKind.u64.wrap ((IntKind.u64.wrap (rd l0 (l1.length : Int))) * 4294967296)) (IntKind.u64.wrap (rd l0 (ji5)))) (IntKind.u64.wrap (rd l1 (ji5)))), (by rfl), (by rfl), H', ⟨Nat.le_refl _⟩, ⟨by (with_reducible repeat (apply Kd.Wn_drewN)); exact HO0.out⟩, ⟨by repeat (with_reducible first | exact HK.out | apply Kept.drewN)⟩, ⟨xs HB⟩⟩
  case round =>
   clear H'
   clear c3b0 c3b1 c4b0 c4b1 c6b0 c7b0 c8b0 c9 c9b0 c9b1 hx376_0 hx377_0 hx378_0 hx379_0 p376 p377 p378 p379 q376 q377 q378 q379
   obtain ⟨x7_1, x8_1, rfl, rfl, HA, HK1, HO_0, HK, HB⟩ := hrel
   cases gk with
   | zero => exact absurd HA.out (by simp [nt_step0.l0])
   | succ k1 =>
    have H := HA.out
    clear HA
    simp only [nt_step0.l0] at H
    have HC12 := Aside0.mk H
    clear H
    go_upto_region 4 with (fail)
    repeat (go_quiet (fail); go_upto_region 4 with (fail))
    go_cut [69] (fun v69 wc => ∃ (kq : Nat) (x69_11 : Bool), v69 = .bool x69_11 ∧ Aside0 (nt_step0.j1 kq l0 l1 (l1.length : Int) x7_1 x8_1 x69_11 = some (r1, r2)) ∧ Aside0 (kq ≤ k1) ∧ Aside0 (Kd.Wn uw_ pre_ post_ 85 wc w0.heap.size (fun k_ => (P0_ k_ ∨ w.heap.size ≤ k_)) (.slice (some ad376) l0.length co11) l0) ∧ Aside0 (Kept w wc (fun k_ => P0_ k_)) ∧ Aside0 (Below w0.heap.size w0 wc))
    case first =>
     have H := HC12.out
     clear HC12
     obtain ⟨c13b0, H⟩ | ⟨c13b0, H⟩ := xOd H
     ·skip
      have H' := Aside0.mk H
      clear H
      go_wp2
      repeat (go_quiet (fail); try go_wp2)
      go_meet
      case rel => exact ⟨_, (true), xz, H', ⟨by have := HK1.out; omega⟩, ⟨by (with_reducible repeat (apply Kd.Wn_drewN)); exact HO_0.out⟩, ⟨by repeat (with_reducible first | exact HK.out | apply Kept.drewN)⟩, ⟨xs HB⟩⟩
     skip
     generalize hji14 : (wrap64 ((l1.length : Int) - 2)) = ji14 at H
     have hji14w : (IntKind.i64.wrap ((l1.length : Int) - 2)) = ji14 := (i64_w _).trans hji14
     obtain ⟨c15b0, H⟩ := xQd H
     obtain ⟨c16b0, H⟩ := xQd H
     obtain ⟨c17b0, H⟩ := xQd H
     have H' := Aside0.mk H
     clear H
     obtain ⟨p380, q380, ad380, e380, hx380_0⟩ := xA (Kd.at_int (Kd.C_kept_now HR1.out HK.out) (ji14))
     obtain rfl : ad378 = ad380 := (by injection e380)
     obtain ⟨p381, q381, ad381, e381, hx381_0⟩ := xA (Kd.at_int (Kd.Wn_reads' HO_0.out).2.2 (ji14))
     obtain rfl : ad376 = ad381 := (by injection e381)
     go_wp2
     repeat (go_quiet (fail); try go_wp2)
     go_meet
     case rel => exact ⟨_, (decide ((IntKind.u64.wrap (x7_1 * (IntKind.u64.wrap (rd l1 (ji14))))) > (Go.bits .or .u64 (IntKind.u64.wrap (x8_1 * 4294967296)) (IntKind.u64.wrap (rd l0 (ji14)))))), (by rfl), H', ⟨by have := HK1.out; omega⟩, ⟨by (with_reducible repeat (apply Kd.Wn_drewN)); exact HO_0.out⟩, ⟨by repeat (with_reducible first | exact HK.out | apply Kept.drewN)⟩, ⟨xs HB⟩⟩
    case rest =>
     clear HC12
     obtain ⟨kq, x69_11, rfl, HA, HJ11, HO_0, HK, HB⟩ := hcut
     cases kq with
     | zero => exact absurd HA.out (by simp [nt_step0.j1])
     | succ kj11 =>
      have H := HA.out
      clear HA
      simp only [nt_step0.j1] at H
      by_cases c18 : x69_11 = true
      ·subst c18
       replace H := xI H
       obtain ⟨ji19, hji19⟩ : ∃ j_ : Int, (wrap64 ((l1.length : Int) - 1)) = j_ := ⟨_, rfl⟩
       clear hji5w hji5
       replace H : (if 0 ≤ (ji19) then (if (ji19) < (l1.length : Int) then (if (IntKind.u64.wrap (x8_1 + (IntKind.u64.wrap (rd l1 (ji19))))) ≥ 4294967296 then (nt_step0.j2 kj11 l0 l1 (l1.length : Int) (IntKind.u64.wrap (x7_1 - 1))) else (nt_step0.l0 kj11 l0 l1 (l1.length : Int) (IntKind.u64.wrap (x7_1 - 1)) (IntKind.u64.wrap (x8_1 + (IntKind.u64.wrap (rd l1 (ji19))))))) else (none)) else (none)) = some (r1, r2) := by (rw [hji19] at H; exact H)
       have hji19w : (IntKind.i64.wrap ((l1.length : Int) - 1)) = ji19 := (i64_w _).trans hji19
       obtain ⟨c20b0, H⟩ := xQd H
       obtain ⟨c21b0, H⟩ := xQd H
       obtain ⟨c22b0, H⟩ | ⟨c22b0, H⟩ := xOd H
       ·have H' := Aside0.mk H
        clear H
        obtain ⟨p382, q382, ad382, e382, hx382_0⟩ := xA (Kd.at_int (Kd.C_kept_now HR1.out HK.out) (ji19))
        obtain rfl : ad378 = ad382 := (by injection e382)
        go_wp2
        repeat (go_quiet (fail); try go_wp2)
        go_meet
        case rel => exact ⟨_, (IntKind.u64.wrap (x7_1 - 1)), xz, H', ⟨by have := HK1.out; have := HJ11.out; omega⟩, ⟨HO_0.out⟩, ⟨by repeat (with_reducible exact HK.out)⟩, ⟨xs HB⟩⟩
       have H' := Aside0.mk H
       clear H
       obtain ⟨p382, q382, ad382, e382, hx382_0⟩ := xA (Kd.at_int (Kd.C_kept_now HR1.out HK.out) (ji19))
       obtain rfl : ad378 = ad382 := (by injection e382)
       go_wp2
       repeat (go_quiet (fail); try go_wp2)
       go_roundg kj11
       case measure => have := HK1.out; have := HJ11.out; omega
       case rel => exact ⟨(IntKind.u64.wrap (x7_1 - 1)), (IntKind.u64.wrap (x8_1 + (IntKind.u64.wrap (rd l1 (ji19))))), xz, (by rfl), H', ⟨by have := HK1.out; have := HJ11.out; omega⟩, ⟨HO_0.out⟩, ⟨by repeat (with_reducible exact HK.out)⟩, ⟨xs HB⟩⟩
      replace c18 := Bool.eq_false_iff.mpr c18
      subst c18
      have H1 : (nt_step0.j2 kj11 l0 l1 (l1.length : Int) x7_1) = some (r1, r2) := by rw [if_neg (show ¬ (false = true) by decide)] at H; exact H
      clear H
      have H := H1
      clear H1
      have H' := Aside0.mk H
      clear H
      go_wp2
      repeat (go_quiet (fail); try go_wp2)
      go_meet
      case rel => exact ⟨_, (x7_1), xz, H', ⟨by have := HK1.out; have := HJ11.out; omega⟩, ⟨HO_0.out⟩, ⟨by repeat (with_reducible exact HK.out)⟩, ⟨xs HB⟩⟩
 case rest =>
  clear HC10
  obtain ⟨kq, x7_9, rfl, HA, HJ9, HO_0, HK, HB⟩ := hcut
  cases kq with
  | zero => exact absurd HA.out (by simp [nt_step0.j2])
  | succ kj9 =>
   have H := HA.out
   clear HA
   simp only [nt_step0.j2] at H
   have H' := Aside0.mk H
   clear H
   go_wp2
   repeat (go_quiet (fail); try go_wp2)
   go_loopg [9, 10, 84] kj9 (fun kq v9 v10 v84 w' => ∃ (x0_2 : List Int) (x9_2 : Int) (x10_2 : Int) (x84_2 : Int), v9 = .int .u64 x9_2 ∧ v10 = .int .u32 x10_2 ∧ v84 = .int .i64 x84_2 ∧ Aside0 (nt_step0.l1 kq x0_2 l1 (l1.length : Int) x7_9 x9_2 x10_2 l1 (l1.length : Int) x84_2 = some (r1, r2)) ∧ Aside0 (kq ≤ kj9) ∧ Aside0 (Kd.Wn uw_ pre_ post_ 85 w' w0.heap.size (fun k_ => (P0_ k_ ∨ w.heap.size ≤ k_)) (.slice (some ad376) l0.length co11) x0_2) ∧ Aside0 (Kept w w' (fun k_ => P0_ k_)) ∧ Aside0 (Below w0.heap.size w0 w'))
   case atStart => exact ⟨(l0), (0), (0), (0), xz, xz, xz, H', ⟨Nat.le_refl _⟩, ⟨HO_0.out⟩, ⟨by repeat (with_reducible exact HK.out)⟩, ⟨xs HB⟩⟩
   case round =>
    clear H'
    obtain ⟨x0_2, x9_2, x10_2, x84_2, rfl, rfl, rfl, HA, HK2, HO_0, HK, HB⟩ := hrel
    have hl0_2 := (Kd.Wn_reads' HO_0.out).1
    rw [hl0_2] at HO_0
    (try simp only [hl0_2])
    cases gk with
    | zero => exact absurd HA.out (by simp [nt_step0.l1])
    | succ k2 =>
     have H := HA.out
     clear HA
     simp only [nt_step0.l1] at H
     obtain ⟨c23, H⟩ | ⟨c23, H⟩ := xO H
     ·have c23b0 := decide_eq_true c23
      clear c23
      obtain ⟨c24b0, H⟩ := xQd H
      obtain ⟨c25, H⟩ := xQ H
      have c25b0 := decide_eq_true c25
      clear c25
      obtain ⟨c26, H⟩ := xQ H
      have c26b0 := decide_eq_true c26
      clear c26
      replace H := xH H; obtain ⟨⟨t385, t386⟩, A27, H⟩ := H
      dsimp only at H
      generalize hy387 : (x0_2.set (x84_2 : Int).toNat t385 : List Int) = y387 at H
      have Ny387 := Aside0.mk hy387.symm
      clear hy387
      have H' := Aside0.mk H
      clear H
      obtain ⟨p383, q383, ad383, e383, hx383_0⟩ := xA (Kd.at_int (Kd.C_kept_now HR1.out HK.out) x84_2)
      obtain rfl : ad378 = ad383 := (by injection e383)
      obtain ⟨p384, q384, ad384, e384, hx384_0⟩ := xA (Kd.at_int (Kd.Wn_reads' HO_0.out).2.2 x84_2)
      obtain rfl : ad376 = ad384 := (by injection e384)
      go_wp2_with (first | (go_at_call 103; (with_reducible refine (bits_Sub32.calls (rd x0_2 x84_2) ((IntKind.u64.wrap ((IntKind.u64.wrap (x7_9 * (IntKind.u64.wrap (rd l1 x84_2)))) + x9_2)) % 4294967296) x10_2 t385 t386 _ A27.out).mono ?_); rintro e w' ⟨rfl, ⟨nd, rfl⟩⟩; (try first | exact ⟨rfl, _, World.drewN_drewN _ _ _⟩ | exact ⟨rfl, _, Eq.trans (World.drewN_drewN _ _ _) (congrArg (World.drewN _) (Nat.add_assoc _ _ _))⟩); have p28 : 0 ≤ (x84_2 : Int) := xa; have q28 : (x84_2 : Int) < ((x0_2.length : Int) : Int) := xa; obtain ⟨gb28, gl28, cl28, HG28⟩ := Kd.Wn_form HO_0.out (by omega); have GB28 := Aside0.mk gb28; have GG28 := Aside0.mk HG28; clear gb28 gl28 HG28; have HMgo28 := Aside0.mk (show (P0_ ad376.block ∨ w.heap.size ≤ ad376.block) from ((Kd.Wn_own HO_0.out) _ rfl)); obtain ⟨hx28_0, hf28_0⟩ := Kd.Wn_celln 0 HO_0.out (x84_2 : Int) p28 q28; replace p28 := eq_true p28; replace q28 := eq_true q28; obtain ⟨hy29_, hz29_⟩ := Kd.Wn_celln 0 HO_0.out (x84_2 : Int) (xa) (xa); have HP29 := Kd.Wn_putg HO_0.out (x84_2 : Int) t385 (xa) (xa)) | ((with_reducible refine gate_store (t := 85) (p := 110) rfl ?_); (try (rw [drewN_self wr]; generalize hq_ : World.drewN wr _ = wr; have n0_ := Aside0.mk (Kd.Wn_at hq_ HO_0.out); have n1_ := Aside0.mk (kept_at hq_ HK.out); have n2_ := Aside0.mk (below_at hq_ HB.out); clear hq_ HO_0 HK HB; have HO_0 := n0_; have HK := n1_; have HB := n2_; clear n0_ n1_ n2_; (try (obtain ⟨hy29_, hz29_⟩ := Kd.Wn_celln 0 HO_0.out (x84_2 : Int) (xa) (xa))); (try (have HP29 := Kd.Wn_putg HO_0.out (x84_2 : Int) t385 (xa) (xa))))); refine xst 85 110 (wr.setCell (ad376.add (x84_2 : Int).toNat) (.int .u32 t385)) ?_; intro w30 hw; have hg : wr.grownBy w30 (some ad376.block) := (by rw [hw]; exact HP29.2); have hp_ : Kd.Wn uw_ pre_ post_ 85 w30 w0.heap.size (fun k_ => (P0_ k_ ∨ w.heap.size ≤ k_)) (.slice (some ad376) x0_2.length co11) y387 := (by rw [hw, Ny387.out]; exact HP29.1); clear HP29; replace HB := Aside0.mk (by rw [hw]; exact Kd.below_add (HB.out) GB28.out : Below w0.heap.size w0 w30); replace HK := Aside0.mk (Kept.of_grown (S := (fun k_ => P0_ k_)) hg (by repeat (with_reducible exact HK.out)) (fun k_ e_ => ((Kd.Wn_own HO_0.out) k_ e_))); replace HO_0 := Aside0.mk (hp_); clear hg hw hp_))
      repeat (go_quiet (first | (go_at_call 103; (with_reducible refine (bits_Sub32.calls (rd x0_2 x84_2) ((IntKind.u64.wrap ((IntKind.u64.wrap (x7_9 * (IntKind.u64.wrap (rd l1 x84_2)))) + x9_2)) % 4294967296) x10_2 t385 t386 _ A27.out).mono ?_); rintro e w' ⟨rfl, ⟨nd, rfl⟩⟩; (try first | exact ⟨rfl, _, World.drewN_drewN _ _ _⟩ | exact ⟨rfl, _, Eq.trans (World.drewN_drewN _ _ _) (congrArg (World.drewN _) (Nat.add_assoc _ _ _))⟩); have p28 : 0 ≤ (x84_2 : Int) := xa; have q28 : (x84_2 : Int) < ((x0_2.length : Int) : Int) := xa; obtain ⟨gb28, gl28, cl28, HG28⟩ := Kd.Wn_form HO_0.out (by omega); have GB28 := Aside0.mk gb28; have GG28 := Aside0.mk HG28; clear gb28 gl28 HG28; have HMgo28 := Aside0.mk (show (P0_ ad376.block ∨ w.heap.size ≤ ad376.block) from ((Kd.Wn_own HO_0.out) _ rfl)); obtain ⟨hx28_0, hf28_0⟩ := Kd.Wn_celln 0 HO_0.out (x84_2 : Int) p28 q28; replace p28 := eq_true p28; replace q28 := eq_true q28; obtain ⟨hy29_, hz29_⟩ := Kd.Wn_celln 0 HO_0.out (x84_2 : Int) (xa) (xa); have HP29 := Kd.Wn_putg HO_0.out (x84_2 : Int) t385 (xa) (xa)) | (refine xst 85 110 (wr.setCell (ad376.add (x84_2 : Int).toNat) (.int .u32 t385)) ?_; intro w30 hw; have hg : wr.grownBy w30 (some ad376.block) := (by rw [hw]; exact HP29.2); have hp_ : Kd.Wn uw_ pre_ post_ 85 w30 w0.heap.size (fun k_ => (P0_ k_ ∨ w.heap.size ≤ k_)) (.slice (some ad376) x0_2.length co11) y387 := (by rw [hw, Ny387.out]; exact HP29.1); clear HP29; have n0_ := Aside0.mk (hp_); have n1_ := Aside0.mk (by rw [hw]; exact Kd.below_add (HB.out) GB28.out : Below w0.heap.size w0 w30); have n2_ := Aside0.mk (Kept.of_grown (S := (fun k_ => P0_ k_)) hg (by repeat (first | (with_reducible first | exact HK.out | apply Kept.alloc | apply Kept.drewN | apply Kept.drew) | exact HK.out)) (fun k_ e_ => ((Kd.Wn_own HO_0.out) k_ e_))); clear HO_0; clear HB; clear HK; have HO_0 := n0_; have HB := n1_; have HK := n2_; clear n0_ n1_ n2_; clear hg hw hp_)); try go_wp2_with (first | (go_at_call 103; (with_reducible refine (bits_Sub32.calls (rd x0_2 x84_2) ((IntKind.u64.wrap ((IntKind.u64.wrap (x7_9 * (IntKind.u64.wrap (rd l1 x84_2)))) + x9_2)) % 4294967296) x10_2 t385 t386 _ A27.out).mono ?_); rintro e w' ⟨rfl, ⟨nd, rfl⟩⟩; (try first | exact ⟨rfl, _, World.drewN_drewN _ _ _⟩ | exact ⟨rfl, _, Eq.trans (World.drewN_drewN _ _ _) (congrArg (World.drewN _) (Nat.add_assoc _ _ _))⟩); have p28 : 0 ≤ (x84_2 : Int) := xa; have q28 : (x84_2 : Int) < ((x0_2.length : Int) : Int) := xa; obtain ⟨gb28, gl28, cl28, HG28⟩ := Kd.Wn_form HO_0.out (by omega); have GB28 := Aside0.mk gb28; have GG28 := Aside0.mk HG28; clear gb28 gl28 HG28; have HMgo28 := Aside0.mk (show (P0_ ad376.block ∨ w.heap.size ≤ ad376.block) from ((Kd.Wn_own HO_0.out) _ rfl)); obtain ⟨hx28_0, hf28_0⟩ := Kd.Wn_celln 0 HO_0.out (x84_2 : Int) p28 q28; replace p28 := eq_true p28; replace q28 := eq_true q28; obtain ⟨hy29_, hz29_⟩ := Kd.Wn_celln 0 HO_0.out (x84_2 : Int) (xa) (xa); have HP29 := Kd.Wn_putg HO_0.out (x84_2 : Int) t385 (xa) (xa)) | (refine xst 85 110 (wr.setCell (ad376.add (x84_2 : Int).toNat) (.int .u32 t385)) ?_; intro w30 hw; have hg : wr.grownBy w30 (some ad376.block) := (by rw [hw]; exact HP29.2); have hp_ : Kd.Wn uw_ pre_ post_ 85 w30 w0.heap.size (fun k_ => (P0_ k_ ∨ w.heap.size ≤ k_)) (.slice (some ad376) x0_2.length co11) y387 := (by rw [hw, Ny387.out]; exact HP29.1); clear HP29; replace HB := Aside0.mk (by rw [hw]; exact Kd.below_add (HB.out) GB28.out : Below w0.heap.size w0 w30); replace HK := Aside0.mk (Kept.of_grown (S := (fun k_ => P0_ k_)) hg (by repeat (first | (with_reducible first | exact HK.out | apply Kept.alloc | apply Kept.drewN | apply Kept.drew) | exact HK.out)) (fun k_ e_ => ((Kd.Wn_own HO_0.out) k_ e_))); replace HO_0 := Aside0.mk (hp_); clear hg hw hp_)))
      (try simp only [← hl0_2])
      go_roundg k2
      case measure => have := HJ9.out; have := HK2.out; omega
      case rel => exact ⟨(y387), ((IntKind.u64.wrap ((IntKind.u64.wrap (x7_9 * (IntKind.u64.wrap (rd l1 x84_2)))) + x9_2)) / 4294967296), (t386), (wrap64 (x84_2 + 1)), xz, xz, xz, H', ⟨by have := HJ9.out; have := HK2.out; omega⟩, ⟨by (try simp only [hl0_2]); exact HO_0.out⟩, ⟨by repeat (with_reducible exact HK.out)⟩, ⟨xs HB⟩⟩
     have c23b0 := decide_eq_false c23
     clear c23
     obtain ⟨c31, H⟩ := xQ H
     have c31b0 := decide_eq_true c31
     have c31b1 : decide (0 ≤ l1.length) = true := decide_eq_true (by omega)
     clear c31
     obtain ⟨c32, H⟩ := xQ H
     have c32b0 := decide_eq_true c32
     have c32b1 : decide (l1.length < x0_2.length) = true := decide_eq_true (Int.ofNat_lt.mp c32)
     clear c32
     replace H := xH H; obtain ⟨⟨t389, t390⟩, A33, H⟩ := H
     dsimp only at H
     obtain ⟨y391, Ny391, H⟩ := xYa H
     obtain ⟨c35, H⟩ | ⟨c35, H⟩ := xO H
     ·have c35b0 := beq_iff_eq.mpr c35
      have c35b1 := bne_eq_false_iff_eq.mpr c35
      clear c35
      simp only [Option.some.injEq, Prod.mk.injEq] at H
      obtain ⟨rfl, rfl⟩ := H
      have p388 : 0 ≤ ((l1.length : Int) : Int) := xa
      have q388 : (l1.length : Int) < (x0_2.length : Int) := xa
      obtain ⟨ad388, e388, hx388_0⟩ := Kd.at_int (Kd.Wn_reads' HO_0.out).2.2 (l1.length : Int) p388 q388
      obtain rfl : ad376 = ad388 := (by injection e388)
      (try simp only [Go.IntWalk.toNatUp] at hx388_0)
      replace p388 := eq_true p388
      replace q388 := eq_true q388
      go_wp2_with (first | (go_at_call 103; (with_reducible refine (bits_Sub32.calls (rd x0_2 (l1.length : Int)) ((x9_2) % 4294967296) x10_2 t389 t390 _ A33.out).mono ?_); rintro e w' ⟨rfl, ⟨nd, rfl⟩⟩; (try first | exact ⟨rfl, _, World.drewN_drewN _ _ _⟩ | exact ⟨rfl, _, Eq.trans (World.drewN_drewN _ _ _) (congrArg (World.drewN _) (Nat.add_assoc _ _ _))⟩); have p34 : 0 ≤ ((l1.length : Int) : Int) := xa; have q34 : ((l1.length : Int) : Int) < ((x0_2.length : Int) : Int) := xa; obtain ⟨gb34, gl34, cl34, HG34⟩ := Kd.Wn_form HO_0.out (by omega); have GB34 := Aside0.mk gb34; have GG34 := Aside0.mk HG34; clear gb34 gl34 HG34; have HMgo34 := Aside0.mk (show (P0_ ad376.block ∨ w.heap.size ≤ ad376.block) from ((Kd.Wn_own HO_0.out) _ rfl)); obtain ⟨hx34_0, hf34_0⟩ := Kd.Wn_celln 0 HO_0.out ((l1.length : Int) : Int) p34 q34; replace p34 := eq_true p34; replace q34 := eq_true q34; obtain ⟨hy36_, hz36_⟩ := Kd.Wn_celln 0 HO_0.out ((l1.length : Int) : Int) (xa) (xa); (try simp only [Go.IntWalk.toNatUp] at hy36_ hz36_); have HP36 := Kd.Wn_putg HO_0.out ((l1.length : Int) : Int) t389 (xa) (xa)) | ((with_reducible refine gate_store (t := 85) (p := 125) rfl ?_); (try (rw [drewN_self wr]; generalize hq_ : World.drewN wr _ = wr; have n0_ := Aside0.mk (Kd.Wn_at hq_ HO_0.out); have n1_ := Aside0.mk (kept_at hq_ HK.out); have n2_ := Aside0.mk (below_at hq_ HB.out); clear hq_ HO_0 HK HB; have HO_0 := n0_; have HK := n1_; have HB := n2_; clear n0_ n1_ n2_; (try (obtain ⟨hy36_, hz36_⟩ := Kd.Wn_celln 0 HO_0.out ((l1.length : Int) : Int) (xa) (xa))); (try (try simp only [Go.IntWalk.toNatUp] at hy36_ hz36_)); (try (have HP36 := Kd.Wn_putg HO_0.out ((l1.length : Int) : Int) t389 (xa) (xa))))); refine xst 85 125 (wr.setCell (ad376.add ((l1.length : Int) : Int).toNat) (.int .u32 t389)) ?_; intro w37 hw; have hg : wr.grownBy w37 (some ad376.block) := (by rw [hw]; exact HP36.2); have hp_ : Kd.Wn uw_ pre_ post_ 85 w37 w0.heap.size (fun k_ => (P0_ k_ ∨ w.heap.size ≤ k_)) (.slice (some ad376) x0_2.length co11) y391 := (by rw [hw, Ny391.out]; exact HP36.1); clear HP36; replace HB := Aside0.mk (by rw [hw]; exact Kd.below_add (HB.out) GB34.out : Below w0.heap.size w0 w37); replace HK := Aside0.mk (Kept.of_grown (S := (fun k_ => P0_ k_)) hg (by repeat (with_reducible exact HK.out)) (fun k_ e_ => ((Kd.Wn_own HO_0.out) k_ e_))); replace HO_0 := Aside0.mk (hp_); clear hg hw hp_))
      repeat (go_quiet (first | (go_at_call 103; (with_reducible refine (bits_Sub32.calls (rd x0_2 (l1.length : Int)) ((x9_2) % 4294967296) x10_2 t389 t390 _ A33.out).mono ?_); rintro e w' ⟨rfl, ⟨nd, rfl⟩⟩; (try first | exact ⟨rfl, _, World.drewN_drewN _ _ _⟩ | exact ⟨rfl, _, Eq.trans (World.drewN_drewN _ _ _) (congrArg (World.drewN _) (Nat.add_assoc _ _ _))⟩); have p34 : 0 ≤ ((l1.length : Int) : Int) := xa; have q34 : ((l1.length : Int) : Int) < ((x0_2.length : Int) : Int) := xa; obtain ⟨gb34, gl34, cl34, HG34⟩ := Kd.Wn_form HO_0.out (by omega); have GB34 := Aside0.mk gb34; have GG34 := Aside0.mk HG34; clear gb34 gl34 HG34; have HMgo34 := Aside0.mk (show (P0_ ad376.block ∨ w.heap.size ≤ ad376.block) from ((Kd.Wn_own HO_0.out) _ rfl)); obtain ⟨hx34_0, hf34_0⟩ := Kd.Wn_celln 0 HO_0.out ((l1.length : Int) : Int) p34 q34; replace p34 := eq_true p34; replace q34 := eq_true q34; obtain ⟨hy36_, hz36_⟩ := Kd.Wn_celln 0 HO_0.out ((l1.length : Int) : Int) (xa) (xa); have HP36 := Kd.Wn_putg HO_0.out ((l1.length : Int) : Int) t389 (xa) (xa)) | (refine xst 85 125 (wr.setCell (ad376.add ((l1.length : Int) : Int).toNat) (.int .u32 t389)) ?_; intro w37 hw; have hg : wr.grownBy w37 (some ad376.block) := (by rw [hw]; exact HP36.2); have hp_ : Kd.Wn uw_ pre_ post_ 85 w37 w0.heap.size (fun k_ => (P0_ k_ ∨ w.heap.size ≤ k_)) (.slice (some ad376) x0_2.length co11) y391 := (by rw [hw, Ny391.out]; exact HP36.1); clear HP36; have n0_ := Aside0.mk (hp_); have n1_ := Aside0.mk (by rw [hw]; exact Kd.below_add (HB.out) GB34.out : Below w0.heap.size w0 w37); have n2_ := Aside0.mk (Kept.of_grown (S := (fun k_ => P0_ k_)) hg (by repeat (first | (with_reducible first | exact HK.out | apply Kept.alloc | apply Kept.drewN | apply Kept.drew) | exact HK.out)) (fun k_ e_ => ((Kd.Wn_own HO_0.out) k_ e_))); clear HO_0; clear HB; clear HK; have HO_0 := n0_; have HB := n1_; have HK := n2_; clear n0_ n1_ n2_; clear hg hw hp_)); try go_wp2_with (first | (go_at_call 103; (with_reducible refine (bits_Sub32.calls (rd x0_2 (l1.length : Int)) ((x9_2) % 4294967296) x10_2 t389 t390 _ A33.out).mono ?_); rintro e w' ⟨rfl, ⟨nd, rfl⟩⟩; (try first | exact ⟨rfl, _, World.drewN_drewN _ _ _⟩ | exact ⟨rfl, _, Eq.trans (World.drewN_drewN _ _ _) (congrArg (World.drewN _) (Nat.add_assoc _ _ _))⟩); have p34 : 0 ≤ ((l1.length : Int) : Int) := xa; have q34 : ((l1.length : Int) : Int) < ((x0_2.length : Int) : Int) := xa; obtain ⟨gb34, gl34, cl34, HG34⟩ := Kd.Wn_form HO_0.out (by omega); have GB34 := Aside0.mk gb34; have GG34 := Aside0.mk HG34; clear gb34 gl34 HG34; have HMgo34 := Aside0.mk (show (P0_ ad376.block ∨ w.heap.size ≤ ad376.block) from ((Kd.Wn_own HO_0.out) _ rfl)); obtain ⟨hx34_0, hf34_0⟩ := Kd.Wn_celln 0 HO_0.out ((l1.length : Int) : Int) p34 q34; replace p34 := eq_true p34; replace q34 := eq_true q34; obtain ⟨hy36_, hz36_⟩ := Kd.Wn_celln 0 HO_0.out ((l1.length : Int) : Int) (xa) (xa); have HP36 := Kd.Wn_putg HO_0.out ((l1.length : Int) : Int) t389 (xa) (xa)) | (refine xst 85 125 (wr.setCell (ad376.add ((l1.length : Int) : Int).toNat) (.int .u32 t389)) ?_; intro w37 hw; have hg : wr.grownBy w37 (some ad376.block) := (by rw [hw]; exact HP36.2); have hp_ : Kd.Wn uw_ pre_ post_ 85 w37 w0.heap.size (fun k_ => (P0_ k_ ∨ w.heap.size ≤ k_)) (.slice (some ad376) x0_2.length co11) y391 := (by rw [hw, Ny391.out]; exact HP36.1); clear HP36; replace HB := Aside0.mk (by rw [hw]; exact Kd.below_add (HB.out) GB34.out : Below w0.heap.size w0 w37); replace HK := Aside0.mk (Kept.of_grown (S := (fun k_ => P0_ k_)) hg (by repeat (first | (with_reducible first | exact HK.out | apply Kept.alloc | apply Kept.drewN | apply Kept.drew) | exact HK.out)) (fun k_ e_ => ((Kd.Wn_own HO_0.out) k_ e_))); replace HO_0 := Aside0.mk (hp_); clear hg hw hp_)))
      go_ret
      exact ⟨by rfl, (by (simp only [hl0_2]; exact (by exact HO_0.out))), xs HB, by repeat (with_reducible exact HK.out)⟩
     have c35b0 := beq_eq_false_iff_ne.mpr c35
     have c35b1 := bne_iff_ne.mpr c35
     have H' := Aside0.mk H
     clear H
     have p388 : 0 ≤ ((l1.length : Int) : Int) := xa
     have q388 : (l1.length : Int) < (x0_2.length : Int) := xa
     obtain ⟨ad388, e388, hx388_0⟩ := Kd.at_int (Kd.Wn_reads' HO_0.out).2.2 (l1.length : Int) p388 q388
     obtain rfl : ad376 = ad388 := (by injection e388)
     (try simp only [Go.IntWalk.toNatUp] at hx388_0)
     replace p388 := eq_true p388
     replace q388 := eq_true q388
     go_wp2_with (first | (go_at_call 103; (with_reducible refine (bits_Sub32.calls (rd x0_2 (l1.length : Int)) ((x9_2) % 4294967296) x10_2 t389 t390 _ A33.out).mono ?_); rintro e w' ⟨rfl, ⟨nd, rfl⟩⟩; (try first | exact ⟨rfl, _, World.drewN_drewN _ _ _⟩ | exact ⟨rfl, _, Eq.trans (World.drewN_drewN _ _ _) (congrArg (World.drewN _) (Nat.add_assoc _ _ _))⟩); have p34 : 0 ≤ ((l1.length : Int) : Int) := xa; have q34 : ((l1.length : Int) : Int) < ((x0_2.length : Int) : Int) := xa; obtain ⟨gb34, gl34, cl34, HG34⟩ := Kd.Wn_form HO_0.out (by omega); have GB34 := Aside0.mk gb34; have GG34 := Aside0.mk HG34; clear gb34 gl34 HG34; have HMgo34 := Aside0.mk (show (P0_ ad376.block ∨ w.heap.size ≤ ad376.block) from ((Kd.Wn_own HO_0.out) _ rfl)); obtain ⟨hx34_0, hf34_0⟩ := Kd.Wn_celln 0 HO_0.out ((l1.length : Int) : Int) p34 q34; replace p34 := eq_true p34; replace q34 := eq_true q34; obtain ⟨hy38_, hz38_⟩ := Kd.Wn_celln 0 HO_0.out ((l1.length : Int) : Int) (xa) (xa); (try simp only [Go.IntWalk.toNatUp] at hy38_ hz38_); have HP38 := Kd.Wn_putg HO_0.out ((l1.length : Int) : Int) t389 (xa) (xa)) | ((with_reducible refine gate_store (t := 85) (p := 125) rfl ?_); (try (rw [drewN_self wr]; generalize hq_ : World.drewN wr _ = wr; have n0_ := Aside0.mk (Kd.Wn_at hq_ HO_0.out); have n1_ := Aside0.mk (kept_at hq_ HK.out); have n2_ := Aside0.mk (below_at hq_ HB.out); clear hq_ HO_0 HK HB; have HO_0 := n0_; have HK := n1_; have HB := n2_; clear n0_ n1_ n2_; (try (obtain ⟨hy38_, hz38_⟩ := Kd.Wn_celln 0 HO_0.out ((l1.length : Int) : Int) (xa) (xa))); (try (try simp only [Go.IntWalk.toNatUp] at hy38_ hz38_)); (try (have HP38 := Kd.Wn_putg HO_0.out ((l1.length : Int) : Int) t389 (xa) (xa))))); refine xst 85 125 (wr.setCell (ad376.add ((l1.length : Int) : Int).toNat) (.int .u32 t389)) ?_; intro w39 hw; have hg : wr.grownBy w39 (some ad376.block) := (by rw [hw]; exact HP38.2); have hp_ : Kd.Wn uw_ pre_ post_ 85 w39 w0.heap.size (fun k_ => (P0_ k_ ∨ w.heap.size ≤ k_)) (.slice (some ad376) x0_2.length co11) y391 := (by rw [hw, Ny391.out]; exact HP38.1); clear HP38; replace HB := Aside0.mk (by rw [hw]; exact Kd.below_add (HB.out) GB34.out : Below w0.heap.size w0 w39); replace HK := Aside0.mk (Kept.of_grown (S := (fun k_ => P0_ k_)) hg (by repeat (with_reducible exact HK.out)) (fun k_ e_ => ((Kd.Wn_own HO_0.out) k_ e_))); replace HO_0 := Aside0.mk (hp_); clear hg hw hp_))
     repeat (go_quiet (first | (go_at_call 103; (with_reducible refine (bits_Sub32.calls (rd x0_2 (l1.length : Int)) ((x9_2) % 4294967296) x10_2 t389 t390 _ A33.out).mono ?_); rintro e w' ⟨rfl, ⟨nd, rfl⟩⟩; (try first | exact ⟨rfl, _, World.drewN_drewN _ _ _⟩ | exact ⟨rfl, _, Eq.trans (World.drewN_drewN _ _ _) (congrArg (World.drewN _) (Nat.add_assoc _ _ _))⟩); have p34 : 0 ≤ ((l1.length : Int) : Int) := xa; have q34 : ((l1.length : Int) : Int) < ((x0_2.length : Int) : Int) := xa; obtain ⟨gb34, gl34, cl34, HG34⟩ := Kd.Wn_form HO_0.out (by omega); have GB34 := Aside0.mk gb34; have GG34 := Aside0.mk HG34; clear gb34 gl34 HG34; have HMgo34 := Aside0.mk (show (P0_ ad376.block ∨ w.heap.size ≤ ad376.block) from ((Kd.Wn_own HO_0.out) _ rfl)); obtain ⟨hx34_0, hf34_0⟩ := Kd.Wn_celln 0 HO_0.out ((l1.length : Int) : Int) p34 q34; replace p34 := eq_true p34; replace q34 := eq_true q34; obtain ⟨hy38_, hz38_⟩ := Kd.Wn_celln 0 HO_0.out ((l1.length : Int) : Int) (xa) (xa); have HP38 := Kd.Wn_putg HO_0.out ((l1.length : Int) : Int) t389 (xa) (xa)) | (refine xst 85 125 (wr.setCell (ad376.add ((l1.length : Int) : Int).toNat) (.int .u32 t389)) ?_; intro w39 hw; have hg : wr.grownBy w39 (some ad376.block) := (by rw [hw]; exact HP38.2); have hp_ : Kd.Wn uw_ pre_ post_ 85 w39 w0.heap.size (fun k_ => (P0_ k_ ∨ w.heap.size ≤ k_)) (.slice (some ad376) x0_2.length co11) y391 := (by rw [hw, Ny391.out]; exact HP38.1); clear HP38; have n0_ := Aside0.mk (hp_); have n1_ := Aside0.mk (by rw [hw]; exact Kd.below_add (HB.out) GB34.out : Below w0.heap.size w0 w39); have n2_ := Aside0.mk (Kept.of_grown (S := (fun k_ => P0_ k_)) hg (by repeat (first | (with_reducible first | exact HK.out | apply Kept.alloc | apply Kept.drewN | apply Kept.drew) | exact HK.out)) (fun k_ e_ => ((Kd.Wn_own HO_0.out) k_ e_))); clear HO_0; clear HB; clear HK; have HO_0 := n0_; have HB := n1_; have HK := n2_; clear n0_ n1_ n2_; clear hg hw hp_)); try go_wp2_with (first | (go_at_call 103; (with_reducible refine (bits_Sub32.calls (rd x0_2 (l1.length : Int)) ((x9_2) % 4294967296) x10_2 t389 t390 _ A33.out).mono ?_); rintro e w' ⟨rfl, ⟨nd, rfl⟩⟩; (try first | exact ⟨rfl, _, World.drewN_drewN _ _ _⟩ | exact ⟨rfl, _, Eq.trans (World.drewN_drewN _ _ _) (congrArg (World.drewN _) (Nat.add_assoc _ _ _))⟩); have p34 : 0 ≤ ((l1.length : Int) : Int) := xa; have q34 : ((l1.length : Int) : Int) < ((x0_2.length : Int) : Int) := xa; obtain ⟨gb34, gl34, cl34, HG34⟩ := Kd.Wn_form HO_0.out (by omega); have GB34 := Aside0.mk gb34; have GG34 := Aside0.mk HG34; clear gb34 gl34 HG34; have HMgo34 := Aside0.mk (show (P0_ ad376.block ∨ w.heap.size ≤ ad376.block) from ((Kd.Wn_own HO_0.out) _ rfl)); obtain ⟨hx34_0, hf34_0⟩ := Kd.Wn_celln 0 HO_0.out ((l1.length : Int) : Int) p34 q34; replace p34 := eq_true p34; replace q34 := eq_true q34; obtain ⟨hy38_, hz38_⟩ := Kd.Wn_celln 0 HO_0.out ((l1.length : Int) : Int) (xa) (xa); have HP38 := Kd.Wn_putg HO_0.out ((l1.length : Int) : Int) t389 (xa) (xa)) | (refine xst 85 125 (wr.setCell (ad376.add ((l1.length : Int) : Int).toNat) (.int .u32 t389)) ?_; intro w39 hw; have hg : wr.grownBy w39 (some ad376.block) := (by rw [hw]; exact HP38.2); have hp_ : Kd.Wn uw_ pre_ post_ 85 w39 w0.heap.size (fun k_ => (P0_ k_ ∨ w.heap.size ≤ k_)) (.slice (some ad376) x0_2.length co11) y391 := (by rw [hw, Ny391.out]; exact HP38.1); clear HP38; replace HB := Aside0.mk (by rw [hw]; exact Kd.below_add (HB.out) GB34.out : Below w0.heap.size w0 w39); replace HK := Aside0.mk (Kept.of_grown (S := (fun k_ => P0_ k_)) hg (by repeat (first | (with_reducible first | exact HK.out | apply Kept.alloc | apply Kept.drewN | apply Kept.drew) | exact HK.out)) (fun k_ e_ => ((Kd.Wn_own HO_0.out) k_ e_))); replace HO_0 := Aside0.mk (hp_); clear hg hw hp_)))
     go_loopg [14, 132] k2 (fun kq v14 v132 w' => ∃ (x0_3 : List Int) (x14_3 : Int) (x132_3 : Int), v14 = .int .u32 x14_3 ∧ v132 = .int .i64 x132_3 ∧ Aside0 (nt_step0.l2 kq x0_3 (l1.length : Int) x7_9 x14_3 l1 (l1.length : Int) x132_3 = some (r1, r2)) ∧ Aside0 (kq ≤ k2) ∧ Aside0 (Kd.Wn uw_ pre_ post_ 85 w' w0.heap.size (fun k_ => (P0_ k_ ∨ w.heap.size ≤ k_)) (.slice (some ad376) x0_2.length co11) x0_3) ∧ Aside0 (Kept w w' (fun k_ => P0_ k_)) ∧ Aside0 (Below w0.heap.size w0 w'))
     case atStart => exact ⟨(y391), (0), (0), xz, xz, H', ⟨Nat.le_refl _⟩, ⟨by skip; exact HO_0.out⟩, ⟨by repeat (with_reducible exact HK.out)⟩, ⟨xs HB⟩⟩
     case round =>
      clear H'
      try clear c23b0; try clear c24b0; try clear c25b0; try clear c26b0; try clear p28; try clear q28; try clear c31b0; try clear c31b1; try clear c32b0; try clear c32b1; try clear p34; try clear q34; try clear c35b0; try clear c35b1; try clear hx28_0; try clear hx34_0; try clear hx383_0; try clear hx384_0; try clear hx388_0; try clear p383; try clear p384; try clear p388; try clear q383; try clear q384; try clear q388
      obtain ⟨x0_3, x14_3, x132_3, rfl, rfl, HA, HK3, HO_0, HK, HB⟩ := hrel
      have hl0_3 := (Kd.Wn_reads' HO_0.out).1
      rw [hl0_3] at HO_0
      (try simp only [hl0_3])
      cases gk with
      | zero => exact absurd HA.out (by simp [nt_step0.l2])
      | succ k3 =>
       have H := HA.out
       clear HA
       simp only [nt_step0.l2] at H
       obtain ⟨c40, H⟩ | ⟨c40, H⟩ := xO H
       ·have c40b0 := decide_eq_true c40
        clear c40
        obtain ⟨c41b0, H⟩ := xQd H
        obtain ⟨c42, H⟩ := xQ H
        have c42b0 := decide_eq_true c42
        clear c42
        obtain ⟨c43, H⟩ := xQ H
        have c43b0 := decide_eq_true c43
        clear c43
        replace H := xH H; obtain ⟨⟨t394, t395⟩, A44, H⟩ := H
        dsimp only at H
        generalize hy396 : (x0_3.set (x132_3 : Int).toNat t394 : List Int) = y396 at H
        have Ny396 := Aside0.mk hy396.symm
        clear hy396
        have H' := Aside0.mk H
        clear H
        obtain ⟨p392, q392, ad392, e392, hx392_0⟩ := xA (Kd.at_int (Kd.C_kept_now HR1.out HK.out) x132_3)
        obtain rfl : ad378 = ad392 := (by injection e392)
        obtain ⟨p393, q393, ad393, e393, hx393_0⟩ := xA (Kd.at_int (Kd.Wn_reads' HO_0.out).2.2 x132_3)
        obtain rfl : (ad376 : Addr) = ad393 := (by injection e393)
        go_wp2_with (first | (go_at_call 93; (with_reducible refine (bits_Add32.calls (rd x0_3 x132_3) (rd l1 x132_3) x14_3 t394 t395 _ A44.out).mono ?_); rintro e w' ⟨rfl, ⟨nd, rfl⟩⟩; (try first | exact ⟨rfl, _, World.drewN_drewN _ _ _⟩ | exact ⟨rfl, _, Eq.trans (World.drewN_drewN _ _ _) (congrArg (World.drewN _) (Nat.add_assoc _ _ _))⟩); have p45 : 0 ≤ (x132_3 : Int) := xa; have q45 : (x132_3 : Int) < ((x0_3.length : Int) : Int) := xa; obtain ⟨hx45_0, hf45_0⟩ := Kd.Wn_celln 0 HO_0.out (x132_3 : Int) p45 q45; replace p45 := eq_true p45; replace q45 := eq_true q45; obtain ⟨hy46_, hz46_⟩ := Kd.Wn_celln 0 HO_0.out (x132_3 : Int) (xa) (xa); have HP46 := Kd.Wn_putg HO_0.out (x132_3 : Int) t394 (xa) (xa)) | ((with_reducible refine gate_store (t := 85) (p := 149) rfl ?_); (try (rw [drewN_self wr]; generalize hq_ : World.drewN wr _ = wr; have n0_ := Aside0.mk (Kd.Wn_at hq_ HO_0.out); have n1_ := Aside0.mk (kept_at hq_ HK.out); have n2_ := Aside0.mk (below_at hq_ HB.out); clear hq_ HO_0 HK HB; have HO_0 := n0_; have HK := n1_; have HB := n2_; clear n0_ n1_ n2_; (try (obtain ⟨hy46_, hz46_⟩ := Kd.Wn_celln 0 HO_0.out (x132_3 : Int) (xa) (xa))); (try (have HP46 := Kd.Wn_putg HO_0.out (x132_3 : Int) t394 (xa) (xa))))); refine xst 85 149 (wr.setCell (ad376.add (x132_3 : Int).toNat) (.int .u32 t394)) ?_; intro w47 hw; have hg : wr.grownBy w47 (some ad376.block) := (by rw [hw]; exact HP46.2); have hp_ : Kd.Wn uw_ pre_ post_ 85 w47 w0.heap.size (fun k_ => (P0_ k_ ∨ w.heap.size ≤ k_)) (.slice (some ad376) x0_3.length co11) y396 := (by rw [hw, Ny396.out]; exact HP46.1); clear HP46; replace HB := Aside0.mk (by rw [hw]; exact Kd.below_add (HB.out) GB34.out : Below w0.heap.size w0 w47); replace HK := Aside0.mk (Kept.of_grown (S := (fun k_ => P0_ k_)) hg (by repeat (with_reducible exact HK.out)) (fun k_ e_ => ((Kd.Wn_own HO_0.out) k_ e_))); replace HO_0 := Aside0.mk (hp_); clear hg hw hp_))
        repeat (go_quiet (first | (go_at_call 93; (with_reducible refine (bits_Add32.calls (rd x0_3 x132_3) (rd l1 x132_3) x14_3 t394 t395 _ A44.out).mono ?_); rintro e w' ⟨rfl, ⟨nd, rfl⟩⟩; (try first | exact ⟨rfl, _, World.drewN_drewN _ _ _⟩ | exact ⟨rfl, _, Eq.trans (World.drewN_drewN _ _ _) (congrArg (World.drewN _) (Nat.add_assoc _ _ _))⟩); have p45 : 0 ≤ (x132_3 : Int) := xa; have q45 : (x132_3 : Int) < ((x0_3.length : Int) : Int) := xa; obtain ⟨hx45_0, hf45_0⟩ := Kd.Wn_celln 0 HO_0.out (x132_3 : Int) p45 q45; replace p45 := eq_true p45; replace q45 := eq_true q45; obtain ⟨hy46_, hz46_⟩ := Kd.Wn_celln 0 HO_0.out (x132_3 : Int) (xa) (xa); have HP46 := Kd.Wn_putg HO_0.out (x132_3 : Int) t394 (xa) (xa)) | (refine xst 85 149 (wr.setCell (ad376.add (x132_3 : Int).toNat) (.int .u32 t394)) ?_; intro w47 hw; have hg : wr.grownBy w47 (some ad376.block) := (by rw [hw]; exact HP46.2); have hp_ : Kd.Wn uw_ pre_ post_ 85 w47 w0.heap.size (fun k_ => (P0_ k_ ∨ w.heap.size ≤ k_)) (.slice (some ad376) x0_3.length co11) y396 := (by rw [hw, Ny396.out]; exact HP46.1); clear HP46; have n0_ := Aside0.mk (hp_); have n1_ := Aside0.mk (by rw [hw]; exact Kd.below_add (HB.out) GB34.out : Below w0.heap.size w0 w47); have n2_ := Aside0.mk (Kept.of_grown (S := (fun k_ => P0_ k_)) hg (by repeat (first | (with_reducible first | exact HK.out | apply Kept.alloc | apply Kept.drewN | apply Kept.drew) | exact HK.out)) (fun k_ e_ => ((Kd.Wn_own HO_0.out) k_ e_))); clear HO_0; clear HB; clear HK; have HO_0 := n0_; have HB := n1_; have HK := n2_; clear n0_ n1_ n2_; clear hg hw hp_)); try go_wp2_with (first | (go_at_call 93; (with_reducible refine (bits_Add32.calls (rd x0_3 x132_3) (rd l1 x132_3) x14_3 t394 t395 _ A44.out).mono ?_); rintro e w' ⟨rfl, ⟨nd, rfl⟩⟩; (try first | exact ⟨rfl, _, World.drewN_drewN _ _ _⟩ | exact ⟨rfl, _, Eq.trans (World.drewN_drewN _ _ _) (congrArg (World.drewN _) (Nat.add_assoc _ _ _))⟩); have p45 : 0 ≤ (x132_3 : Int) := xa; have q45 : (x132_3 : Int) < ((x0_3.length : Int) : Int) := xa; obtain ⟨hx45_0, hf45_0⟩ := Kd.Wn_celln 0 HO_0.out (x132_3 : Int) p45 q45; replace p45 := eq_true p45; replace q45 := eq_true q45; obtain ⟨hy46_, hz46_⟩ := Kd.Wn_celln 0 HO_0.out (x132_3 : Int) (xa) (xa); have HP46 := Kd.Wn_putg HO_0.out (x132_3 : Int) t394 (xa) (xa)) | (refine xst 85 149 (wr.setCell (ad376.add (x132_3 : Int).toNat) (.int .u32 t394)) ?_; intro w47 hw; have hg : wr.grownBy w47 (some ad376.block) := (by rw [hw]; exact HP46.2); have hp_ : Kd.Wn uw_ pre_ post_ 85 w47 w0.heap.size (fun k_ => (P0_ k_ ∨ w.heap.size ≤ k_)) (.slice (some ad376) x0_3.length co11) y396 := (by rw [hw, Ny396.out]; exact HP46.1); clear HP46; replace HB := Aside0.mk (by rw [hw]; exact Kd.below_add (HB.out) GB34.out : Below w0.heap.size w0 w47); replace HK := Aside0.mk (Kept.of_grown (S := (fun k_ => P0_ k_)) hg (by repeat (first | (with_reducible first | exact HK.out | apply Kept.alloc | apply Kept.drewN | apply Kept.drew) | exact HK.out)) (fun k_ e_ => ((Kd.Wn_own HO_0.out) k_ e_))); replace HO_0 := Aside0.mk (hp_); clear hg hw hp_)))
        (try simp only [← hl0_3])
        go_roundg k3
        case measure => have := HJ9.out; have := HK2.out; have := HK3.out; omega
        case rel => exact ⟨(y396), (t395), (wrap64 (x132_3 + 1)), xz, xz, H', ⟨by have := HJ9.out; have := HK2.out; have := HK3.out; omega⟩, ⟨by skip; (try simp only [hl0_3]); exact HO_0.out⟩, ⟨by repeat (with_reducible exact HK.out)⟩, ⟨xs HB⟩⟩
       have c40b0 := decide_eq_false c40
       clear c40
       obtain ⟨c48, H⟩ := xQ H
       have c48b0 := decide_eq_true c48
       have c48b1 : decide (0 ≤ l1.length) = true := decide_eq_true (by omega)
       clear c48
       obtain ⟨c49, H⟩ := xQ H
       have c49b0 := decide_eq_true c49
       have c49b1 : decide (l1.length < x0_3.length) = true := decide_eq_true (Int.ofNat_lt.mp c49)
       clear c49
       generalize hy398 : (x0_3.set ((l1.length : Int) : Int).toNat (((rd x0_3 (l1.length : Int)) + x14_3) % 4294967296) : List Int) = y398 at H
       have Ny398 := Aside0.mk hy398.symm
       clear hy398
       simp only [Option.some.injEq, Prod.mk.injEq] at H
       obtain ⟨rfl, rfl⟩ := H
       have p397 : 0 ≤ ((l1.length : Int) : Int) := xa
       have q397 : (l1.length : Int) < (x0_3.length : Int) := xa
       obtain ⟨ad397, e397, hx397_0⟩ := Kd.at_int (Kd.Wn_reads' HO_0.out).2.2 (l1.length : Int) p397 q397
       obtain rfl : (ad376 : Addr) = ad397 := (by injection e397)
       (try simp only [Go.IntWalk.toNatUp] at hx397_0)
       replace p397 := eq_true p397
       replace q397 := eq_true q397
       obtain ⟨p50, q50, hx50_0, hf50_0⟩ := xA (Kd.Wn_celln 0 HO_0.out ((l1.length : Int) : Int))
       (try simp only [Int.toNat_natCast] at hx50_0)
       (try simp only [Int.toNat_natCast] at hf50_0)
       have HP51 := Kd.Wn_putg HO_0.out ((l1.length : Int) : Int) (((rd x0_3 (l1.length : Int)) + x14_3) % 4294967296) (xa) (xa)
       go_wp2_with (refine xst 85 157 (wr.setCell (ad376.add ((l1.length : Int) : Int).toNat) (.int .u32 (((rd x0_3 (l1.length : Int)) + x14_3) % 4294967296))) ?_; intro w52 hw; have hg : wr.grownBy w52 (some ad376.block) := (by rw [hw]; exact HP51.2); have hp_ : Kd.Wn uw_ pre_ post_ 85 w52 w0.heap.size (fun k_ => (P0_ k_ ∨ w.heap.size ≤ k_)) (.slice (some ad376) x0_3.length co11) y398 := (by rw [hw, Ny398.out]; exact HP51.1); clear HP51; replace HB := Aside0.mk (by rw [hw]; exact Kd.below_add (HB.out) GB34.out : Below w0.heap.size w0 w52); replace HK := Aside0.mk (Kept.of_grown (S := (fun k_ => P0_ k_)) hg (by repeat (with_reducible exact HK.out)) (fun k_ e_ => ((Kd.Wn_own HO_0.out) k_ e_))); replace HO_0 := Aside0.mk (hp_); clear hg hw hp_)
       repeat (go_quiet ((refine xst 85 157 (wr.setCell (ad376.add ((l1.length : Int) : Int).toNat) (.int .u32 (((rd x0_3 (l1.length : Int)) + x14_3) % 4294967296))) ?_; intro w52 hw; have hg : wr.grownBy w52 (some ad376.block) := (by rw [hw]; exact HP51.2); have hp_ : Kd.Wn uw_ pre_ post_ 85 w52 w0.heap.size (fun k_ => (P0_ k_ ∨ w.heap.size ≤ k_)) (.slice (some ad376) x0_3.length co11) y398 := (by rw [hw, Ny398.out]; exact HP51.1); clear HP51; have n0_ := Aside0.mk (hp_); have n1_ := Aside0.mk (by rw [hw]; exact Kd.below_add (HB.out) GB34.out : Below w0.heap.size w0 w52); have n2_ := Aside0.mk (Kept.of_grown (S := (fun k_ => P0_ k_)) hg (by repeat (first | (with_reducible first | exact HK.out | apply Kept.alloc | apply Kept.drewN | apply Kept.drew) | exact HK.out)) (fun k_ e_ => ((Kd.Wn_own HO_0.out) k_ e_))); clear HO_0; clear HB; clear HK; have HO_0 := n0_; have HB := n1_; have HK := n2_; clear n0_ n1_ n2_; clear hg hw hp_)); try go_wp2_with (refine xst 85 157 (wr.setCell (ad376.add ((l1.length : Int) : Int).toNat) (.int .u32 (((rd x0_3 (l1.length : Int)) + x14_3) % 4294967296))) ?_; intro w52 hw; have hg : wr.grownBy w52 (some ad376.block) := (by rw [hw]; exact HP51.2); have hp_ : Kd.Wn uw_ pre_ post_ 85 w52 w0.heap.size (fun k_ => (P0_ k_ ∨ w.heap.size ≤ k_)) (.slice (some ad376) x0_3.length co11) y398 := (by rw [hw, Ny398.out]; exact HP51.1); clear HP51; replace HB := Aside0.mk (by rw [hw]; exact Kd.below_add (HB.out) GB34.out : Below w0.heap.size w0 w52); replace HK := Aside0.mk (Kept.of_grown (S := (fun k_ => P0_ k_)) hg (by repeat (first | (with_reducible first | exact HK.out | apply Kept.alloc | apply Kept.drewN | apply Kept.drew) | exact HK.out)) (fun k_ e_ => ((Kd.Wn_own HO_0.out) k_ e_))); replace HO_0 := Aside0.mk (hp_); clear hg hw hp_))
       go_ret
       exact ⟨by rfl, (by exact (by exact HO_0.out)), xs HB, by repeat (with_reducible exact HK.out)⟩
/-! ### nt_step: function 112 -/
def nt_step.f (k : Nat) (u : List Int) (i h : Int) (d : List Int) : Option (Int × List Int) := if 0 ≤ i ∧ i < h ∧ h ≤ (u.length : Int) then ((nt_step0.f k ((u.take h.toNat).drop i.toNat) d).bind fun p => some (p.1, u.take i.toNat ++ p.2 ++ u.drop h.toNat)) else none
theorem nt_step.mono : ∀ a0 a1 a2 a3 k, LeO (nt_step.f k a0 a1 a2 a3) (nt_step.f (k + 1) a0 a1 a2 a3) := by
 intro a0 a1 a2 a3 k
 unfold nt_step.f
 exact LeO.ite (LeO.bind (nt_step0.mono _ _ _) (fun _ => LeO.refl _)) (LeO.refl _)
theorem nt_step.calls (k : Nat) (P0_ : Nat → Prop) (u9000_ : Value) (l0 : List Int) (A1 : Option Addr) (c1 : Nat) (l1 : List Int) (r1 : Int) (r2 : List Int) (w0 w : World) {i h : Int} {A9 : Option Addr} {n9 c9 : Nat} (hB : Below w0.heap.size w0 w) (ho0 : Kd.R (Kd.int .u32) 85 w w0.heap.size P0_ u9000_ l0) (hr1 : ∀ W_, Kept w W_ (fun k_ => P0_ k_) → Kd.C (Kd.int .u32) W_ A1 l1.length l1) (hc1 : l1.length ≤ c1) (hh : nt_step.f k l0 i h l1 = some (r1, r2))
  (hw9 : ∀ A n c, u9000_ = .slice A n c → A9 = (if c = i.toNat then A else A.map (·.add (i.toNat * 1))) ∧ n9 = h.toNat - i.toNat ∧ c9 = c - i.toNat) :
  Calls Tryd.prog 112 #[.slice A9 n9 c9, .slice A1 l1.length c1] w fun e w' => e = .returned (.int .u32 r1) ∧ Kd.R (Kd.int .u32) 85 w' w0.heap.size (fun k_ => (P0_ k_ ∨ w.heap.size ≤ k_)) u9000_ r2 ∧ Below w0.heap.size w0 w' ∧ Kept w w' (fun k_ => P0_ k_) := by
 unfold nt_step.f at hh
 by_cases c : 0 ≤ i ∧ i < h ∧ h ≤ (l0.length : Int)
 ·rw [if_pos c] at hh
  obtain ⟨⟨q1, q2⟩, hq, hp⟩ := Option.bind_eq_some_iff.mp hh
  simp only [Option.some.injEq, Prod.mk.injEq] at hp
  obtain ⟨rfl, rfl⟩ := hp
  obtain ⟨g, C, rfl, _⟩ := Kd.R_form ho0 (by omega)
  obtain ⟨e1, e2, _⟩ := Kd.R_reads' ho0
  obtain ⟨rfl, rfl, rfl⟩ := hw9 _ _ _ rfl
  have hwn := Kd.Wn_of ho0 (i := i.toNat) (h := h.toNat) (by omega) (by omega)
  have ea : (if C = i.toNat then (some ⟨g, 0, none⟩ : Option Addr) else (some ⟨g, 0, none⟩ : Option Addr).map (·.add (i.toNat * 1))) = some ⟨g, i.toNat, none⟩ := by
   rw [if_neg (by omega), Nat.mul_one]
   show some ((⟨g, 0, none⟩ : Addr).add i.toNat) = _
   rw [add_plain]
  rw [ea]
  refine (nt_step0.calls k P0_ _ _ _ _ _ A1 c1 l1 q1 q2 w0 w hB hwn hr1 hc1 hq).mono ?_
  rintro e w' ⟨rfl, h1, h2, h3⟩
  exact ⟨rfl, Kd.Wn_whole h1, h2, h3⟩
 rw [if_neg c] at hh
 cases hh
/-! ### nt_unshift: function 113 -/
def nt_unshift.l0 : Nat → List Int → Int → List Int → Int → Int → Option (List Int)
 | 0, _, _, _, _, _ => none
 | k + 1, x0, x1, x5, x12, x13 => if x13 < x12 then (if 0 ≤ x13 then (if x13 < (x0.length : Int) then (if (wrap64 (x13 + 1)) < (x0.length : Int) then (if 0 ≤ (wrap64 (x13 + 1)) then (if 0 ≤ x1 then (if x13 < (x5.length : Int) then (nt_unshift.l0 k x0 x1 (x5.set (x13 : Int).toNat ((shr .u64 (Go.bits .or .u64 (IntKind.u64.wrap (rd x0 x13)) (IntKind.u64.wrap ((IntKind.u64.wrap (rd x0 (wrap64 (x13 + 1)))) * 4294967296))) x1) % 4294967296)) x12 (wrap64 (x13 + 1))) else (none)) else (none)) else (none)) else (if 0 ≤ x1 then (if x13 < (x5.length : Int) then (nt_unshift.l0 k x0 x1 (x5.set (x13 : Int).toNat ((shr .u64 (IntKind.u64.wrap (rd x0 x13)) x1) % 4294967296)) x12 (wrap64 (x13 + 1))) else (none)) else (none))) else (none)) else (none)) else ((nt_limbs_trim.f k x5).bind fun t406 => (some t406))
def nt_unshift.f (k : Nat) (l0 : List Int) (a1 : Int) : Option (List Int) := if 0 ≤ (l0.length : Int) then (if ((l0.length : Int) : Int).toNat ≤ 70368744177664 then (nt_unshift.l0 k l0 a1 (List.replicate ((l0.length : Int) : Int).toNat 0) (l0.length : Int) 0) else (none)) else (none)
theorem nt_unshift.mono_l : ∀ k, (∀ y0 y1 y2 y3 y4, LeO (nt_unshift.l0 k y0 y1 y2 y3 y4) (nt_unshift.l0 (k + 1) y0 y1 y2 y3 y4))
 | 0 => fun _ _ _ _ _ r h => by simp [nt_unshift.l0] at h
 | k + 1 => by
  have ih0 := nt_unshift.mono_l k
  ·intro y0 y1 y2 y3 y4
   unfold nt_unshift.l0
   have m0 := @ih0; have m1 := @nt_limbs_trim.mono; exact xM
theorem nt_unshift.mono : ∀ a0 a1 k, LeO (nt_unshift.f k a0 a1) (nt_unshift.f (k + 1) a0 a1) := by
 intro a0 a1 k
 have ih0 := nt_unshift.mono_l k
 unfold nt_unshift.f
 have m0 := @ih0; have m1 := @nt_limbs_trim.mono; exact xM
theorem nt_unshift.calls (k : Nat) (A0 : Option Addr) (c0 : Nat) (l0 : List Int) (a1 : Int) (r : List Int) (w : World) (hr0 : Kd.C (Kd.int .u32) w A0 l0.length l0) (hc0 : l0.length ≤ c0) (h : nt_unshift.f k l0 a1 = some r) :
  Calls Tryd.prog 113 #[.slice A0 l0.length c0, .int .u64 a1] w fun e w' => ∃ v0_ : Value, e = .returned (v0_) ∧ Kd.V (Kd.int .u32) 85 w' w.heap.size (fun k_ => (w.heap.size ≤ k_)) v0_ r ∧ Below w.heap.size w w' := by
 have HR0 := Aside0.mk hr0
 have HC0 := Aside0.mk hc0
 clear hr0 hc0
 have HB := Aside0.mk (Below.refl w.heap.size w)
 have H := h; clear h
 unfold nt_unshift.f at H
 obtain ⟨c3b0, c3b1, H⟩ := xQt H
 obtain ⟨c4b0, c4b1, H⟩ := xQt H
 generalize hy399 : (List.replicate ((l0.length : Int) : Int).toNat 0 : List Int) = y399 at H
 have Ny399 := Aside0.mk hy399.symm
 clear hy399
 have H' := Aside0.mk H
 clear H
 go_enter Tryd.func113, Tryd.ntmps113
 go_wp2_with ((with_reducible refine gate_dst (N := 10) rfl ?_); refine Kd.R_make (Kd.int .u32) _ 85 rfl (N := 10) rfl 83 _ _ rfl (l0.length : Int) rfl rfl Tryd.underlying83 (.int .u32 0) 4 info85 rfl (by decide) (by omega) 0 (ok := fun _ => True) (okp := fun _ => True) rfl (fun _ hk => hk) trivial (xa) (Nat.le_trans (Nat.mul_le_mul_right _ (xa : (l0.length : Int).toNat ≤ 70368744177664)) (by omega)) (Below.refl _ _) (Nat.le_refl _) ?_; intro v400 w5 ho6 hb hg_ hnew_; clear hg_ hnew_; (rw [← Ny399.out] at ho6); have HO401 := Aside0.mk (Kd.R_lower (Kd.R_newM (M := fun k_ => (w.heap.size ≤ k_)) ho6 (below_size (xs HB)) (fun k_ h_ => h_)) (below_size (xs HB))); replace HB := xS HB hb; clear hb ho6)
 go_loopg [13] k (fun kq v13 w' => ∃ (x5_1 : List Int) (x13_1 : Int), v13 = .int .i64 x13_1 ∧ Aside0 (nt_unshift.l0 kq l0 a1 x5_1 (l0.length : Int) x13_1 = some r) ∧ Aside0 (kq ≤ k) ∧ Aside0 (Kd.R (Kd.int .u32) 85 w' w.heap.size (fun k_ => (w.heap.size ≤ k_)) v400 x5_1) ∧ Aside0 (Below w.heap.size w w'))
 case atStart => exact ⟨(y399), (0), xz, H', ⟨Nat.le_refl _⟩, ⟨by exact Kd.R_mono HO401.out (fun _ hk => hk.1)⟩, ⟨xs HB⟩⟩
 case round =>
  clear H'
  clear c3b0 c3b1 c4b0 c4b1
  obtain ⟨x5_1, x13_1, rfl, HA, HK1, HO_5, HB⟩ := hrel
  cases gk with
  | zero => exact absurd HA.out (by simp [nt_unshift.l0])
  | succ k1 =>
   have H := HA.out
   clear HA
   simp only [nt_unshift.l0] at H
   obtain ⟨c7b0, H⟩ | ⟨c7b0, H⟩ := xOd H
   ·obtain ⟨c8b0, H⟩ := xQd H
    obtain ⟨c9b0, H⟩ := xQd H
    obtain ⟨c10b0, H⟩ | ⟨c10b0, H⟩ := xOd H
    ·generalize hji11 : (wrap64 (x13_1 + 1)) = ji11 at H
     (try rw [hji11] at c10b0)
     have hji11w : (IntKind.i64.wrap (x13_1 + 1)) = ji11 := (i64_w _).trans hji11
     obtain ⟨c12b0, H⟩ := xQd H
     obtain ⟨c13b0, c13b1, H⟩ := xQt H
     generalize hji14 : (shr .u64 (Go.bits .or .u64 (IntKind.u64.wrap (rd l0 x13_1)) (IntKind.u64.wrap ((IntKind.u64.wrap (rd l0 (ji11))) * 4294967296))) a1) = ji14 at H
     have hji14_ : ((Go.bits .or .u64 (IntKind.u64.wrap (rd l0 x13_1)) (IntKind.u64.wrap ((IntKind.u64.wrap (rd l0 (ji11))) * 4294967296))) / 2 ^ min a1.toNat 64) = ji14 := hji14
     have hji14z : a1 ≤ 64 → ((Go.bits .or .u64 (IntKind.u64.wrap (rd l0 x13_1)) (IntKind.u64.wrap ((IntKind.u64.wrap (rd l0 (ji11))) * 4294967296))) / 2 ^ a1.toNat) = ji14 := shr_small hji14
     obtain ⟨c15b0, H⟩ := xQd H
     generalize hy404 : (x5_1.set (x13_1 : Int).toNat ((ji14) % 4294967296) : List Int) = y404 at H
     have Ny404 := Aside0.mk hy404.symm
     clear hy404
     have H' := Aside0.mk H
     clear H
     obtain ⟨p402, q402, ad402, e402, hx402_0⟩ := xA (Kd.at_int HR0.out x13_1)
     cases e402
     (try replace hx402_0 := xcl HB hx402_0)
     obtain ⟨p403, q403, ad403, e403, hx403_0⟩ := xA (Kd.at_int HR0.out (ji11))
     obtain rfl : ad402 = ad403 := (by injection e403)
     (try replace hx403_0 := xcl HB hx403_0)
     have p16 : 0 ≤ (x13_1 : Int) := xa
     have q16 : (x13_1 : Int) < ((x5_1.length : Int) : Int) := xa
     obtain ⟨go16, co16, eo16, gb16, gl16, cl16, HG16⟩ := Kd.R_form HO_5.out (by omega)
     cases eo16
     have GB16 := Aside0.mk gb16
     have GG16 := Aside0.mk HG16
     clear gb16 gl16 HG16
     obtain ⟨hx16_0, hf16_0⟩ := Kd.R_celln 0 HO_5.out (x13_1 : Int) p16 q16
     replace p16 := eq_true p16
     replace q16 := eq_true q16
     have HP17 := Kd.R_putg HO_5.out (x13_1 : Int) ((ji14) % 4294967296)
     go_wp2_with (refine xst 85 41 (wr.setCell ⟨go16, (x13_1 : Int).toNat, none⟩ (.int .u32 ((ji14) % 4294967296))) ?_; intro w18 hw; have hg : wr.grownBy w18 (some go16) := (by rw [hw]; exact HP17.2); have hp_ : Kd.R (Kd.int .u32) 85 w18 w.heap.size (fun k_ => (w.heap.size ≤ k_)) (.slice (some ⟨go16, 0, none⟩) x5_1.length co16) y404 := (by rw [hw, Ny404.out]; exact HP17.1); clear HP17; replace HO_5 := Aside0.mk (hp_); replace HB := Aside0.mk (by rw [hw]; exact below_set (HB.out) GB16.out : Below w.heap.size w w18); clear hg hw hp_)
     go_roundg k1
     case measure => have := HK1.out; omega
     case rel => exact ⟨(y404), (ji11), (by rfl), H', ⟨by have := HK1.out; omega⟩, ⟨xr HO_5.out⟩, ⟨xs HB⟩⟩
    obtain ⟨c19b0, c19b1, H⟩ := xQt H
    generalize hji20 : (shr .u64 (IntKind.u64.wrap (rd l0 x13_1)) a1) = ji20 at H
    have hji20_ : ((IntKind.u64.wrap (rd l0 x13_1)) / 2 ^ min a1.toNat 64) = ji20 := hji20
    have hji20z : a1 ≤ 64 → ((IntKind.u64.wrap (rd l0 x13_1)) / 2 ^ a1.toNat) = ji20 := shr_small hji20
    obtain ⟨c21b0, H⟩ := xQd H
    generalize hy405 : (x5_1.set (x13_1 : Int).toNat ((ji20) % 4294967296) : List Int) = y405 at H
    have Ny405 := Aside0.mk hy405.symm
    clear hy405
    have H' := Aside0.mk H
    clear H
    obtain ⟨p402, q402, ad402, e402, hx402_0⟩ := xA (Kd.at_int HR0.out x13_1)
    cases e402
    (try replace hx402_0 := xcl HB hx402_0)
    have p22 : 0 ≤ (x13_1 : Int) := xa
    have q22 : (x13_1 : Int) < ((x5_1.length : Int) : Int) := xa
    obtain ⟨go22, co22, eo22, gb22, gl22, cl22, HG22⟩ := Kd.R_form HO_5.out (by omega)
    cases eo22
    have GB22 := Aside0.mk gb22
    have GG22 := Aside0.mk HG22
    clear gb22 gl22 HG22
    obtain ⟨hx22_0, hf22_0⟩ := Kd.R_celln 0 HO_5.out (x13_1 : Int) p22 q22
    replace p22 := eq_true p22
    replace q22 := eq_true q22
    have HP23 := Kd.R_putg HO_5.out (x13_1 : Int) ((ji20) % 4294967296)
    go_wp2_with (refine xst 85 41 (wr.setCell ⟨go22, (x13_1 : Int).toNat, none⟩ (.int .u32 ((ji20) % 4294967296))) ?_; intro w24 hw; have hg : wr.grownBy w24 (some go22) := (by rw [hw]; exact HP23.2); have hp_ : Kd.R (Kd.int .u32) 85 w24 w.heap.size (fun k_ => (w.heap.size ≤ k_)) (.slice (some ⟨go22, 0, none⟩) x5_1.length co22) y405 := (by rw [hw, Ny405.out]; exact HP23.1); clear HP23; replace HO_5 := Aside0.mk (hp_); replace HB := Aside0.mk (by rw [hw]; exact below_set (HB.out) GB22.out : Below w.heap.size w w24); clear hg hw hp_)
    go_roundg k1
    case measure => have := HK1.out; omega
    case rel => exact ⟨(y405), (wrap64 (x13_1 + 1)), xz, H', ⟨by have := HK1.out; omega⟩, ⟨xr HO_5.out⟩, ⟨xs HB⟩⟩
   replace H := xH H; obtain ⟨t406, A25, H⟩ := H
   obtain rfl := Option.some.inj H
   obtain ⟨Ao26, co26, eo26⟩ := Kd.R_slice HO_5.out
   subst eo26
   go_wp2_with (refine xg Tryd.func98 (some 44) #[.slice Ao26 x5_1.length co26] ?_; (with_reducible refine (nt_limbs_trim.calls k1 (fun k_ => some k_ = (.slice Ao26 x5_1.length co26 : Value).ownBlock) _ _ x5_1 t406 _ ?side1 A25.out).mono ?_); (case side1 => exact Kd.R_V (Kd.R_tight rfl (HO_5.out))); rintro e w27 ⟨v407, rfl, ho0, hb⟩; refine ⟨_, rfl, ?_⟩; have HO408 := xVm w (fun k_ => (w.heap.size ≤ k_)) ho0 (fun k_ hk_ => Or.elim hk_ (fun hs_ => ((HO_5.out).1 k_ hs_.symm)) (fun hn_ => (Nat.le_trans (below_size (xs HB)) hn_))); replace HO_5 := xRb HO_5 hb; replace HB := xS HB hb; clear hb ho0)
   go_ret
   exact ⟨_, xy, HO408.out, xs HB⟩
/-! ### nt_divide: function 99 -/
def nt_divide.l0 : Nat → Int → Int → List Int → List Int → List Int → Int → Option (List Int × List Int)
 | 0, _, _, _, _, _, _ => none
 | k + 1, x8, x9, x10, x11, x12, x13 => if x13 ≥ 0 then (if 0 ≤ x13 then (if x13 ≤ (wrap64 ((wrap64 (x13 + x9)) + 1)) then (if (wrap64 ((wrap64 (x13 + x9)) + 1)) ≤ (x11.length : Int) then ((nt_step.f k x11 x13 (wrap64 ((wrap64 (x13 + x9)) + 1)) x10).bind fun bt468 => (if x13 < (x12.length : Int) then (nt_divide.l0 k x8 x9 x10 bt468.2 (x12.set (x13 : Int).toNat bt468.1) (wrap64 (x13 - 1))) else (none))) else (none)) else (none)) else (none)) else ((nt_limbs_trim.f k x12).bind fun t471 => (if 0 ≤ x9 then (if x9 ≤ (x11.length : Int) then ((nt_unshift.f k (x11.take (x9 : Int).toNat) x8).bind fun t478 => (some (t471, t478))) else (none)) else (none)))
def nt_divide.f (k : Nat) (l0 : List Int) (l1 : List Int) : Option (List Int × List Int) := (nt_compare.f k l0 l1).bind fun t445 => (if t445 < 0 then (some (([] : List Int), l0)) else (if (l1.length : Int) = 1 then (if 0 < (l1.length : Int) then ((nt_divideSmall.f k l0 (rd l1 0)).bind fun bt447 => ((nt_limbs_trim.f k ([bt447.2] : List Int)).bind fun t454 => (some (bt447.1, t454)))) else (none)) else (if 0 ≤ (wrap64 ((l1.length : Int) - 1)) then (if (wrap64 ((l1.length : Int) - 1)) < (l1.length : Int) then ((bits_LeadingZeros32.f (rd l1 (wrap64 ((l1.length : Int) - 1)))).bind fun t458 => ((nt_shift.f k l1 (IntKind.u64.wrap (t458)) (l1.length : Int)).bind fun t459 => ((nt_shift.f k l0 (IntKind.u64.wrap (t458)) (wrap64 ((l0.length : Int) + 1))).bind fun t462 => (if 0 ≤ (wrap64 ((wrap64 ((l0.length : Int) - (l1.length : Int))) + 1)) then (if (wrap64 ((wrap64 ((l0.length : Int) - (l1.length : Int))) + 1) : Int).toNat ≤ 70368744177664 then ((some (List.replicate (wrap64 ((wrap64 ((l0.length : Int) - (l1.length : Int))) + 1) : Int).toNat 0 : List Int)).bind fun y465 => (nt_divide.l0 k (IntKind.u64.wrap (t458)) (l1.length : Int) t459 t462 y465 (wrap64 ((y465.length : Int) - 1)))) else (none)) else (none))))) else (none)) else (none))))
theorem nt_divide.mono_l : ∀ k, (∀ y0 y1 y2 y3 y4 y5, LeO (nt_divide.l0 k y0 y1 y2 y3 y4 y5) (nt_divide.l0 (k + 1) y0 y1 y2 y3 y4 y5))
 | 0 => fun _ _ _ _ _ _ r h => by simp [nt_divide.l0] at h
 | k + 1 => by
  have ih0 := nt_divide.mono_l k
  ·intro y0 y1 y2 y3 y4 y5
   unfold nt_divide.l0
   have m0 := @ih0; have m1 := @nt_compare.mono; have m2 := @nt_divideSmall.mono; have m3 := @nt_limbs_trim.mono; have m4 := @nt_shift.mono; have m5 := @nt_step.mono; have m6 := @nt_unshift.mono; exact xM
theorem nt_divide.mono : ∀ a0 a1 k, LeO (nt_divide.f k a0 a1) (nt_divide.f (k + 1) a0 a1) := by
 intro a0 a1 k
 have ih0 := nt_divide.mono_l k
 unfold nt_divide.f
 have m0 := @ih0; have m1 := @nt_compare.mono; have m2 := @nt_divideSmall.mono; have m3 := @nt_limbs_trim.mono; have m4 := @nt_shift.mono; have m5 := @nt_step.mono; have m6 := @nt_unshift.mono; exact xM
def nt_divide.T15 : Bool × List (List Nat × List Nat) := (true, [([], []), ([0], [0]), ([], []), ([], []), ([2, 3], [2, 3]), ([], []), ([4, 5, 1], [4, 5]), ([1, 6, 0, 1], [1]), ([6, 7, 0, 1, 2, 3, 4, 5, 6, 7], [6])])
def nt_divide.B15 : List Nat := [0, 1, 0, 0, 12, 0, 63, 127, 255]
theorem nt_divide.tab15 : rtab .any (opsOf Tryd.f99 15) = nt_divide.T15 := by kernel_rfl
theorem nt_divide.bits15 : waitsOk nt_divide.T15.2 nt_divide.B15 = true := by kernel_rfl
theorem nt_divide.calls (k : Nat) (P0_ : Nat → Prop) (A0 : Option Addr) (c0 : Nat) (l0 : List Int) (A1 : Option Addr) (c1 : Nat) (l1 : List Int) (r1 : List Int) (r2 : List Int) (w : World) (hs0 : Kd.V (Kd.int .u32) 85 w w.heap.size (fun k_ => P0_ k_) (.slice A0 l0.length c0) l0) (hr1 : Kd.C (Kd.int .u32) w A1 l1.length l1) (hc1 : l1.length ≤ c1) (h : nt_divide.f k l0 l1 = some (r1, r2)) :
  Calls Tryd.prog 99 #[.slice A0 l0.length c0, .slice A1 l1.length c1] w fun e w' => ∃ v0_ v1_ : Value, e = .returned (.tuple #[v0_, v1_]) ∧ Kd.V (Kd.int .u32) 85 w' w.heap.size (fun k_ => (P0_ k_ ∨ w.heap.size ≤ k_)) v0_ r1 ∧ Kd.V (Kd.int .u32) 85 w' w.heap.size (fun k_ => (P0_ k_ ∨ w.heap.size ≤ k_)) v1_ r2 ∧ Below w.heap.size w w' := by
 have HO0 := Aside0.mk (show Kd.V (Kd.int .u32) 85 w w.heap.size (fun k_ => (P0_ k_ ∨ w.heap.size ≤ k_)) (.slice A0 l0.length c0) l0 from Kd.V_mono hs0 (fun k_ hk => .inl hk))
 have HR1 := Aside0.mk hr1
 have HC1 := Aside0.mk hc1
 clear hr1 hc1
 have HB := Aside0.mk (Below.refl w.heap.size w)
 have H := h; clear h
 unfold nt_divide.f at H
 replace H := xH H; obtain ⟨t445, A3, H⟩ := H
 obtain ⟨c4b0, H⟩ | ⟨c4b0, H⟩ := xOd H
 ·simp only [Option.some.injEq, Prod.mk.injEq] at H
  obtain ⟨rfl, rfl⟩ := H
  go_enter Tryd.func99, Tryd.ntmps99
  go_wp2_with (refine xg Tryd.func94 (some 16) #[.slice A0 l0.length c0, .slice A1 l1.length c1] ?_; (with_reducible refine (nt_compare.calls k _ _ l0 _ _ l1 t445 _ (xf (Kd.V_reads' HO0.out).2.2) (Kd.V_reads' HO0.out).2.1 (xf HR1.out) HC1.out A3.out).mono ?_); rintro e w' ⟨rfl, ⟨nd, rfl⟩⟩; refine ⟨_, rfl, ?_⟩)
  go_ret2
  exact ⟨_, _, xy, Kd.V_nil _ _ _ _ _, by (with_reducible repeat (apply Kd.V_drewN)); exact HO0.out, xs HB⟩
 obtain ⟨c5, H⟩ | ⟨c5, H⟩ := xO H
 ·have c5b0 := beq_iff_eq.mpr c5
  have c5b1 := bne_eq_false_iff_eq.mpr c5
  clear c5
  obtain ⟨c6, H⟩ := xQ H
  have c6b0 := decide_eq_true c6
  have c6b1 : decide (0 < l1.length) = true := decide_eq_true (by omega)
  clear c6
  replace H := xH H; obtain ⟨⟨t447, t450⟩, A7, H⟩ := H
  dsimp only at H
  generalize hy451 : (([t450] : List Int) : List Int) = y451 at H
  have Ny451 := Aside0.mk hy451.symm
  clear hy451
  replace H := xH H; obtain ⟨t454, A8, H⟩ := H
  simp only [Option.some.injEq, Prod.mk.injEq] at H
  obtain ⟨rfl, rfl⟩ := H
  go_enter Tryd.func99, Tryd.ntmps99
  go_wp2_with (first | (refine xg Tryd.func94 (some 16) #[.slice A0 l0.length c0, .slice A1 l1.length c1] ?_; (with_reducible refine (nt_compare.calls k _ _ l0 _ _ l1 t445 _ (xf (Kd.V_reads' HO0.out).2.2) (Kd.V_reads' HO0.out).2.1 (xf HR1.out) HC1.out A3.out).mono ?_); rintro e w' ⟨rfl, ⟨nd, rfl⟩⟩; refine ⟨_, rfl, ?_⟩; have p446 : 0 ≤ (0 : Int) := (by omega); have q446 : 0 < (l1.length : Int) := xa; obtain ⟨ad446, e446, hx446_0⟩ := Kd.at_int HR1.out 0 p446 q446; cases e446; have qi446 : (0 < l1.length) = True := eq_true (by omega); (try rw [show (0 : Int).toNat = 0 from rfl] at hx446_0); (try rw [Addr.add_zero'] at hx446_0); replace p446 := eq_true p446; replace q446 := eq_true q446) | (refine xg Tryd.func109 (some 27) #[.slice A0 l0.length c0, .int .u32 (rd l1 0)] ?_; (with_reducible refine (nt_divideSmall.calls k _ _ l0 (rd l1 0) t447 t450 _ (xf (Kd.V_reads' HO0.out).2.2) (Kd.V_reads' HO0.out).2.1 A7.out).mono ?_); rintro e w9 ⟨v448, rfl, ho0, hb⟩; refine ⟨_, rfl, ?_⟩; replace HO0 := xVb HO0 hb; have HO449 := xVm w (fun k_ => (P0_ k_ ∨ w.heap.size ≤ k_)) ho0 (fun k_ hk_ => (.inr (Nat.le_trans (below_size (xs HB)) hk_))); replace HB := xS HB hb; clear hb ho0) | ((with_reducible refine gate_dst (N := 32) rfl ?_); refine Kd.R_lit (Kd.int .u32) _ 85 ?hg (N := 32) ?hd (xs := ([t450] : List Int)) (inner := [.int .u32 t450]) (ok := fun _ => True) (okp := fun _ => True) ?hr ?hp (fun _ hk => hk) trivial (Below.refl _ _) (Nat.le_refl _) (by simp) ?_; (case hd => rfl); (case hg => rfl); (case hr => (go_simp; done)); (case hp => exact (Reps.one (show Kd.M (Kd.int .u32) _ _ _ t450 [.int .u32 t450] from rfl) (Reps.none _ _))); intro v452 w10 ho11 hb hg_ hnew_; clear hg_ hnew_; (rw [← Ny451.out] at ho11); replace HO0 := Aside0.mk (Kd.V_elder' (xv HO0.out) (Kd.R_base ho11) hb); replace HO449 := Aside0.mk (Kd.V_elder' (xv HO449.out) (Kd.R_base ho11) hb); have HO453 := Aside0.mk (Kd.R_lower (Kd.R_newM (M := fun k_ => (w.heap.size ≤ k_)) ho11 (below_size (xs HB)) (fun k_ h_ => h_)) (below_size (xs HB))); replace HB := xS HB hb; clear hb ho11; obtain ⟨Ao12, co12, eo12⟩ := Kd.R_slice HO453.out; subst eo12) | (refine xg Tryd.func98 (some 33) #[.slice Ao12 y451.length co12] ?_; (with_reducible refine (nt_limbs_trim.calls k (fun k_ => some k_ = (.slice Ao12 y451.length co12 : Value).ownBlock) _ _ y451 t454 _ ?side1 A8.out).mono ?_); (case side1 => exact Kd.R_V (Kd.R_tight rfl (HO453.out))); rintro e w13 ⟨v455, rfl, ho0, hb⟩; refine ⟨_, rfl, ?_⟩; replace HO0 := xVb HO0 hb; replace HO449 := xVb HO449 hb; have HO456 := xVm w (fun k_ => (P0_ k_ ∨ w.heap.size ≤ k_)) ho0 (fun k_ hk_ => Or.elim hk_ (fun hs_ => (.inr (((HO453.out).1 k_ hs_.symm).1))) (fun hn_ => (.inr (Nat.le_trans (below_size (xs HB)) hn_)))); replace HO453 := xRb HO453 hb; replace HB := xS HB hb; clear hb ho0))
  go_ret2
  exact ⟨_, _, xy, by exact Kd.V_mono HO449.out (fun _ hk => hk.1), HO456.out, xs HB⟩
 have c5b0 := beq_eq_false_iff_ne.mpr c5
 have c5b1 := bne_iff_ne.mpr c5
 generalize hji14 : (wrap64 ((l1.length : Int) - 1)) = ji14 at H
 have hji14w : (IntKind.i64.wrap ((l1.length : Int) - 1)) = ji14 := (i64_w _).trans hji14
 obtain ⟨c15b0, H⟩ := xQd H
 obtain ⟨c16b0, H⟩ := xQd H
 replace H := xH H; obtain ⟨t458, A17, H⟩ := H
 replace H := xH H; obtain ⟨t459, A18, H⟩ := H
 replace H := xH H; obtain ⟨t462, A19, H⟩ := H
 generalize hji20 : (wrap64 ((wrap64 ((l0.length : Int) - (l1.length : Int))) + 1)) = ji20 at H
 have hji20w : (IntKind.i64.wrap ((wrap64 ((l0.length : Int) - (l1.length : Int))) + 1)) = ji20 := (i64_w _).trans hji20
 obtain ⟨c21b0, c21b1, H⟩ := xQt H
 obtain ⟨c22b0, c22b1, H⟩ := xQt H
 obtain ⟨y465, Ny465, H⟩ := xYa H
 have H' := Aside0.mk H
 clear H
 go_enter Tryd.func99, Tryd.ntmps99
 go_wp2_with (first | (refine xg Tryd.func94 (some 16) #[.slice A0 l0.length c0, .slice A1 l1.length c1] ?_; (with_reducible refine (nt_compare.calls k _ _ l0 _ _ l1 t445 _ (xf (Kd.V_reads' HO0.out).2.2) (Kd.V_reads' HO0.out).2.1 (xf HR1.out) HC1.out A3.out).mono ?_); rintro e w' ⟨rfl, ⟨nd, rfl⟩⟩; refine ⟨_, rfl, ?_⟩; have p457 : 0 ≤ ((ji14) : Int) := xa; have q457 : (ji14) < (l1.length : Int) := xa; obtain ⟨ad457, e457, hx457_0⟩ := Kd.at_int HR1.out (ji14) p457 q457; cases e457; replace p457 := eq_true p457; replace q457 := eq_true q457) | (refine xg Tryd.func110 (some 40) #[.int .u32 (rd l1 (ji14))] ?_ (hargs := (by (try simp only [List.map_toArray, List.map_cons, List.map_nil]); rfl)); (with_reducible refine (bits_LeadingZeros32.calls (rd l1 (ji14)) t458 _ A17.out).mono ?_); rintro e w' ⟨rfl, ⟨nd, rfl⟩⟩; refine ⟨_, rfl, ?_⟩) | (refine xg Tryd.func111 (some 47) #[.slice (some ad457) l1.length c1, .int .u64 (IntKind.u64.wrap (t458)), .int .i64 (l1.length : Int)] ?_; (with_reducible refine (nt_shift.calls k _ _ l1 (IntKind.u64.wrap (t458)) (l1.length : Int) t459 _ (xf HR1.out) HC1.out A18.out).mono ?_); rintro e w23 ⟨v460, rfl, ho0, hb⟩; refine ⟨_, rfl, ?_⟩; replace HO0 := Aside0.mk (Kd.V_elder' (xv HO0.out) (Kd.R_base ho0) hb); have HO461 := Aside0.mk (Kd.R_lower (Kd.R_newM (M := fun k_ => (w.heap.size ≤ k_)) ho0 (below_size (xs HB)) (fun k_ h_ => h_)) (below_size (xs HB))); replace HB := xS HB hb; clear hb ho0) | (refine xg Tryd.func111 (some 53) #[.slice A0 l0.length c0, .int .u64 (IntKind.u64.wrap (t458)), .int .i64 (wrap64 ((l0.length : Int) + 1))] ?_; (with_reducible refine (nt_shift.calls k _ _ l0 (IntKind.u64.wrap (t458)) (wrap64 ((l0.length : Int) + 1)) t462 _ (xf (Kd.V_reads' HO0.out).2.2) (Kd.V_reads' HO0.out).2.1 A19.out).mono ?_); rintro e w24 ⟨v463, rfl, ho0, hb⟩; refine ⟨_, rfl, ?_⟩; replace HO0 := Aside0.mk (Kd.V_elder' (xv HO0.out) (Kd.R_base ho0) hb); have HO464 := Aside0.mk (Kd.R_lower (Kd.R_new' (Kd.R_newM (M := fun k_ => (w.heap.size ≤ k_)) ho0 (below_size (xs HB)) (fun k_ h_ => h_)) (Kd.R_lt (xr HO461.out))) (below_size (xs HB))); replace HO461 := Aside0.mk (Kd.R_elder' (xr HO461.out) (Kd.R_base ho0) hb); replace HB := xS HB hb; clear hb ho0) | ((with_reducible refine gate_dst (N := 59) rfl ?_); refine Kd.R_make (Kd.int .u32) _ 85 rfl (N := 59) rfl 83 _ _ rfl ji20 rfl rfl Tryd.underlying83 (.int .u32 0) 4 info85 rfl (by decide) (by omega) 0 (ok := fun _ => True) (okp := fun _ => True) rfl (fun _ hk => hk) trivial (xa) (Nat.le_trans (Nat.mul_le_mul_right _ (xa : ji20.toNat ≤ 70368744177664)) (by omega)) (Below.refl _ _) (Nat.le_refl _) ?_; intro v466 w25 ho26 hb hg_ hnew_; clear hg_ hnew_; (rw [← Ny465.out] at ho26); replace HO0 := Aside0.mk (Kd.V_elder' (xv HO0.out) (Kd.R_base ho26) hb); have HO467 := Aside0.mk (Kd.R_lower (Kd.R_new' (Kd.R_new' (Kd.R_newM (M := fun k_ => (w.heap.size ≤ k_)) ho26 (below_size (xs HB)) (fun k_ h_ => h_)) (Kd.R_lt (xr HO461.out))) (Kd.R_lt (xr HO464.out))) (below_size (xs HB))); replace HO461 := Aside0.mk (Kd.R_elder' (xr HO461.out) (Kd.R_base ho26) hb); replace HO464 := Aside0.mk (Kd.R_elder' (xr HO464.out) (Kd.R_base ho26) hb); replace HB := xS HB hb; clear hb ho26; obtain ⟨Ao27, co27, eo27⟩ := Kd.R_slice HO467.out; subst eo27))
 go_loopg [13] k (fun kq v13 w' => ∃ (x10_1 : List Int) (x11_1 : List Int) (x12_1 : List Int) (x13_1 : Int), v13 = .int .i64 x13_1 ∧ Aside0 (nt_divide.l0 kq (IntKind.u64.wrap (t458)) (l1.length : Int) x10_1 x11_1 x12_1 x13_1 = some (r1, r2)) ∧ Aside0 (kq ≤ k) ∧ Aside0 (Kd.R (Kd.int .u32) 85 w' w.heap.size (fun k_ => (w.heap.size ≤ k_) ∧ some k_ ≠ (v463 : Value).ownBlock ∧ some k_ ≠ ((.slice Ao27 y465.length co27) : Value).ownBlock) v460 x10_1) ∧ Aside0 (Kd.R (Kd.int .u32) 85 w' w.heap.size (fun k_ => (w.heap.size ≤ k_) ∧ some k_ ≠ (v460 : Value).ownBlock ∧ some k_ ≠ ((.slice Ao27 y465.length co27) : Value).ownBlock) v463 x11_1) ∧ Aside0 (Kd.R (Kd.int .u32) 85 w' w.heap.size (fun k_ => (w.heap.size ≤ k_) ∧ some k_ ≠ (v460 : Value).ownBlock ∧ some k_ ≠ (v463 : Value).ownBlock) (.slice Ao27 y465.length co27) x12_1) ∧ Aside0 (Below w.heap.size w w'))
 case atStart => exact ⟨(t459), (t462), (y465), (wrap64 ((y465.length : Int) - 1)), xz, H', ⟨Nat.le_refl _⟩, ⟨by exact Kd.R_mono HO461.out (fun _ hk => by exact ⟨hk.1.1.1, ⟨hk.1.2, hk.2⟩⟩)⟩, ⟨by exact Kd.R_mono HO464.out (fun _ hk => by exact ⟨hk.1.1.1, ⟨hk.1.2, hk.2⟩⟩)⟩, ⟨by exact Kd.R_mono HO467.out (fun _ hk => by exact ⟨hk.1.1.1, ⟨hk.1.2, hk.2⟩⟩)⟩, ⟨xs HB⟩⟩
 case round =>
  clear H'
  try clear c4b0; try clear c5b0; try clear c5b1; try clear c6b0; try clear c6b1; try clear c15b0; try clear c16b0; try clear c21b0; try clear c21b1; try clear c22b0; try clear c22b1; try clear hx446_0; try clear hx457_0; try clear p446; try clear p457; try clear q446; try clear q457
  obtain ⟨x10_1, x11_1, x12_1, x13_1, rfl, HA, HK1, HO_10, HO_11, HO_12, HB⟩ := hrel
  have hl12_1 := (Kd.R_reads' HO_12.out).1
  rw [hl12_1] at HO_12
  (try simp only [hl12_1])
  (try simp only [hl12_1] at HO_10)
  (try simp only [hl12_1] at HO_11)
  cases gk with
  | zero => exact absurd HA.out (by simp [nt_divide.l0])
  | succ k1 =>
   have H := HA.out
   clear HA
   simp only [nt_divide.l0] at H
   obtain ⟨c28b0, H⟩ | ⟨c28b0, H⟩ := xOd H
   ·obtain ⟨c29b0, c29b1, H⟩ := xQt H
    obtain ⟨c30, H⟩ := xQ H
    have c30b0 := eq_true c30
    have c30b1 := decide_eq_true c30
    obtain ⟨c31, H⟩ := xQ H
    have c31b0 := eq_true c31
    have c31b1 := decide_eq_true c31
    replace H := xH H; obtain ⟨⟨t468, t469⟩, A32, H⟩ := H
    dsimp only at H
    obtain ⟨c33, H⟩ := xQ H
    have c33b0 := decide_eq_true c33
    clear c33
    generalize hy470 : (x12_1.set (x13_1 : Int).toNat t468 : List Int) = y470 at H
    have Ny470 := Aside0.mk hy470.symm
    clear hy470
    have H' := Aside0.mk H
    clear H
    obtain ⟨Ao35, co35, eo35⟩ := Kd.R_slice HO_11.out
    subst eo35
    obtain ⟨Ao36, co36, eo36⟩ := Kd.R_slice HO_10.out
    subst eo36
    obtain ⟨i85_, hi85_, hz85_⟩ := Option.map_eq_some_iff.1 info85
    have hs85_ : i85_.size = 1 := by injection hz85_ with _ z; injection z with z _
    obtain ⟨A9_, hA9_, hcm_⟩ : ∃ A9_ : Option Addr, Aside0 (A9_ = (if co35 = (x13_1 : Int).toNat then Ao35 else Ao35.map (·.add ((x13_1 : Int).toNat * 1)))) ∧ ∀ W : World, (Instr.slice 83 (.slice Ao35 x11_1.length co35) (some (.int .i64 x13_1)) (some (.int .i64 (wrap64 ((wrap64 (x13_1 + (l1.length : Int))) + 1)))) none).run Tryd.prog W = .ok (.slice A9_ (((wrap64 ((wrap64 (x13_1 + (l1.length : Int))) + 1)) : Int).toNat - (x13_1 : Int).toNat) (co35 - (x13_1 : Int).toNat)) W := ⟨_, ⟨rfl⟩, fun W => cut_mid 83 85 .i64 .i64 Tryd.underlying83 hi85_ 1 hs85_ _ _ _ _ _ (of_eq_true c29b0) (of_eq_true c30b0) (of_eq_true c31b0) (Kd.R_reads' (by assumption : Aside0 (Kd.R (Kd.int .u32) 85 _ _ _ (.slice Ao35 x11_1.length co35) _)).out).2.1 W⟩
    clear hi85_ hz85_ hs85_
    go_wp2_with (first | (refine xg Tryd.func112 (some 77) #[.slice A9_ (((wrap64 ((wrap64 (x13_1 + (l1.length : Int))) + 1)) : Int).toNat - (x13_1 : Int).toNat) (co35 - (x13_1 : Int).toNat), .slice Ao36 x10_1.length co36] ?_; (with_reducible refine (nt_step.calls k1 (fun k_ => some k_ = (.slice Ao35 x11_1.length co35 : Value).ownBlock) (.slice Ao35 x11_1.length co35) x11_1 _ _ x10_1 t468 t469 w _ ?side1 ?side2 ?side3 ?side4 A32.out (fun _ _ _ e_ => by injection e_ with q1 q2 q3; subst q1; subst q2; subst q3; exact ⟨hA9_.out, rfl, rfl⟩)).mono ?_); (case side1 => repeat (with_reducible exact HB.out)); (case side2 => exact Kd.R_tight rfl HO_11.out); (case side3 => exact Kd.C_kept_own (HO_10.out) (fun k_ hk_ hs_ => (hk_.2.1) hs_)); (case side4 => exact (Kd.R_reads' HO_10.out).2.1); rintro e w37 ⟨rfl, hy0, hb, hkp⟩; refine ⟨_, rfl, ?_⟩; replace HO_10 := Aside0.mk (Kd.R_mono (ok' := fun k_ => (w.heap.size ≤ k_) ∧ some k_ ≠ (.slice Ao35 x11_1.length co35 : Value).ownBlock ∧ some k_ ≠ (.slice Ao27 x12_1.length co27 : Value).ownBlock) (Kd.R_keptB (HO_10.out) hkp (fun k_ hk_ hs_ => (hk_.2.1) hs_)) (fun k_ hk_ => ⟨hk_.1.1, hk_.1.2.1, hk_.1.2.2⟩)); replace HO_11 := Aside0.mk (Kd.R_reok rfl hy0 (fun k_ e_ => HO_11.out.1 k_ e_)); replace HO_12 := Aside0.mk (Kd.R_mono (ok' := fun k_ => (w.heap.size ≤ k_) ∧ some k_ ≠ (.slice Ao36 x10_1.length co36 : Value).ownBlock ∧ some k_ ≠ (.slice Ao35 x11_1.length co35 : Value).ownBlock) (Kd.R_keptB (HO_12.out) hkp (fun k_ hk_ hs_ => (hk_.2.2) hs_)) (fun k_ hk_ => ⟨hk_.1.1, hk_.1.2.1, hk_.1.2.2⟩)); replace HB := Aside0.mk (hb); clear hb hkp hy0; have p34 : 0 ≤ (x13_1 : Int) := xa; have q34 : (x13_1 : Int) < ((x12_1.length : Int) : Int) := xa; obtain ⟨go34, co34, eo34, gb34, gl34, cl34, HG34⟩ := Kd.R_form HO_12.out (by omega); (cases eo34); have GB34 := Aside0.mk gb34; have GG34 := Aside0.mk HG34; clear gb34 gl34 HG34; obtain ⟨hx34_0, hf34_0⟩ := Kd.R_celln 0 HO_12.out (x13_1 : Int) p34 q34; replace p34 := eq_true p34; replace q34 := eq_true q34; obtain ⟨hy38_, hz38_⟩ := Kd.R_celln 0 HO_12.out (x13_1 : Int) (xa) (xa); have HP38 := Kd.R_putg HO_12.out (x13_1 : Int) t468) | (refine xst 85 78 (w37.setCell ⟨go34, (x13_1 : Int).toNat, none⟩ (.int .u32 t468)) ?_; intro w39 hw; have hg : w37.grownBy w39 (some go34) := (by rw [hw]; exact HP38.2); have hp_ : Kd.R (Kd.int .u32) 85 w39 w.heap.size (fun k_ => (w.heap.size ≤ k_) ∧ some k_ ≠ (.slice Ao36 x10_1.length co36 : Value).ownBlock ∧ some k_ ≠ (.slice Ao35 x11_1.length co35 : Value).ownBlock) (.slice (some ⟨go34, 0, none⟩) x12_1.length co27) y470 := (by rw [hw, Ny470.out]; exact HP38.1); clear HP38; replace HO_10 := Aside0.mk (Kd.R_after (v := (.slice (some ⟨go34, 0, none⟩) x12_1.length co27)) (v1 := (.slice (some ⟨go34, 0, none⟩) x12_1.length co27)) (ok := (fun k_ => (w.heap.size ≤ k_) ∧ some k_ ≠ (.slice Ao35 x11_1.length co35 : Value).ownBlock)) (by exact Kd.R_mono HO_10.out (fun _ hk => by exact ⟨⟨hk.1, hk.2.1⟩, hk.2.2⟩)) hg (.inl rfl)); replace HO_11 := Aside0.mk (Kd.R_after (v := (.slice (some ⟨go34, 0, none⟩) x12_1.length co27)) (v1 := (.slice (some ⟨go34, 0, none⟩) x12_1.length co27)) (ok := (fun k_ => (w.heap.size ≤ k_) ∧ some k_ ≠ (.slice Ao36 x10_1.length co36 : Value).ownBlock)) (by exact Kd.R_mono HO_11.out (fun _ hk => by exact ⟨⟨hk.1, hk.2.1⟩, hk.2.2⟩)) hg (.inl rfl)); replace HO_12 := Aside0.mk (hp_); replace HB := Aside0.mk (by rw [hw]; exact below_set (HB.out) GB34.out : Below w.heap.size w w39); clear hg hw hp_))
    (try simp only [← hl12_1])
    go_roundg k1
    case measure => have := HK1.out; omega
    case rel => exact ⟨(x10_1), (t469), (y470), (wrap64 (x13_1 - 1)), xz, H', ⟨by have := HK1.out; omega⟩, ⟨by (try simp only [hl12_1]); exact Kd.R_mono HO_10.out (fun _ hk => by exact ⟨hk.1.1, ⟨hk.1.2, hk.2⟩⟩)⟩, ⟨by (try simp only [hl12_1]); exact Kd.R_mono HO_11.out (fun _ hk => by exact ⟨hk.1.1, ⟨hk.1.2, hk.2⟩⟩)⟩, ⟨by (try simp only [hl12_1]); exact HO_12.out⟩, ⟨xs HB⟩⟩
   replace H := xH H; obtain ⟨t471, A40, H⟩ := H
   obtain ⟨c41, H⟩ := xQ H
   have c41b0 := eq_true c41
   have c41b1 := decide_eq_true c41
   clear c41
   obtain ⟨c42, H⟩ := xQ H
   have c42b0 := eq_true c42
   have c42b1 := decide_eq_true c42
   clear c42
   generalize hy474 : (x11_1.take ((l1.length : Int) : Int).toNat : List Int) = y474 at H
   have Ny474 := Aside0.mk hy474.symm
   clear hy474
   replace H := xH H; obtain ⟨t478, A43, H⟩ := H
   simp only [Option.some.injEq, Prod.mk.injEq] at H
   obtain ⟨rfl, rfl⟩ := H
   try go_wp2
   replace HO_10 := Aside0.mk (Kd.R_drew HO_10.out)
   replace HO_11 := Aside0.mk (Kd.R_drew HO_11.out)
   replace HO_12 := Aside0.mk (Kd.R_drew HO_12.out)
   replace HB := xW HB
   obtain ⟨Ao46, co46, eo46⟩ := Kd.R_slice HO_11.out
   subst eo46
   have q45 : ((l1.length : Int) : Int) ≤ ((x11_1.length : Int) : Int) := xa
   obtain ⟨i045, hi045, _, hsz45, _⟩ := info_parts info85
   have hroom45 : x11_1.length ≤ co46 := (Kd.R_reads' HO_11.out).2.1
   have hC45 : Kd.C (Kd.int .u32) _ Ao46 x11_1.length x11_1 := (Kd.R_reads' HO_11.out).2.2
   have hcut45 := cut_to (P := Tryd.prog) 83 85 .i64 Tryd.underlying83 hi045 Ao46 x11_1.length co46 (l1.length : Int) (xa) q45 hroom45
   have hr45 := Kd.C_take (m := ((l1.length : Int) : Int).toNat) hC45 (by omega)
   have hy45 : y474.length = ((l1.length : Int) : Int).toNat := (by rw [Ny474.out, List.length_take]; omega)
   rw [← Ny474.out] at hr45
   rw [← hy45] at hcut45
   have HR477 := Aside0.mk hr45
   have HC477 := Aside0.mk (show y474.length ≤ co46 from by omega)
   clear hr45 hC45 hroom45 hi045 hsz45
   have KY45 := Aside0.mk hy45
   clear hy45
   have KL45 := Aside0.mk (show ((l1.length : Int) : Int).toNat ≤ x11_1.length from by omega)
   replace q45 := eq_true q45
   refine start_ (n := 9) (S := fun w' => True) (ds := []) (b 9 0) (by kernel_rfl) rfl rfl trivial (fun hHeld => ?_); refine with_tabW nt_divide.tab15 nt_divide.bits15 (fun HT_ HW_ => ?_)
   generalize wr.drew = w44 at HO_10 HO_11 HO_12 HB HR477 hHeld ⊢
   refine yP 0 (some 79) (b 9 1) ?_
   refine yP 2 (some 81) (b 9 5) ?_
   refine yP 3 (some 82) (b 9 13) ?_
   refine yP 4 (some 83) (b 9 29) ?_
   refine yP 5 (some 84) (b 9 61) ?_
   refine yO 1 (some 80) (b 9 63) fun K hK => ?_
   refine goes_ Tryd.func98 (by kernel_rfl) rfl #[.slice Ao27 x12_1.length co27] (by rfl) rfl rfl (by (try simp only [List.map_toArray, List.map_cons, List.map_nil]); rfl) ?_
   with_reducible refine (nt_limbs_trim.calls k1 (fun k_ => some k_ = (.slice Ao27 x12_1.length co27 : Value).ownBlock) _ _ x12_1 t471 _ ?side1 A40.out).mono ?_
   (case side1 => exact Kd.R_V (Kd.R_tight rfl (HO_12.out)))
   rintro e w47 ⟨v472, rfl, ho0, hb⟩
   refine ⟨_, rfl, ?_⟩
   have HO473 := xVm w (fun k_ => (P0_ k_ ∨ w.heap.size ≤ k_) ∧ some k_ ≠ (v460 : Value).ownBlock ∧ some k_ ≠ (.slice Ao46 x11_1.length co46 : Value).ownBlock) ho0 (fun k_ hk_ => ⟨Or.elim hk_ (fun hs_ => (.inr (((HO_12.out).1 k_ hs_.symm).1))) (fun hn_ => (.inr (Nat.le_trans (below_size (xs HB)) hn_))), Or.elim hk_ (fun hs_ => ((HO_12.out).1 k_ hs_.symm).2.1) (fun hn_ => (Kd.fresh' (Kd.R_lt (xr HO_10.out)) k_ hn_)), Or.elim hk_ (fun hs_ => ((HO_12.out).1 k_ hs_.symm).2.2) (fun hn_ => (Kd.fresh' (Kd.R_lt (xr HO_11.out)) k_ hn_))⟩)
   replace HO_10 := xRb HO_10 hb
   replace HO_11 := xRb HO_11 hb
   replace HO_12 := xRb HO_12 hb
   replace HR477 := Aside0.mk (Kd.C_below (by repeat (with_reducible exact HR477.out)) hb)
   replace HB := xS HB hb
   clear hb ho0
   refine hK.out _ _ trivial (fun hHeld => ?_)
   clear hK K
   refine xN 80 ?_
   refine yO 6 (some 85) (b 9 127) fun K hK => ?_
   refine goes_ Tryd.func113 (by kernel_rfl) rfl #[.slice Ao46 y474.length co46, .int .u64 (IntKind.u64.wrap (t458))] (by rfl) rfl rfl (by (try simp only [List.map_toArray, List.map_cons, List.map_nil]); rfl) ?_
   with_reducible refine (nt_unshift.calls k1 _ _ y474 (IntKind.u64.wrap (t458)) t478 _ ?side1 ?side2 A43.out).mono ?_
   (case side1 => repeat (exact (by repeat (with_reducible exact HR477.out))))
   (case side2 => exact HC477.out)
   rintro e w48 ⟨v479, rfl, ho0, hb⟩
   refine ⟨_, rfl, ?_⟩
   replace HO473 := xVb HO473 hb
   have HO480 := xVm w (fun k_ => (P0_ k_ ∨ w.heap.size ≤ k_) ∧ some k_ ≠ (v460 : Value).ownBlock ∧ some k_ ≠ (.slice Ao46 x11_1.length co46 : Value).ownBlock ∧ some k_ ≠ (.slice Ao27 x12_1.length co27 : Value).ownBlock) ho0 (fun k_ hk_ => ⟨(.inr (Nat.le_trans (below_size (xs HB)) hk_)), (Kd.fresh' (Kd.R_lt (xr HO_10.out)) k_ hk_), (Kd.fresh' (Kd.R_lt (xr HO_11.out)) k_ hk_), (Kd.fresh' (Kd.R_lt (xr HO_12.out)) k_ hk_)⟩)
   replace HO_10 := xRb HO_10 hb
   replace HO_11 := xRb HO_11 hb
   replace HO_12 := xRb HO_12 hb
   replace HR477 := Aside0.mk (Kd.C_below (by repeat (with_reducible exact HR477.out)) hb)
   replace HB := xS HB hb
   clear hb ho0
   refine hK.out _ _ trivial (fun hHeld => ?_)
   clear hK K
   refine xN 85 ?_
   refine yP 7 (some 4) (b 9 255) ?_
   refine yP 8 (some 5) (b 9 511) ?_
   refine done_ (done_of HT_.out (by kernel_rfl)) ?_
   try go_wp2
   go_ret2
   exact ⟨_, _, by rfl, by exact Kd.V_mono HO473.out (fun _ hk => hk.1), by exact Kd.V_mono HO480.out (fun _ hk => hk.1), xs HB⟩
/-! ### nt_GCD: function 83 -/
def nt_GCD.l0 : Nat → List Int → List Int → Option (ByteArray)
 | 0, _, _ => none
 | k + 1, x5, x6 => if (x6.length : Int) > 0 then ((nt_divide.f k x5 x6).bind fun bt487 => (nt_GCD.l0 k x6 bt487.2)) else ((nt_limbs_text.f k x5).bind fun t493 => (some t493))
def nt_GCD.f (k : Nat) (a0 : ByteArray) (a1 : ByteArray) : Option (ByteArray) := (nt_parse.f k a0).bind fun t481 => ((nt_parse.f k a1).bind fun t484 => (nt_GCD.l0 k t481 t484))
theorem nt_GCD.mono_l : ∀ k, (∀ y0 y1, LeO (nt_GCD.l0 k y0 y1) (nt_GCD.l0 (k + 1) y0 y1))
 | 0 => fun _ _ r h => by simp [nt_GCD.l0] at h
 | k + 1 => by
  have ih0 := nt_GCD.mono_l k
  ·intro y0 y1
   unfold nt_GCD.l0
   have m0 := @ih0; have m1 := @nt_divide.mono; have m2 := @nt_limbs_text.mono; have m3 := @nt_parse.mono; exact xM
theorem nt_GCD.mono : ∀ a0 a1 k, LeO (nt_GCD.f k a0 a1) (nt_GCD.f (k + 1) a0 a1) := by
 intro a0 a1 k
 have ih0 := nt_GCD.mono_l k
 unfold nt_GCD.f
 have m0 := @ih0; have m1 := @nt_divide.mono; have m2 := @nt_limbs_text.mono; have m3 := @nt_parse.mono; exact xM
theorem nt_GCD.calls (k : Nat) (a0 : ByteArray) (a1 : ByteArray) (r : ByteArray) (w : World) (h : nt_GCD.f k a0 a1 = some r) :
  Calls Tryd.prog 83 #[.string a0, .string a1] w fun e w' => e = .returned (.string r) ∧ Below w.heap.size w w' := by
 have HB := Aside0.mk (Below.refl w.heap.size w)
 have H := h; clear h
 unfold nt_GCD.f at H
 replace H := xH H; obtain ⟨t481, A3, H⟩ := H
 replace H := xH H; obtain ⟨t484, A4, H⟩ := H
 have H' := Aside0.mk H
 clear H
 go_enter Tryd.func83, Tryd.ntmps83
 go_wp2_with (first | (refine xg Tryd.func77 (some 10) #[.string a0] ?_; (with_reducible refine (nt_parse.calls k a0 t481 _ A3.out).mono ?_); rintro e w5 ⟨v482, rfl, ho0, hb⟩; refine ⟨_, rfl, ?_⟩; have HO483 := xVm w (fun k_ => True) ho0 (fun k_ hk_ => trivial); replace HB := xS HB hb; clear hb ho0) | (refine xg Tryd.func77 (some 12) #[.string a1] ?_; (with_reducible refine (nt_parse.calls k a1 t484 _ A4.out).mono ?_); rintro e w6 ⟨v485, rfl, ho0, hb⟩; refine ⟨_, rfl, ?_⟩; replace HO483 := xVb HO483 hb; have HO486 := xVm w (fun k_ => True) ho0 (fun k_ hk_ => trivial); replace HB := xS HB hb; clear hb ho0))
 go_loopg [5, 6] k (fun kq v5 v6 w' => ∃ (x5_1 : List Int) (x6_1 : List Int), Aside0 (nt_GCD.l0 kq x5_1 x6_1 = some r) ∧ Aside0 (kq ≤ k) ∧ Aside0 (Kd.V (Kd.int .u32) 85 w' w.heap.size (fun _ => True) v5 x5_1) ∧ Aside0 (Kd.V (Kd.int .u32) 85 w' w.heap.size (fun _ => True) v6 x6_1) ∧ Aside0 (Below w.heap.size w w'))
 case atStart => exact ⟨(t481), (t484), H', ⟨Nat.le_refl _⟩, ⟨xv HO483.out⟩, ⟨xv HO486.out⟩, ⟨xs HB⟩⟩
 case round =>
  clear H'
  obtain ⟨x5_1, x6_1, HA, HK1, HO_5, HO_6, HB⟩ := hrel
  cases gk with
  | zero => exact absurd HA.out (by simp [nt_GCD.l0])
  | succ k1 =>
   have H := HA.out
   clear HA
   simp only [nt_GCD.l0] at H
   obtain ⟨c7, H⟩ | ⟨c7, H⟩ := xO H
   ·have c7b0 := decide_eq_true c7
    have c7b1 : decide (0 < x6_1.length) = true := decide_eq_true (by omega)
    clear c7
    replace H := xH H; obtain ⟨⟨t487, t490⟩, A8, H⟩ := H
    dsimp only at H
    have H' := Aside0.mk H
    clear H
    obtain ⟨Ao9, co9, eo9⟩ := Kd.V_slice HO_6.out
    subst eo9
    obtain ⟨Ao10, co10, eo10⟩ := Kd.V_slice HO_5.out
    subst eo10
    go_wp2_with (refine xg Tryd.func99 (some 19) #[.slice Ao10 x5_1.length co10, .slice Ao9 x6_1.length co9] ?_; (with_reducible refine (nt_divide.calls k1 (fun k_ => True) _ _ x5_1 _ _ x6_1 t487 t490 _ HO_5.out (xf (Kd.V_reads' HO_6.out).2.2) (Kd.V_reads' HO_6.out).2.1 A8.out).mono ?_); rintro e w11 ⟨v488, v491, rfl, ho0, ho1, hb⟩; refine ⟨_, rfl, ?_⟩; replace HO_5 := xVb HO_5 hb; replace HO_6 := xVb HO_6 hb; have HO489 := xVm w (fun k_ => True) ho0 (fun k_ hk_ => trivial); have HO492 := xVm w (fun k_ => True) ho1 (fun k_ hk_ => trivial); replace HB := xS HB hb; clear hb ho0 ho1)
    go_roundg k1
    case measure => have := HK1.out; omega
    case rel => exact ⟨(x6_1), (t490), H', ⟨by have := HK1.out; omega⟩, ⟨xv HO_6.out⟩, ⟨xv HO492.out⟩, ⟨xs HB⟩⟩
   have c7b0 := decide_eq_false c7
   have c7b1 : decide (0 < x6_1.length) = false := decide_eq_false (by omega)
   clear c7
   replace H := xH H; obtain ⟨t493, A12, H⟩ := H
   obtain rfl := Option.some.inj H
   obtain ⟨Ao13, co13, eo13⟩ := Kd.V_slice HO_6.out
   subst eo13
   obtain ⟨Ao14, co14, eo14⟩ := Kd.V_slice HO_5.out
   subst eo14
   go_wp2_with (refine xg Tryd.func78 (some 25) #[.slice Ao14 x5_1.length co14] ?_; (with_reducible refine (nt_limbs_text.calls k1 _ _ x5_1 t493 _ (xf (Kd.V_reads' HO_5.out).2.2) (Kd.V_reads' HO_5.out).2.1 A12.out).mono ?_); rintro e w15 ⟨rfl, hb⟩; refine ⟨_, rfl, ?_⟩; replace HO_5 := xVb HO_5 hb; replace HO_6 := xVb HO_6 hb; replace HB := xS HB hb; clear hb)
   go_ret
   exact ⟨xy, xs HB⟩
/-! ### rt_Valid: function 62 -/
def rt_Valid.j0 : Nat → Bool → Bool → ByteArray → ByteArray → Option (Bool)
 | 0, _, _, _, _ => none
 | k + 1, x16, x495000, x495001, x495002 => if x16 = true then (some false) else (if x495001.toList = ([] : List UInt8) then (if x495000 = true then (some false) else (some (x495002.toList == ([] : List UInt8)))) else (if x495002.toList = ([] : List UInt8) then (some true) else (if x495002.toList = ([1] : List UInt8) then (some false) else ((nt_GCD.f k x495001 x495002).bind fun t497 => (some (t497.toList == ([1] : List UInt8)))))))
def rt_Valid.f (k : Nat) (a0_0 : Bool) (a0_1 : ByteArray) (a0_2 : ByteArray) : Option (Bool) := (nt_Normalize.f k a0_1).bind fun t495 => (if t495.toList = a0_1.toList then ((nt_Normalize.f k a0_2).bind fun t496 => (rt_Valid.j0 k (t496.toList != a0_2.toList) a0_0 a0_1 a0_2)) else (rt_Valid.j0 k true a0_0 a0_1 a0_2))
theorem rt_Valid.mono_l : ∀ k, (∀ y0 y1 y2 y3, LeO (rt_Valid.j0 k y0 y1 y2 y3) (rt_Valid.j0 (k + 1) y0 y1 y2 y3))
 | 0 => fun _ _ _ _ r h => by simp [rt_Valid.j0] at h
 | k + 1 => by
  have ih0 := rt_Valid.mono_l k
  ·intro y0 y1 y2 y3
   unfold rt_Valid.j0
   have m0 := @ih0; have m1 := @nt_GCD.mono; have m2 := @nt_Normalize.mono; exact xM
theorem rt_Valid.mono : ∀ a0 a1 a2 k, LeO (rt_Valid.f k a0 a1 a2) (rt_Valid.f (k + 1) a0 a1 a2) := by
 intro a0 a1 a2 k
 have ih0 := rt_Valid.mono_l k
 unfold rt_Valid.f
 have m0 := @ih0; have m1 := @nt_GCD.mono; have m2 := @nt_Normalize.mono; exact xM
def rt_Valid.T1 : Bool × List (List Nat × List Nat) := (true, [([], []), ([0], [0]), ([1], [1]), ([], []), ([3], [3]), ([2, 4], [2, 4]), ([5, 2], [5]), ([6], [6]), ([7, 6], [6, 7]), ([8, 6, 6], [6, 8]), ([6], [6]), ([10, 6], [6, 10]), ([9, 11, 6], [6, 9, 11]), ([6, 12], [6, 12])])
def rt_Valid.B1 : List Nat := [0, 1, 3, 0, 8, 31, 63, 127, 255, 511, 127, 1151, 4095, 8191]
theorem rt_Valid.tab1 : rtab .any (opsOf Tryd.f62 1) = rt_Valid.T1 := by kernel_rfl
theorem rt_Valid.bits1 : waitsOk rt_Valid.T1.2 rt_Valid.B1 = true := by kernel_rfl
theorem rt_Valid.calls (k : Nat) (a0_0 : Bool) (a0_1 : ByteArray) (a0_2 : ByteArray) (r : Bool) (w : World) (h : rt_Valid.f k a0_0 a0_1 a0_2 = some r) :
  Calls Tryd.prog 62 #[.agg #[.bool a0_0, .string a0_1, .string a0_2]] w fun e w' => e = .returned (.bool r) ∧ Below w.heap.size w w' := by
 have hu25 := Tryd.underlying25
 have HB := Aside0.mk (Below.refl w.heap.size w)
 have H := h; clear h
 unfold rt_Valid.f at H
 have HC2 := Aside0.mk H
 clear H
 go_enter Tryd.func62, Tryd.ntmps62
 go_upto_region 1 with (refine xF (N := 1) #[.bool a0_0, .string a0_1, .string a0_2] 25 HB ?_; clear HB; intro gb494 hg w3 hb BK494 GW494 HB; clear hb hg)
 go_cut [16] (fun v16 wc => ∃ (kq : Nat) (x16_1 : Bool), v16 = .bool x16_1 ∧ Aside0 (rt_Valid.j0 kq x16_1 a0_0 a0_1 a0_2 = some r) ∧ Aside0 (kq ≤ k) ∧ Aside0 (wc.heap[gb494]? = some (.cells #[.bool a0_0, .string a0_1, .string a0_2] 25 (0, 0))) ∧ Aside0 (Below w.heap.size w wc))
 case first =>
  have H := HC2.out
  clear HC2
  replace H := xH H; obtain ⟨t495, A4, H⟩ := H
  obtain ⟨c5, H⟩ | ⟨c5, H⟩ := xO H
  ·have c5b0 := beq_iff_eq.mpr c5
   have c5b1 := bne_eq_false_iff_eq.mpr c5
   clear c5
   skip
   replace H := xH H; obtain ⟨t496, A6, H⟩ := H
   have H' := Aside0.mk H
   clear H
   try go_wp2
   replace BK494 := xD BK494
   replace HB := xW HB
   refine start_ (n := 14) (S := fun w' => w'.cell? ⟨gb494, 0, none⟩ = some (.bool a0_0) ∧ w'.cell? ⟨gb494, 1, none⟩ = some (.string a0_1) ∧ w'.cell? ⟨gb494, 2, none⟩ = some (.string a0_2)) (ds := []) (b 14 0) (by kernel_rfl) rfl rfl xV (fun hHeld => ?_); refine with_tabW rt_Valid.tab1 rt_Valid.bits1 (fun HT_ HW_ => ?_)
   generalize w3.drew = w7 at BK494 HB hHeld ⊢
   refine yP 0 (some 3) (b 14 1) ?_
   refine yP 3 (some 6) (b 14 9) ?_
   refine yT 1 (some 4) (b 14 11) hHeld ?_
   refine yT 4 (some 7) (b 14 27) hHeld ?_
   refine yO 2 (some 5) (b 14 31) fun K hK => ?_
   refine xc Tryd.func74 (nt_Normalize.calls k a0_1 t495 _ A4.out) ?_
   rintro w8 hb
   replace BK494 := xB BK494 hb
   replace HB := xS HB hb
   clear hb
   refine hK.out _ _ xV (fun hHeld => ?_)
   clear hK K
   refine xN 5 ?_
   refine yP 5 (some 8) (b 14 63) ?_
   refine yP 6 (some 9) (b 14 127) ?_
   refine yP 7 (some 10) (b 14 255) ?_
   refine yP 10 (some 13) (b 14 1279) ?_
   refine yT 8 (some 11) (b 14 1535) hHeld ?_
   refine yT 11 (some 14) (b 14 3583) hHeld ?_
   refine yO 9 (some 12) (b 14 4095) fun K hK => ?_
   refine xc Tryd.func74 (nt_Normalize.calls k a0_2 t496 _ A6.out) ?_
   rintro w9 hb
   replace BK494 := xB BK494 hb
   replace HB := xS HB hb
   clear hb
   refine hK.out _ _ xV (fun hHeld => ?_)
   clear hK K
   refine xN 12 ?_
   refine yP 12 (some 15) (b 14 8191) ?_
   refine yP 13 (some 16) (b 14 16383) ?_
   refine done_ (done_of HT_.out (by kernel_rfl)) ?_
   try go_wp2
   go_meet
   case rel => exact ⟨_, (t496.toList != a0_2.toList), xz, H', ⟨by omega⟩, ⟨xb BK494⟩, ⟨xs HB⟩⟩
  have c5b0 := beq_eq_false_iff_ne.mpr c5
  have c5b1 := bne_iff_ne.mpr c5
  skip
  have H' := Aside0.mk H
  clear H
  try go_wp2
  replace BK494 := xD BK494
  replace HB := xW HB
  refine start_ (n := 14) (S := fun w' => w'.cell? ⟨gb494, 0, none⟩ = some (.bool a0_0) ∧ w'.cell? ⟨gb494, 1, none⟩ = some (.string a0_1) ∧ w'.cell? ⟨gb494, 2, none⟩ = some (.string a0_2)) (ds := []) (b 14 0) (by kernel_rfl) rfl rfl xV (fun hHeld => ?_); refine with_tabW rt_Valid.tab1 rt_Valid.bits1 (fun HT_ HW_ => ?_)
  generalize w3.drew = w10 at BK494 HB hHeld ⊢
  refine yP 0 (some 3) (b 14 1) ?_
  refine yP 3 (some 6) (b 14 9) ?_
  refine yT 1 (some 4) (b 14 11) hHeld ?_
  refine yT 4 (some 7) (b 14 27) hHeld ?_
  refine yO 2 (some 5) (b 14 31) fun K hK => ?_
  refine xc Tryd.func74 (nt_Normalize.calls k a0_1 t495 _ A4.out) ?_
  rintro w11 hb
  replace BK494 := xB BK494 hb
  replace HB := xS HB hb
  clear hb
  refine hK.out _ _ xV (fun hHeld => ?_)
  clear hK K
  refine xN 5 ?_
  refine yP 5 (some 8) (b 14 63) ?_
  refine yP 6 (some 9) (b 14 127) ?_
  refine yU 7 (some 10) (b 14 255) ?_
  refine yU 8 (some 11) (b 14 511) ?_
  refine yU 9 (some 12) (b 14 1023) ?_
  refine yU 10 (some 13) (b 14 2047) ?_
  refine yU 11 (some 14) (b 14 4095) ?_
  refine yU 12 (some 15) (b 14 8191) ?_
  refine yP 13 (some 16) (b 14 16383) ?_
  refine done_ (done_of HT_.out (by kernel_rfl)) ?_
  try go_wp2
  go_meet
  case rel => exact ⟨_, (true), xz, H', ⟨by omega⟩, ⟨xb BK494⟩, ⟨xs HB⟩⟩
 case rest =>
  clear HC2
  obtain ⟨kq, x16_1, rfl, HA, HJ1, BK494, HB⟩ := hcut
  cases kq with
  | zero => exact absurd HA.out (by simp [rt_Valid.j0])
  | succ kj1 =>
   have H := HA.out
   clear HA
   simp only [rt_Valid.j0] at H
   by_cases c12 : x16_1 = true
   ·subst c12
    replace H := xI H
    obtain rfl := Option.some.inj H
    go_wp2
    go_ret
    exact ⟨xy, xs HB⟩
   replace c12 := Bool.eq_false_iff.mpr c12
   subst c12
   have H1 : (if a0_1.toList = ([] : List UInt8) then (if a0_0 = true then (some false) else (some (a0_2.toList == ([] : List UInt8)))) else (if a0_2.toList = ([] : List UInt8) then (some true) else (if a0_2.toList = ([1] : List UInt8) then (some false) else ((nt_GCD.f kj1 a0_1 a0_2).bind fun t497 => (some (t497.toList == ([1] : List UInt8))))))) = some r := by rw [if_neg (show ¬ (false = true) by decide)] at H; exact H
   clear H
   have H := H1
   clear H1
   obtain ⟨c13, H⟩ | ⟨c13, H⟩ := xO H
   ·have c13b0 := beq_iff_eq.mpr c13
    have c13b1 := bne_eq_false_iff_eq.mpr c13
    clear c13
    by_cases c14 : a0_0 = true
    ·subst c14
     replace H := xI H
     obtain rfl := Option.some.inj H
     obtain ⟨hcz15_0, hcz15_1, hcz15_2, hfz15_0, hfz15_1, hfz15_2⟩ := x6 BK494
     go_wp2
     go_ret
     exact ⟨xy, xs HB⟩
    replace c14 := Bool.eq_false_iff.mpr c14
    subst c14
    have H1 : (some (a0_2.toList == ([] : List UInt8))) = some r := by rw [if_neg (show ¬ (false = true) by decide)] at H; exact H
    clear H
    have H := H1
    clear H1
    obtain rfl := Option.some.inj H
    obtain ⟨hcz16_0, hcz16_1, hcz16_2, hfz16_0, hfz16_1, hfz16_2⟩ := x6 BK494
    go_wp2
    go_ret
    exact ⟨xy, xs HB⟩
   have c13b0 := beq_eq_false_iff_ne.mpr c13
   have c13b1 := bne_iff_ne.mpr c13
   obtain ⟨c17, H⟩ | ⟨c17, H⟩ := xO H
   ·have c17b0 := beq_iff_eq.mpr c17
    have c17b1 := bne_eq_false_iff_eq.mpr c17
    clear c17
    obtain rfl := Option.some.inj H
    obtain ⟨hcz18_0, hcz18_1, hcz18_2, hfz18_0, hfz18_1, hfz18_2⟩ := x6 BK494
    go_wp2
    go_ret
    exact ⟨xy, xs HB⟩
   have c17b0 := beq_eq_false_iff_ne.mpr c17
   have c17b1 := bne_iff_ne.mpr c17
   obtain ⟨c19, H⟩ | ⟨c19, H⟩ := xO H
   ·have c19b0 := beq_iff_eq.mpr c19
    have c19b1 := bne_eq_false_iff_eq.mpr c19
    clear c19
    obtain rfl := Option.some.inj H
    obtain ⟨hcz20_0, hcz20_1, hcz20_2, hfz20_0, hfz20_1, hfz20_2⟩ := x6 BK494
    go_wp2
    go_ret
    exact ⟨xy, xs HB⟩
   have c19b0 := beq_eq_false_iff_ne.mpr c19
   have c19b1 := bne_iff_ne.mpr c19
   replace H := xH H; obtain ⟨t497, A21, H⟩ := H
   obtain rfl := Option.some.inj H
   obtain ⟨hcz22_0, hcz22_1, hcz22_2, hfz22_0, hfz22_1, hfz22_2⟩ := x6 BK494
   go_wp2_with (go_at_call 83; (with_reducible refine (nt_GCD.calls kj1 a0_1 a0_2 t497 _ A21.out).mono ?_); rintro e w23 ⟨rfl, hb⟩; replace BK494 := xB BK494 hb; replace HB := xS HB hb; clear hb)
   go_ret
   exact ⟨xy, xs HB⟩
/-! ### rt_clean: function 38 -/
def rt_clean.f (k : Nat) (a0_0 : Bool) (a0_1 : ByteArray) (a0_2 : ByteArray) : Option (Bool × ByteArray × ByteArray) := (rt_Valid.f k a0_0 a0_1 a0_2).bind fun t500 => (if t500 = true then (some (a0_0, a0_1, a0_2)) else (some (false, (⟨#[]⟩ : ByteArray), (⟨#[]⟩ : ByteArray))))
theorem rt_clean.mono : ∀ a0 a1 a2 k, LeO (rt_clean.f k a0 a1 a2) (rt_clean.f (k + 1) a0 a1 a2) := by
 intro a0 a1 a2 k
 unfold rt_clean.f
 have m0 := @rt_Valid.mono; exact xM
theorem rt_clean.calls (k : Nat) (a0_0 : Bool) (a0_1 : ByteArray) (a0_2 : ByteArray) (r1 : Bool) (r2 : ByteArray) (r3 : ByteArray) (w : World) (h : rt_clean.f k a0_0 a0_1 a0_2 = some (r1, r2, r3)) :
  Calls Tryd.prog 38 #[.agg #[.bool a0_0, .string a0_1, .string a0_2]] w fun e w' => e = .returned (.agg #[.bool r1, .string r2, .string r3]) ∧ Below w.heap.size w w' := by
 have hu25 := Tryd.underlying25
 have HB := Aside0.mk (Below.refl w.heap.size w)
 have H := h; clear h
 unfold rt_clean.f at H
 replace H := xH H; obtain ⟨t500, A2, H⟩ := H
 by_cases c3 : t500 = true
 ·subst c3
  replace H := xI H
  simp only [Option.some.injEq, Prod.mk.injEq] at H
  obtain ⟨rfl, rfl, rfl⟩ := H
  go_enter Tryd.func38, Tryd.ntmps38
  go_wp2_with (first | (refine xF (N := 1) #[.bool a0_0, .string a0_1, .string a0_2] 25 HB ?_; clear HB; intro gb498 hg w4 hb BK498 GW498 HB; clear hb hg) | (refine xF (N := 2) #[.bool false, .string (⟨#[]⟩ : ByteArray), .string (⟨#[]⟩ : ByteArray)] 25 HB ?_; clear HB; intro gb499 hg w5 hb BK499 GW499 HB; have NB498_499 := xL BK498 hg; have NB499_498 := xR BK498 hg; replace BK498 := xB BK498 hb; clear hb hg; have hnb6 := NB498_499.out; have hnc6 := NB499_498.out; obtain ⟨hcz7_0, hcz7_1, hcz7_2, hfz7_0, hfz7_1, hfz7_2⟩ := x6 BK498) | (refine xC Tryd.func62 (some 4) (rt_Valid.calls k a0_0 a0_1 a0_2 true _ A2.out) ?_; rintro w8 hb; replace BK498 := xB BK498 hb; replace BK499 := xB BK499 hb; replace HB := xS HB hb; clear hb; obtain ⟨hcz9_0, hcz9_1, hcz9_2, hfz9_0, hfz9_1, hfz9_2⟩ := x6 BK498; obtain ⟨hcz10_0, hcz10_1, hcz10_2, hfz10_0, hfz10_1, hfz10_2⟩ := x6 BK499))
  refine bodyPost_ret (results_cell_row rfl _ _ gb499 25 #[.bool a0_0, .string a0_1, .string a0_2] (0, 0) _ rfl (xp BK499) Tryd.underlying25 rfl (by kernel_rfl)) rfl ?_
  exact ⟨xy, xs HB⟩
 replace c3 := Bool.eq_false_iff.mpr c3
 subst c3
 have H1 : (some (false, (⟨#[]⟩ : ByteArray), (⟨#[]⟩ : ByteArray))) = some (r1, r2, r3) := by rw [if_neg (show ¬ (false = true) by decide)] at H; exact H
 clear H
 have H := H1
 clear H1
 simp only [Option.some.injEq, Prod.mk.injEq] at H
 obtain ⟨rfl, rfl, rfl⟩ := H
 go_enter Tryd.func38, Tryd.ntmps38
 go_wp2_with (first | (refine xF (N := 1) #[.bool a0_0, .string a0_1, .string a0_2] 25 HB ?_; clear HB; intro gb498 hg w11 hb BK498 GW498 HB; clear hb hg) | (refine xF (N := 2) #[.bool false, .string (⟨#[]⟩ : ByteArray), .string (⟨#[]⟩ : ByteArray)] 25 HB ?_; clear HB; intro gb499 hg w12 hb BK499 GW499 HB; have NB498_499 := xL BK498 hg; have NB499_498 := xR BK498 hg; replace BK498 := xB BK498 hb; clear hb hg; have hnb13 := NB498_499.out; have hnc13 := NB499_498.out; obtain ⟨hcz14_0, hcz14_1, hcz14_2, hfz14_0, hfz14_1, hfz14_2⟩ := x6 BK498) | (refine xC Tryd.func62 (some 4) (rt_Valid.calls k a0_0 a0_1 a0_2 false _ A2.out) ?_; rintro w15 hb; replace BK498 := xB BK498 hb; replace BK499 := xB BK499 hb; replace HB := xS HB hb; clear hb; obtain ⟨hcz16_0, hcz16_1, hcz16_2, hfz16_0, hfz16_1, hfz16_2⟩ := x6 BK499))
 refine bodyPost_ret (results_cell_row rfl _ _ gb499 25 #[.bool false, .string (⟨#[]⟩ : ByteArray), .string (⟨#[]⟩ : ByteArray)] (0, 0) _ rfl (xp BK499) Tryd.underlying25 rfl (by kernel_rfl)) rfl ?_
 exact ⟨xy, xs HB⟩
/-! ### nt_Multiply: function 48 -/
mutual
def nt_Multiply.l0 : Nat → List Int → List Int → List Int → Int → Int → Option (ByteArray)
 | 0, _, _, _, _, _ => none
 | k + 1, x6, x7, x24, x25, x26 => if x26 < x25 then (if 0 ≤ x26 then (if x26 < (x24.length : Int) then (nt_Multiply.l1 k x6 x7 x26 (rd x24 x26) 0 x24 x25 x26 x6 (x6.length : Int) 0) else (none)) else (none)) else ((nt_limbs_text.f k x7).bind fun t510 => (some t510))
def nt_Multiply.l1 : Nat → List Int → List Int → Int → Int → Int → List Int → Int → Int → List Int → Int → Int → Option (ByteArray)
 | 0, _, _, _, _, _, _, _, _, _, _, _ => none
 | k + 1, x6, x7, x8, x9, x10, x24, x25, x26, x31, x32, x33 => if x33 < x32 then (if 0 ≤ x33 then (if x33 < (x31.length : Int) then (if 0 ≤ (wrap64 (x8 + x33)) then (if (wrap64 (x8 + x33)) < (x7.length : Int) then (nt_Multiply.l1 k x6 (x7.set ((wrap64 (x8 + x33)) : Int).toNat ((IntKind.u64.wrap ((IntKind.u64.wrap ((IntKind.u64.wrap ((IntKind.u64.wrap (x9)) * (IntKind.u64.wrap (rd x31 x33)))) + (IntKind.u64.wrap (rd x7 (wrap64 (x8 + x33)))))) + x10)) % 4294967296)) x8 x9 ((IntKind.u64.wrap ((IntKind.u64.wrap ((IntKind.u64.wrap ((IntKind.u64.wrap (x9)) * (IntKind.u64.wrap (rd x31 x33)))) + (IntKind.u64.wrap (rd x7 (wrap64 (x8 + x33)))))) + x10)) / 4294967296) x24 x25 x26 x31 x32 (wrap64 (x33 + 1))) else (none)) else (none)) else (none)) else (none)) else (if 0 ≤ (wrap64 (x8 + (x6.length : Int))) then (if (wrap64 (x8 + (x6.length : Int))) < (x7.length : Int) then (nt_Multiply.l0 k x6 (x7.set ((wrap64 (x8 + (x6.length : Int))) : Int).toNat ((x10) % 4294967296)) x24 x25 (wrap64 (x26 + 1))) else (none)) else (none))
end
def nt_Multiply.f (k : Nat) (a0 : ByteArray) (a1 : ByteArray) : Option (ByteArray) := (nt_parse.f k a0).bind fun t501 => ((nt_parse.f k a1).bind fun t504 => (if 0 ≤ (wrap64 ((t501.length : Int) + (t504.length : Int))) then (if (wrap64 ((t501.length : Int) + (t504.length : Int)) : Int).toNat ≤ 70368744177664 then (nt_Multiply.l0 k t504 (List.replicate (wrap64 ((t501.length : Int) + (t504.length : Int)) : Int).toNat 0) t501 (t501.length : Int) 0) else (none)) else (none)))
theorem nt_Multiply.mono_l : ∀ k, (∀ y0 y1 y2 y3 y4, LeO (nt_Multiply.l0 k y0 y1 y2 y3 y4) (nt_Multiply.l0 (k + 1) y0 y1 y2 y3 y4)) ∧ (∀ y0 y1 y2 y3 y4 y5 y6 y7 y8 y9 y10, LeO (nt_Multiply.l1 k y0 y1 y2 y3 y4 y5 y6 y7 y8 y9 y10) (nt_Multiply.l1 (k + 1) y0 y1 y2 y3 y4 y5 y6 y7 y8 y9 y10))
 | 0 => ⟨fun _ _ _ _ _ r h => by simp [nt_Multiply.l0] at h, fun _ _ _ _ _ _ _ _ _ _ _ r h => by simp [nt_Multiply.l1] at h⟩
 | k + 1 => by
  obtain ⟨ih0, ih1⟩ := nt_Multiply.mono_l k
  refine ⟨?_, ?_⟩
  ·intro y0 y1 y2 y3 y4
   unfold nt_Multiply.l0
   have m0 := @ih0; have m1 := @ih1; have m2 := @nt_limbs_text.mono; have m3 := @nt_parse.mono; exact xM
  ·intro y0 y1 y2 y3 y4 y5 y6 y7 y8 y9 y10
   unfold nt_Multiply.l1
   have m0 := @ih0; have m1 := @ih1; have m2 := @nt_limbs_text.mono; have m3 := @nt_parse.mono; exact xM
theorem nt_Multiply.mono : ∀ a0 a1 k, LeO (nt_Multiply.f k a0 a1) (nt_Multiply.f (k + 1) a0 a1) := by
 intro a0 a1 k
 obtain ⟨ih0, ih1⟩ := nt_Multiply.mono_l k
 unfold nt_Multiply.f
 have m0 := @ih0; have m1 := @ih1; have m2 := @nt_limbs_text.mono; have m3 := @nt_parse.mono; exact xM
theorem nt_Multiply.calls (k : Nat) (a0 : ByteArray) (a1 : ByteArray) (r : ByteArray) (w : World) (h : nt_Multiply.f k a0 a1 = some r) :
  Calls Tryd.prog 48 #[.string a0, .string a1] w fun e w' => e = .returned (.string r) ∧ Below w.heap.size w w' := by
 have HB := Aside0.mk (Below.refl w.heap.size w)
 have H := h; clear h
 unfold nt_Multiply.f at H
 replace H := xH H; obtain ⟨t501, A3, H⟩ := H
 replace H := xH H; obtain ⟨t504, A4, H⟩ := H
 generalize hji5 : (wrap64 ((t501.length : Int) + (t504.length : Int))) = ji5 at H
 have hji5w : (IntKind.i64.wrap ((t501.length : Int) + (t504.length : Int))) = ji5 := (i64_w _).trans hji5
 obtain ⟨c6b0, c6b1, H⟩ := xQt H
 obtain ⟨c7b0, c7b1, H⟩ := xQt H
 generalize hy507 : (List.replicate (ji5 : Int).toNat 0 : List Int) = y507 at H
 have Ny507 := Aside0.mk hy507.symm
 clear hy507
 have H' := Aside0.mk H
 clear H
 go_enter Tryd.func48, Tryd.ntmps48
 go_wp2_with (first | (refine xg Tryd.func77 (some 15) #[.string a0] ?_; (with_reducible refine (nt_parse.calls k a0 t501 _ A3.out).mono ?_); rintro e w8 ⟨v502, rfl, ho0, hb⟩; refine ⟨_, rfl, ?_⟩; have HO503 := xVm w (fun k_ => True) ho0 (fun k_ hk_ => trivial); replace HB := xS HB hb; clear hb ho0) | (refine xg Tryd.func77 (some 17) #[.string a1] ?_; (with_reducible refine (nt_parse.calls k a1 t504 _ A4.out).mono ?_); rintro e w9 ⟨v505, rfl, ho0, hb⟩; refine ⟨_, rfl, ?_⟩; replace HO503 := xVb HO503 hb; have HO506 := xVm w (fun k_ => True) ho0 (fun k_ hk_ => trivial); replace HB := xS HB hb; clear hb ho0; obtain ⟨Ao10, co10, eo10⟩ := Kd.V_slice HO503.out; subst eo10; obtain ⟨Ao11, co11, eo11⟩ := Kd.V_slice HO506.out; subst eo11) | ((with_reducible refine gate_dst (N := 23) rfl ?_); refine Kd.R_make (Kd.int .u32) _ 85 rfl (N := 23) rfl 83 _ _ rfl ji5 rfl rfl Tryd.underlying83 (.int .u32 0) 4 info85 rfl (by decide) (by omega) 0 (ok := fun _ => True) (okp := fun _ => True) rfl (fun _ hk => hk) trivial (xa) (Nat.le_trans (Nat.mul_le_mul_right _ (xa : ji5.toNat ≤ 70368744177664)) (by omega)) (Below.refl _ _) (Nat.le_refl _) ?_; intro v508 w12 ho13 hb hg_ hnew_; clear hg_ hnew_; (rw [← Ny507.out] at ho13); replace HO503 := Aside0.mk (Kd.V_elder' (xv HO503.out) (Kd.R_base ho13) hb); replace HO506 := Aside0.mk (Kd.V_elder' (xv HO506.out) (Kd.R_base ho13) hb); have HO509 := Aside0.mk (Kd.R_lower ho13 (below_size (xs HB))); replace HB := xS HB hb; clear hb ho13))
 go_loopg [26] k (fun kq v26 w' => ∃ (x7_1 : List Int) (x26_1 : Int), v26 = .int .i64 x26_1 ∧ Aside0 (nt_Multiply.l0 kq t504 x7_1 t501 (t501.length : Int) x26_1 = some r) ∧ Aside0 (kq ≤ k) ∧ Aside0 (Kd.V (Kd.int .u32) 85 w' w.heap.size (fun k_ => some k_ ≠ (v508 : Value).ownBlock) (.slice Ao11 t504.length co11) t504) ∧ Aside0 (Kd.R (Kd.int .u32) 85 w' w.heap.size (fun _ => True) v508 x7_1) ∧ Aside0 (Kd.V (Kd.int .u32) 85 w' w.heap.size (fun k_ => some k_ ≠ (v508 : Value).ownBlock) (.slice Ao10 t501.length co10) t501) ∧ Aside0 (Below w.heap.size w w'))
 case atStart => exact ⟨(y507), (0), xz, H', ⟨Nat.le_refl _⟩, ⟨by exact Kd.V_mono HO506.out (fun _ hk => hk.2)⟩, ⟨xr HO509.out⟩, ⟨by exact Kd.V_mono HO503.out (fun _ hk => hk.2)⟩, ⟨xs HB⟩⟩
 case round =>
  clear H'
  clear c6b0 c6b1 c7b0 c7b1
  obtain ⟨x7_1, x26_1, rfl, HA, HK1, HO_6, HO_7, HO_24, HB⟩ := hrel
  cases gk with
  | zero => exact absurd HA.out (by simp [nt_Multiply.l0])
  | succ k1 =>
   have H := HA.out
   clear HA
   simp only [nt_Multiply.l0] at H
   obtain ⟨c14b0, H⟩ | ⟨c14b0, H⟩ := xOd H
   ·obtain ⟨c15b0, H⟩ := xQd H
    obtain ⟨c16b0, H⟩ := xQd H
    have H' := Aside0.mk H
    clear H
    obtain ⟨p511, q511, ad511, e511, hx511_0⟩ := xA (Kd.at_int (Kd.V_reads' HO_24.out).2.2 x26_1)
    cases e511
    go_wp2
    go_loopg [10, 33] k1 (fun kq v10 v33 w' => ∃ (x7_2 : List Int) (x10_2 : Int) (x33_2 : Int), v10 = .int .u64 x10_2 ∧ v33 = .int .i64 x33_2 ∧ Aside0 (nt_Multiply.l1 kq t504 x7_2 x26_1 (rd t501 x26_1) x10_2 t501 (t501.length : Int) x26_1 t504 (t504.length : Int) x33_2 = some r) ∧ Aside0 (kq ≤ k1) ∧ Aside0 (Kd.V (Kd.int .u32) 85 w' w.heap.size (fun k_ => some k_ ≠ (v508 : Value).ownBlock) (.slice Ao11 t504.length co11) t504) ∧ Aside0 (Kd.R (Kd.int .u32) 85 w' w.heap.size (fun _ => True) v508 x7_2) ∧ Aside0 (Kd.V (Kd.int .u32) 85 w' w.heap.size (fun k_ => some k_ ≠ (v508 : Value).ownBlock) (.slice (some ad511) t501.length co10) t501) ∧ Aside0 (Kd.V (Kd.int .u32) 85 w' w.heap.size (fun k_ => some k_ ≠ (v508 : Value).ownBlock) (.slice Ao11 t504.length co11) t504) ∧ Aside0 (Below w.heap.size w w'))
    case atStart => exact ⟨(x7_1), (0), (0), xz, xz, H', ⟨Nat.le_refl _⟩, ⟨xv HO_6.out⟩, ⟨xr HO_7.out⟩, ⟨xv HO_24.out⟩, ⟨xv HO_6.out⟩, ⟨xs HB⟩⟩
    case round =>
     clear H'
     clear c14b0 c15b0 c16b0 hx511_0 p511 q511
     obtain ⟨x7_2, x10_2, x33_2, rfl, rfl, HA, HK2, HO_6, HO_7, HO_24, HO_31, HB⟩ := hrel
     cases gk with
     | zero => exact absurd HA.out (by simp [nt_Multiply.l1])
     | succ k2 =>
      have H := HA.out
      clear HA
      simp only [nt_Multiply.l1] at H
      obtain ⟨c17b0, H⟩ | ⟨c17b0, H⟩ := xOd H
      ·obtain ⟨c18b0, H⟩ := xQd H
       obtain ⟨c19b0, H⟩ := xQd H
       generalize hji20 : (wrap64 (x26_1 + x33_2)) = ji20 at H
       have hji20w : (IntKind.i64.wrap (x26_1 + x33_2)) = ji20 := (i64_w _).trans hji20
       obtain ⟨c21b0, H⟩ := xQd H
       obtain ⟨c22b0, H⟩ := xQd H
       generalize hy514 : (x7_2.set ((ji20) : Int).toNat ((IntKind.u64.wrap ((IntKind.u64.wrap ((IntKind.u64.wrap ((IntKind.u64.wrap (rd t501 x26_1)) * (IntKind.u64.wrap (rd t504 x33_2)))) + (IntKind.u64.wrap (rd x7_2 (ji20))))) + x10_2)) % 4294967296) : List Int) = y514 at H
       have Ny514 := Aside0.mk hy514.symm
       clear hy514
       have H' := Aside0.mk H
       clear H
       obtain ⟨p512, q512, ad512, e512, hx512_0⟩ := xA (Kd.at_int (Kd.V_reads' HO_31.out).2.2 x33_2)
       cases e512
       obtain ⟨Ao24, co24, eo24⟩ := Kd.R_slice HO_7.out
       subst eo24
       obtain ⟨p513, q513, ad513, e513, hx513_0⟩ := xA (Kd.at_int (Kd.R_reads' HO_7.out).2.2 (ji20))
       cases e513
       have p23 : 0 ≤ ((ji20) : Int) := xa
       have q23 : ((ji20) : Int) < ((x7_2.length : Int) : Int) := xa
       obtain ⟨go23, co23, eo23, gb23, gl23, cl23, HG23⟩ := Kd.R_form HO_7.out (by omega)
       cases eo23
       have GB23 := Aside0.mk gb23
       have GG23 := Aside0.mk HG23
       clear gb23 gl23 HG23
       simp only [add_plain] at hx513_0
       obtain ⟨hx23_0, hf23_0⟩ := Kd.R_celln 0 HO_7.out ((ji20) : Int) p23 q23
       replace p23 := eq_true p23
       replace q23 := eq_true q23
       have HP25 := Kd.R_putg HO_7.out ((ji20) : Int) ((IntKind.u64.wrap ((IntKind.u64.wrap ((IntKind.u64.wrap ((IntKind.u64.wrap (rd t501 x26_1)) * (IntKind.u64.wrap (rd t504 x33_2)))) + (IntKind.u64.wrap (rd x7_2 (ji20))))) + x10_2)) % 4294967296)
       go_wp2_with (refine xst 85 59 (wr.setCell ⟨go23, ((ji20) : Int).toNat, none⟩ (.int .u32 ((IntKind.u64.wrap ((IntKind.u64.wrap ((IntKind.u64.wrap ((IntKind.u64.wrap (rd t501 x26_1)) * (IntKind.u64.wrap (rd t504 x33_2)))) + (IntKind.u64.wrap (rd x7_2 (ji20))))) + x10_2)) % 4294967296))) ?_; intro w26 hw; have hg : wr.grownBy w26 (some go23) := (by rw [hw]; exact HP25.2); have hp_ : Kd.R (Kd.int .u32) 85 w26 w.heap.size (fun _ => True) (.slice (some ⟨go23, 0, none⟩) x7_2.length co24) y514 := (by rw [hw, Ny514.out]; exact HP25.1); clear HP25; replace HO_6 := Aside0.mk (Kd.V_afterv (v := (.slice (some ⟨go23, 0, none⟩) x7_2.length co24)) (v1 := (.slice (some ⟨go23, 0, none⟩) x7_2.length co24)) (ok := (fun _ => True)) (by exact Kd.V_mono HO_6.out (fun _ hk => by exact ⟨trivial, hk⟩)) hg (.inl rfl)); replace HO_7 := Aside0.mk (hp_); replace HO_24 := Aside0.mk (Kd.V_afterv (v := (.slice (some ⟨go23, 0, none⟩) x7_2.length co24)) (v1 := (.slice (some ⟨go23, 0, none⟩) x7_2.length co24)) (ok := (fun _ => True)) (by exact Kd.V_mono HO_24.out (fun _ hk => by exact ⟨trivial, hk⟩)) hg (.inl rfl)); replace HO_31 := Aside0.mk (Kd.V_afterv (v := (.slice (some ⟨go23, 0, none⟩) x7_2.length co24)) (v1 := (.slice (some ⟨go23, 0, none⟩) x7_2.length co24)) (ok := (fun _ => True)) (by exact Kd.V_mono HO_31.out (fun _ hk => by exact ⟨trivial, hk⟩)) hg (.inl rfl)); replace HB := Aside0.mk (by rw [hw]; exact below_set (HB.out) GB23.out : Below w.heap.size w w26); clear hg hw hp_)
       go_roundg k2
       case measure => have := HK1.out; have := HK2.out; omega
       case rel => exact ⟨(y514), ((IntKind.u64.wrap ((IntKind.u64.wrap ((IntKind.u64.wrap ((IntKind.u64.wrap (rd t501 x26_1)) * (IntKind.u64.wrap (rd t504 x33_2)))) + (IntKind.u64.wrap (rd x7_2 (ji20))))) + x10_2)) / 4294967296), (wrap64 (x33_2 + 1)), (by rfl), xz, H', ⟨by have := HK1.out; have := HK2.out; omega⟩, ⟨by exact Kd.V_mono HO_6.out (fun _ hk => hk.2)⟩, ⟨xr HO_7.out⟩, ⟨by exact Kd.V_mono HO_24.out (fun _ hk => hk.2)⟩, ⟨by exact Kd.V_mono HO_31.out (fun _ hk => hk.2)⟩, ⟨xs HB⟩⟩
      generalize hji27 : (wrap64 (x26_1 + (t504.length : Int))) = ji27 at H
      have hji27w : (IntKind.i64.wrap (x26_1 + (t504.length : Int))) = ji27 := (i64_w _).trans hji27
      obtain ⟨c28b0, H⟩ := xQd H
      obtain ⟨c29b0, H⟩ := xQd H
      generalize hy515 : (x7_2.set ((ji27) : Int).toNat ((x10_2) % 4294967296) : List Int) = y515 at H
      have Ny515 := Aside0.mk hy515.symm
      clear hy515
      have H' := Aside0.mk H
      clear H
      have p30 : 0 ≤ ((ji27) : Int) := xa
      have q30 : ((ji27) : Int) < ((x7_2.length : Int) : Int) := xa
      obtain ⟨go30, co30, eo30, gb30, gl30, cl30, HG30⟩ := Kd.R_form HO_7.out (by omega)
      cases eo30
      have GB30 := Aside0.mk gb30
      have GG30 := Aside0.mk HG30
      clear gb30 gl30 HG30
      obtain ⟨hx30_0, hf30_0⟩ := Kd.R_celln 0 HO_7.out ((ji27) : Int) p30 q30
      replace p30 := eq_true p30
      replace q30 := eq_true q30
      have HP31 := Kd.R_putg HO_7.out ((ji27) : Int) ((x10_2) % 4294967296)
      go_wp2_with (refine xst 85 70 (wr.setCell ⟨go30, ((ji27) : Int).toNat, none⟩ (.int .u32 ((x10_2) % 4294967296))) ?_; intro w32 hw; have hg : wr.grownBy w32 (some go30) := (by rw [hw]; exact HP31.2); have hp_ : Kd.R (Kd.int .u32) 85 w32 w.heap.size (fun _ => True) (.slice (some ⟨go30, 0, none⟩) x7_2.length co30) y515 := (by rw [hw, Ny515.out]; exact HP31.1); clear HP31; replace HO_6 := Aside0.mk (Kd.V_afterv (v := (.slice (some ⟨go30, 0, none⟩) x7_2.length co30)) (v1 := (.slice (some ⟨go30, 0, none⟩) x7_2.length co30)) (ok := (fun _ => True)) (by exact Kd.V_mono HO_6.out (fun _ hk => by exact ⟨trivial, hk⟩)) hg (.inl rfl)); replace HO_7 := Aside0.mk (hp_); replace HO_24 := Aside0.mk (Kd.V_afterv (v := (.slice (some ⟨go30, 0, none⟩) x7_2.length co30)) (v1 := (.slice (some ⟨go30, 0, none⟩) x7_2.length co30)) (ok := (fun _ => True)) (by exact Kd.V_mono HO_24.out (fun _ hk => by exact ⟨trivial, hk⟩)) hg (.inl rfl)); replace HO_31 := Aside0.mk (Kd.V_afterv (v := (.slice (some ⟨go30, 0, none⟩) x7_2.length co30)) (v1 := (.slice (some ⟨go30, 0, none⟩) x7_2.length co30)) (ok := (fun _ => True)) (by exact Kd.V_mono HO_31.out (fun _ hk => by exact ⟨trivial, hk⟩)) hg (.inl rfl)); replace HB := Aside0.mk (by rw [hw]; exact below_set (HB.out) GB30.out : Below w.heap.size w w32); clear hg hw hp_)
      go_roundg k2
      case measure => have := HK1.out; have := HK2.out; omega
      case rel => exact ⟨(y515), (wrap64 (x26_1 + 1)), xz, H', ⟨by have := HK1.out; have := HK2.out; omega⟩, ⟨by exact Kd.V_mono HO_6.out (fun _ hk => hk.2)⟩, ⟨xr HO_7.out⟩, ⟨by exact Kd.V_mono HO_24.out (fun _ hk => hk.2)⟩, ⟨xs HB⟩⟩
   replace H := xH H; obtain ⟨t510, A33, H⟩ := H
   obtain rfl := Option.some.inj H
   obtain ⟨Ao34, co34, eo34⟩ := Kd.R_slice HO_7.out
   subst eo34
   go_wp2_with (refine xg Tryd.func78 (some 73) #[.slice Ao34 x7_1.length co34] ?_; (with_reducible refine (nt_limbs_text.calls k1 _ _ x7_1 t510 _ ?side1 ?side2 A33.out).mono ?_); (case side1 => repeat (exact (Kd.R_reads' HO_7.out).2.2)); (case side2 => exact (Kd.R_reads' HO_7.out).2.1); rintro e w35 ⟨rfl, hb⟩; refine ⟨_, rfl, ?_⟩; replace HO_6 := xVb HO_6 hb; replace HO_7 := xRb HO_7 hb; replace HO_24 := xVb HO_24 hb; replace HB := xS HB hb; clear hb)
   go_ret
   exact ⟨by rfl, xs HB⟩
/-! ### rt_den: function 49 -/
def rt_den.f (a0_0 : Bool) (a0_1 : ByteArray) (a0_2 : ByteArray) : Option (ByteArray) := if a0_2.toList = ([] : List UInt8) then (some (⟨#[1]⟩ : ByteArray)) else (some a0_2)
theorem rt_den.calls (a0_0 : Bool) (a0_1 : ByteArray) (a0_2 : ByteArray) (r : ByteArray) (w : World) (h : rt_den.f a0_0 a0_1 a0_2 = some r) :
  Calls Tryd.prog 49 #[.agg #[.bool a0_0, .string a0_1, .string a0_2]] w fun e w' => e = .returned (.string r) ∧ Below w.heap.size w w' := by
 have hu25 := Tryd.underlying25
 have HB := Aside0.mk (Below.refl w.heap.size w)
 have H := h; clear h
 unfold rt_den.f at H
 obtain ⟨c2, H⟩ | ⟨c2, H⟩ := xO H
 ·have c2b0 := beq_iff_eq.mpr c2
  have c2b1 := bne_eq_false_iff_eq.mpr c2
  clear c2
  obtain rfl := Option.some.inj H
  go_enter Tryd.func49, Tryd.ntmps49
  go_wp2_with (refine xF (N := 1) #[.bool a0_0, .string a0_1, .string a0_2] 25 HB ?_; clear HB; intro gb516 hg w3 hb BK516 GW516 HB; clear hb hg; obtain ⟨hcz4_0, hcz4_1, hcz4_2, hfz4_0, hfz4_1, hfz4_2⟩ := x6 BK516)
  go_ret
  exact ⟨xy, xs HB⟩
 have c2b0 := beq_eq_false_iff_ne.mpr c2
 have c2b1 := bne_iff_ne.mpr c2
 obtain rfl := Option.some.inj H
 go_enter Tryd.func49, Tryd.ntmps49
 go_wp2_with (refine xF (N := 1) #[.bool a0_0, .string a0_1, .string a0_2] 25 HB ?_; clear HB; intro gb516 hg w5 hb BK516 GW516 HB; clear hb hg; obtain ⟨hcz6_0, hcz6_1, hcz6_2, hfz6_0, hfz6_1, hfz6_2⟩ := x6 BK516)
 go_ret
 exact ⟨xy, xs HB⟩
/-! ### nt_Divide: function 84 -/
def nt_Divide.f (k : Nat) (a0 : ByteArray) (a1 : ByteArray) : Option (ByteArray × ByteArray × Bool) := (nt_parse.f k a1).bind fun t517 => (if (t517.length : Int) = 0 then (some ((⟨#[]⟩ : ByteArray), (⟨#[]⟩ : ByteArray), false)) else ((nt_parse.f k a0).bind fun t520 => ((nt_divide.f k t520 t517).bind fun bt523 => ((nt_limbs_text.f k bt523.1).bind fun t529 => ((nt_limbs_text.f k bt523.2).bind fun t530 => (some (t529, t530, true)))))))
theorem nt_Divide.mono : ∀ a0 a1 k, LeO (nt_Divide.f k a0 a1) (nt_Divide.f (k + 1) a0 a1) := by
 intro a0 a1 k
 unfold nt_Divide.f
 have m0 := @nt_divide.mono; have m1 := @nt_limbs_text.mono; have m2 := @nt_parse.mono; exact xM
theorem nt_Divide.calls (k : Nat) (a0 : ByteArray) (a1 : ByteArray) (r1 : ByteArray) (r2 : ByteArray) (r3 : Bool) (w : World) (h : nt_Divide.f k a0 a1 = some (r1, r2, r3)) :
  Calls Tryd.prog 84 #[.string a0, .string a1] w fun e w' => e = .returned (.tuple #[.string r1, .string r2, .bool r3]) ∧ Below w.heap.size w w' := by
 have HB := Aside0.mk (Below.refl w.heap.size w)
 have H := h; clear h
 unfold nt_Divide.f at H
 replace H := xH H; obtain ⟨t517, A3, H⟩ := H
 obtain ⟨c4, H⟩ | ⟨c4, H⟩ := xO H
 ·have c4b0 := beq_iff_eq.mpr c4
  have c4b1 := bne_eq_false_iff_eq.mpr c4
  clear c4
  simp only [Option.some.injEq, Prod.mk.injEq] at H
  obtain ⟨rfl, rfl, rfl⟩ := H
  go_enter Tryd.func84, Tryd.ntmps84
  go_wp2_with (refine xg Tryd.func77 (some 11) #[.string a1] ?_; (with_reducible refine (nt_parse.calls k a1 t517 _ A3.out).mono ?_); rintro e w5 ⟨v518, rfl, ho0, hb⟩; refine ⟨_, rfl, ?_⟩; have HO519 := xVm w (fun k_ => True) ho0 (fun k_ hk_ => trivial); replace HB := xS HB hb; clear hb ho0; obtain ⟨Ao6, co6, eo6⟩ := Kd.V_slice HO519.out; subst eo6)
  go_ret3
  exact ⟨xy, xs HB⟩
 have c4b0 := beq_eq_false_iff_ne.mpr c4
 have c4b1 := bne_iff_ne.mpr c4
 have c4b2 : ¬ (t517 = []) := fun h_ => c4 (by rw [h_]; rfl)
 replace H := xH H; obtain ⟨t520, A7, H⟩ := H
 replace H := xH H; obtain ⟨⟨t523, t526⟩, A8, H⟩ := H
 dsimp only at H
 replace H := xH H; obtain ⟨t529, A9, H⟩ := H
 replace H := xH H; obtain ⟨t530, A10, H⟩ := H
 simp only [Option.some.injEq, Prod.mk.injEq] at H
 obtain ⟨rfl, rfl, rfl⟩ := H
 go_enter Tryd.func84, Tryd.ntmps84
 go_wp2_with (first | (refine xg Tryd.func77 (some 11) #[.string a1] ?_; (with_reducible refine (nt_parse.calls k a1 t517 _ A3.out).mono ?_); rintro e w11 ⟨v518, rfl, ho0, hb⟩; refine ⟨_, rfl, ?_⟩; have HO519 := xVm w (fun k_ => True) ho0 (fun k_ hk_ => trivial); replace HB := xS HB hb; clear hb ho0; obtain ⟨Ao12, co12, eo12⟩ := Kd.V_slice HO519.out; subst eo12) | (refine xg Tryd.func77 (some 17) #[.string a0] ?_; (with_reducible refine (nt_parse.calls k a0 t520 _ A7.out).mono ?_); rintro e w13 ⟨v521, rfl, ho0, hb⟩; refine ⟨_, rfl, ?_⟩; replace HO519 := xVb HO519 hb; have HO522 := xVm w (fun k_ => True) ho0 (fun k_ hk_ => trivial); replace HB := xS HB hb; clear hb ho0; obtain ⟨Ao14, co14, eo14⟩ := Kd.V_slice HO522.out; subst eo14) | (refine xg Tryd.func99 (some 19) #[.slice Ao14 t520.length co14, .slice Ao12 t517.length co12] ?_; (with_reducible refine (nt_divide.calls k (fun k_ => True) _ _ t520 _ _ t517 t523 t526 _ HO522.out (xf (Kd.V_reads' HO519.out).2.2) (Kd.V_reads' HO519.out).2.1 A8.out).mono ?_); rintro e w15 ⟨v524, v527, rfl, ho0, ho1, hb⟩; refine ⟨_, rfl, ?_⟩; replace HO519 := xVb HO519 hb; replace HO522 := xVb HO522 hb; have HO525 := xVm w (fun k_ => True) ho0 (fun k_ hk_ => trivial); have HO528 := xVm w (fun k_ => True) ho1 (fun k_ hk_ => trivial); replace HB := xS HB hb; clear hb ho0 ho1; obtain ⟨Ao16, co16, eo16⟩ := Kd.V_slice HO525.out; subst eo16) | (refine xg Tryd.func78 (some 23) #[.slice Ao16 t523.length co16] ?_; (with_reducible refine (nt_limbs_text.calls k _ _ t523 t529 _ (xf (Kd.V_reads' HO525.out).2.2) (Kd.V_reads' HO525.out).2.1 A9.out).mono ?_); rintro e w17 ⟨rfl, hb⟩; refine ⟨_, rfl, ?_⟩; replace HO519 := xVb HO519 hb; replace HO522 := xVb HO522 hb; replace HO525 := xVb HO525 hb; replace HO528 := xVb HO528 hb; replace HB := xS HB hb; clear hb; obtain ⟨Ao18, co18, eo18⟩ := Kd.V_slice HO528.out; subst eo18) | (refine xg Tryd.func78 (some 25) #[.slice Ao18 t526.length co18] ?_; (with_reducible refine (nt_limbs_text.calls k _ _ t526 t530 _ (xf (Kd.V_reads' HO528.out).2.2) (Kd.V_reads' HO528.out).2.1 A10.out).mono ?_); rintro e w19 ⟨rfl, hb⟩; refine ⟨_, rfl, ?_⟩; replace HO519 := xVb HO519 hb; replace HO522 := xVb HO522 hb; replace HO525 := xVb HO525 hb; replace HO528 := xVb HO528 hb; replace HB := xS HB hb; clear hb))
 go_ret3
 exact ⟨xy, xs HB⟩
/-! ### rt_reduced: function 52 -/
def rt_reduced.f (k : Nat) (a0 : Bool) (a1 : ByteArray) (a2 : ByteArray) : Option (Bool × ByteArray × ByteArray) := (nt_Normalize.f k a1).bind fun t532 => ((nt_Normalize.f k a2).bind fun t533 => (if t532.toList = ([] : List UInt8) then (some (false, (⟨#[]⟩ : ByteArray), (⟨#[]⟩ : ByteArray))) else (if t533.toList = ([1] : List UInt8) then (some (a0, t532, (⟨#[]⟩ : ByteArray))) else ((nt_GCD.f k t532 t533).bind fun t534 => (if t534.toList = ([1] : List UInt8) then (some (a0, t532, t533)) else ((nt_Divide.f k t532 t534).bind fun bt535 => ((nt_Divide.f k t533 t534).bind fun bt538 => (if bt538.1.toList = ([1] : List UInt8) then (some (a0, bt535.1, (⟨#[]⟩ : ByteArray))) else (some (a0, bt535.1, bt538.1))))))))))
theorem rt_reduced.mono : ∀ a0 a1 a2 k, LeO (rt_reduced.f k a0 a1 a2) (rt_reduced.f (k + 1) a0 a1 a2) := by
 intro a0 a1 a2 k
 unfold rt_reduced.f
 have m0 := @nt_Divide.mono; have m1 := @nt_GCD.mono; have m2 := @nt_Normalize.mono; exact xM
theorem rt_reduced.calls (k : Nat) (a0 : Bool) (a1 : ByteArray) (a2 : ByteArray) (r1 : Bool) (r2 : ByteArray) (r3 : ByteArray) (w : World) (h : rt_reduced.f k a0 a1 a2 = some (r1, r2, r3)) :
  Calls Tryd.prog 52 #[.bool a0, .string a1, .string a2] w fun e w' => e = .returned (.agg #[.bool r1, .string r2, .string r3]) ∧ Below w.heap.size w w' := by
 have hu25 := Tryd.underlying25
 have HB := Aside0.mk (Below.refl w.heap.size w)
 have H := h; clear h
 unfold rt_reduced.f at H
 replace H := xH H; obtain ⟨t532, A4, H⟩ := H
 replace H := xH H; obtain ⟨t533, A5, H⟩ := H
 obtain ⟨c6, H⟩ | ⟨c6, H⟩ := xO H
 ·have c6b0 := beq_iff_eq.mpr c6
  have c6b1 := bne_eq_false_iff_eq.mpr c6
  clear c6
  simp only [Option.some.injEq, Prod.mk.injEq] at H
  obtain ⟨rfl, rfl, rfl⟩ := H
  go_enter Tryd.func52, Tryd.ntmps52
  go_wp2_with (first | (refine xF (N := 6) #[.bool false, .string (⟨#[]⟩ : ByteArray), .string (⟨#[]⟩ : ByteArray)] 25 HB ?_; clear HB; intro gb531 hg w7 hb BK531 GW531 HB; clear hb hg) | (refine xC Tryd.func74 (some 9) (nt_Normalize.calls k a1 t532 _ A4.out) ?_; rintro w8 hb; replace BK531 := xB BK531 hb; replace HB := xS HB hb; clear hb) | (refine xC Tryd.func74 (some 11) (nt_Normalize.calls k a2 t533 _ A5.out) ?_; rintro w9 hb; replace BK531 := xB BK531 hb; replace HB := xS HB hb; clear hb; obtain ⟨hcz10_0, hcz10_1, hcz10_2, hfz10_0, hfz10_1, hfz10_2⟩ := x6 BK531))
  refine bodyPost_ret (results_cell_row rfl _ _ gb531 25 #[.bool false, .string (⟨#[]⟩ : ByteArray), .string (⟨#[]⟩ : ByteArray)] (0, 0) _ rfl (xp BK531) Tryd.underlying25 rfl (by kernel_rfl)) rfl ?_
  exact ⟨xy, xs HB⟩
 have c6b0 := beq_eq_false_iff_ne.mpr c6
 have c6b1 := bne_iff_ne.mpr c6
 obtain ⟨c11, H⟩ | ⟨c11, H⟩ := xO H
 ·have c11b0 := beq_iff_eq.mpr c11
  have c11b1 := bne_eq_false_iff_eq.mpr c11
  clear c11
  simp only [Option.some.injEq, Prod.mk.injEq] at H
  obtain ⟨rfl, rfl, rfl⟩ := H
  go_enter Tryd.func52, Tryd.ntmps52
  go_wp2_with (first | (refine xF (N := 6) #[.bool false, .string (⟨#[]⟩ : ByteArray), .string (⟨#[]⟩ : ByteArray)] 25 HB ?_; clear HB; intro gb531 hg w12 hb BK531 GW531 HB; clear hb hg) | (refine xC Tryd.func74 (some 9) (nt_Normalize.calls k a1 t532 _ A4.out) ?_; rintro w13 hb; replace BK531 := xB BK531 hb; replace HB := xS HB hb; clear hb) | (refine xC Tryd.func74 (some 11) (nt_Normalize.calls k a2 t533 _ A5.out) ?_; rintro w14 hb; replace BK531 := xB BK531 hb; replace HB := xS HB hb; clear hb; obtain ⟨hcz15_0, hcz15_1, hcz15_2, hfz15_0, hfz15_1, hfz15_2⟩ := x6 BK531))
  refine bodyPost_ret (results_cell_row rfl _ _ gb531 25 #[.bool a0, .string t532, .string (⟨#[]⟩ : ByteArray)] (0, 0) _ rfl (xp BK531) Tryd.underlying25 rfl (by kernel_rfl)) rfl ?_
  exact ⟨xy, xs HB⟩
 have c11b0 := beq_eq_false_iff_ne.mpr c11
 have c11b1 := bne_iff_ne.mpr c11
 replace H := xH H; obtain ⟨t534, A16, H⟩ := H
 obtain ⟨c17, H⟩ | ⟨c17, H⟩ := xO H
 ·have c17b0 := beq_iff_eq.mpr c17
  have c17b1 := bne_eq_false_iff_eq.mpr c17
  clear c17
  simp only [Option.some.injEq, Prod.mk.injEq] at H
  obtain ⟨rfl, rfl, rfl⟩ := H
  go_enter Tryd.func52, Tryd.ntmps52
  go_wp2_with (first | (refine xF (N := 6) #[.bool false, .string (⟨#[]⟩ : ByteArray), .string (⟨#[]⟩ : ByteArray)] 25 HB ?_; clear HB; intro gb531 hg w18 hb BK531 GW531 HB; clear hb hg) | (refine xC Tryd.func74 (some 9) (nt_Normalize.calls k a1 t532 _ A4.out) ?_; rintro w19 hb; replace BK531 := xB BK531 hb; replace HB := xS HB hb; clear hb) | (refine xC Tryd.func74 (some 11) (nt_Normalize.calls k a2 t533 _ A5.out) ?_; rintro w20 hb; replace BK531 := xB BK531 hb; replace HB := xS HB hb; clear hb) | (refine xC Tryd.func83 (some 19) (nt_GCD.calls k t532 t533 t534 _ A16.out) ?_; rintro w21 hb; replace BK531 := xB BK531 hb; replace HB := xS HB hb; clear hb; obtain ⟨hcz22_0, hcz22_1, hcz22_2, hfz22_0, hfz22_1, hfz22_2⟩ := x6 BK531))
  refine bodyPost_ret (results_cell_row rfl _ _ gb531 25 #[.bool a0, .string t532, .string t533] (0, 0) _ rfl (xp BK531) Tryd.underlying25 rfl (by kernel_rfl)) rfl ?_
  exact ⟨xy, xs HB⟩
 have c17b0 := beq_eq_false_iff_ne.mpr c17
 have c17b1 := bne_iff_ne.mpr c17
 replace H := xH H; obtain ⟨⟨t535, t536, t537⟩, A23, H⟩ := H
 dsimp only at H
 replace H := xH H; obtain ⟨⟨t538, t539, t540⟩, A24, H⟩ := H
 dsimp only at H
 obtain ⟨c25, H⟩ | ⟨c25, H⟩ := xO H
 ·have c25b0 := beq_iff_eq.mpr c25
  have c25b1 := bne_eq_false_iff_eq.mpr c25
  clear c25
  simp only [Option.some.injEq, Prod.mk.injEq] at H
  obtain ⟨rfl, rfl, rfl⟩ := H
  go_enter Tryd.func52, Tryd.ntmps52
  go_wp2_with (first | (refine xF (N := 6) #[.bool false, .string (⟨#[]⟩ : ByteArray), .string (⟨#[]⟩ : ByteArray)] 25 HB ?_; clear HB; intro gb531 hg w26 hb BK531 GW531 HB; clear hb hg) | (refine xC Tryd.func74 (some 9) (nt_Normalize.calls k a1 t532 _ A4.out) ?_; rintro w27 hb; replace BK531 := xB BK531 hb; replace HB := xS HB hb; clear hb) | (refine xC Tryd.func74 (some 11) (nt_Normalize.calls k a2 t533 _ A5.out) ?_; rintro w28 hb; replace BK531 := xB BK531 hb; replace HB := xS HB hb; clear hb) | (refine xC Tryd.func83 (some 19) (nt_GCD.calls k t532 t533 t534 _ A16.out) ?_; rintro w29 hb; replace BK531 := xB BK531 hb; replace HB := xS HB hb; clear hb) | (refine xC Tryd.func84 (some 25) (nt_Divide.calls k t532 t534 t535 t536 t537 _ A23.out) ?_; rintro w30 hb; replace BK531 := xB BK531 hb; replace HB := xS HB hb; clear hb) | (refine xC Tryd.func84 (some 32) (nt_Divide.calls k t533 t534 t538 t539 t540 _ A24.out) ?_; rintro w31 hb; replace BK531 := xB BK531 hb; replace HB := xS HB hb; clear hb; obtain ⟨hcz32_0, hcz32_1, hcz32_2, hfz32_0, hfz32_1, hfz32_2⟩ := x6 BK531))
  refine bodyPost_ret (results_cell_row rfl _ _ gb531 25 #[.bool a0, .string t535, .string (⟨#[]⟩ : ByteArray)] (0, 0) _ rfl (xp BK531) Tryd.underlying25 rfl (by kernel_rfl)) rfl ?_
  exact ⟨xy, xs HB⟩
 have c25b0 := beq_eq_false_iff_ne.mpr c25
 have c25b1 := bne_iff_ne.mpr c25
 simp only [Option.some.injEq, Prod.mk.injEq] at H
 obtain ⟨rfl, rfl, rfl⟩ := H
 go_enter Tryd.func52, Tryd.ntmps52
 go_wp2_with (first | (refine xF (N := 6) #[.bool false, .string (⟨#[]⟩ : ByteArray), .string (⟨#[]⟩ : ByteArray)] 25 HB ?_; clear HB; intro gb531 hg w33 hb BK531 GW531 HB; clear hb hg) | (refine xC Tryd.func74 (some 9) (nt_Normalize.calls k a1 t532 _ A4.out) ?_; rintro w34 hb; replace BK531 := xB BK531 hb; replace HB := xS HB hb; clear hb) | (refine xC Tryd.func74 (some 11) (nt_Normalize.calls k a2 t533 _ A5.out) ?_; rintro w35 hb; replace BK531 := xB BK531 hb; replace HB := xS HB hb; clear hb) | (refine xC Tryd.func83 (some 19) (nt_GCD.calls k t532 t533 t534 _ A16.out) ?_; rintro w36 hb; replace BK531 := xB BK531 hb; replace HB := xS HB hb; clear hb) | (refine xC Tryd.func84 (some 25) (nt_Divide.calls k t532 t534 t535 t536 t537 _ A23.out) ?_; rintro w37 hb; replace BK531 := xB BK531 hb; replace HB := xS HB hb; clear hb) | (refine xC Tryd.func84 (some 32) (nt_Divide.calls k t533 t534 t538 t539 t540 _ A24.out) ?_; rintro w38 hb; replace BK531 := xB BK531 hb; replace HB := xS HB hb; clear hb; obtain ⟨hcz39_0, hcz39_1, hcz39_2, hfz39_0, hfz39_1, hfz39_2⟩ := x6 BK531))
 refine bodyPost_ret (results_cell_row rfl _ _ gb531 25 #[.bool a0, .string t535, .string t538] (0, 0) _ rfl (xp BK531) Tryd.underlying25 rfl (by kernel_rfl)) rfl ?_
 exact ⟨xy, xs HB⟩
/-! ### nt_Add: function 72 -/
mutual
def nt_Add.j0 : Nat → List Int → List Int → Option (ByteArray)
 | 0, _, _ => none
 | k + 1, x5, x6 => if 0 ≤ (wrap64 ((x5.length : Int) + 1)) then (if (wrap64 ((x5.length : Int) + 1) : Int).toNat ≤ 70368744177664 then (nt_Add.l0 k x5 x6 (List.replicate (wrap64 ((x5.length : Int) + 1) : Int).toNat 0) 0 (x5.length : Int) 0) else (none)) else (none)
def nt_Add.l0 : Nat → List Int → List Int → List Int → Int → Int → Int → Option (ByteArray)
 | 0, _, _, _, _, _, _ => none
 | k + 1, x5, x6, x7, x8, x27, x28 => if x28 < x27 then (if x28 < (x6.length : Int) then (if 0 ≤ x28 then (if x28 < (x5.length : Int) then ((bits_Add32.f (rd x5 x28) (rd x6 x28) x8).bind fun bt552 => (if x28 < (x7.length : Int) then (nt_Add.l0 k x5 x6 (x7.set (x28 : Int).toNat bt552.1) bt552.2 x27 (wrap64 (x28 + 1))) else (none))) else (none)) else (none)) else (if 0 ≤ x28 then (if x28 < (x5.length : Int) then ((bits_Add32.f (rd x5 x28) 0 x8).bind fun bt556 => (if x28 < (x7.length : Int) then (nt_Add.l0 k x5 x6 (x7.set (x28 : Int).toNat bt556.1) bt556.2 x27 (wrap64 (x28 + 1))) else (none))) else (none)) else (none))) else (if 0 ≤ (x5.length : Int) then (if (x5.length : Int) < (x7.length : Int) then ((nt_limbs_text.f k (x7.set ((x5.length : Int) : Int).toNat x8)).bind fun t560 => (some t560)) else (none)) else (none))
end
def nt_Add.f (k : Nat) (a0 : ByteArray) (a1 : ByteArray) : Option (ByteArray) := (nt_parse.f k a0).bind fun t541 => ((nt_parse.f k a1).bind fun t544 => (if (t541.length : Int) < (t544.length : Int) then (nt_Add.j0 k t544 t541) else (nt_Add.j0 k t541 t544)))
theorem nt_Add.mono_l : ∀ k, (∀ y0 y1, LeO (nt_Add.j0 k y0 y1) (nt_Add.j0 (k + 1) y0 y1)) ∧ (∀ y0 y1 y2 y3 y4 y5, LeO (nt_Add.l0 k y0 y1 y2 y3 y4 y5) (nt_Add.l0 (k + 1) y0 y1 y2 y3 y4 y5))
 | 0 => ⟨fun _ _ r h => by simp [nt_Add.j0] at h, fun _ _ _ _ _ _ r h => by simp [nt_Add.l0] at h⟩
 | k + 1 => by
  obtain ⟨ih0, ih1⟩ := nt_Add.mono_l k
  refine ⟨?_, ?_⟩
  ·intro y0 y1
   unfold nt_Add.j0
   have m0 := @ih0; have m1 := @ih1; have m2 := @nt_limbs_text.mono; have m3 := @nt_parse.mono; exact xM
  ·intro y0 y1 y2 y3 y4 y5
   unfold nt_Add.l0
   have m0 := @ih0; have m1 := @ih1; have m2 := @nt_limbs_text.mono; have m3 := @nt_parse.mono; exact xM
theorem nt_Add.mono : ∀ a0 a1 k, LeO (nt_Add.f k a0 a1) (nt_Add.f (k + 1) a0 a1) := by
 intro a0 a1 k
 obtain ⟨ih0, ih1⟩ := nt_Add.mono_l k
 unfold nt_Add.f
 have m0 := @ih0; have m1 := @ih1; have m2 := @nt_limbs_text.mono; have m3 := @nt_parse.mono; exact xM
theorem nt_Add.calls (k : Nat) (a0 : ByteArray) (a1 : ByteArray) (r : ByteArray) (w : World) (h : nt_Add.f k a0 a1 = some r) :
  Calls Tryd.prog 72 #[.string a0, .string a1] w fun e w' => e = .returned (.string r) ∧ Below w.heap.size w w' := by
 have HB := Aside0.mk (Below.refl w.heap.size w)
 have H := h; clear h
 unfold nt_Add.f at H
 replace H := xH H; obtain ⟨t541, A3, H⟩ := H
 replace H := xH H; obtain ⟨t544, A4, H⟩ := H
 have HC5 := Aside0.mk H
 clear H
 go_enter Tryd.func72, Tryd.ntmps72
 go_upto_if 19 with (first | (refine xg Tryd.func77 (some 12) #[.string a0] ?_; (with_reducible refine (nt_parse.calls k a0 t541 _ A3.out).mono ?_); rintro e w6 ⟨v542, rfl, ho0, hb⟩; refine ⟨_, rfl, ?_⟩; have HO543 := xVm w (fun k_ => True) ho0 (fun k_ hk_ => trivial); replace HB := xS HB hb; clear hb ho0) | (refine xg Tryd.func77 (some 14) #[.string a1] ?_; (with_reducible refine (nt_parse.calls k a1 t544 _ A4.out).mono ?_); rintro e w7 ⟨v545, rfl, ho0, hb⟩; refine ⟨_, rfl, ?_⟩; replace HO543 := xVb HO543 hb; have HO546 := xVm w (fun k_ => True) ho0 (fun k_ hk_ => trivial); replace HB := xS HB hb; clear hb ho0; obtain ⟨Ao8, co8, eo8⟩ := Kd.V_slice HO543.out; subst eo8; obtain ⟨Ao9, co9, eo9⟩ := Kd.V_slice HO546.out; subst eo9))
 go_cut [5, 6] (fun v5 v6 wc => ∃ (kq : Nat) (x5_4 : List Int) (x6_4 : List Int), Aside0 (nt_Add.j0 kq x5_4 x6_4 = some r) ∧ Aside0 (kq ≤ k) ∧ Aside0 (Kd.V (Kd.int .u32) 85 wc w.heap.size (fun _ => True) v5 x5_4) ∧ Aside0 (Kd.V (Kd.int .u32) 85 wc w.heap.size (fun _ => True) v6 x6_4) ∧ Aside0 (Below w.heap.size w wc))
 case first =>
  have H := HC5.out
  clear HC5
  obtain ⟨c10, H⟩ | ⟨c10, H⟩ := xO H
  ·have c10b0 := decide_eq_true c10
   have c10b1 : decide (t541.length < t544.length) = true := decide_eq_true (Int.ofNat_lt.mp c10)
   clear c10
   rw [c10b1]
   have H' := Aside0.mk H
   clear H
   go_wp2
   go_meet
   case rel => exact ⟨_, (t544), (t541), H', ⟨by omega⟩, ⟨xv HO546.out⟩, ⟨xv HO543.out⟩, ⟨xs HB⟩⟩
  have c10b0 := decide_eq_false c10
  have c10b1 : decide (t541.length < t544.length) = false := decide_eq_false (fun h => c10 (Int.ofNat_lt.mpr h))
  clear c10
  rw [c10b1]
  have H' := Aside0.mk H
  clear H
  go_wp2
  go_meet
  case rel => exact ⟨_, (t541), (t544), H', ⟨by omega⟩, ⟨xv HO543.out⟩, ⟨xv HO546.out⟩, ⟨xs HB⟩⟩
 case rest =>
  clear HC5
  obtain ⟨kq, x5_4, x6_4, HA, HJ4, HO_5, HO_6, HB⟩ := hcut
  cases kq with
  | zero => exact absurd HA.out (by simp [nt_Add.j0])
  | succ kj4 =>
   have H := HA.out
   clear HA
   simp only [nt_Add.j0] at H
   generalize hji11 : (wrap64 ((x5_4.length : Int) + 1)) = ji11 at H
   have hji11w : (IntKind.i64.wrap ((x5_4.length : Int) + 1)) = ji11 := (i64_w _).trans hji11
   obtain ⟨c12b0, c12b1, H⟩ := xQt H
   obtain ⟨c13b0, c13b1, H⟩ := xQt H
   generalize hy547 : (List.replicate (ji11 : Int).toNat 0 : List Int) = y547 at H
   have Ny547 := Aside0.mk hy547.symm
   clear hy547
   have H' := Aside0.mk H
   clear H
   obtain ⟨Ao14, co14, eo14⟩ := Kd.V_slice HO_5.out
   subst eo14
   go_wp2_with ((with_reducible refine gate_dst (N := 25) rfl ?_); refine Kd.R_make (Kd.int .u32) _ 85 rfl (N := 25) rfl 83 _ _ rfl ji11 rfl rfl Tryd.underlying83 (.int .u32 0) 4 info85 rfl (by decide) (by omega) 0 (ok := fun _ => True) (okp := fun _ => True) rfl (fun _ hk => hk) trivial (xa) (Nat.le_trans (Nat.mul_le_mul_right _ (xa : ji11.toNat ≤ 70368744177664)) (by omega)) (Below.refl _ _) (Nat.le_refl _) ?_; intro v548 w15 ho16 hb hg_ hnew_; clear hg_ hnew_; (rw [← Ny547.out] at ho16); replace HO_5 := Aside0.mk (Kd.V_elder' (xv HO_5.out) (Kd.R_base ho16) hb); replace HO_6 := Aside0.mk (Kd.V_elder' (xv HO_6.out) (Kd.R_base ho16) hb); have HO549 := Aside0.mk (Kd.R_lower ho16 (below_size (xs HB))); replace HB := xS HB hb; clear hb ho16)
   go_loopg [8, 28] kj4 (fun kq v8 v28 w' => ∃ (x7_2 : List Int) (x8_2 : Int) (x28_2 : Int), v8 = .int .u32 x8_2 ∧ v28 = .int .i64 x28_2 ∧ Aside0 (nt_Add.l0 kq x5_4 x6_4 x7_2 x8_2 (x5_4.length : Int) x28_2 = some r) ∧ Aside0 (kq ≤ kj4) ∧ Aside0 (Kd.V (Kd.int .u32) 85 w' w.heap.size (fun k_ => some k_ ≠ (v548 : Value).ownBlock) (.slice Ao14 x5_4.length co14) x5_4) ∧ Aside0 (Kd.V (Kd.int .u32) 85 w' w.heap.size (fun k_ => some k_ ≠ (v548 : Value).ownBlock) u6 x6_4) ∧ Aside0 (Kd.R (Kd.int .u32) 85 w' w.heap.size (fun _ => True) v548 x7_2) ∧ Aside0 (Below w.heap.size w w'))
   case atStart => exact ⟨(y547), (0), (0), xz, xz, H', ⟨Nat.le_refl _⟩, ⟨by exact Kd.V_mono HO_5.out (fun _ hk => hk.2)⟩, ⟨by exact Kd.V_mono HO_6.out (fun _ hk => hk.2)⟩, ⟨xr HO549.out⟩, ⟨xs HB⟩⟩
   case round =>
    clear H'
    clear c12b0 c12b1 c13b0 c13b1
    obtain ⟨x7_2, x8_2, x28_2, rfl, rfl, HA, HK2, HO_5, HO_6, HO_7, HB⟩ := hrel
    cases gk with
    | zero => exact absurd HA.out (by simp [nt_Add.l0])
    | succ k2 =>
     have H := HA.out
     clear HA
     simp only [nt_Add.l0] at H
     obtain ⟨c17b0, H⟩ | ⟨c17b0, H⟩ := xOd H
     ·obtain ⟨c18b0, H⟩ | ⟨c18b0, H⟩ := xOd H
      ·obtain ⟨c19b0, H⟩ := xQd H
       obtain ⟨c20b0, H⟩ := xQd H
       replace H := xH H; obtain ⟨⟨t552, t553⟩, A21, H⟩ := H
       dsimp only at H
       obtain ⟨c22b0, H⟩ := xQd H
       generalize hy554 : (x7_2.set (x28_2 : Int).toNat t552 : List Int) = y554 at H
       have Ny554 := Aside0.mk hy554.symm
       clear hy554
       have H' := Aside0.mk H
       clear H
       obtain ⟨Ao24, co24, eo24⟩ := Kd.V_slice HO_6.out
       subst eo24
       obtain ⟨p550, q550, ad550, e550, hx550_0⟩ := xA (Kd.at_int (Kd.V_reads' HO_6.out).2.2 x28_2)
       cases e550
       obtain ⟨p551, q551, ad551, e551, hx551_0⟩ := xA (Kd.at_int (Kd.V_reads' HO_5.out).2.2 x28_2)
       cases e551
       go_wp2_with (first | (refine xg Tryd.func93 (some 48) #[.int .u32 (rd x5_4 x28_2), .int .u32 (rd x6_4 x28_2), .int .u32 x8_2] ?_; (with_reducible refine (bits_Add32.calls (rd x5_4 x28_2) (rd x6_4 x28_2) x8_2 t552 t553 _ A21.out).mono ?_); rintro e w' ⟨rfl, ⟨nd, rfl⟩⟩; refine ⟨_, rfl, ?_⟩; (try (rw [drewN_self wr]; generalize hq_ : World.drewN wr _ = wr; have n0_ : Aside0 (Kd.V (Kd.int .u32) 85 wr w.heap.size (fun k_ => some k_ ≠ (v548 : Value).ownBlock) (.slice (some ad551) x5_4.length co14) x5_4) := ⟨by rw [← hq_]; exact (xv HO_5.out)⟩; have n1_ : Aside0 (Kd.V (Kd.int .u32) 85 wr w.heap.size (fun k_ => some k_ ≠ (v548 : Value).ownBlock) (.slice (some ad550) x6_4.length co24) x6_4) := ⟨by rw [← hq_]; exact (xv HO_6.out)⟩; have n2_ : Aside0 (Kd.R (Kd.int .u32) 85 wr w.heap.size (fun _ => True) v548 x7_2) := ⟨by rw [← hq_]; exact (xr HO_7.out)⟩; have n3_ : Aside0 (Below w.heap.size w wr) := ⟨by rw [← hq_]; exact (xs HB)⟩; clear HO_5 HO_6 HO_7 HB hq_; have HO_5 := n0_; have HO_6 := n1_; have HO_7 := n2_; have HB := n3_; clear n0_ n1_ n2_ n3_)); have p23 : 0 ≤ (x28_2 : Int) := xa; have q23 : (x28_2 : Int) < ((x7_2.length : Int) : Int) := xa; obtain ⟨go23, co23, eo23, gb23, gl23, cl23, HG23⟩ := Kd.R_form HO_7.out (by omega); (cases eo23); have GB23 := Aside0.mk gb23; have GG23 := Aside0.mk HG23; clear gb23 gl23 HG23; obtain ⟨hx23_0, hf23_0⟩ := Kd.R_celln 0 HO_7.out (x28_2 : Int) p23 q23; replace p23 := eq_true p23; replace q23 := eq_true q23; obtain ⟨hy25_, hz25_⟩ := Kd.R_celln 0 HO_7.out (x28_2 : Int) (xa) (xa); have HP25 := Kd.R_putg HO_7.out (x28_2 : Int) t552) | (refine xst 85 51 (wr.setCell ⟨go23, (x28_2 : Int).toNat, none⟩ (.int .u32 t552)) ?_; intro w26 hw; have hg : wr.grownBy w26 (some go23) := (by rw [hw]; exact HP25.2); have hp_ : Kd.R (Kd.int .u32) 85 w26 w.heap.size (fun _ => True) (.slice (some ⟨go23, 0, none⟩) x7_2.length co23) y554 := (by rw [hw, Ny554.out]; exact HP25.1); clear HP25; replace HO_5 := Aside0.mk (Kd.V_afterv (v := (.slice (some ⟨go23, 0, none⟩) x7_2.length co23)) (v1 := (.slice (some ⟨go23, 0, none⟩) x7_2.length co23)) (ok := (fun _ => True)) (by exact Kd.V_mono HO_5.out (fun _ hk => by exact ⟨trivial, hk⟩)) hg (.inl rfl)); replace HO_6 := Aside0.mk (Kd.V_afterv (v := (.slice (some ⟨go23, 0, none⟩) x7_2.length co23)) (v1 := (.slice (some ⟨go23, 0, none⟩) x7_2.length co23)) (ok := (fun _ => True)) (by exact Kd.V_mono HO_6.out (fun _ hk => by exact ⟨trivial, hk⟩)) hg (.inl rfl)); replace HO_7 := Aside0.mk (hp_); replace HB := Aside0.mk (by rw [hw]; exact below_set (HB.out) GB23.out : Below w.heap.size w w26); clear hg hw hp_))
       go_roundg k2
       case measure => have := HJ4.out; have := HK2.out; omega
       case rel => exact ⟨(y554), (t553), (wrap64 (x28_2 + 1)), xz, xz, H', ⟨by have := HJ4.out; have := HK2.out; omega⟩, ⟨by exact Kd.V_mono HO_5.out (fun _ hk => hk.2)⟩, ⟨by exact Kd.V_mono HO_6.out (fun _ hk => hk.2)⟩, ⟨xr HO_7.out⟩, ⟨xs HB⟩⟩
      obtain ⟨c27b0, H⟩ := xQd H
      obtain ⟨c28b0, H⟩ := xQd H
      replace H := xH H; obtain ⟨⟨t556, t557⟩, A29, H⟩ := H
      dsimp only at H
      obtain ⟨c30b0, H⟩ := xQd H
      generalize hy558 : (x7_2.set (x28_2 : Int).toNat t556 : List Int) = y558 at H
      have Ny558 := Aside0.mk hy558.symm
      clear hy558
      have H' := Aside0.mk H
      clear H
      obtain ⟨Ao32, co32, eo32⟩ := Kd.V_slice HO_6.out
      subst eo32
      obtain ⟨p555, q555, ad555, e555, hx555_0⟩ := xA (Kd.at_int (Kd.V_reads' HO_5.out).2.2 x28_2)
      cases e555
      go_wp2_with (first | (refine xg Tryd.func93 (some 48) #[.int .u32 (rd x5_4 x28_2), .int .u32 0, .int .u32 x8_2] ?_; (with_reducible refine (bits_Add32.calls (rd x5_4 x28_2) 0 x8_2 t556 t557 _ A29.out).mono ?_); rintro e w' ⟨rfl, ⟨nd, rfl⟩⟩; refine ⟨_, rfl, ?_⟩; (try (rw [drewN_self wr]; generalize hq_ : World.drewN wr _ = wr; have n0_ : Aside0 (Kd.V (Kd.int .u32) 85 wr w.heap.size (fun k_ => some k_ ≠ (v548 : Value).ownBlock) (.slice (some ad555) x5_4.length co14) x5_4) := ⟨by rw [← hq_]; exact (xv HO_5.out)⟩; have n1_ : Aside0 (Kd.V (Kd.int .u32) 85 wr w.heap.size (fun k_ => some k_ ≠ (v548 : Value).ownBlock) (.slice Ao32 x6_4.length co32) x6_4) := ⟨by rw [← hq_]; exact (xv HO_6.out)⟩; have n2_ : Aside0 (Kd.R (Kd.int .u32) 85 wr w.heap.size (fun _ => True) v548 x7_2) := ⟨by rw [← hq_]; exact (xr HO_7.out)⟩; have n3_ : Aside0 (Below w.heap.size w wr) := ⟨by rw [← hq_]; exact (xs HB)⟩; clear HO_5 HO_6 HO_7 HB hq_; have HO_5 := n0_; have HO_6 := n1_; have HO_7 := n2_; have HB := n3_; clear n0_ n1_ n2_ n3_)); have p31 : 0 ≤ (x28_2 : Int) := xa; have q31 : (x28_2 : Int) < ((x7_2.length : Int) : Int) := xa; obtain ⟨go31, co31, eo31, gb31, gl31, cl31, HG31⟩ := Kd.R_form HO_7.out (by omega); (cases eo31); have GB31 := Aside0.mk gb31; have GG31 := Aside0.mk HG31; clear gb31 gl31 HG31; obtain ⟨hx31_0, hf31_0⟩ := Kd.R_celln 0 HO_7.out (x28_2 : Int) p31 q31; replace p31 := eq_true p31; replace q31 := eq_true q31; obtain ⟨hy33_, hz33_⟩ := Kd.R_celln 0 HO_7.out (x28_2 : Int) (xa) (xa); have HP33 := Kd.R_putg HO_7.out (x28_2 : Int) t556) | (refine xst 85 51 (wr.setCell ⟨go31, (x28_2 : Int).toNat, none⟩ (.int .u32 t556)) ?_; intro w34 hw; have hg : wr.grownBy w34 (some go31) := (by rw [hw]; exact HP33.2); have hp_ : Kd.R (Kd.int .u32) 85 w34 w.heap.size (fun _ => True) (.slice (some ⟨go31, 0, none⟩) x7_2.length co31) y558 := (by rw [hw, Ny558.out]; exact HP33.1); clear HP33; replace HO_5 := Aside0.mk (Kd.V_afterv (v := (.slice (some ⟨go31, 0, none⟩) x7_2.length co31)) (v1 := (.slice (some ⟨go31, 0, none⟩) x7_2.length co31)) (ok := (fun _ => True)) (by exact Kd.V_mono HO_5.out (fun _ hk => by exact ⟨trivial, hk⟩)) hg (.inl rfl)); replace HO_6 := Aside0.mk (Kd.V_afterv (v := (.slice (some ⟨go31, 0, none⟩) x7_2.length co31)) (v1 := (.slice (some ⟨go31, 0, none⟩) x7_2.length co31)) (ok := (fun _ => True)) (by exact Kd.V_mono HO_6.out (fun _ hk => by exact ⟨trivial, hk⟩)) hg (.inl rfl)); replace HO_7 := Aside0.mk (hp_); replace HB := Aside0.mk (by rw [hw]; exact below_set (HB.out) GB31.out : Below w.heap.size w w34); clear hg hw hp_))
      go_roundg k2
      case measure => have := HJ4.out; have := HK2.out; omega
      case rel => exact ⟨(y558), (t557), (wrap64 (x28_2 + 1)), xz, xz, H', ⟨by have := HJ4.out; have := HK2.out; omega⟩, ⟨by exact Kd.V_mono HO_5.out (fun _ hk => hk.2)⟩, ⟨by exact Kd.V_mono HO_6.out (fun _ hk => hk.2)⟩, ⟨xr HO_7.out⟩, ⟨xs HB⟩⟩
     obtain ⟨c35, H⟩ := xQ H
     have c35b0 := decide_eq_true c35
     have c35b1 : decide (0 ≤ x5_4.length) = true := decide_eq_true (by omega)
     clear c35
     obtain ⟨c36, H⟩ := xQ H
     have c36b0 := decide_eq_true c36
     have c36b1 : decide (x5_4.length < x7_2.length) = true := decide_eq_true (Int.ofNat_lt.mp c36)
     clear c36
     generalize hy559 : (x7_2.set ((x5_4.length : Int) : Int).toNat x8_2 : List Int) = y559 at H
     have Ny559 := Aside0.mk hy559.symm
     clear hy559
     replace H := xH H; obtain ⟨t560, A38, H⟩ := H
     obtain rfl := Option.some.inj H
     have p37 : 0 ≤ ((x5_4.length : Int) : Int) := xa
     have q37 : ((x5_4.length : Int) : Int) < ((x7_2.length : Int) : Int) := xa
     obtain ⟨go37, co37, eo37, gb37, gl37, cl37, HG37⟩ := Kd.R_form HO_7.out (by omega)
     cases eo37
     have GB37 := Aside0.mk gb37
     have GG37 := Aside0.mk HG37
     clear gb37 gl37 HG37
     obtain ⟨hx37_0, hf37_0⟩ := Kd.R_celln 0 HO_7.out ((x5_4.length : Int) : Int) p37 q37
     (try simp only [Int.toNat_natCast] at hx37_0)
     (try simp only [Int.toNat_natCast] at hf37_0)
     replace p37 := eq_true p37
     replace q37 := eq_true q37
     have HP39 := Kd.R_putg HO_7.out ((x5_4.length : Int) : Int) x8_2
     go_wp2_with (first | (refine xst 85 57 (wr.setCell ⟨go37, ((x5_4.length : Int) : Int).toNat, none⟩ (.int .u32 x8_2)) ?_; intro w40 hw; have hg : wr.grownBy w40 (some go37) := (by rw [hw]; exact HP39.2); have hp_ : Kd.R (Kd.int .u32) 85 w40 w.heap.size (fun _ => True) (.slice (some ⟨go37, 0, none⟩) x7_2.length co37) y559 := (by rw [hw, Ny559.out]; exact HP39.1); clear HP39; replace HO_5 := Aside0.mk (Kd.V_afterv (v := (.slice (some ⟨go37, 0, none⟩) x7_2.length co37)) (v1 := (.slice (some ⟨go37, 0, none⟩) x7_2.length co37)) (ok := (fun _ => True)) (by exact Kd.V_mono HO_5.out (fun _ hk => by exact ⟨trivial, hk⟩)) hg (.inl rfl)); replace HO_6 := Aside0.mk (Kd.V_afterv (v := (.slice (some ⟨go37, 0, none⟩) x7_2.length co37)) (v1 := (.slice (some ⟨go37, 0, none⟩) x7_2.length co37)) (ok := (fun _ => True)) (by exact Kd.V_mono HO_6.out (fun _ hk => by exact ⟨trivial, hk⟩)) hg (.inl rfl)); replace HO_7 := Aside0.mk (hp_); replace HB := Aside0.mk (by rw [hw]; exact below_set (HB.out) GB37.out : Below w.heap.size w w40); clear hg hw hp_) | (refine xg Tryd.func78 (some 59) #[.slice (some ⟨go37, 0, none⟩) y559.length co37] ?_ (hargs := (by (try simp only [List.map_toArray, List.map_cons, List.map_nil]); (rw [show y559.length = x7_2.length from (Kd.R_reads' HO_7.out).1.symm] <;> rfl))); (with_reducible refine (nt_limbs_text.calls k2 _ _ y559 t560 _ ?side1 ?side2 A38.out).mono ?_); (case side1 => repeat (exact (Kd.R_reads' HO_7.out).2.2)); (case side2 => rw [show y559.length = x7_2.length from (Kd.R_reads' HO_7.out).1.symm]; exact (Kd.R_reads' HO_7.out).2.1); rintro e w41 ⟨rfl, hb⟩; refine ⟨_, rfl, ?_⟩; replace HO_5 := xVb HO_5 hb; replace HO_6 := xVb HO_6 hb; replace HO_7 := xRb HO_7 hb; replace HB := xS HB hb; clear hb))
     go_ret
     exact ⟨by rfl, xs HB⟩
/-! ### nt_subtract: function 95 -/
def nt_subtract.l0 : Nat → List Int → List Int → List Int → Int → Int → Int → Option (List Int)
 | 0, _, _, _, _, _, _ => none
 | k + 1, x0, x1, x5, x6, x13, x14 => if x14 < x13 then (if x14 < (x1.length : Int) then (if 0 ≤ x14 then (if x14 < (x0.length : Int) then ((bits_Sub32.f (rd x0 x14) (rd x1 x14) x6).bind fun bt566 => (if x14 < (x5.length : Int) then (nt_subtract.l0 k x0 x1 (x5.set (x14 : Int).toNat bt566.1) bt566.2 x13 (wrap64 (x14 + 1))) else (none))) else (none)) else (none)) else (if 0 ≤ x14 then (if x14 < (x0.length : Int) then ((bits_Sub32.f (rd x0 x14) 0 x6).bind fun bt570 => (if x14 < (x5.length : Int) then (nt_subtract.l0 k x0 x1 (x5.set (x14 : Int).toNat bt570.1) bt570.2 x13 (wrap64 (x14 + 1))) else (none))) else (none)) else (none))) else ((nt_limbs_trim.f k x5).bind fun t573 => (some t573))
def nt_subtract.f (k : Nat) (l0 : List Int) (l1 : List Int) : Option (List Int) := if 0 ≤ (l0.length : Int) then (if ((l0.length : Int) : Int).toNat ≤ 70368744177664 then (nt_subtract.l0 k l0 l1 (List.replicate ((l0.length : Int) : Int).toNat 0) 0 (l0.length : Int) 0) else (none)) else (none)
theorem nt_subtract.mono_l : ∀ k, (∀ y0 y1 y2 y3 y4 y5, LeO (nt_subtract.l0 k y0 y1 y2 y3 y4 y5) (nt_subtract.l0 (k + 1) y0 y1 y2 y3 y4 y5))
 | 0 => fun _ _ _ _ _ _ r h => by simp [nt_subtract.l0] at h
 | k + 1 => by
  have ih0 := nt_subtract.mono_l k
  ·intro y0 y1 y2 y3 y4 y5
   unfold nt_subtract.l0
   have m0 := @ih0; have m1 := @nt_limbs_trim.mono; exact xM
theorem nt_subtract.mono : ∀ a0 a1 k, LeO (nt_subtract.f k a0 a1) (nt_subtract.f (k + 1) a0 a1) := by
 intro a0 a1 k
 have ih0 := nt_subtract.mono_l k
 unfold nt_subtract.f
 have m0 := @ih0; have m1 := @nt_limbs_trim.mono; exact xM
theorem nt_subtract.calls (k : Nat) (A0 : Option Addr) (c0 : Nat) (l0 : List Int) (A1 : Option Addr) (c1 : Nat) (l1 : List Int) (r : List Int) (w : World) (hr0 : Kd.C (Kd.int .u32) w A0 l0.length l0) (hc0 : l0.length ≤ c0) (hr1 : Kd.C (Kd.int .u32) w A1 l1.length l1) (hc1 : l1.length ≤ c1) (h : nt_subtract.f k l0 l1 = some r) :
  Calls Tryd.prog 95 #[.slice A0 l0.length c0, .slice A1 l1.length c1] w fun e w' => ∃ v0_ : Value, e = .returned (v0_) ∧ Kd.V (Kd.int .u32) 85 w' w.heap.size (fun k_ => (w.heap.size ≤ k_)) v0_ r ∧ Below w.heap.size w w' := by
 have HR0 := Aside0.mk hr0
 have HC0 := Aside0.mk hc0
 clear hr0 hc0
 have HR1 := Aside0.mk hr1
 have HC1 := Aside0.mk hc1
 clear hr1 hc1
 have HB := Aside0.mk (Below.refl w.heap.size w)
 have H := h; clear h
 unfold nt_subtract.f at H
 obtain ⟨c3b0, c3b1, H⟩ := xQt H
 obtain ⟨c4b0, c4b1, H⟩ := xQt H
 generalize hy561 : (List.replicate ((l0.length : Int) : Int).toNat 0 : List Int) = y561 at H
 have Ny561 := Aside0.mk hy561.symm
 clear hy561
 have H' := Aside0.mk H
 clear H
 go_enter Tryd.func95, Tryd.ntmps95
 go_wp2_with ((with_reducible refine gate_dst (N := 11) rfl ?_); refine Kd.R_make (Kd.int .u32) _ 85 rfl (N := 11) rfl 83 _ _ rfl (l0.length : Int) rfl rfl Tryd.underlying83 (.int .u32 0) 4 info85 rfl (by decide) (by omega) 0 (ok := fun _ => True) (okp := fun _ => True) rfl (fun _ hk => hk) trivial (xa) (Nat.le_trans (Nat.mul_le_mul_right _ (xa : (l0.length : Int).toNat ≤ 70368744177664)) (by omega)) (Below.refl _ _) (Nat.le_refl _) ?_; intro v562 w5 ho6 hb hg_ hnew_; clear hg_ hnew_; (rw [← Ny561.out] at ho6); have HO563 := Aside0.mk (Kd.R_lower (Kd.R_newM (M := fun k_ => (w.heap.size ≤ k_)) ho6 (below_size (xs HB)) (fun k_ h_ => h_)) (below_size (xs HB))); replace HB := xS HB hb; clear hb ho6)
 go_loopg [6, 14] k (fun kq v6 v14 w' => ∃ (x5_1 : List Int) (x6_1 : Int) (x14_1 : Int), v6 = .int .u32 x6_1 ∧ v14 = .int .i64 x14_1 ∧ Aside0 (nt_subtract.l0 kq l0 l1 x5_1 x6_1 (l0.length : Int) x14_1 = some r) ∧ Aside0 (kq ≤ k) ∧ Aside0 (Kd.R (Kd.int .u32) 85 w' w.heap.size (fun k_ => (w.heap.size ≤ k_)) v562 x5_1) ∧ Aside0 (Below w.heap.size w w'))
 case atStart => exact ⟨(y561), (0), (0), xz, xz, H', ⟨Nat.le_refl _⟩, ⟨by exact Kd.R_mono HO563.out (fun _ hk => hk.1)⟩, ⟨xs HB⟩⟩
 case round =>
  clear H'
  clear c3b0 c3b1 c4b0 c4b1
  obtain ⟨x5_1, x6_1, x14_1, rfl, rfl, HA, HK1, HO_5, HB⟩ := hrel
  cases gk with
  | zero => exact absurd HA.out (by simp [nt_subtract.l0])
  | succ k1 =>
   have H := HA.out
   clear HA
   simp only [nt_subtract.l0] at H
   obtain ⟨c7b0, H⟩ | ⟨c7b0, H⟩ := xOd H
   ·obtain ⟨c8b0, H⟩ | ⟨c8b0, H⟩ := xOd H
    ·obtain ⟨c9b0, H⟩ := xQd H
     obtain ⟨c10b0, H⟩ := xQd H
     replace H := xH H; obtain ⟨⟨t566, t567⟩, A11, H⟩ := H
     dsimp only at H
     obtain ⟨c12b0, H⟩ := xQd H
     generalize hy568 : (x5_1.set (x14_1 : Int).toNat t566 : List Int) = y568 at H
     have Ny568 := Aside0.mk hy568.symm
     clear hy568
     have H' := Aside0.mk H
     clear H
     obtain ⟨p564, q564, ad564, e564, hx564_0⟩ := xA (Kd.at_int HR1.out x14_1)
     cases e564
     (try replace hx564_0 := xcl HB hx564_0)
     obtain ⟨p565, q565, ad565, e565, hx565_0⟩ := xA (Kd.at_int HR0.out x14_1)
     cases e565
     (try replace hx565_0 := xcl HB hx565_0)
     go_wp2_with (first | (refine xg Tryd.func103 (some 34) #[.int .u32 (rd l0 x14_1), .int .u32 (rd l1 x14_1), .int .u32 x6_1] ?_; (with_reducible refine (bits_Sub32.calls (rd l0 x14_1) (rd l1 x14_1) x6_1 t566 t567 _ A11.out).mono ?_); rintro e w' ⟨rfl, ⟨nd, rfl⟩⟩; refine ⟨_, rfl, ?_⟩; (try (rw [drewN_self wr]; generalize hq_ : World.drewN wr _ = wr; have n0_ : Aside0 (Kd.R (Kd.int .u32) 85 wr w.heap.size (fun k_ => (w.heap.size ≤ k_)) v562 x5_1) := ⟨by rw [← hq_]; exact (xr HO_5.out)⟩; have n1_ : Aside0 (Below w.heap.size w wr) := ⟨by rw [← hq_]; exact (xs HB)⟩; clear HO_5 HB hq_; have HO_5 := n0_; have HB := n1_; clear n0_ n1_)); have p13 : 0 ≤ (x14_1 : Int) := xa; have q13 : (x14_1 : Int) < ((x5_1.length : Int) : Int) := xa; obtain ⟨go13, co13, eo13, gb13, gl13, cl13, HG13⟩ := Kd.R_form HO_5.out (by omega); (cases eo13); have GB13 := Aside0.mk gb13; have GG13 := Aside0.mk HG13; clear gb13 gl13 HG13; obtain ⟨hx13_0, hf13_0⟩ := Kd.R_celln 0 HO_5.out (x14_1 : Int) p13 q13; replace p13 := eq_true p13; replace q13 := eq_true q13; obtain ⟨hy14_, hz14_⟩ := Kd.R_celln 0 HO_5.out (x14_1 : Int) (xa) (xa); have HP14 := Kd.R_putg HO_5.out (x14_1 : Int) t566) | (refine xst 85 37 (wr.setCell ⟨go13, (x14_1 : Int).toNat, none⟩ (.int .u32 t566)) ?_; intro w15 hw; have hg : wr.grownBy w15 (some go13) := (by rw [hw]; exact HP14.2); have hp_ : Kd.R (Kd.int .u32) 85 w15 w.heap.size (fun k_ => (w.heap.size ≤ k_)) (.slice (some ⟨go13, 0, none⟩) x5_1.length co13) y568 := (by rw [hw, Ny568.out]; exact HP14.1); clear HP14; replace HO_5 := Aside0.mk (hp_); replace HB := Aside0.mk (by rw [hw]; exact below_set (HB.out) GB13.out : Below w.heap.size w w15); clear hg hw hp_))
     go_roundg k1
     case measure => have := HK1.out; omega
     case rel => exact ⟨(y568), (t567), (wrap64 (x14_1 + 1)), xz, xz, H', ⟨by have := HK1.out; omega⟩, ⟨xr HO_5.out⟩, ⟨xs HB⟩⟩
    obtain ⟨c16b0, H⟩ := xQd H
    obtain ⟨c17b0, H⟩ := xQd H
    replace H := xH H; obtain ⟨⟨t570, t571⟩, A18, H⟩ := H
    dsimp only at H
    obtain ⟨c19b0, H⟩ := xQd H
    generalize hy572 : (x5_1.set (x14_1 : Int).toNat t570 : List Int) = y572 at H
    have Ny572 := Aside0.mk hy572.symm
    clear hy572
    have H' := Aside0.mk H
    clear H
    obtain ⟨p569, q569, ad569, e569, hx569_0⟩ := xA (Kd.at_int HR0.out x14_1)
    cases e569
    (try replace hx569_0 := xcl HB hx569_0)
    go_wp2_with (first | (refine xg Tryd.func103 (some 34) #[.int .u32 (rd l0 x14_1), .int .u32 0, .int .u32 x6_1] ?_; (with_reducible refine (bits_Sub32.calls (rd l0 x14_1) 0 x6_1 t570 t571 _ A18.out).mono ?_); rintro e w' ⟨rfl, ⟨nd, rfl⟩⟩; refine ⟨_, rfl, ?_⟩; (try (rw [drewN_self wr]; generalize hq_ : World.drewN wr _ = wr; have n0_ : Aside0 (Kd.R (Kd.int .u32) 85 wr w.heap.size (fun k_ => (w.heap.size ≤ k_)) v562 x5_1) := ⟨by rw [← hq_]; exact (xr HO_5.out)⟩; have n1_ : Aside0 (Below w.heap.size w wr) := ⟨by rw [← hq_]; exact (xs HB)⟩; clear HO_5 HB hq_; have HO_5 := n0_; have HB := n1_; clear n0_ n1_)); have p20 : 0 ≤ (x14_1 : Int) := xa; have q20 : (x14_1 : Int) < ((x5_1.length : Int) : Int) := xa; obtain ⟨go20, co20, eo20, gb20, gl20, cl20, HG20⟩ := Kd.R_form HO_5.out (by omega); (cases eo20); have GB20 := Aside0.mk gb20; have GG20 := Aside0.mk HG20; clear gb20 gl20 HG20; obtain ⟨hx20_0, hf20_0⟩ := Kd.R_celln 0 HO_5.out (x14_1 : Int) p20 q20; replace p20 := eq_true p20; replace q20 := eq_true q20; obtain ⟨hy21_, hz21_⟩ := Kd.R_celln 0 HO_5.out (x14_1 : Int) (xa) (xa); have HP21 := Kd.R_putg HO_5.out (x14_1 : Int) t570) | (refine xst 85 37 (wr.setCell ⟨go20, (x14_1 : Int).toNat, none⟩ (.int .u32 t570)) ?_; intro w22 hw; have hg : wr.grownBy w22 (some go20) := (by rw [hw]; exact HP21.2); have hp_ : Kd.R (Kd.int .u32) 85 w22 w.heap.size (fun k_ => (w.heap.size ≤ k_)) (.slice (some ⟨go20, 0, none⟩) x5_1.length co20) y572 := (by rw [hw, Ny572.out]; exact HP21.1); clear HP21; replace HO_5 := Aside0.mk (hp_); replace HB := Aside0.mk (by rw [hw]; exact below_set (HB.out) GB20.out : Below w.heap.size w w22); clear hg hw hp_))
    go_roundg k1
    case measure => have := HK1.out; omega
    case rel => exact ⟨(y572), (t571), (wrap64 (x14_1 + 1)), xz, xz, H', ⟨by have := HK1.out; omega⟩, ⟨xr HO_5.out⟩, ⟨xs HB⟩⟩
   replace H := xH H; obtain ⟨t573, A23, H⟩ := H
   obtain rfl := Option.some.inj H
   obtain ⟨Ao24, co24, eo24⟩ := Kd.R_slice HO_5.out
   subst eo24
   go_wp2_with (refine xg Tryd.func98 (some 40) #[.slice Ao24 x5_1.length co24] ?_; (with_reducible refine (nt_limbs_trim.calls k1 (fun k_ => some k_ = (.slice Ao24 x5_1.length co24 : Value).ownBlock) _ _ x5_1 t573 _ ?side1 A23.out).mono ?_); (case side1 => exact Kd.R_V (Kd.R_tight rfl (HO_5.out))); rintro e w25 ⟨v574, rfl, ho0, hb⟩; refine ⟨_, rfl, ?_⟩; have HO575 := xVm w (fun k_ => (w.heap.size ≤ k_)) ho0 (fun k_ hk_ => Or.elim hk_ (fun hs_ => ((HO_5.out).1 k_ hs_.symm)) (fun hn_ => (Nat.le_trans (below_size (xs HB)) hn_))); replace HO_5 := xRb HO_5 hb; replace HB := xS HB hb; clear hb ho0)
   go_ret
   exact ⟨_, xy, HO575.out, xs HB⟩
/-! ### nt_Subtract: function 73 -/
def nt_Subtract.f (k : Nat) (a0 : ByteArray) (a1 : ByteArray) : Option (ByteArray × Bool) := (nt_parse.f k a0).bind fun t576 => ((nt_parse.f k a1).bind fun t579 => ((nt_compare.f k t576 t579).bind fun t582 => (if t582 < 0 then (some ((⟨#[]⟩ : ByteArray), false)) else ((nt_subtract.f k t576 t579).bind fun t583 => ((nt_limbs_text.f k t583).bind fun t586 => (some (t586, true)))))))
theorem nt_Subtract.mono : ∀ a0 a1 k, LeO (nt_Subtract.f k a0 a1) (nt_Subtract.f (k + 1) a0 a1) := by
 intro a0 a1 k
 unfold nt_Subtract.f
 have m0 := @nt_compare.mono; have m1 := @nt_limbs_text.mono; have m2 := @nt_parse.mono; have m3 := @nt_subtract.mono; exact xM
theorem nt_Subtract.calls (k : Nat) (a0 : ByteArray) (a1 : ByteArray) (r1 : ByteArray) (r2 : Bool) (w : World) (h : nt_Subtract.f k a0 a1 = some (r1, r2)) :
  Calls Tryd.prog 73 #[.string a0, .string a1] w fun e w' => e = .returned (.tuple #[.string r1, .bool r2]) ∧ Below w.heap.size w w' := by
 have HB := Aside0.mk (Below.refl w.heap.size w)
 have H := h; clear h
 unfold nt_Subtract.f at H
 replace H := xH H; obtain ⟨t576, A3, H⟩ := H
 replace H := xH H; obtain ⟨t579, A4, H⟩ := H
 replace H := xH H; obtain ⟨t582, A5, H⟩ := H
 obtain ⟨c6b0, H⟩ | ⟨c6b0, H⟩ := xOd H
 ·simp only [Option.some.injEq, Prod.mk.injEq] at H
  obtain ⟨rfl, rfl⟩ := H
  go_enter Tryd.func73, Tryd.ntmps73
  go_wp2_with (first | (refine xg Tryd.func77 (some 9) #[.string a0] ?_; (with_reducible refine (nt_parse.calls k a0 t576 _ A3.out).mono ?_); rintro e w7 ⟨v577, rfl, ho0, hb⟩; refine ⟨_, rfl, ?_⟩; have HO578 := xVm w (fun k_ => True) ho0 (fun k_ hk_ => trivial); replace HB := xS HB hb; clear hb ho0) | (refine xg Tryd.func77 (some 11) #[.string a1] ?_; (with_reducible refine (nt_parse.calls k a1 t579 _ A4.out).mono ?_); rintro e w8 ⟨v580, rfl, ho0, hb⟩; refine ⟨_, rfl, ?_⟩; replace HO578 := xVb HO578 hb; have HO581 := xVm w (fun k_ => True) ho0 (fun k_ hk_ => trivial); replace HB := xS HB hb; clear hb ho0; obtain ⟨Ao9, co9, eo9⟩ := Kd.V_slice HO578.out; subst eo9; obtain ⟨Ao10, co10, eo10⟩ := Kd.V_slice HO581.out; subst eo10) | (refine xg Tryd.func94 (some 14) #[.slice Ao9 t576.length co9, .slice Ao10 t579.length co10] ?_; (with_reducible refine (nt_compare.calls k _ _ t576 _ _ t579 t582 _ (xf (Kd.V_reads' HO578.out).2.2) (Kd.V_reads' HO578.out).2.1 (xf (Kd.V_reads' HO581.out).2.2) (Kd.V_reads' HO581.out).2.1 A5.out).mono ?_); rintro e w' ⟨rfl, ⟨nd, rfl⟩⟩; refine ⟨_, rfl, ?_⟩))
  go_ret2
  exact ⟨xy, xs HB⟩
 replace H := xH H; obtain ⟨t583, A11, H⟩ := H
 replace H := xH H; obtain ⟨t586, A12, H⟩ := H
 simp only [Option.some.injEq, Prod.mk.injEq] at H
 obtain ⟨rfl, rfl⟩ := H
 go_enter Tryd.func73, Tryd.ntmps73
 go_wp2_with (first | (refine xg Tryd.func77 (some 9) #[.string a0] ?_; (with_reducible refine (nt_parse.calls k a0 t576 _ A3.out).mono ?_); rintro e w13 ⟨v577, rfl, ho0, hb⟩; refine ⟨_, rfl, ?_⟩; have HO578 := xVm w (fun k_ => True) ho0 (fun k_ hk_ => trivial); replace HB := xS HB hb; clear hb ho0) | (refine xg Tryd.func77 (some 11) #[.string a1] ?_; (with_reducible refine (nt_parse.calls k a1 t579 _ A4.out).mono ?_); rintro e w14 ⟨v580, rfl, ho0, hb⟩; refine ⟨_, rfl, ?_⟩; replace HO578 := xVb HO578 hb; have HO581 := xVm w (fun k_ => True) ho0 (fun k_ hk_ => trivial); replace HB := xS HB hb; clear hb ho0; obtain ⟨Ao15, co15, eo15⟩ := Kd.V_slice HO578.out; subst eo15; obtain ⟨Ao16, co16, eo16⟩ := Kd.V_slice HO581.out; subst eo16) | (refine xg Tryd.func94 (some 14) #[.slice Ao15 t576.length co15, .slice Ao16 t579.length co16] ?_; (with_reducible refine (nt_compare.calls k _ _ t576 _ _ t579 t582 _ (xf (Kd.V_reads' HO578.out).2.2) (Kd.V_reads' HO578.out).2.1 (xf (Kd.V_reads' HO581.out).2.2) (Kd.V_reads' HO581.out).2.1 A5.out).mono ?_); rintro e w' ⟨rfl, ⟨nd, rfl⟩⟩; refine ⟨_, rfl, ?_⟩) | (refine xg Tryd.func95 (some 18) #[.slice Ao15 t576.length co15, .slice Ao16 t579.length co16] ?_; (with_reducible refine (nt_subtract.calls k _ _ t576 _ _ t579 t583 _ (xf (Kd.V_reads' HO578.out).2.2) (Kd.V_reads' HO578.out).2.1 (xf (Kd.V_reads' HO581.out).2.2) (Kd.V_reads' HO581.out).2.1 A11.out).mono ?_); rintro e w17 ⟨v584, rfl, ho0, hb⟩; refine ⟨_, rfl, ?_⟩; replace HO578 := xVb HO578 hb; replace HO581 := xVb HO581 hb; have HO585 := xVm w (fun k_ => True) ho0 (fun k_ hk_ => trivial); replace HB := xS HB hb; clear hb ho0; obtain ⟨Ao18, co18, eo18⟩ := Kd.V_slice HO585.out; subst eo18) | (refine xg Tryd.func78 (some 19) #[.slice Ao18 t583.length co18] ?_; (with_reducible refine (nt_limbs_text.calls k _ _ t583 t586 _ (xf (Kd.V_reads' HO585.out).2.2) (Kd.V_reads' HO585.out).2.1 A12.out).mono ?_); rintro e w19 ⟨rfl, hb⟩; refine ⟨_, rfl, ?_⟩; replace HO578 := xVb HO578 hb; replace HO581 := xVb HO581 hb; replace HO585 := xVb HO585 hb; replace HB := xS HB hb; clear hb))
 go_ret2
 exact ⟨xy, xs HB⟩
/-! ### rt_add: function 46 -/
def rt_add.j0 : Nat → ByteArray → ByteArray → ByteArray → Bool → ByteArray → ByteArray → Bool → ByteArray → ByteArray → Option (Bool × ByteArray × ByteArray)
 | 0, _, _, _, _, _, _, _, _, _ => none
 | k + 1, x5, x6, x7, x588000, x588001, x588002, x589000, x589001, x589002 => if (x588000 == x589000) = true then ((nt_Add.f k x5 x6).bind fun t598 => ((rt_reduced.f k x588000 t598 x7).bind fun bt599 => (some (bt599.1, bt599.2.1, bt599.2.2)))) else ((nt_Subtract.f k x5 x6).bind fun bt602 => (if bt602.2 = true then ((rt_reduced.f k x588000 bt602.1 x7).bind fun bt604 => (some (bt604.1, bt604.2.1, bt604.2.2))) else ((nt_Subtract.f k x6 x5).bind fun bt607 => ((rt_reduced.f k x589000 bt607.1 x7).bind fun bt609 => (some (bt609.1, bt609.2.1, bt609.2.2))))))
def rt_add.f (k : Nat) (a0_0 : Bool) (a0_1 : ByteArray) (a0_2 : ByteArray) (a1_0 : Bool) (a1_1 : ByteArray) (a1_2 : ByteArray) : Option (Bool × ByteArray × ByteArray) := if a0_2.toList = a1_2.toList then ((rt_den.f a0_0 a0_1 a0_2).bind fun t590 => (rt_add.j0 k a0_1 a1_1 t590 a0_0 a0_1 a0_2 a1_0 a1_1 a1_2)) else ((rt_den.f a1_0 a1_1 a1_2).bind fun t591 => ((nt_Multiply.f k a0_1 t591).bind fun t592 => ((rt_den.f a0_0 a0_1 a0_2).bind fun t593 => ((nt_Multiply.f k a1_1 t593).bind fun t594 => ((rt_den.f a0_0 a0_1 a0_2).bind fun t595 => ((rt_den.f a1_0 a1_1 a1_2).bind fun t596 => ((nt_Multiply.f k t595 t596).bind fun t597 => (rt_add.j0 k t592 t594 t597 a0_0 a0_1 a0_2 a1_0 a1_1 a1_2))))))))
theorem rt_add.mono_l : ∀ k, (∀ y0 y1 y2 y3 y4 y5 y6 y7 y8, LeO (rt_add.j0 k y0 y1 y2 y3 y4 y5 y6 y7 y8) (rt_add.j0 (k + 1) y0 y1 y2 y3 y4 y5 y6 y7 y8))
 | 0 => fun _ _ _ _ _ _ _ _ _ r h => by simp [rt_add.j0] at h
 | k + 1 => by
  have ih0 := rt_add.mono_l k
  ·intro y0 y1 y2 y3 y4 y5 y6 y7 y8
   unfold rt_add.j0
   have m0 := @ih0; have m1 := @nt_Add.mono; have m2 := @nt_Multiply.mono; have m3 := @nt_Subtract.mono; have m4 := @rt_reduced.mono; exact xM
theorem rt_add.mono : ∀ a0 a1 a2 a3 a4 a5 k, LeO (rt_add.f k a0 a1 a2 a3 a4 a5) (rt_add.f (k + 1) a0 a1 a2 a3 a4 a5) := by
 intro a0 a1 a2 a3 a4 a5 k
 have ih0 := rt_add.mono_l k
 unfold rt_add.f
 have m0 := @ih0; have m1 := @nt_Add.mono; have m2 := @nt_Multiply.mono; have m3 := @nt_Subtract.mono; have m4 := @rt_reduced.mono; exact xM
def rt_add.T3 : Bool × List (List Nat × List Nat) := (true, [([], []), ([], []), ([1], [1]), ([0, 2, 2], [0, 2]), ([], []), ([], []), ([5, 3], [5]), ([4, 6, 6], [4, 6]), ([3, 7, 0, 1, 2, 3], [0, 3]), ([7, 8, 0, 1, 2, 3, 4, 5, 6, 7, 8], [4, 7])])
def rt_add.B3 : List Nat := [0, 0, 2, 7, 0, 0, 47, 127, 255, 511]
theorem rt_add.tab3 : rtab .any (opsOf Tryd.f46 3) = rt_add.T3 := by kernel_rfl
theorem rt_add.bits3 : waitsOk rt_add.T3.2 rt_add.B3 = true := by kernel_rfl
def rt_add.T7 : Bool × List (List Nat × List Nat) := (true, [([], []), ([0], [0]), ([], []), ([], []), ([2, 3], [2, 3]), ([], []), ([1, 4, 5, 4], [1, 4, 5]), ([6, 6, 0, 1, 2, 3, 4, 5, 6], [6])])
def rt_add.B7 : List Nat := [0, 1, 0, 0, 12, 0, 63, 127]
theorem rt_add.tab7 : rtab .any (opsOf Tryd.f46 7) = rt_add.T7 := by kernel_rfl
theorem rt_add.bits7 : waitsOk rt_add.T7.2 rt_add.B7 = true := by kernel_rfl
theorem rt_add.calls (k : Nat) (a0_0 : Bool) (a0_1 : ByteArray) (a0_2 : ByteArray) (a1_0 : Bool) (a1_1 : ByteArray) (a1_2 : ByteArray) (r1 : Bool) (r2 : ByteArray) (r3 : ByteArray) (w : World) (h : rt_add.f k a0_0 a0_1 a0_2 a1_0 a1_1 a1_2 = some (r1, r2, r3)) :
  Calls Tryd.prog 46 #[.agg #[.bool a0_0, .string a0_1, .string a0_2], .agg #[.bool a1_0, .string a1_1, .string a1_2]] w fun e w' => e = .returned (.agg #[.bool r1, .string r2, .string r3]) ∧ Below w.heap.size w w' := by
 have hu25 := Tryd.underlying25
 have HB := Aside0.mk (Below.refl w.heap.size w)
 have H := h; clear h
 unfold rt_add.f at H
 have HC3 := Aside0.mk H
 clear H
 go_enter Tryd.func46, Tryd.ntmps46
 try go_wp2_with (first | (refine xF (N := 2) #[.bool a0_0, .string a0_1, .string a0_2] 25 HB ?_; clear HB; intro gb587 hg w4 hb BK587 GW587 HB; clear hb hg) | (refine xF (N := 3) #[.bool a1_0, .string a1_1, .string a1_2] 25 HB ?_; clear HB; intro gb588 hg w5 hb BK588 GW588 HB; have NB587_588 := xL BK587 hg; have NB588_587 := xR BK587 hg; replace BK587 := xB BK587 hb; clear hb hg) | (refine xF (N := 4) #[.bool false, .string (⟨#[]⟩ : ByteArray), .string (⟨#[]⟩ : ByteArray)] 25 HB ?_; clear HB; intro gb589 hg w6 hb BK589 GW589 HB; have NB587_589 := xL BK587 hg; have NB589_587 := xR BK587 hg; replace BK587 := xB BK587 hb; have NB588_589 := xL BK588 hg; have NB589_588 := xR BK588 hg; replace BK588 := xB BK588 hb; clear hb hg))
 replace BK587 := xD BK587
 replace BK588 := xD BK588
 replace BK589 := xD BK589
 replace HB := xW HB
 refine start_ (n := 7) (S := fun w' => w'.cell? ⟨gb587, 0, none⟩ = some (.bool a0_0) ∧ w'.cell? ⟨gb587, 1, none⟩ = some (.string a0_1) ∧ w'.cell? ⟨gb587, 2, none⟩ = some (.string a0_2) ∧ w'.cell? ⟨gb588, 0, none⟩ = some (.bool a1_0) ∧ w'.cell? ⟨gb588, 1, none⟩ = some (.string a1_1) ∧ w'.cell? ⟨gb588, 2, none⟩ = some (.string a1_2)) (ds := []) (b 7 0) (by kernel_rfl) rfl rfl xV (fun hHeld => ?_)
 generalize w6.drew = w7 at BK587 BK588 BK589 HB hHeld ⊢
 refine yP 0 (some 12) (b 7 1) ?_
 refine yP 2 (some 14) (b 7 5) ?_
 refine yT 1 (some 13) (b 7 7) hHeld ?_
 refine yP 4 (some 5) (b 7 23) ?_
 refine yT 3 (some 15) (b 7 31) hHeld ?_
 refine yP 5 (some 6) (b 7 63) ?_
 refine yP 6 (some 7) (b 7 127) ?_
 refine done_ (by kernel_rfl) ?_
 have hnb8 := NB587_588.out
 have hnc8 := NB588_587.out
 have hnb9 := NB587_589.out
 have hnc9 := NB589_587.out
 obtain ⟨hcz10_0, hcz10_1, hcz10_2, hfz10_0, hfz10_1, hfz10_2⟩ := x6 BK587
 have hnb11 := NB588_589.out
 have hnc11 := NB589_588.out
 obtain ⟨hcz12_0, hcz12_1, hcz12_2, hfz12_0, hfz12_1, hfz12_2⟩ := x6 BK588
 go_upto_if 20 with (fail)
 repeat (go_quiet (fail); go_upto_if 20 with (fail))
 go_cut [5, 6, 7] (fun v5 v6 v7 wc => ∃ (kq : Nat) (x5_2 : ByteArray) (x6_2 : ByteArray) (x7_2 : ByteArray), v5 = .string x5_2 ∧ v6 = .string x6_2 ∧ v7 = .string x7_2 ∧ Aside0 (rt_add.j0 kq x5_2 x6_2 x7_2 a0_0 a0_1 a0_2 a1_0 a1_1 a1_2 = some (r1, r2, r3)) ∧ Aside0 (kq ≤ k) ∧ Aside0 (wc.heap[gb587]? = some (.cells #[.bool a0_0, .string a0_1, .string a0_2] 25 (0, 0))) ∧ Aside0 (wc.heap[gb588]? = some (.cells #[.bool a1_0, .string a1_1, .string a1_2] 25 (0, 0))) ∧ Aside0 (wc.heap[gb589]? = some (.cells #[.bool false, .string (⟨#[]⟩ : ByteArray), .string (⟨#[]⟩ : ByteArray)] 25 (0, 0))) ∧ Aside0 (Below w.heap.size w wc))
 case first =>
  have H := HC3.out
  clear HC3
  obtain ⟨c13, H⟩ | ⟨c13, H⟩ := xO H
  ·have c13b0 := beq_iff_eq.mpr c13
   have c13b1 := bne_eq_false_iff_eq.mpr c13
   clear c13
   rw [c13b0]
   replace H := xH H; obtain ⟨t590, A14, H⟩ := H
   have H' := Aside0.mk H
   clear H
   have hnb15 := NB587_588.out
   have hnc15 := NB588_587.out
   have hnb16 := NB587_589.out
   have hnc16 := NB589_587.out
   obtain ⟨hcz17_0, hcz17_1, hcz17_2, hfz17_0, hfz17_1, hfz17_2⟩ := x6 BK587
   go_wp2_with (refine xC Tryd.func49 (some 35) (rt_den.calls a0_0 a0_1 a0_2 t590 _ A14.out) ?_; rintro w18 hb; replace BK587 := xB BK587 hb; replace BK588 := xB BK588 hb; replace BK589 := xB BK589 hb; replace HB := xS HB hb; clear hb)
   go_meet
   case rel => exact ⟨_, (a0_1), (a1_1), (t590), xz, xz, xz, H', ⟨by omega⟩, ⟨xb BK587⟩, ⟨xb BK588⟩, ⟨xb BK589⟩, ⟨xs HB⟩⟩
  have c13b0 := beq_eq_false_iff_ne.mpr c13
  have c13b1 := bne_iff_ne.mpr c13
  rw [c13b0]
  replace H := xH H; obtain ⟨t591, A19, H⟩ := H
  replace H := xH H; obtain ⟨t592, A20, H⟩ := H
  replace H := xH H; obtain ⟨t593, A21, H⟩ := H
  replace H := xH H; obtain ⟨t594, A22, H⟩ := H
  replace H := xH H; obtain ⟨t595, A23, H⟩ := H
  replace H := xH H; obtain ⟨t596, A24, H⟩ := H
  replace H := xH H; obtain ⟨t597, A25, H⟩ := H
  have H' := Aside0.mk H
  clear H
  try go_wp2
  replace BK587 := xD BK587
  replace BK588 := xD BK588
  replace BK589 := xD BK589
  replace HB := xW HB
  refine start_ (n := 10) (S := fun w' => w'.cell? ⟨gb588, 0, none⟩ = some (.bool a1_0) ∧ w'.cell? ⟨gb588, 1, none⟩ = some (.string a1_1) ∧ w'.cell? ⟨gb588, 2, none⟩ = some (.string a1_2) ∧ w'.cell? ⟨gb587, 0, none⟩ = some (.bool a0_0) ∧ w'.cell? ⟨gb587, 1, none⟩ = some (.string a0_1) ∧ w'.cell? ⟨gb587, 2, none⟩ = some (.string a0_2)) (ds := []) (b 10 0) (by kernel_rfl) rfl rfl xV (fun hHeld => ?_); refine with_tabW rt_add.tab3 rt_add.bits3 (fun HT_ HW_ => ?_)
  generalize w7.drew = w26 at BK587 BK588 BK589 HB hHeld ⊢
  refine yP 0 (some 21) (b 10 1) ?_
  refine yP 4 (some 25) (b 10 17) ?_
  refine yT 1 (some 22) (b 10 19) hHeld ?_
  refine yT 5 (some 26) (b 10 51) hHeld ?_
  refine yO 2 (some 23) (b 10 55) fun K hK => ?_
  refine xc Tryd.func49 (rt_den.calls a1_0 a1_1 a1_2 t591 _ A19.out) ?_
  rintro w27 hb
  replace BK587 := xB BK587 hb
  replace BK588 := xB BK588 hb
  replace BK589 := xB BK589 hb
  replace HB := xS HB hb
  clear hb
  refine hK.out _ _ xV (fun hHeld => ?_)
  clear hK K
  refine xN 23 ?_
  refine yO 3 (some 24) (b 10 63) fun K hK => ?_
  refine xc Tryd.func48 (nt_Multiply.calls k a0_1 t591 t592 _ A20.out) ?_
  rintro w28 hb
  replace BK587 := xB BK587 hb
  replace BK588 := xB BK588 hb
  replace BK589 := xB BK589 hb
  replace HB := xS HB hb
  clear hb
  refine hK.out _ _ xV (fun hHeld => ?_)
  clear hK K
  refine xN 24 ?_
  refine yO 6 (some 27) (b 10 127) fun K hK => ?_
  refine xc Tryd.func49 (rt_den.calls a0_0 a0_1 a0_2 t593 _ A21.out) ?_
  rintro w29 hb
  replace BK587 := xB BK587 hb
  replace BK588 := xB BK588 hb
  replace BK589 := xB BK589 hb
  replace HB := xS HB hb
  clear hb
  refine hK.out _ _ xV (fun hHeld => ?_)
  clear hK K
  refine xN 27 ?_
  refine yO 7 (some 28) (b 10 255) fun K hK => ?_
  refine xc Tryd.func48 (nt_Multiply.calls k a1_1 t593 t594 _ A22.out) ?_
  rintro w30 hb
  replace BK587 := xB BK587 hb
  replace BK588 := xB BK588 hb
  replace BK589 := xB BK589 hb
  replace HB := xS HB hb
  clear hb
  refine hK.out _ _ xV (fun hHeld => ?_)
  clear hK K
  refine xN 28 ?_
  refine yP 8 (some 5) (b 10 511) ?_
  refine yP 9 (some 6) (b 10 1023) ?_
  refine done_ (done_of HT_.out (by kernel_rfl)) ?_
  try go_wp2
  replace BK587 := xD BK587
  replace BK588 := xD BK588
  replace BK589 := xD BK589
  replace HB := xW HB
  refine start_ (n := 6) (S := fun w' => w'.cell? ⟨gb587, 0, none⟩ = some (.bool a0_0) ∧ w'.cell? ⟨gb587, 1, none⟩ = some (.string a0_1) ∧ w'.cell? ⟨gb587, 2, none⟩ = some (.string a0_2) ∧ w'.cell? ⟨gb588, 0, none⟩ = some (.bool a1_0) ∧ w'.cell? ⟨gb588, 1, none⟩ = some (.string a1_1) ∧ w'.cell? ⟨gb588, 2, none⟩ = some (.string a1_2)) (ds := []) (b 6 0) (by kernel_rfl) rfl rfl xV (fun hHeld => ?_)
  generalize w30.drew = w31 at BK587 BK588 BK589 HB hHeld ⊢
  refine yT 0 (some 29) (b 6 1) hHeld ?_
  refine yT 2 (some 31) (b 6 5) hHeld ?_
  refine yO 1 (some 30) (b 6 7) fun K hK => ?_
  refine xc Tryd.func49 (rt_den.calls a0_0 a0_1 a0_2 t595 _ A23.out) ?_
  rintro w32 hb
  replace BK587 := xB BK587 hb
  replace BK588 := xB BK588 hb
  replace BK589 := xB BK589 hb
  replace HB := xS HB hb
  clear hb
  refine hK.out _ _ xV (fun hHeld => ?_)
  clear hK K
  refine xN 30 ?_
  refine yO 3 (some 32) (b 6 15) fun K hK => ?_
  refine xc Tryd.func49 (rt_den.calls a1_0 a1_1 a1_2 t596 _ A24.out) ?_
  rintro w33 hb
  replace BK587 := xB BK587 hb
  replace BK588 := xB BK588 hb
  replace BK589 := xB BK589 hb
  replace HB := xS HB hb
  clear hb
  refine hK.out _ _ xV (fun hHeld => ?_)
  clear hK K
  refine xN 32 ?_
  refine yO 4 (some 33) (b 6 31) fun K hK => ?_
  refine xc Tryd.func48 (nt_Multiply.calls k t595 t596 t597 _ A25.out) ?_
  rintro w34 hb
  replace BK587 := xB BK587 hb
  replace BK588 := xB BK588 hb
  replace BK589 := xB BK589 hb
  replace HB := xS HB hb
  clear hb
  refine hK.out _ _ xV (fun hHeld => ?_)
  clear hK K
  refine xN 33 ?_
  refine yP 5 (some 7) (b 6 63) ?_
  refine done_ (by kernel_rfl) ?_
  try go_wp2
  go_meet
  case rel => exact ⟨_, (t592), (t594), (t597), xz, xz, xz, H', ⟨by omega⟩, ⟨xb BK587⟩, ⟨xb BK588⟩, ⟨xb BK589⟩, ⟨xs HB⟩⟩
 case rest =>
  clear HC3
  clear hcz10_0 hcz10_1 hcz10_2 hcz12_0 hcz12_1 hcz12_2 hfz10_0 hfz10_1 hfz10_2 hfz12_0 hfz12_1 hfz12_2
  obtain ⟨kq, x5_2, x6_2, x7_2, rfl, rfl, rfl, HA, HJ2, BK587, BK588, BK589, HB⟩ := hcut
  cases kq with
  | zero => exact absurd HA.out (by simp [rt_add.j0])
  | succ kj2 =>
   have H := HA.out
   clear HA
   simp only [rt_add.j0] at H
   obtain ⟨c35, H⟩ | ⟨c35, H⟩ := xO H
   ·have c35b0 : (a0_0 == a1_0) = true := c35
    (try (have c35b1 : decide (a0_0 = a1_0) = true := by simpa using c35))
    (try (have c35b2 : (a0_0 == a1_0) = true := by simpa using c35))
    clear c35
    replace H := xH H; obtain ⟨t598, A36, H⟩ := H
    replace H := xH H; obtain ⟨⟨t599, t600, t601⟩, A37, H⟩ := H
    dsimp only at H
    simp only [Option.some.injEq, Prod.mk.injEq] at H
    obtain ⟨rfl, rfl, rfl⟩ := H
    have hnb38 := NB587_588.out
    have hnc38 := NB588_587.out
    have hnb39 := NB587_589.out
    have hnc39 := NB589_587.out
    obtain ⟨hcz40_0, hcz40_1, hcz40_2, hfz40_0, hfz40_1, hfz40_2⟩ := x6 BK587
    have hnb41 := NB588_589.out
    have hnc41 := NB589_588.out
    obtain ⟨hcz42_0, hcz42_1, hcz42_2, hfz42_0, hfz42_1, hfz42_2⟩ := x6 BK588
    try go_wp2
    replace BK587 := xD BK587
    replace BK588 := xD BK588
    replace BK589 := xD BK589
    replace HB := xW HB
    refine start_ (n := 8) (S := fun w' => w'.cell? ⟨gb587, 0, none⟩ = some (.bool a0_0) ∧ w'.cell? ⟨gb587, 1, none⟩ = some (.string a0_1) ∧ w'.cell? ⟨gb587, 2, none⟩ = some (.string a0_2)) (ds := []) (b 8 0) (by kernel_rfl) rfl rfl xV (fun hHeld => ?_); refine with_tabW rt_add.tab7 rt_add.bits7 (fun HT_ HW_ => ?_)
    generalize wc.drew = w43 at BK587 BK588 BK589 HB hHeld ⊢
    refine yP 0 (some 41) (b 8 1) ?_
    refine yP 2 (some 43) (b 8 5) ?_
    refine yP 3 (some 44) (b 8 13) ?_
    refine yP 5 (some 46) (b 8 45) ?_
    refine yT 1 (some 42) (b 8 47) hHeld ?_
    refine yO 4 (some 45) (b 8 63) fun K hK => ?_
    refine xc Tryd.func72 (nt_Add.calls kj2 x5_2 x6_2 t598 _ A36.out) ?_
    rintro w44 hb
    replace BK587 := xB BK587 hb
    replace BK588 := xB BK588 hb
    replace BK589 := xB BK589 hb
    replace HB := xS HB hb
    clear hb
    refine hK.out _ _ xV (fun hHeld => ?_)
    clear hK K
    refine xN 45 ?_
    refine yO 6 (some 47) (b 8 127) fun K hK => ?_
    refine xc Tryd.func52 (rt_reduced.calls kj2 a0_0 t598 x7_2 t599 t600 t601 _ A37.out) ?_
    rintro w45 hb
    replace BK587 := xB BK587 hb
    replace BK588 := xB BK588 hb
    replace BK589 := xB BK589 hb
    replace HB := xS HB hb
    clear hb
    refine hK.out _ _ xV (fun hHeld => ?_)
    clear hK K
    refine xN 47 ?_
    refine yO 7 none (b 8 255) fun K hK => ?_
    obtain ⟨hs46, hs47, hs48, hfs46, hfs47, hfs48⟩ := x6 BK589
    have hns46_0 := NB587_589.out
    have hns46_1 := NB588_589.out
    have hms46_0 := NB589_587.out
    have hms46_1 := NB589_588.out
    refine xk ?_
    refine hK.out _ _ ⟨((cell_far (p := ⟨gb589, _, none⟩) NB587_589.out _).trans ((cell_far (p := ⟨gb589, _, none⟩) NB587_589.out _).trans ((cell_far (p := ⟨gb589, _, none⟩) NB587_589.out _).trans (hHeld.1)))), ((cell_far (p := ⟨gb589, _, none⟩) NB587_589.out _).trans ((cell_far (p := ⟨gb589, _, none⟩) NB587_589.out _).trans ((cell_far (p := ⟨gb589, _, none⟩) NB587_589.out _).trans (hHeld.2.1)))), ((cell_far (p := ⟨gb589, _, none⟩) NB587_589.out _).trans ((cell_far (p := ⟨gb589, _, none⟩) NB587_589.out _).trans ((cell_far (p := ⟨gb589, _, none⟩) NB587_589.out _).trans (hHeld.2.2))))⟩ (fun hHeld => ?_)
    clear hK K
    refine done_ (done_of HT_.out (by kernel_rfl)) ?_
    try go_wp2
    refine bodyPost_ret (results_cell_row rfl _ _ gb589 25 #[.bool t599, .string t600, .string t601] (0, 0) _ rfl (xp BK589) Tryd.underlying25 rfl (by kernel_rfl)) rfl ?_
    exact ⟨xy, xs HB⟩
   have c35b0 : (a0_0 == a1_0) = false := by simpa using c35
   (try (have c35b1 : decide (a0_0 = a1_0) = false := by simpa using c35))
   (try (have c35b2 : (a0_0 == a1_0) = false := by simpa using c35))
   (try (have c35b3 : ¬ (a0_0 = a1_0) := by simpa using c35))
   clear c35
   replace H := xH H; obtain ⟨⟨t602, t603⟩, A49, H⟩ := H
   dsimp only at H
   by_cases c50 : t603 = true
   ·subst c50
    replace H := xI H
    replace H := xH H; obtain ⟨⟨t604, t605, t606⟩, A51, H⟩ := H
    dsimp only at H
    simp only [Option.some.injEq, Prod.mk.injEq] at H
    obtain ⟨rfl, rfl, rfl⟩ := H
    have hnb52 := NB587_588.out
    have hnc52 := NB588_587.out
    have hnb53 := NB587_589.out
    have hnc53 := NB589_587.out
    obtain ⟨hcz54_0, hcz54_1, hcz54_2, hfz54_0, hfz54_1, hfz54_2⟩ := x6 BK587
    have hnb55 := NB588_589.out
    have hnc55 := NB589_588.out
    obtain ⟨hcz56_0, hcz56_1, hcz56_2, hfz56_0, hfz56_1, hfz56_2⟩ := x6 BK588
    go_wp2_with (first | (refine xC Tryd.func73 (some 51) (nt_Subtract.calls kj2 x5_2 x6_2 t602 true _ A49.out) ?_; rintro w57 hb; replace BK587 := xB BK587 hb; replace BK588 := xB BK588 hb; replace BK589 := xB BK589 hb; replace HB := xS HB hb; clear hb; obtain ⟨hcz58_0, hcz58_1, hcz58_2, hfz58_0, hfz58_1, hfz58_2⟩ := x6 BK587) | (refine xC Tryd.func52 (some 59) (rt_reduced.calls kj2 a0_0 t602 x7_2 t604 t605 t606 _ A51.out) ?_; rintro w59 hb; replace BK587 := xB BK587 hb; replace BK588 := xB BK588 hb; replace BK589 := xB BK589 hb; replace HB := xS HB hb; clear hb; obtain ⟨hcz60_0, hcz60_1, hcz60_2, hfz60_0, hfz60_1, hfz60_2⟩ := x6 BK589))
    refine bodyPost_ret (results_cell_row rfl _ _ gb589 25 #[.bool t604, .string t605, .string t606] (0, 0) _ rfl (xp BK589) Tryd.underlying25 rfl (by kernel_rfl)) rfl ?_
    exact ⟨xy, xs HB⟩
   replace c50 := Bool.eq_false_iff.mpr c50
   subst c50
   have H1 : ((nt_Subtract.f kj2 x6_2 x5_2).bind fun bt607 => ((rt_reduced.f kj2 a1_0 bt607.1 x7_2).bind fun bt609 => (some (bt609.1, bt609.2.1, bt609.2.2)))) = some (r1, r2, r3) := by rw [if_neg (show ¬ (false = true) by decide)] at H; exact H
   clear H
   have H := H1
   clear H1
   replace H := xH H; obtain ⟨⟨t607, t608⟩, A61, H⟩ := H
   dsimp only at H
   replace H := xH H; obtain ⟨⟨t609, t610, t611⟩, A62, H⟩ := H
   dsimp only at H
   simp only [Option.some.injEq, Prod.mk.injEq] at H
   obtain ⟨rfl, rfl, rfl⟩ := H
   have hnb63 := NB587_588.out
   have hnc63 := NB588_587.out
   have hnb64 := NB587_589.out
   have hnc64 := NB589_587.out
   obtain ⟨hcz65_0, hcz65_1, hcz65_2, hfz65_0, hfz65_1, hfz65_2⟩ := x6 BK587
   have hnb66 := NB588_589.out
   have hnc66 := NB589_588.out
   obtain ⟨hcz67_0, hcz67_1, hcz67_2, hfz67_0, hfz67_1, hfz67_2⟩ := x6 BK588
   go_wp2_with (first | (refine xC Tryd.func73 (some 51) (nt_Subtract.calls kj2 x5_2 x6_2 t602 false _ A49.out) ?_; rintro w68 hb; replace BK587 := xB BK587 hb; replace BK588 := xB BK588 hb; replace BK589 := xB BK589 hb; replace HB := xS HB hb; clear hb) | (refine xC Tryd.func73 (some 63) (nt_Subtract.calls kj2 x6_2 x5_2 t607 t608 _ A61.out) ?_; rintro w69 hb; replace BK587 := xB BK587 hb; replace BK588 := xB BK588 hb; replace BK589 := xB BK589 hb; replace HB := xS HB hb; clear hb; obtain ⟨hcz70_0, hcz70_1, hcz70_2, hfz70_0, hfz70_1, hfz70_2⟩ := x6 BK588) | (refine xC Tryd.func52 (some 70) (rt_reduced.calls kj2 a1_0 t607 x7_2 t609 t610 t611 _ A62.out) ?_; rintro w71 hb; replace BK587 := xB BK587 hb; replace BK588 := xB BK588 hb; replace BK589 := xB BK589 hb; replace HB := xS HB hb; clear hb; obtain ⟨hcz72_0, hcz72_1, hcz72_2, hfz72_0, hfz72_1, hfz72_2⟩ := x6 BK589))
   refine bodyPost_ret (results_cell_row rfl _ _ gb589 25 #[.bool t609, .string t610, .string t611] (0, 0) _ rfl (xp BK589) Tryd.underlying25 rfl (by kernel_rfl)) rfl ?_
   exact ⟨xy, xs HB⟩
/-! ### rt_Add: function 21 -/
def rt_Add.f (k : Nat) (a0_0 : Bool) (a0_1 : ByteArray) (a0_2 : ByteArray) (a1_0 : Bool) (a1_1 : ByteArray) (a1_2 : ByteArray) : Option (Bool × ByteArray × ByteArray) := (rt_clean.f k a0_0 a0_1 a0_2).bind fun bt615 => ((rt_clean.f k a1_0 a1_1 a1_2).bind fun bt618 => ((rt_add.f k bt615.1 bt615.2.1 bt615.2.2 bt618.1 bt618.2.1 bt618.2.2).bind fun bt621 => (some (bt621.1, bt621.2.1, bt621.2.2))))
theorem rt_Add.mono : ∀ a0 a1 a2 a3 a4 a5 k, LeO (rt_Add.f k a0 a1 a2 a3 a4 a5) (rt_Add.f (k + 1) a0 a1 a2 a3 a4 a5) := by
 intro a0 a1 a2 a3 a4 a5 k
 unfold rt_Add.f
 have m0 := @rt_add.mono; have m1 := @rt_clean.mono; exact xM
theorem rt_Add.calls (k : Nat) (a0_0 : Bool) (a0_1 : ByteArray) (a0_2 : ByteArray) (a1_0 : Bool) (a1_1 : ByteArray) (a1_2 : ByteArray) (r1 : Bool) (r2 : ByteArray) (r3 : ByteArray) (w : World) (h : rt_Add.f k a0_0 a0_1 a0_2 a1_0 a1_1 a1_2 = some (r1, r2, r3)) :
  Calls Tryd.prog 21 #[.agg #[.bool a0_0, .string a0_1, .string a0_2], .agg #[.bool a1_0, .string a1_1, .string a1_2]] w fun e w' => e = .returned (.agg #[.bool r1, .string r2, .string r3]) ∧ Below w.heap.size w w' := by
 have hu25 := Tryd.underlying25
 have HB := Aside0.mk (Below.refl w.heap.size w)
 have H := h; clear h
 unfold rt_Add.f at H
 replace H := xH H; obtain ⟨⟨t615, t616, t617⟩, A3, H⟩ := H
 dsimp only at H
 replace H := xH H; obtain ⟨⟨t618, t619, t620⟩, A4, H⟩ := H
 dsimp only at H
 replace H := xH H; obtain ⟨⟨t621, t622, t623⟩, A5, H⟩ := H
 dsimp only at H
 simp only [Option.some.injEq, Prod.mk.injEq] at H
 obtain ⟨rfl, rfl, rfl⟩ := H
 go_enter Tryd.func21, Tryd.ntmps21
 try go_wp2_with (first | (refine xF (N := 2) #[.bool a0_0, .string a0_1, .string a0_2] 25 HB ?_; clear HB; intro gb612 hg w6 hb BK612 GW612 HB; clear hb hg) | (refine xF (N := 3) #[.bool a1_0, .string a1_1, .string a1_2] 25 HB ?_; clear HB; intro gb613 hg w7 hb BK613 GW613 HB; have NB612_613 := xL BK612 hg; have NB613_612 := xR BK612 hg; replace BK612 := xB BK612 hb; clear hb hg) | (refine xF (N := 4) #[.bool false, .string (⟨#[]⟩ : ByteArray), .string (⟨#[]⟩ : ByteArray)] 25 HB ?_; clear HB; intro gb614 hg w8 hb BK614 GW614 HB; have NB612_614 := xL BK612 hg; have NB614_612 := xR BK612 hg; replace BK612 := xB BK612 hb; have NB613_614 := xL BK613 hg; have NB614_613 := xR BK613 hg; replace BK613 := xB BK613 hb; clear hb hg))
 replace BK612 := xD BK612
 replace BK613 := xD BK613
 replace BK614 := xD BK614
 replace HB := xW HB
 refine start_ (n := 6) (S := fun w' => w'.cell? ⟨gb612, 0, none⟩ = some (.bool a0_0) ∧ w'.cell? ⟨gb612, 1, none⟩ = some (.string a0_1) ∧ w'.cell? ⟨gb612, 2, none⟩ = some (.string a0_2) ∧ w'.cell? ⟨gb613, 0, none⟩ = some (.bool a1_0) ∧ w'.cell? ⟨gb613, 1, none⟩ = some (.string a1_1) ∧ w'.cell? ⟨gb613, 2, none⟩ = some (.string a1_2)) (ds := []) (b 6 0) (by kernel_rfl) rfl rfl xV (fun hHeld => ?_)
 generalize w8.drew = w9 at BK612 BK613 BK614 HB hHeld ⊢
 refine yT 0 (some 5) (b 6 1) hHeld ?_
 refine yT 2 (some 7) (b 6 5) hHeld ?_
 refine yO 1 (some 6) (b 6 7) fun K hK => ?_
 refine xc Tryd.func38 (rt_clean.calls k a0_0 a0_1 a0_2 t615 t616 t617 _ A3.out) ?_
 rintro w10 hb
 replace BK612 := xB BK612 hb
 replace BK613 := xB BK613 hb
 replace BK614 := xB BK614 hb
 replace HB := xS HB hb
 clear hb
 refine hK.out _ _ xV (fun hHeld => ?_)
 clear hK K
 refine xN 6 ?_
 refine yO 3 (some 8) (b 6 15) fun K hK => ?_
 refine xc Tryd.func38 (rt_clean.calls k a1_0 a1_1 a1_2 t618 t619 t620 _ A4.out) ?_
 rintro w11 hb
 replace BK612 := xB BK612 hb
 replace BK613 := xB BK613 hb
 replace BK614 := xB BK614 hb
 replace HB := xS HB hb
 clear hb
 refine hK.out _ _ xV (fun hHeld => ?_)
 clear hK K
 refine xN 8 ?_
 refine yO 4 (some 9) (b 6 31) fun K hK => ?_
 refine xc Tryd.func46 (rt_add.calls k t615 t616 t617 t618 t619 t620 t621 t622 t623 _ A5.out) ?_
 rintro w12 hb
 replace BK612 := xB BK612 hb
 replace BK613 := xB BK613 hb
 replace BK614 := xB BK614 hb
 replace HB := xS HB hb
 clear hb
 refine hK.out _ _ xV (fun hHeld => ?_)
 clear hK K
 refine xN 9 ?_
 refine yO 5 none (b 6 63) fun K hK => ?_
 obtain ⟨hs13, hs14, hs15, hfs13, hfs14, hfs15⟩ := x6 BK614
 have hns13_0 := NB612_614.out
 have hns13_1 := NB613_614.out
 have hms13_0 := NB614_612.out
 have hms13_1 := NB614_613.out
 refine xk ?_
 refine hK.out _ _ ⟨((cell_far (p := ⟨gb614, _, none⟩) NB612_614.out _).trans ((cell_far (p := ⟨gb614, _, none⟩) NB612_614.out _).trans ((cell_far (p := ⟨gb614, _, none⟩) NB612_614.out _).trans (hHeld.1)))), ((cell_far (p := ⟨gb614, _, none⟩) NB612_614.out _).trans ((cell_far (p := ⟨gb614, _, none⟩) NB612_614.out _).trans ((cell_far (p := ⟨gb614, _, none⟩) NB612_614.out _).trans (hHeld.2.1)))), ((cell_far (p := ⟨gb614, _, none⟩) NB612_614.out _).trans ((cell_far (p := ⟨gb614, _, none⟩) NB612_614.out _).trans ((cell_far (p := ⟨gb614, _, none⟩) NB612_614.out _).trans (hHeld.2.2.1)))), ((cell_far (p := ⟨gb614, _, none⟩) NB613_614.out _).trans ((cell_far (p := ⟨gb614, _, none⟩) NB613_614.out _).trans ((cell_far (p := ⟨gb614, _, none⟩) NB613_614.out _).trans (hHeld.2.2.2.1)))), ((cell_far (p := ⟨gb614, _, none⟩) NB613_614.out _).trans ((cell_far (p := ⟨gb614, _, none⟩) NB613_614.out _).trans ((cell_far (p := ⟨gb614, _, none⟩) NB613_614.out _).trans (hHeld.2.2.2.2.1)))), ((cell_far (p := ⟨gb614, _, none⟩) NB613_614.out _).trans ((cell_far (p := ⟨gb614, _, none⟩) NB613_614.out _).trans ((cell_far (p := ⟨gb614, _, none⟩) NB613_614.out _).trans (hHeld.2.2.2.2.2))))⟩ (fun hHeld => ?_)
 clear hK K
 refine done_ (by kernel_rfl) ?_
 try go_wp2
 refine bodyPost_ret (results_cell_row rfl _ _ gb614 25 #[.bool t621, .string t622, .string t623] (0, 0) _ rfl (xp BK614) Tryd.underlying25 rfl (by kernel_rfl)) rfl ?_
 exact ⟨xy, xs HB⟩
/-! ### rt_signOf: function 37 -/
def rt_signOf.f (a0_0 : Bool) (a0_1 : ByteArray) (a0_2 : ByteArray) : Option (Int) := if a0_1.toList = ([] : List UInt8) then (some 0) else (if a0_0 = true then (some (-1)) else (some 1))
theorem rt_signOf.calls (a0_0 : Bool) (a0_1 : ByteArray) (a0_2 : ByteArray) (r : Int) (w : World) (h : rt_signOf.f a0_0 a0_1 a0_2 = some r) :
  Calls Tryd.prog 37 #[.agg #[.bool a0_0, .string a0_1, .string a0_2]] w fun e w' => e = .returned (.int .i64 r) ∧ Below w.heap.size w w' := by
 have hu25 := Tryd.underlying25
 have HB := Aside0.mk (Below.refl w.heap.size w)
 have H := h; clear h
 unfold rt_signOf.f at H
 obtain ⟨c2, H⟩ | ⟨c2, H⟩ := xO H
 ·have c2b0 := beq_iff_eq.mpr c2
  have c2b1 := bne_eq_false_iff_eq.mpr c2
  clear c2
  obtain rfl := Option.some.inj H
  go_enter Tryd.func37, Tryd.ntmps37
  go_wp2_with (refine xF (N := 1) #[.bool a0_0, .string a0_1, .string a0_2] 25 HB ?_; clear HB; intro gb624 hg w3 hb BK624 GW624 HB; clear hb hg; obtain ⟨hcz4_0, hcz4_1, hcz4_2, hfz4_0, hfz4_1, hfz4_2⟩ := x6 BK624)
  go_ret
  exact ⟨xy, xs HB⟩
 have c2b0 := beq_eq_false_iff_ne.mpr c2
 have c2b1 := bne_iff_ne.mpr c2
 by_cases c5 : a0_0 = true
 ·subst c5
  replace H := xI H
  obtain rfl := Option.some.inj H
  go_enter Tryd.func37, Tryd.ntmps37
  go_wp2_with (refine xF (N := 1) #[.bool true, .string a0_1, .string a0_2] 25 HB ?_; clear HB; intro gb624 hg w6 hb BK624 GW624 HB; clear hb hg; obtain ⟨hcz7_0, hcz7_1, hcz7_2, hfz7_0, hfz7_1, hfz7_2⟩ := x6 BK624)
  go_ret
  exact ⟨xy, xs HB⟩
 replace c5 := Bool.eq_false_iff.mpr c5
 subst c5
 have H1 : (some 1) = some r := by rw [if_neg (show ¬ (false = true) by decide)] at H; exact H
 clear H
 have H := H1
 clear H1
 obtain rfl := Option.some.inj H
 go_enter Tryd.func37, Tryd.ntmps37
 go_wp2_with (refine xF (N := 1) #[.bool false, .string a0_1, .string a0_2] 25 HB ?_; clear HB; intro gb624 hg w8 hb BK624 GW624 HB; clear hb hg; obtain ⟨hcz9_0, hcz9_1, hcz9_2, hfz9_0, hfz9_1, hfz9_2⟩ := x6 BK624)
 go_ret
 exact ⟨xy, xs HB⟩
-- NOT PRINTED: function 108 (bytealg_abigen_runtime_cmpstring)
-- NOT PRINTED: function 97 (bytealg_CompareString)
/-! ### strings_Compare: function 76 -/
def strings_Compare.f (a0 : ByteArray) (a1 : ByteArray) : Option Int := some (Go.Lib.compareBytes a0.data.toList a1.data.toList)
theorem strings_Compare.calls (a0 : ByteArray) (a1 : ByteArray) (r : Int) (w : World) (h : strings_Compare.f a0 a1 = some r) :
  Calls Tryd.prog 76 #[.string a0, .string a1] w fun e w' => e = .returned (.int .i64 r) ∧ Drawn0 w w' := by
 obtain rfl := Option.some.inj h
 refine (Go.Proofs.Tryd.strings_Compare a0 a1 w).mono ?_
 rintro e w' ⟨rfl, rfl⟩
 exact ⟨rfl, Drawn0.refl _⟩
/-! ### nt_Compare: function 47 -/
def nt_Compare.f (k : Nat) (a0 : ByteArray) (a1 : ByteArray) : Option (Int) := (nt_Normalize.f k a0).bind fun t625 => ((nt_Normalize.f k a1).bind fun t626 => (if (t625.size : Int) = (t626.size : Int) then ((strings_Compare.f t625 t626).bind fun t627 => (some t627)) else ((nt_sign.f (wrap64 ((t625.size : Int) - (t626.size : Int)))).bind fun t628 => (some t628))))
theorem nt_Compare.mono : ∀ a0 a1 k, LeO (nt_Compare.f k a0 a1) (nt_Compare.f (k + 1) a0 a1) := by
 intro a0 a1 k
 unfold nt_Compare.f
 have m0 := @nt_Normalize.mono; exact xM
theorem nt_Compare.calls (k : Nat) (a0 : ByteArray) (a1 : ByteArray) (r : Int) (w : World) (h : nt_Compare.f k a0 a1 = some r) :
  Calls Tryd.prog 47 #[.string a0, .string a1] w fun e w' => e = .returned (.int .i64 r) ∧ Below w.heap.size w w' := by
 have HB := Aside0.mk (Below.refl w.heap.size w)
 have H := h; clear h
 unfold nt_Compare.f at H
 replace H := xH H; obtain ⟨t625, A3, H⟩ := H
 replace H := xH H; obtain ⟨t626, A4, H⟩ := H
 obtain ⟨c5, H⟩ | ⟨c5, H⟩ := xO H
 ·have c5b0 := beq_iff_eq.mpr c5
  have c5b1 := bne_eq_false_iff_eq.mpr c5
  have c5b2 : (t625.size == t626.size) = true := by (simp at c5 ⊢; omega)
  clear c5
  replace H := xH H; obtain ⟨t627, A6, H⟩ := H
  obtain rfl := Option.some.inj H
  go_enter Tryd.func47, Tryd.ntmps47
  go_wp2_with (first | (refine xC Tryd.func74 (some 6) (nt_Normalize.calls k a0 t625 _ A3.out) ?_; rintro w7 hb; replace HB := xS HB hb; clear hb) | (refine xC Tryd.func74 (some 8) (nt_Normalize.calls k a1 t626 _ A4.out) ?_; rintro w8 hb; replace HB := xS HB hb; clear hb) | (refine xg Tryd.func76 (some 22) #[.string t625, .string t626] ?_; (with_reducible refine (strings_Compare.calls t625 t626 t627 _ A6.out).mono ?_); rintro e w' ⟨rfl, ⟨nd, rfl⟩⟩; refine ⟨_, rfl, ?_⟩))
  go_ret
  exact ⟨xy, xs HB⟩
 have c5b0 := beq_eq_false_iff_ne.mpr c5
 have c5b1 := bne_iff_ne.mpr c5
 have c5b2 : (t625.size == t626.size) = false := by (simp at c5 ⊢; omega)
 replace H := xH H; obtain ⟨t628, A9, H⟩ := H
 obtain rfl := Option.some.inj H
 go_enter Tryd.func47, Tryd.ntmps47
 go_wp2_with (first | (refine xC Tryd.func74 (some 6) (nt_Normalize.calls k a0 t625 _ A3.out) ?_; rintro w10 hb; replace HB := xS HB hb; clear hb) | (refine xC Tryd.func74 (some 8) (nt_Normalize.calls k a1 t626 _ A4.out) ?_; rintro w11 hb; replace HB := xS HB hb; clear hb) | (refine xg Tryd.func75 (some 19) #[.int .i64 (wrap64 ((t625.size : Int) - (t626.size : Int)))] ?_; (with_reducible refine (nt_sign.calls (wrap64 ((t625.size : Int) - (t626.size : Int))) t628 _ A9.out).mono ?_); rintro e w' ⟨rfl, ⟨nd, rfl⟩⟩; refine ⟨_, rfl, ?_⟩))
 go_ret
 exact ⟨xy, xs HB⟩
/-! ### rt_Compare: function 22 -/
def rt_Compare.f (k : Nat) (a0_0 : Bool) (a0_1 : ByteArray) (a0_2 : ByteArray) (a1_0 : Bool) (a1_1 : ByteArray) (a1_2 : ByteArray) : Option (Int) := (rt_clean.f k a0_0 a0_1 a0_2).bind fun bt631 => ((rt_clean.f k a1_0 a1_1 a1_2).bind fun bt634 => ((rt_signOf.f bt631.1 bt631.2.1 bt631.2.2).bind fun t637 => ((rt_signOf.f bt634.1 bt634.2.1 bt634.2.2).bind fun t638 => (if t637 = t638 then ((rt_den.f bt634.1 bt634.2.1 bt634.2.2).bind fun t639 => ((nt_Multiply.f k bt631.2.1 t639).bind fun t640 => ((rt_den.f bt631.1 bt631.2.1 bt631.2.2).bind fun t641 => ((nt_Multiply.f k bt634.2.1 t641).bind fun t642 => ((nt_Compare.f k t640 t642).bind fun t643 => (if bt631.1 = true then (some (wrap64 (-t643))) else (some t643))))))) else (if t637 < t638 then (some (-1)) else (some 1))))))
theorem rt_Compare.mono : ∀ a0 a1 a2 a3 a4 a5 k, LeO (rt_Compare.f k a0 a1 a2 a3 a4 a5) (rt_Compare.f (k + 1) a0 a1 a2 a3 a4 a5) := by
 intro a0 a1 a2 a3 a4 a5 k
 unfold rt_Compare.f
 have m0 := @nt_Compare.mono; have m1 := @nt_Multiply.mono; have m2 := @rt_clean.mono; exact xM
def rt_Compare.T7 : Bool × List (List Nat × List Nat) := (true, [([], []), ([0], [0]), ([], []), ([2], [2]), ([1, 3, 3], [1, 3]), ([], []), ([5], [5]), ([], []), ([7, 4], [7]), ([6, 8, 8], [6, 8]), ([4, 9, 9], [4, 9]), ([10, 10, 0, 1, 2, 3, 4, 5, 6, 7, 8, 9, 10], [10])])
def rt_Compare.B7 : List Nat := [0, 1, 0, 4, 15, 0, 32, 0, 159, 511, 1023, 2047]
theorem rt_Compare.tab7 : rtab .any (opsOf Tryd.f22 7) = rt_Compare.T7 := by kernel_rfl
theorem rt_Compare.bits7 : waitsOk rt_Compare.T7.2 rt_Compare.B7 = true := by kernel_rfl
theorem rt_Compare.calls (k : Nat) (a0_0 : Bool) (a0_1 : ByteArray) (a0_2 : ByteArray) (a1_0 : Bool) (a1_1 : ByteArray) (a1_2 : ByteArray) (r : Int) (w : World) (h : rt_Compare.f k a0_0 a0_1 a0_2 a1_0 a1_1 a1_2 = some r) :
  Calls Tryd.prog 22 #[.agg #[.bool a0_0, .string a0_1, .string a0_2], .agg #[.bool a1_0, .string a1_1, .string a1_2]] w fun e w' => e = .returned (.int .i64 r) ∧ Below w.heap.size w w' := by
 have hu25 := Tryd.underlying25
 have HB := Aside0.mk (Below.refl w.heap.size w)
 have H := h; clear h
 unfold rt_Compare.f at H
 replace H := xH H; obtain ⟨⟨t631, t632, t633⟩, A3, H⟩ := H
 dsimp only at H
 replace H := xH H; obtain ⟨⟨t634, t635, t636⟩, A4, H⟩ := H
 dsimp only at H
 replace H := xH H; obtain ⟨t637, A5, H⟩ := H
 replace H := xH H; obtain ⟨t638, A6, H⟩ := H
 obtain ⟨c7, H⟩ | ⟨c7, H⟩ := xO H
 ·have c7b0 := beq_iff_eq.mpr c7
  have c7b1 := bne_eq_false_iff_eq.mpr c7
  clear c7
  replace H := xH H; obtain ⟨t639, A8, H⟩ := H
  replace H := xH H; obtain ⟨t640, A9, H⟩ := H
  replace H := xH H; obtain ⟨t641, A10, H⟩ := H
  replace H := xH H; obtain ⟨t642, A11, H⟩ := H
  replace H := xH H; obtain ⟨t643, A12, H⟩ := H
  by_cases c13 : t631 = true
  ·subst c13
   replace H := xI H
   obtain rfl := Option.some.inj H
   go_enter Tryd.func22, Tryd.ntmps22
   try go_wp2_with (first | (refine xF (N := 2) #[.bool a0_0, .string a0_1, .string a0_2] 25 HB ?_; clear HB; intro gb629 hg w14 hb BK629 GW629 HB; clear hb hg) | (refine xF (N := 3) #[.bool a1_0, .string a1_1, .string a1_2] 25 HB ?_; clear HB; intro gb630 hg w15 hb BK630 GW630 HB; have NB629_630 := xL BK629 hg; have NB630_629 := xR BK629 hg; replace BK629 := xB BK629 hb; clear hb hg))
   replace BK629 := xD BK629
   replace BK630 := xD BK630
   replace HB := xW HB
   refine start_ (n := 6) (S := fun w' => w'.cell? ⟨gb629, 0, none⟩ = some (.bool a0_0) ∧ w'.cell? ⟨gb629, 1, none⟩ = some (.string a0_1) ∧ w'.cell? ⟨gb629, 2, none⟩ = some (.string a0_2) ∧ w'.cell? ⟨gb630, 0, none⟩ = some (.bool a1_0) ∧ w'.cell? ⟨gb630, 1, none⟩ = some (.string a1_1) ∧ w'.cell? ⟨gb630, 2, none⟩ = some (.string a1_2)) (ds := [4, 5]) (b 6 0) (by kernel_rfl) rfl rfl xV (fun hHeld => ?_)
   generalize w15.drew = w16 at BK629 BK630 HB hHeld ⊢
   refine yT 0 (some 8) (b 6 1) hHeld ?_
   refine yT 2 (some 10) (b 6 5) hHeld ?_
   refine yO 1 (some 9) (b 6 7) fun K hK => ?_
   refine xc Tryd.func38 (rt_clean.calls k a0_0 a0_1 a0_2 true t632 t633 _ A3.out) ?_
   rintro w17 hb
   replace BK629 := xB BK629 hb
   replace BK630 := xB BK630 hb
   replace HB := xS HB hb
   clear hb
   refine hK.out _ _ xV (fun hHeld => ?_)
   clear hK K
   refine xN 9 ?_
   refine yO 3 (some 11) (b 6 15) fun K hK => ?_
   refine xc Tryd.func38 (rt_clean.calls k a1_0 a1_1 a1_2 t634 t635 t636 _ A4.out) ?_
   rintro w18 hb
   replace BK629 := xB BK629 hb
   replace BK630 := xB BK630 hb
   replace HB := xS HB hb
   clear hb
   refine hK.out _ _ xV (fun hHeld => ?_)
   clear hK K
   refine xN 11 ?_
   refine yZ 4 none (b 6 31) fun K hK => ?_
   obtain ⟨hs19, hs20, hs21, hfs19, hfs20, hfs21⟩ := x6 BK629
   have hns19_1 := NB630_629.out
   have hms19_1 := NB629_630.out
   refine xk ?_
   refine hK.out _ _ ?_
   clear hK K
   refine yZ 5 none (b 6 63) fun K hK => ?_
   obtain ⟨hs22, hs23, hs24, hfs22, hfs23, hfs24⟩ := x6 BK630
   have hns22_0 := NB629_630.out
   have hms22_0 := NB630_629.out
   refine xk ?_
   refine hK.out _ _ ?_
   clear hK K
   refine done_ (by kernel_rfl) ?_
   try go_wp2
   have n0_ : Aside0 (((((((w18.setCell ⟨gb629, 0, none⟩ (.bool true)).setCell ⟨gb629, 1, none⟩ (.string t632)).setCell ⟨gb629, 2, none⟩ (.string t633)).setCell ⟨gb630, 0, none⟩ (.bool t634)).setCell ⟨gb630, 1, none⟩ (.string t635)).setCell ⟨gb630, 2, none⟩ (.string t636)).heap[gb629]? = some (.cells #[.bool true, .string t632, .string t633] 25 (0, 0))) := ⟨xp BK629⟩
   have n1_ : Aside0 (((((((w18.setCell ⟨gb629, 0, none⟩ (.bool true)).setCell ⟨gb629, 1, none⟩ (.string t632)).setCell ⟨gb629, 2, none⟩ (.string t633)).setCell ⟨gb630, 0, none⟩ (.bool t634)).setCell ⟨gb630, 1, none⟩ (.string t635)).setCell ⟨gb630, 2, none⟩ (.string t636)).heap[gb630]? = some (.cells #[.bool t634, .string t635, .string t636] 25 (0, 0))) := ⟨xp BK630⟩
   have n2_ : Aside0 (Below w.heap.size w ((((((w18.setCell ⟨gb629, 0, none⟩ (.bool true)).setCell ⟨gb629, 1, none⟩ (.string t632)).setCell ⟨gb629, 2, none⟩ (.string t633)).setCell ⟨gb630, 0, none⟩ (.bool t634)).setCell ⟨gb630, 1, none⟩ (.string t635)).setCell ⟨gb630, 2, none⟩ (.string t636))) := ⟨xs HB⟩
   clear BK629 BK630 HB
   generalize ((((((w18.setCell ⟨gb629, 0, none⟩ (.bool true)).setCell ⟨gb629, 1, none⟩ (.string t632)).setCell ⟨gb629, 2, none⟩ (.string t633)).setCell ⟨gb630, 0, none⟩ (.bool t634)).setCell ⟨gb630, 1, none⟩ (.string t635)).setCell ⟨gb630, 2, none⟩ (.string t636)) = w25 at n0_ n1_ n2_ ⊢
   have BK629 := n0_
   have BK630 := n1_
   have HB := n2_
   clear n0_ n1_ n2_
   replace BK629 := xD BK629
   replace BK630 := xD BK630
   replace HB := xW HB
   refine start_ (n := 6) (S := fun w' => w'.cell? ⟨gb629, 0, none⟩ = some (.bool true) ∧ w'.cell? ⟨gb629, 1, none⟩ = some (.string t632) ∧ w'.cell? ⟨gb629, 2, none⟩ = some (.string t633) ∧ w'.cell? ⟨gb630, 0, none⟩ = some (.bool t634) ∧ w'.cell? ⟨gb630, 1, none⟩ = some (.string t635) ∧ w'.cell? ⟨gb630, 2, none⟩ = some (.string t636)) (ds := []) (b 6 0) (by kernel_rfl) rfl rfl xV (fun hHeld => ?_)
   generalize w25.drew = w26 at BK629 BK630 HB hHeld ⊢
   refine yT 0 (some 12) (b 6 1) hHeld ?_
   refine yT 2 (some 14) (b 6 5) hHeld ?_
   refine yO 1 (some 13) (b 6 7) fun K hK => ?_
   refine xc Tryd.func37 (rt_signOf.calls true t632 t633 t637 _ A5.out) ?_
   rintro w27 hb
   replace BK629 := xB BK629 hb
   replace BK630 := xB BK630 hb
   replace HB := xS HB hb
   clear hb
   refine hK.out _ _ xV (fun hHeld => ?_)
   clear hK K
   refine xN 13 ?_
   refine yO 3 (some 15) (b 6 15) fun K hK => ?_
   refine xc Tryd.func37 (rt_signOf.calls t634 t635 t636 t638 _ A6.out) ?_
   rintro w28 hb
   replace BK629 := xB BK629 hb
   replace BK630 := xB BK630 hb
   replace HB := xS HB hb
   clear hb
   refine hK.out _ _ xV (fun hHeld => ?_)
   clear hK K
   refine xN 15 ?_
   refine yP 4 (some 5) (b 6 31) ?_
   refine yP 5 (some 6) (b 6 63) ?_
   refine done_ (by kernel_rfl) ?_
   try go_wp2
   replace BK629 := xD BK629
   replace BK630 := xD BK630
   replace HB := xW HB
   refine start_ (n := 12) (S := fun w' => w'.cell? ⟨gb629, 0, none⟩ = some (.bool true) ∧ w'.cell? ⟨gb629, 1, none⟩ = some (.string t632) ∧ w'.cell? ⟨gb629, 2, none⟩ = some (.string t633) ∧ w'.cell? ⟨gb630, 0, none⟩ = some (.bool t634) ∧ w'.cell? ⟨gb630, 1, none⟩ = some (.string t635) ∧ w'.cell? ⟨gb630, 2, none⟩ = some (.string t636)) (ds := []) (b 12 0) (by kernel_rfl) rfl rfl xV (fun hHeld => ?_); refine with_tabW rt_Compare.tab7 rt_Compare.bits7 (fun HT_ HW_ => ?_)
   generalize w28.drew = w29 at BK629 BK630 HB hHeld ⊢
   refine yP 0 (some 22) (b 12 1) ?_
   refine yP 5 (some 27) (b 12 33) ?_
   refine yT 1 (some 23) (b 12 35) hHeld ?_
   refine yT 2 (some 24) (b 12 39) hHeld ?_
   refine yT 6 (some 28) (b 12 103) hHeld ?_
   refine yT 7 (some 29) (b 12 231) hHeld ?_
   refine yO 3 (some 25) (b 12 239) fun K hK => ?_
   refine xc Tryd.func49 (rt_den.calls t634 t635 t636 t639 _ A8.out) ?_
   rintro w30 hb
   replace BK629 := xB BK629 hb
   replace BK630 := xB BK630 hb
   replace HB := xS HB hb
   clear hb
   refine hK.out _ _ xV (fun hHeld => ?_)
   clear hK K
   refine xN 25 ?_
   refine yO 4 (some 26) (b 12 255) fun K hK => ?_
   refine xc Tryd.func48 (nt_Multiply.calls k t632 t639 t640 _ A9.out) ?_
   rintro w31 hb
   replace BK629 := xB BK629 hb
   replace BK630 := xB BK630 hb
   replace HB := xS HB hb
   clear hb
   refine hK.out _ _ xV (fun hHeld => ?_)
   clear hK K
   refine xN 26 ?_
   refine yO 8 (some 30) (b 12 511) fun K hK => ?_
   refine xc Tryd.func49 (rt_den.calls true t632 t633 t641 _ A10.out) ?_
   rintro w32 hb
   replace BK629 := xB BK629 hb
   replace BK630 := xB BK630 hb
   replace HB := xS HB hb
   clear hb
   refine hK.out _ _ xV (fun hHeld => ?_)
   clear hK K
   refine xN 30 ?_
   refine yO 9 (some 31) (b 12 1023) fun K hK => ?_
   refine xc Tryd.func48 (nt_Multiply.calls k t635 t641 t642 _ A11.out) ?_
   rintro w33 hb
   replace BK629 := xB BK629 hb
   replace BK630 := xB BK630 hb
   replace HB := xS HB hb
   clear hb
   refine hK.out _ _ xV (fun hHeld => ?_)
   clear hK K
   refine xN 31 ?_
   refine yO 10 (some 32) (b 12 2047) fun K hK => ?_
   refine xc Tryd.func47 (nt_Compare.calls k t640 t642 t643 _ A12.out) ?_
   rintro w34 hb
   replace BK629 := xB BK629 hb
   replace BK630 := xB BK630 hb
   replace HB := xS HB hb
   clear hb
   refine hK.out _ _ xV (fun hHeld => ?_)
   clear hK K
   refine xN 32 ?_
   refine yP 11 (some 7) (b 12 4095) ?_
   refine done_ (done_of HT_.out (by kernel_rfl)) ?_
   have hnb35 := NB629_630.out
   have hnc35 := NB630_629.out
   obtain ⟨hcz36_0, hcz36_1, hcz36_2, hfz36_0, hfz36_1, hfz36_2⟩ := x6 BK629
   try go_wp2
   go_ret
   exact ⟨xy, xs HB⟩
  replace c13 := Bool.eq_false_iff.mpr c13
  subst c13
  have H1 : (some t643) = some r := by rw [if_neg (show ¬ (false = true) by decide)] at H; exact H
  clear H
  have H := H1
  clear H1
  obtain rfl := Option.some.inj H
  go_enter Tryd.func22, Tryd.ntmps22
  try go_wp2_with (first | (refine xF (N := 2) #[.bool a0_0, .string a0_1, .string a0_2] 25 HB ?_; clear HB; intro gb629 hg w37 hb BK629 GW629 HB; clear hb hg) | (refine xF (N := 3) #[.bool a1_0, .string a1_1, .string a1_2] 25 HB ?_; clear HB; intro gb630 hg w38 hb BK630 GW630 HB; have NB629_630 := xL BK629 hg; have NB630_629 := xR BK629 hg; replace BK629 := xB BK629 hb; clear hb hg))
  replace BK629 := xD BK629
  replace BK630 := xD BK630
  replace HB := xW HB
  refine start_ (n := 6) (S := fun w' => w'.cell? ⟨gb629, 0, none⟩ = some (.bool a0_0) ∧ w'.cell? ⟨gb629, 1, none⟩ = some (.string a0_1) ∧ w'.cell? ⟨gb629, 2, none⟩ = some (.string a0_2) ∧ w'.cell? ⟨gb630, 0, none⟩ = some (.bool a1_0) ∧ w'.cell? ⟨gb630, 1, none⟩ = some (.string a1_1) ∧ w'.cell? ⟨gb630, 2, none⟩ = some (.string a1_2)) (ds := [4, 5]) (b 6 0) (by kernel_rfl) rfl rfl xV (fun hHeld => ?_)
  generalize w38.drew = w39 at BK629 BK630 HB hHeld ⊢
  refine yT 0 (some 8) (b 6 1) hHeld ?_
  refine yT 2 (some 10) (b 6 5) hHeld ?_
  refine yO 1 (some 9) (b 6 7) fun K hK => ?_
  refine xc Tryd.func38 (rt_clean.calls k a0_0 a0_1 a0_2 false t632 t633 _ A3.out) ?_
  rintro w40 hb
  replace BK629 := xB BK629 hb
  replace BK630 := xB BK630 hb
  replace HB := xS HB hb
  clear hb
  refine hK.out _ _ xV (fun hHeld => ?_)
  clear hK K
  refine xN 9 ?_
  refine yO 3 (some 11) (b 6 15) fun K hK => ?_
  refine xc Tryd.func38 (rt_clean.calls k a1_0 a1_1 a1_2 t634 t635 t636 _ A4.out) ?_
  rintro w41 hb
  replace BK629 := xB BK629 hb
  replace BK630 := xB BK630 hb
  replace HB := xS HB hb
  clear hb
  refine hK.out _ _ xV (fun hHeld => ?_)
  clear hK K
  refine xN 11 ?_
  refine yZ 4 none (b 6 31) fun K hK => ?_
  obtain ⟨hs42, hs43, hs44, hfs42, hfs43, hfs44⟩ := x6 BK629
  have hns42_1 := NB630_629.out
  have hms42_1 := NB629_630.out
  refine xk ?_
  refine hK.out _ _ ?_
  clear hK K
  refine yZ 5 none (b 6 63) fun K hK => ?_
  obtain ⟨hs45, hs46, hs47, hfs45, hfs46, hfs47⟩ := x6 BK630
  have hns45_0 := NB629_630.out
  have hms45_0 := NB630_629.out
  refine xk ?_
  refine hK.out _ _ ?_
  clear hK K
  refine done_ (by kernel_rfl) ?_
  try go_wp2
  have n0_ : Aside0 (((((((w41.setCell ⟨gb629, 0, none⟩ (.bool false)).setCell ⟨gb629, 1, none⟩ (.string t632)).setCell ⟨gb629, 2, none⟩ (.string t633)).setCell ⟨gb630, 0, none⟩ (.bool t634)).setCell ⟨gb630, 1, none⟩ (.string t635)).setCell ⟨gb630, 2, none⟩ (.string t636)).heap[gb629]? = some (.cells #[.bool false, .string t632, .string t633] 25 (0, 0))) := ⟨xp BK629⟩
  have n1_ : Aside0 (((((((w41.setCell ⟨gb629, 0, none⟩ (.bool false)).setCell ⟨gb629, 1, none⟩ (.string t632)).setCell ⟨gb629, 2, none⟩ (.string t633)).setCell ⟨gb630, 0, none⟩ (.bool t634)).setCell ⟨gb630, 1, none⟩ (.string t635)).setCell ⟨gb630, 2, none⟩ (.string t636)).heap[gb630]? = some (.cells #[.bool t634, .string t635, .string t636] 25 (0, 0))) := ⟨xp BK630⟩
  have n2_ : Aside0 (Below w.heap.size w ((((((w41.setCell ⟨gb629, 0, none⟩ (.bool false)).setCell ⟨gb629, 1, none⟩ (.string t632)).setCell ⟨gb629, 2, none⟩ (.string t633)).setCell ⟨gb630, 0, none⟩ (.bool t634)).setCell ⟨gb630, 1, none⟩ (.string t635)).setCell ⟨gb630, 2, none⟩ (.string t636))) := ⟨xs HB⟩
  clear BK629 BK630 HB
  generalize ((((((w41.setCell ⟨gb629, 0, none⟩ (.bool false)).setCell ⟨gb629, 1, none⟩ (.string t632)).setCell ⟨gb629, 2, none⟩ (.string t633)).setCell ⟨gb630, 0, none⟩ (.bool t634)).setCell ⟨gb630, 1, none⟩ (.string t635)).setCell ⟨gb630, 2, none⟩ (.string t636)) = w48 at n0_ n1_ n2_ ⊢
  have BK629 := n0_
  have BK630 := n1_
  have HB := n2_
  clear n0_ n1_ n2_
  replace BK629 := xD BK629
  replace BK630 := xD BK630
  replace HB := xW HB
  refine start_ (n := 6) (S := fun w' => w'.cell? ⟨gb629, 0, none⟩ = some (.bool false) ∧ w'.cell? ⟨gb629, 1, none⟩ = some (.string t632) ∧ w'.cell? ⟨gb629, 2, none⟩ = some (.string t633) ∧ w'.cell? ⟨gb630, 0, none⟩ = some (.bool t634) ∧ w'.cell? ⟨gb630, 1, none⟩ = some (.string t635) ∧ w'.cell? ⟨gb630, 2, none⟩ = some (.string t636)) (ds := []) (b 6 0) (by kernel_rfl) rfl rfl xV (fun hHeld => ?_)
  generalize w48.drew = w49 at BK629 BK630 HB hHeld ⊢
  refine yT 0 (some 12) (b 6 1) hHeld ?_
  refine yT 2 (some 14) (b 6 5) hHeld ?_
  refine yO 1 (some 13) (b 6 7) fun K hK => ?_
  refine xc Tryd.func37 (rt_signOf.calls false t632 t633 t637 _ A5.out) ?_
  rintro w50 hb
  replace BK629 := xB BK629 hb
  replace BK630 := xB BK630 hb
  replace HB := xS HB hb
  clear hb
  refine hK.out _ _ xV (fun hHeld => ?_)
  clear hK K
  refine xN 13 ?_
  refine yO 3 (some 15) (b 6 15) fun K hK => ?_
  refine xc Tryd.func37 (rt_signOf.calls t634 t635 t636 t638 _ A6.out) ?_
  rintro w51 hb
  replace BK629 := xB BK629 hb
  replace BK630 := xB BK630 hb
  replace HB := xS HB hb
  clear hb
  refine hK.out _ _ xV (fun hHeld => ?_)
  clear hK K
  refine xN 15 ?_
  refine yP 4 (some 5) (b 6 31) ?_
  refine yP 5 (some 6) (b 6 63) ?_
  refine done_ (by kernel_rfl) ?_
  try go_wp2
  replace BK629 := xD BK629
  replace BK630 := xD BK630
  replace HB := xW HB
  refine start_ (n := 12) (S := fun w' => w'.cell? ⟨gb629, 0, none⟩ = some (.bool false) ∧ w'.cell? ⟨gb629, 1, none⟩ = some (.string t632) ∧ w'.cell? ⟨gb629, 2, none⟩ = some (.string t633) ∧ w'.cell? ⟨gb630, 0, none⟩ = some (.bool t634) ∧ w'.cell? ⟨gb630, 1, none⟩ = some (.string t635) ∧ w'.cell? ⟨gb630, 2, none⟩ = some (.string t636)) (ds := []) (b 12 0) (by kernel_rfl) rfl rfl xV (fun hHeld => ?_); refine with_tabW rt_Compare.tab7 rt_Compare.bits7 (fun HT_ HW_ => ?_)
  generalize w51.drew = w52 at BK629 BK630 HB hHeld ⊢
  refine yP 0 (some 22) (b 12 1) ?_
  refine yP 5 (some 27) (b 12 33) ?_
  refine yT 1 (some 23) (b 12 35) hHeld ?_
  refine yT 2 (some 24) (b 12 39) hHeld ?_
  refine yT 6 (some 28) (b 12 103) hHeld ?_
  refine yT 7 (some 29) (b 12 231) hHeld ?_
  refine yO 3 (some 25) (b 12 239) fun K hK => ?_
  refine xc Tryd.func49 (rt_den.calls t634 t635 t636 t639 _ A8.out) ?_
  rintro w53 hb
  replace BK629 := xB BK629 hb
  replace BK630 := xB BK630 hb
  replace HB := xS HB hb
  clear hb
  refine hK.out _ _ xV (fun hHeld => ?_)
  clear hK K
  refine xN 25 ?_
  refine yO 4 (some 26) (b 12 255) fun K hK => ?_
  refine xc Tryd.func48 (nt_Multiply.calls k t632 t639 t640 _ A9.out) ?_
  rintro w54 hb
  replace BK629 := xB BK629 hb
  replace BK630 := xB BK630 hb
  replace HB := xS HB hb
  clear hb
  refine hK.out _ _ xV (fun hHeld => ?_)
  clear hK K
  refine xN 26 ?_
  refine yO 8 (some 30) (b 12 511) fun K hK => ?_
  refine xc Tryd.func49 (rt_den.calls false t632 t633 t641 _ A10.out) ?_
  rintro w55 hb
  replace BK629 := xB BK629 hb
  replace BK630 := xB BK630 hb
  replace HB := xS HB hb
  clear hb
  refine hK.out _ _ xV (fun hHeld => ?_)
  clear hK K
  refine xN 30 ?_
  refine yO 9 (some 31) (b 12 1023) fun K hK => ?_
  refine xc Tryd.func48 (nt_Multiply.calls k t635 t641 t642 _ A11.out) ?_
  rintro w56 hb
  replace BK629 := xB BK629 hb
  replace BK630 := xB BK630 hb
  replace HB := xS HB hb
  clear hb
  refine hK.out _ _ xV (fun hHeld => ?_)
  clear hK K
  refine xN 31 ?_
  refine yO 10 (some 32) (b 12 2047) fun K hK => ?_
  refine xc Tryd.func47 (nt_Compare.calls k t640 t642 t643 _ A12.out) ?_
  rintro w57 hb
  replace BK629 := xB BK629 hb
  replace BK630 := xB BK630 hb
  replace HB := xS HB hb
  clear hb
  refine hK.out _ _ xV (fun hHeld => ?_)
  clear hK K
  refine xN 32 ?_
  refine yP 11 (some 7) (b 12 4095) ?_
  refine done_ (done_of HT_.out (by kernel_rfl)) ?_
  have hnb58 := NB629_630.out
  have hnc58 := NB630_629.out
  obtain ⟨hcz59_0, hcz59_1, hcz59_2, hfz59_0, hfz59_1, hfz59_2⟩ := x6 BK629
  try go_wp2
  go_ret
  exact ⟨xy, xs HB⟩
 have c7b0 := beq_eq_false_iff_ne.mpr c7
 have c7b1 := bne_iff_ne.mpr c7
 obtain ⟨c60b0, H⟩ | ⟨c60b0, H⟩ := xOd H
 ·obtain rfl := Option.some.inj H
  go_enter Tryd.func22, Tryd.ntmps22
  try go_wp2_with (first | (refine xF (N := 2) #[.bool a0_0, .string a0_1, .string a0_2] 25 HB ?_; clear HB; intro gb629 hg w61 hb BK629 GW629 HB; clear hb hg) | (refine xF (N := 3) #[.bool a1_0, .string a1_1, .string a1_2] 25 HB ?_; clear HB; intro gb630 hg w62 hb BK630 GW630 HB; have NB629_630 := xL BK629 hg; have NB630_629 := xR BK629 hg; replace BK629 := xB BK629 hb; clear hb hg))
  replace BK629 := xD BK629
  replace BK630 := xD BK630
  replace HB := xW HB
  refine start_ (n := 6) (S := fun w' => w'.cell? ⟨gb629, 0, none⟩ = some (.bool a0_0) ∧ w'.cell? ⟨gb629, 1, none⟩ = some (.string a0_1) ∧ w'.cell? ⟨gb629, 2, none⟩ = some (.string a0_2) ∧ w'.cell? ⟨gb630, 0, none⟩ = some (.bool a1_0) ∧ w'.cell? ⟨gb630, 1, none⟩ = some (.string a1_1) ∧ w'.cell? ⟨gb630, 2, none⟩ = some (.string a1_2)) (ds := [4, 5]) (b 6 0) (by kernel_rfl) rfl rfl xV (fun hHeld => ?_)
  generalize w62.drew = w63 at BK629 BK630 HB hHeld ⊢
  refine yT 0 (some 8) (b 6 1) hHeld ?_
  refine yT 2 (some 10) (b 6 5) hHeld ?_
  refine yO 1 (some 9) (b 6 7) fun K hK => ?_
  refine xc Tryd.func38 (rt_clean.calls k a0_0 a0_1 a0_2 t631 t632 t633 _ A3.out) ?_
  rintro w64 hb
  replace BK629 := xB BK629 hb
  replace BK630 := xB BK630 hb
  replace HB := xS HB hb
  clear hb
  refine hK.out _ _ xV (fun hHeld => ?_)
  clear hK K
  refine xN 9 ?_
  refine yO 3 (some 11) (b 6 15) fun K hK => ?_
  refine xc Tryd.func38 (rt_clean.calls k a1_0 a1_1 a1_2 t634 t635 t636 _ A4.out) ?_
  rintro w65 hb
  replace BK629 := xB BK629 hb
  replace BK630 := xB BK630 hb
  replace HB := xS HB hb
  clear hb
  refine hK.out _ _ xV (fun hHeld => ?_)
  clear hK K
  refine xN 11 ?_
  refine yZ 4 none (b 6 31) fun K hK => ?_
  obtain ⟨hs66, hs67, hs68, hfs66, hfs67, hfs68⟩ := x6 BK629
  have hns66_1 := NB630_629.out
  have hms66_1 := NB629_630.out
  refine xk ?_
  refine hK.out _ _ ?_
  clear hK K
  refine yZ 5 none (b 6 63) fun K hK => ?_
  obtain ⟨hs69, hs70, hs71, hfs69, hfs70, hfs71⟩ := x6 BK630
  have hns69_0 := NB629_630.out
  have hms69_0 := NB630_629.out
  refine xk ?_
  refine hK.out _ _ ?_
  clear hK K
  refine done_ (by kernel_rfl) ?_
  try go_wp2
  have n0_ : Aside0 (((((((w65.setCell ⟨gb629, 0, none⟩ (.bool t631)).setCell ⟨gb629, 1, none⟩ (.string t632)).setCell ⟨gb629, 2, none⟩ (.string t633)).setCell ⟨gb630, 0, none⟩ (.bool t634)).setCell ⟨gb630, 1, none⟩ (.string t635)).setCell ⟨gb630, 2, none⟩ (.string t636)).heap[gb629]? = some (.cells #[.bool t631, .string t632, .string t633] 25 (0, 0))) := ⟨xp BK629⟩
  have n1_ : Aside0 (((((((w65.setCell ⟨gb629, 0, none⟩ (.bool t631)).setCell ⟨gb629, 1, none⟩ (.string t632)).setCell ⟨gb629, 2, none⟩ (.string t633)).setCell ⟨gb630, 0, none⟩ (.bool t634)).setCell ⟨gb630, 1, none⟩ (.string t635)).setCell ⟨gb630, 2, none⟩ (.string t636)).heap[gb630]? = some (.cells #[.bool t634, .string t635, .string t636] 25 (0, 0))) := ⟨xp BK630⟩
  have n2_ : Aside0 (Below w.heap.size w ((((((w65.setCell ⟨gb629, 0, none⟩ (.bool t631)).setCell ⟨gb629, 1, none⟩ (.string t632)).setCell ⟨gb629, 2, none⟩ (.string t633)).setCell ⟨gb630, 0, none⟩ (.bool t634)).setCell ⟨gb630, 1, none⟩ (.string t635)).setCell ⟨gb630, 2, none⟩ (.string t636))) := ⟨xs HB⟩
  clear BK629 BK630 HB
  generalize ((((((w65.setCell ⟨gb629, 0, none⟩ (.bool t631)).setCell ⟨gb629, 1, none⟩ (.string t632)).setCell ⟨gb629, 2, none⟩ (.string t633)).setCell ⟨gb630, 0, none⟩ (.bool t634)).setCell ⟨gb630, 1, none⟩ (.string t635)).setCell ⟨gb630, 2, none⟩ (.string t636)) = w72 at n0_ n1_ n2_ ⊢
  have BK629 := n0_
  have BK630 := n1_
  have HB := n2_
  clear n0_ n1_ n2_
  replace BK629 := xD BK629
  replace BK630 := xD BK630
  replace HB := xW HB
  refine start_ (n := 6) (S := fun w' => w'.cell? ⟨gb629, 0, none⟩ = some (.bool t631) ∧ w'.cell? ⟨gb629, 1, none⟩ = some (.string t632) ∧ w'.cell? ⟨gb629, 2, none⟩ = some (.string t633) ∧ w'.cell? ⟨gb630, 0, none⟩ = some (.bool t634) ∧ w'.cell? ⟨gb630, 1, none⟩ = some (.string t635) ∧ w'.cell? ⟨gb630, 2, none⟩ = some (.string t636)) (ds := []) (b 6 0) (by kernel_rfl) rfl rfl xV (fun hHeld => ?_)
  generalize w72.drew = w73 at BK629 BK630 HB hHeld ⊢
  refine yT 0 (some 12) (b 6 1) hHeld ?_
  refine yT 2 (some 14) (b 6 5) hHeld ?_
  refine yO 1 (some 13) (b 6 7) fun K hK => ?_
  refine xc Tryd.func37 (rt_signOf.calls t631 t632 t633 t637 _ A5.out) ?_
  rintro w74 hb
  replace BK629 := xB BK629 hb
  replace BK630 := xB BK630 hb
  replace HB := xS HB hb
  clear hb
  refine hK.out _ _ xV (fun hHeld => ?_)
  clear hK K
  refine xN 13 ?_
  refine yO 3 (some 15) (b 6 15) fun K hK => ?_
  refine xc Tryd.func37 (rt_signOf.calls t634 t635 t636 t638 _ A6.out) ?_
  rintro w75 hb
  replace BK629 := xB BK629 hb
  replace BK630 := xB BK630 hb
  replace HB := xS HB hb
  clear hb
  refine hK.out _ _ xV (fun hHeld => ?_)
  clear hK K
  refine xN 15 ?_
  refine yP 4 (some 5) (b 6 31) ?_
  refine yP 5 (some 6) (b 6 63) ?_
  refine done_ (by kernel_rfl) ?_
  try go_wp2
  go_ret
  exact ⟨xy, xs HB⟩
 obtain rfl := Option.some.inj H
 go_enter Tryd.func22, Tryd.ntmps22
 try go_wp2_with (first | (refine xF (N := 2) #[.bool a0_0, .string a0_1, .string a0_2] 25 HB ?_; clear HB; intro gb629 hg w76 hb BK629 GW629 HB; clear hb hg) | (refine xF (N := 3) #[.bool a1_0, .string a1_1, .string a1_2] 25 HB ?_; clear HB; intro gb630 hg w77 hb BK630 GW630 HB; have NB629_630 := xL BK629 hg; have NB630_629 := xR BK629 hg; replace BK629 := xB BK629 hb; clear hb hg))
 replace BK629 := xD BK629
 replace BK630 := xD BK630
 replace HB := xW HB
 refine start_ (n := 6) (S := fun w' => w'.cell? ⟨gb629, 0, none⟩ = some (.bool a0_0) ∧ w'.cell? ⟨gb629, 1, none⟩ = some (.string a0_1) ∧ w'.cell? ⟨gb629, 2, none⟩ = some (.string a0_2) ∧ w'.cell? ⟨gb630, 0, none⟩ = some (.bool a1_0) ∧ w'.cell? ⟨gb630, 1, none⟩ = some (.string a1_1) ∧ w'.cell? ⟨gb630, 2, none⟩ = some (.string a1_2)) (ds := [4, 5]) (b 6 0) (by kernel_rfl) rfl rfl xV (fun hHeld => ?_)
 generalize w77.drew = w78 at BK629 BK630 HB hHeld ⊢
 refine yT 0 (some 8) (b 6 1) hHeld ?_
 refine yT 2 (some 10) (b 6 5) hHeld ?_
 refine yO 1 (some 9) (b 6 7) fun K hK => ?_
 refine xc Tryd.func38 (rt_clean.calls k a0_0 a0_1 a0_2 t631 t632 t633 _ A3.out) ?_
 rintro w79 hb
 replace BK629 := xB BK629 hb
 replace BK630 := xB BK630 hb
 replace HB := xS HB hb
 clear hb
 refine hK.out _ _ xV (fun hHeld => ?_)
 clear hK K
 refine xN 9 ?_
 refine yO 3 (some 11) (b 6 15) fun K hK => ?_
 refine xc Tryd.func38 (rt_clean.calls k a1_0 a1_1 a1_2 t634 t635 t636 _ A4.out) ?_
 rintro w80 hb
 replace BK629 := xB BK629 hb
 replace BK630 := xB BK630 hb
 replace HB := xS HB hb
 clear hb
 refine hK.out _ _ xV (fun hHeld => ?_)
 clear hK K
 refine xN 11 ?_
 refine yZ 4 none (b 6 31) fun K hK => ?_
 obtain ⟨hs81, hs82, hs83, hfs81, hfs82, hfs83⟩ := x6 BK629
 have hns81_1 := NB630_629.out
 have hms81_1 := NB629_630.out
 refine xk ?_
 refine hK.out _ _ ?_
 clear hK K
 refine yZ 5 none (b 6 63) fun K hK => ?_
 obtain ⟨hs84, hs85, hs86, hfs84, hfs85, hfs86⟩ := x6 BK630
 have hns84_0 := NB629_630.out
 have hms84_0 := NB630_629.out
 refine xk ?_
 refine hK.out _ _ ?_
 clear hK K
 refine done_ (by kernel_rfl) ?_
 try go_wp2
 have n0_ : Aside0 (((((((w80.setCell ⟨gb629, 0, none⟩ (.bool t631)).setCell ⟨gb629, 1, none⟩ (.string t632)).setCell ⟨gb629, 2, none⟩ (.string t633)).setCell ⟨gb630, 0, none⟩ (.bool t634)).setCell ⟨gb630, 1, none⟩ (.string t635)).setCell ⟨gb630, 2, none⟩ (.string t636)).heap[gb629]? = some (.cells #[.bool t631, .string t632, .string t633] 25 (0, 0))) := ⟨xp BK629⟩
 have n1_ : Aside0 (((((((w80.setCell ⟨gb629, 0, none⟩ (.bool t631)).setCell ⟨gb629, 1, none⟩ (.string t632)).setCell ⟨gb629, 2, none⟩ (.string t633)).setCell ⟨gb630, 0, none⟩ (.bool t634)).setCell ⟨gb630, 1, none⟩ (.string t635)).setCell ⟨gb630, 2, none⟩ (.string t636)).heap[gb630]? = some (.cells #[.bool t634, .string t635, .string t636] 25 (0, 0))) := ⟨xp BK630⟩
 have n2_ : Aside0 (Below w.heap.size w ((((((w80.setCell ⟨gb629, 0, none⟩ (.bool t631)).setCell ⟨gb629, 1, none⟩ (.string t632)).setCell ⟨gb629, 2, none⟩ (.string t633)).setCell ⟨gb630, 0, none⟩ (.bool t634)).setCell ⟨gb630, 1, none⟩ (.string t635)).setCell ⟨gb630, 2, none⟩ (.string t636))) := ⟨xs HB⟩
 clear BK629 BK630 HB
 generalize ((((((w80.setCell ⟨gb629, 0, none⟩ (.bool t631)).setCell ⟨gb629, 1, none⟩ (.string t632)).setCell ⟨gb629, 2, none⟩ (.string t633)).setCell ⟨gb630, 0, none⟩ (.bool t634)).setCell ⟨gb630, 1, none⟩ (.string t635)).setCell ⟨gb630, 2, none⟩ (.string t636)) = w87 at n0_ n1_ n2_ ⊢
 have BK629 := n0_
 have BK630 := n1_
 have HB := n2_
 clear n0_ n1_ n2_
 replace BK629 := xD BK629
 replace BK630 := xD BK630
 replace HB := xW HB
 refine start_ (n := 6) (S := fun w' => w'.cell? ⟨gb629, 0, none⟩ = some (.bool t631) ∧ w'.cell? ⟨gb629, 1, none⟩ = some (.string t632) ∧ w'.cell? ⟨gb629, 2, none⟩ = some (.string t633) ∧ w'.cell? ⟨gb630, 0, none⟩ = some (.bool t634) ∧ w'.cell? ⟨gb630, 1, none⟩ = some (.string t635) ∧ w'.cell? ⟨gb630, 2, none⟩ = some (.string t636)) (ds := []) (b 6 0) (by kernel_rfl) rfl rfl xV (fun hHeld => ?_)
 generalize w87.drew = w88 at BK629 BK630 HB hHeld ⊢
 refine yT 0 (some 12) (b 6 1) hHeld ?_
 refine yT 2 (some 14) (b 6 5) hHeld ?_
 refine yO 1 (some 13) (b 6 7) fun K hK => ?_
 refine xc Tryd.func37 (rt_signOf.calls t631 t632 t633 t637 _ A5.out) ?_
 rintro w89 hb
 replace BK629 := xB BK629 hb
 replace BK630 := xB BK630 hb
 replace HB := xS HB hb
 clear hb
 refine hK.out _ _ xV (fun hHeld => ?_)
 clear hK K
 refine xN 13 ?_
 refine yO 3 (some 15) (b 6 15) fun K hK => ?_
 refine xc Tryd.func37 (rt_signOf.calls t634 t635 t636 t638 _ A6.out) ?_
 rintro w90 hb
 replace BK629 := xB BK629 hb
 replace BK630 := xB BK630 hb
 replace HB := xS HB hb
 clear hb
 refine hK.out _ _ xV (fun hHeld => ?_)
 clear hK K
 refine xN 15 ?_
 refine yP 4 (some 5) (b 6 31) ?_
 refine yP 5 (some 6) (b 6 63) ?_
 refine done_ (by kernel_rfl) ?_
 try go_wp2
 go_ret
 exact ⟨xy, xs HB⟩
/-! ### rt_Max: function 56 -/
def rt_Max.f (k : Nat) (a0_0 : Bool) (a0_1 : ByteArray) (a0_2 : ByteArray) (a1_0 : Bool) (a1_1 : ByteArray) (a1_2 : ByteArray) : Option (Bool × ByteArray × ByteArray) := (rt_Compare.f k a0_0 a0_1 a0_2 a1_0 a1_1 a1_2).bind fun t647 => (if t647 ≥ 0 then ((rt_clean.f k a0_0 a0_1 a0_2).bind fun bt648 => (some (bt648.1, bt648.2.1, bt648.2.2))) else ((rt_clean.f k a1_0 a1_1 a1_2).bind fun bt651 => (some (bt651.1, bt651.2.1, bt651.2.2))))
theorem rt_Max.mono : ∀ a0 a1 a2 a3 a4 a5 k, LeO (rt_Max.f k a0 a1 a2 a3 a4 a5) (rt_Max.f (k + 1) a0 a1 a2 a3 a4 a5) := by
 intro a0 a1 a2 a3 a4 a5 k
 unfold rt_Max.f
 have m0 := @rt_Compare.mono; have m1 := @rt_clean.mono; exact xM
theorem rt_Max.calls (k : Nat) (a0_0 : Bool) (a0_1 : ByteArray) (a0_2 : ByteArray) (a1_0 : Bool) (a1_1 : ByteArray) (a1_2 : ByteArray) (r1 : Bool) (r2 : ByteArray) (r3 : ByteArray) (w : World) (h : rt_Max.f k a0_0 a0_1 a0_2 a1_0 a1_1 a1_2 = some (r1, r2, r3)) :
  Calls Tryd.prog 56 #[.agg #[.bool a0_0, .string a0_1, .string a0_2], .agg #[.bool a1_0, .string a1_1, .string a1_2]] w fun e w' => e = .returned (.agg #[.bool r1, .string r2, .string r3]) ∧ Below w.heap.size w w' := by
 have hu25 := Tryd.underlying25
 have HB := Aside0.mk (Below.refl w.heap.size w)
 have H := h; clear h
 unfold rt_Max.f at H
 replace H := xH H; obtain ⟨t647, A3, H⟩ := H
 obtain ⟨c4b0, H⟩ | ⟨c4b0, H⟩ := xOd H
 ·replace H := xH H; obtain ⟨⟨t648, t649, t650⟩, A5, H⟩ := H
  dsimp only at H
  simp only [Option.some.injEq, Prod.mk.injEq] at H
  obtain ⟨rfl, rfl, rfl⟩ := H
  go_enter Tryd.func56, Tryd.ntmps56
  go_wp2_with (first | (refine xF (N := 2) #[.bool a0_0, .string a0_1, .string a0_2] 25 HB ?_; clear HB; intro gb644 hg w6 hb BK644 GW644 HB; clear hb hg) | (refine xF (N := 3) #[.bool a1_0, .string a1_1, .string a1_2] 25 HB ?_; clear HB; intro gb645 hg w7 hb BK645 GW645 HB; have NB644_645 := xL BK644 hg; have NB645_644 := xR BK644 hg; replace BK644 := xB BK644 hb; clear hb hg) | (refine xF (N := 4) #[.bool false, .string (⟨#[]⟩ : ByteArray), .string (⟨#[]⟩ : ByteArray)] 25 HB ?_; clear HB; intro gb646 hg w8 hb BK646 GW646 HB; have NB644_646 := xL BK644 hg; have NB646_644 := xR BK644 hg; replace BK644 := xB BK644 hb; have NB645_646 := xL BK645 hg; have NB646_645 := xR BK645 hg; replace BK645 := xB BK645 hb; clear hb hg; have hnb9 := NB644_645.out; have hnc9 := NB645_644.out; have hnb10 := NB644_646.out; have hnc10 := NB646_644.out; obtain ⟨hcz11_0, hcz11_1, hcz11_2, hfz11_0, hfz11_1, hfz11_2⟩ := x6 BK644; have hnb12 := NB645_646.out; have hnc12 := NB646_645.out; obtain ⟨hcz13_0, hcz13_1, hcz13_2, hfz13_0, hfz13_1, hfz13_2⟩ := x6 BK645) | (refine xC Tryd.func22 (some 7) (rt_Compare.calls k a0_0 a0_1 a0_2 a1_0 a1_1 a1_2 t647 _ A3.out) ?_; rintro w14 hb; replace BK644 := xB BK644 hb; replace BK645 := xB BK645 hb; replace BK646 := xB BK646 hb; replace HB := xS HB hb; clear hb; obtain ⟨hcz15_0, hcz15_1, hcz15_2, hfz15_0, hfz15_1, hfz15_2⟩ := x6 BK644) | (refine xC Tryd.func38 (some 10) (rt_clean.calls k a0_0 a0_1 a0_2 t648 t649 t650 _ A5.out) ?_; rintro w16 hb; replace BK644 := xB BK644 hb; replace BK645 := xB BK645 hb; replace BK646 := xB BK646 hb; replace HB := xS HB hb; clear hb; obtain ⟨hcz17_0, hcz17_1, hcz17_2, hfz17_0, hfz17_1, hfz17_2⟩ := x6 BK646))
  refine bodyPost_ret (results_cell_row rfl _ _ gb646 25 #[.bool t648, .string t649, .string t650] (0, 0) _ rfl (xp BK646) Tryd.underlying25 rfl (by kernel_rfl)) rfl ?_
  exact ⟨xy, xs HB⟩
 replace H := xH H; obtain ⟨⟨t651, t652, t653⟩, A18, H⟩ := H
 dsimp only at H
 simp only [Option.some.injEq, Prod.mk.injEq] at H
 obtain ⟨rfl, rfl, rfl⟩ := H
 go_enter Tryd.func56, Tryd.ntmps56
 go_wp2_with (first | (refine xF (N := 2) #[.bool a0_0, .string a0_1, .string a0_2] 25 HB ?_; clear HB; intro gb644 hg w19 hb BK644 GW644 HB; clear hb hg) | (refine xF (N := 3) #[.bool a1_0, .string a1_1, .string a1_2] 25 HB ?_; clear HB; intro gb645 hg w20 hb BK645 GW645 HB; have NB644_645 := xL BK644 hg; have NB645_644 := xR BK644 hg; replace BK644 := xB BK644 hb; clear hb hg) | (refine xF (N := 4) #[.bool false, .string (⟨#[]⟩ : ByteArray), .string (⟨#[]⟩ : ByteArray)] 25 HB ?_; clear HB; intro gb646 hg w21 hb BK646 GW646 HB; have NB644_646 := xL BK644 hg; have NB646_644 := xR BK644 hg; replace BK644 := xB BK644 hb; have NB645_646 := xL BK645 hg; have NB646_645 := xR BK645 hg; replace BK645 := xB BK645 hb; clear hb hg; have hnb22 := NB644_645.out; have hnc22 := NB645_644.out; have hnb23 := NB644_646.out; have hnc23 := NB646_644.out; obtain ⟨hcz24_0, hcz24_1, hcz24_2, hfz24_0, hfz24_1, hfz24_2⟩ := x6 BK644; have hnb25 := NB645_646.out; have hnc25 := NB646_645.out; obtain ⟨hcz26_0, hcz26_1, hcz26_2, hfz26_0, hfz26_1, hfz26_2⟩ := x6 BK645) | (refine xC Tryd.func22 (some 7) (rt_Compare.calls k a0_0 a0_1 a0_2 a1_0 a1_1 a1_2 t647 _ A3.out) ?_; rintro w27 hb; replace BK644 := xB BK644 hb; replace BK645 := xB BK645 hb; replace BK646 := xB BK646 hb; replace HB := xS HB hb; clear hb; obtain ⟨hcz28_0, hcz28_1, hcz28_2, hfz28_0, hfz28_1, hfz28_2⟩ := x6 BK645) | (refine xC Tryd.func38 (some 12) (rt_clean.calls k a1_0 a1_1 a1_2 t651 t652 t653 _ A18.out) ?_; rintro w29 hb; replace BK644 := xB BK644 hb; replace BK645 := xB BK645 hb; replace BK646 := xB BK646 hb; replace HB := xS HB hb; clear hb; obtain ⟨hcz30_0, hcz30_1, hcz30_2, hfz30_0, hfz30_1, hfz30_2⟩ := x6 BK646))
 refine bodyPost_ret (results_cell_row rfl _ _ gb646 25 #[.bool t651, .string t652, .string t653] (0, 0) _ rfl (xp BK646) Tryd.underlying25 rfl (by kernel_rfl)) rfl ?_
 exact ⟨xy, xs HB⟩
section
attribute [local go_sem high] eqA25
/-! ### ik_Few: function 15 -/
def ik_Few.f (a0_0 : Bool) (a0_1 : ByteArray) (a0_2 : ByteArray) : Option (Bool) := if (a0_1.size : Int) ≤ 24 then (some (decide ((a0_2.size : Int) ≤ 24))) else (some false)
theorem ik_Few.calls (a0_0 : Bool) (a0_1 : ByteArray) (a0_2 : ByteArray) (r : Bool) (w : World) (h : ik_Few.f a0_0 a0_1 a0_2 = some r) :
  Calls Tryd.prog 15 #[.agg #[.bool a0_0, .string a0_1, .string a0_2]] w fun e w' => e = .returned (.bool r) ∧ Below w.heap.size w w' := by
 have hu25 := Tryd.underlying25
 have HB := Aside0.mk (Below.refl w.heap.size w)
 have H := h; clear h
 unfold ik_Few.f at H
 obtain ⟨c2, H⟩ | ⟨c2, H⟩ := xO H
 ·have c2b0 := decide_eq_true c2
  have c2b1 : decide (a0_1.size ≤ 24) = true := decide_eq_true (by omega)
  clear c2
  obtain rfl := Option.some.inj H
  go_enter Tryd.func15, Tryd.ntmps15
  go_wp2_with ((with_reducible refine gate_dst (N := 1) rfl ?_); (try (refine gate_guard (by rfl) ?_; dsimp only)); refine xF (N := 1) #[.bool a0_0, .string a0_1, .string a0_2] 25 HB ?_; clear HB; intro gb765 hg w3 hb BK765 GW765 HB; clear hb hg; obtain ⟨hcz4_0, hcz4_1, hcz4_2, hfz4_0, hfz4_1, hfz4_2⟩ := x6 BK765)
  go_ret
  exact ⟨xy, xs HB⟩
 have c2b0 := decide_eq_false c2
 have c2b1 : decide (a0_1.size ≤ 24) = false := decide_eq_false (by omega)
 clear c2
 obtain rfl := Option.some.inj H
 go_enter Tryd.func15, Tryd.ntmps15
 go_wp2_with ((with_reducible refine gate_dst (N := 1) rfl ?_); (try (refine gate_guard (by rfl) ?_; dsimp only)); refine xF (N := 1) #[.bool a0_0, .string a0_1, .string a0_2] 25 HB ?_; clear HB; intro gb765 hg w5 hb BK765 GW765 HB; clear hb hg; obtain ⟨hcz6_0, hcz6_1, hcz6_2, hfz6_0, hfz6_1, hfz6_2⟩ := x6 BK765)
 go_ret
 exact ⟨xy, xs HB⟩
end
/-! ### ir_GCD: function 100 -/
def ir_GCD.f (k : Nat) (a0 : ByteArray) (a1 : ByteArray) : Option (ByteArray) := (ir_limbs.f k a0).bind fun t773 => ((ir_limbs.f k a1).bind fun t776 => ((ir_common.f k t773 t776).bind fun t779 => ((ir_text.f k t779).bind fun t782 => (some t782))))
theorem ir_GCD.mono : ∀ a0 a1 k, LeO (ir_GCD.f k a0 a1) (ir_GCD.f (k + 1) a0 a1) := by
 intro a0 a1 k
 unfold ir_GCD.f
 have m0 := @ir_common.mono; have m1 := @ir_limbs.mono; have m2 := @ir_text.mono; exact xM
theorem ir_GCD.calls (k : Nat) (a0 : ByteArray) (a1 : ByteArray) (r : ByteArray) (w : World) (h : ir_GCD.f k a0 a1 = some r) :
  Calls Tryd.prog 100 #[.string a0, .string a1] w fun e w' => e = .returned (.string r) ∧ Below w.heap.size w w' := by
 have HB := Aside0.mk (Below.refl w.heap.size w)
 have H := h; clear h
 unfold ir_GCD.f at H
 replace H := xH H; obtain ⟨t773, A3, H⟩ := H
 replace H := xH H; obtain ⟨t776, A4, H⟩ := H
 replace H := xH H; obtain ⟨t779, A5, H⟩ := H
 replace H := xH H; obtain ⟨t782, A6, H⟩ := H
 obtain rfl := Option.some.inj H
 go_enter Tryd.func100, Tryd.ntmps100
 go_wp2_with (first | (refine xg Tryd.func67 (some 6) #[.string a0] ?_; (with_reducible refine (ir_limbs.calls k a0 t773 _ A3.out).mono ?_); rintro e w7 ⟨v774, rfl, ho0, hb⟩; refine ⟨_, rfl, ?_⟩; have HO775 := Aside0.mk (Kd.R_lower ho0 (below_size (xs HB))); replace HB := xS HB hb; clear hb ho0) | (refine xg Tryd.func67 (some 8) #[.string a1] ?_; (with_reducible refine (ir_limbs.calls k a1 t776 _ A4.out).mono ?_); rintro e w8 ⟨v777, rfl, ho0, hb⟩; refine ⟨_, rfl, ?_⟩; have HO778 := Aside0.mk (Kd.R_lower (Kd.R_new' ho0 (Kd.R_lt (xr HO775.out))) (below_size (xs HB))); replace HO775 := Aside0.mk (Kd.R_elder' (xr HO775.out) (Kd.R_base ho0) hb); replace HB := xS HB hb; clear hb ho0; obtain ⟨Ao9, co9, eo9⟩ := Kd.R_slice HO775.out; subst eo9; obtain ⟨Ao10, co10, eo10⟩ := Kd.R_slice HO778.out; subst eo10) | (refine xg Tryd.func90 (some 9) #[.slice Ao9 t773.length co9, .slice Ao10 t776.length co10] ?_; (with_reducible refine (ir_common.calls k (fun k_ => some k_ = (.slice Ao9 t773.length co9 : Value).ownBlock) _ _ t773 (fun k_ => some k_ = (.slice Ao10 t776.length co10 : Value).ownBlock) _ _ t776 t779 _ ?side1 ?side2 A5.out).mono ?_); (case side1 => exact Kd.R_V (Kd.R_tight rfl (HO775.out))); (case side2 => exact Kd.R_V (Kd.R_tight rfl (HO778.out))); rintro e w11 ⟨v780, rfl, ho0, hb⟩; refine ⟨_, rfl, ?_⟩; replace HO775 := xRb HO775 hb; replace HO778 := xRb HO778 hb; have HO781 := xVm w (fun k_ => True) ho0 (fun k_ hk_ => trivial); replace HB := xS HB hb; clear hb ho0; obtain ⟨Ao12, co12, eo12⟩ := Kd.V_slice HO781.out; subst eo12) | (refine xg Tryd.func92 (some 10) #[.slice Ao12 t779.length co12] ?_; (with_reducible refine (ir_text.calls k _ _ t779 t782 _ (xf (Kd.V_reads' HO781.out).2.2) (Kd.V_reads' HO781.out).2.1 A6.out).mono ?_); rintro e w13 ⟨rfl, hb⟩; refine ⟨_, rfl, ?_⟩; replace HO775 := xRb HO775 hb; replace HO778 := xRb HO778 hb; replace HO781 := xVb HO781 hb; replace HB := xS HB hb; clear hb))
 go_ret
 exact ⟨xy, xs HB⟩
end Go.Proofs.YtpoogjcgjpkbeaaDoor.XA
