/- Walks of functions of the program: a plain Lean function for each, and a proof that a call answers as it says. Written by a program (the kit's print with changes, then shortened). -/
import Derived.Test.YtpoogjcgjpkbeaaDoorXD4
namespace Go.Proofs.YtpoogjcgjpkbeaaDoor.XC
open Go.RowKit Go.Proofs.YtpoogjcgjpkbeaaDoorW.PrintWords Go.Proofs.YtpoogjcgjpkbeaaDoorW.PrintLast Go.Proofs.YtpoogjcgjpkbeaaDoorW.PrintMore Go.Proofs.YtpoogjcgjpkbeaaDoorW.Sq
attribute [local go_sem] max2_int min2_int max_two min_two max_three min_three max_four min_four   -- for this text's walks alone
set_option linter.unusedVariables false
set_option linter.unusedSimpArgs false
/-! ### rational_Subtract: function 36 -/
def rational_Subtract.f (k : Nat) (a0_0 : Bool) (a0_1 : ByteArray) (a0_2 : ByteArray) (a1_0 : Bool) (a1_1 : ByteArray) (a1_2 : ByteArray) : Option (Bool × ByteArray × ByteArray) := (rational_clean.f k a0_0 a0_1 a0_2).bind fun bt606 => ((rational_clean.f k a1_0 a1_1 a1_2).bind fun bt609 => ((rational_negate.f bt609.1 bt609.2.1 bt609.2.2).bind fun bt612 => ((rational_add.f k bt606.1 bt606.2.1 bt606.2.2 bt612.1 bt612.2.1 bt612.2.2).bind fun bt615 => (some (bt615.1, bt615.2.1, bt615.2.2)))))
theorem rational_Subtract.mono : ∀ a0 a1 a2 a3 a4 a5 k, LeO (rational_Subtract.f k a0 a1 a2 a3 a4 a5) (rational_Subtract.f (k + 1) a0 a1 a2 a3 a4 a5) := by
 intro a0 a1 a2 a3 a4 a5 k
 unfold rational_Subtract.f
 have m0 := @rational_add.mono; have m1 := @rational_clean.mono; exact xM
set_option maxHeartbeats 8000000 in
set_option maxRecDepth 100000 in
theorem rational_Subtract.calls (k : Nat) (a0_0 : Bool) (a0_1 : ByteArray) (a0_2 : ByteArray) (a1_0 : Bool) (a1_1 : ByteArray) (a1_2 : ByteArray) (r1 : Bool) (r2 : ByteArray) (r3 : ByteArray) (w : World) (h : rational_Subtract.f k a0_0 a0_1 a0_2 a1_0 a1_1 a1_2 = some (r1, r2, r3)) :
  Calls Tryd.prog 36 #[.agg #[.bool a0_0, .string a0_1, .string a0_2], .agg #[.bool a1_0, .string a1_1, .string a1_2]] w fun e w' => e = .returned (.agg #[.bool r1, .string r2, .string r3]) ∧ Below w.heap.size w w' := by
 have hu25 := Tryd.underlying25
 have HB := Aside0.mk (Below.refl w.heap.size w)
 have H : ((rational_clean.f k a0_0 a0_1 a0_2).bind fun bt606 => ((rational_clean.f k a1_0 a1_1 a1_2).bind fun bt609 => ((rational_negate.f bt609.1 bt609.2.1 bt609.2.2).bind fun bt612 => ((rational_add.f k bt606.1 bt606.2.1 bt606.2.2 bt612.1 bt612.2.1 bt612.2.2).bind fun bt615 => (some (bt615.1, bt615.2.1, bt615.2.2)))))) = some (r1, r2, r3) := h
 clear h
 replace H := xH H; obtain ⟨⟨t606, t607, t608⟩, A3, H⟩ := H
 dsimp only at H
 replace H := xH H; obtain ⟨⟨t609, t610, t611⟩, A4, H⟩ := H
 dsimp only at H
 replace H := xH H; obtain ⟨⟨t612, t613, t614⟩, A5, H⟩ := H
 dsimp only at H
 replace H := xH H; obtain ⟨⟨t615, t616, t617⟩, A6, H⟩ := H
 dsimp only at H
 simp only [Option.some.injEq, Prod.mk.injEq] at H
 obtain ⟨rfl, rfl, rfl⟩ := H
 go_enter Tryd.func36, Tryd.ntmps36
 try go_wp2_with (first | (refine xE (N := 2) #[.bool a0_0, .string a0_1, .string a0_2] 25 rfl ?_; intro gb603 hg w7 hbox hb; have BK603 := Aside0.mk (hbox); have GW603 := (xG HB hg); have GE603 := (xG HB hg); replace HB := xS HB hb; clear hb hbox hg) | (refine xE (N := 3) #[.bool a1_0, .string a1_1, .string a1_2] 25 rfl ?_; intro gb604 hg w8 hbox hb; have BK604 := Aside0.mk (hbox); have GW604 := (xG HB hg); have GE604 := (xG HB hg); replace HB := xS HB hb; have NB603_604 := xL BK603 hg; have NB604_603 := xR BK603 hg; replace BK603 := xB BK603 hb; clear hb hbox hg) | (refine xE (N := 4) #[.bool false, .string (⟨#[]⟩ : ByteArray), .string (⟨#[]⟩ : ByteArray)] 25 rfl ?_; intro gb605 hg w9 hbox hb; have BK605 := Aside0.mk (hbox); have GW605 := (xG HB hg); have GE605 := (xG HB hg); replace HB := xS HB hb; have NB603_605 := xL BK603 hg; have NB605_603 := xR BK603 hg; replace BK603 := xB BK603 hb; have NB604_605 := xL BK604 hg; have NB605_604 := xR BK604 hg; replace BK604 := xB BK604 hb; clear hb hbox hg))
 replace BK603 := xD BK603
 replace BK604 := xD BK604
 replace BK605 := xD BK605
 replace HB := xW HB
 refine start_ (n := 7) (S := fun w' => w'.cell? ⟨gb603, 0, none⟩ = some (.bool a0_0) ∧ w'.cell? ⟨gb603, 1, none⟩ = some (.string a0_1) ∧ w'.cell? ⟨gb603, 2, none⟩ = some (.string a0_2) ∧ w'.cell? ⟨gb604, 0, none⟩ = some (.bool a1_0) ∧ w'.cell? ⟨gb604, 1, none⟩ = some (.string a1_1) ∧ w'.cell? ⟨gb604, 2, none⟩ = some (.string a1_2)) (ds := []) #[false, false, false, false, false, false, false] (by kernel_rfl) rfl rfl xV (fun hHeld => ?_)
 generalize w9.drew = w10 at BK603 BK604 BK605 HB hHeld ⊢
 refine xT 0 (some 5) (b 7 1) rfl rfl hHeld ?_
 refine xT 2 (some 7) (b 7 5) rfl rfl hHeld ?_
 refine xO 1 (some 6) (b 7 7) rfl rfl fun K hK => ?_
 refine xc Tryd.func38 (rational_clean.calls k a0_0 a0_1 a0_2 t606 t607 t608 _ A3.out) ?_
 rintro w11 hb
 replace BK603 := xB BK603 hb
 replace BK604 := xB BK604 hb
 replace BK605 := xB BK605 hb
 replace HB := xS HB hb
 clear hb
 refine hK.out _ _ xV (fun hHeld => ?_)
 clear hK K
 refine xN 6 ?_
 refine xO 3 (some 8) (b 7 15) rfl rfl fun K hK => ?_
 refine xc Tryd.func38 (rational_clean.calls k a1_0 a1_1 a1_2 t609 t610 t611 _ A4.out) ?_
 rintro w12 hb
 replace BK603 := xB BK603 hb
 replace BK604 := xB BK604 hb
 replace BK605 := xB BK605 hb
 replace HB := xS HB hb
 clear hb
 refine hK.out _ _ xV (fun hHeld => ?_)
 clear hK K
 refine xN 8 ?_
 refine xO 4 (some 9) (b 7 31) rfl rfl fun K hK => ?_
 refine xc Tryd.func61 (rational_negate.calls t609 t610 t611 t612 t613 t614 _ A5.out) ?_
 rintro w13 hb
 replace BK603 := xB BK603 hb
 replace BK604 := xB BK604 hb
 replace BK605 := xB BK605 hb
 replace HB := xS HB hb
 clear hb
 refine hK.out _ _ xV (fun hHeld => ?_)
 clear hK K
 refine xN 9 ?_
 refine xO 5 (some 10) (b 7 63) rfl rfl fun K hK => ?_
 refine xc Tryd.func46 (rational_add.calls k t606 t607 t608 t612 t613 t614 t615 t616 t617 _ A6.out) ?_
 rintro w14 hb
 replace BK603 := xB BK603 hb
 replace BK604 := xB BK604 hb
 replace BK605 := xB BK605 hb
 replace HB := xS HB hb
 clear hb
 refine hK.out _ _ xV (fun hHeld => ?_)
 clear hK K
 refine xN 10 ?_
 refine xO 6 none (b 7 127) rfl rfl fun K hK => ?_
 obtain ⟨hs15, hs16, hs17, hfs15, hfs16, hfs17⟩ := x6 BK605
 have hns15_0 := NB603_605.out
 have hns15_1 := NB604_605.out
 have hms15_0 := NB605_603.out
 have hms15_1 := NB605_604.out
 refine xk ?_
 refine hK.out _ _ ⟨((cell_far (p := ⟨gb605, _, none⟩) NB603_605.out _).trans (((cell_far (p := ⟨gb605, _, none⟩) NB603_605.out _).trans (((cell_far (p := ⟨gb605, _, none⟩) NB603_605.out _).trans (hHeld.1)))))), ((cell_far (p := ⟨gb605, _, none⟩) NB603_605.out _).trans (((cell_far (p := ⟨gb605, _, none⟩) NB603_605.out _).trans (((cell_far (p := ⟨gb605, _, none⟩) NB603_605.out _).trans (hHeld.2.1)))))), ((cell_far (p := ⟨gb605, _, none⟩) NB603_605.out _).trans (((cell_far (p := ⟨gb605, _, none⟩) NB603_605.out _).trans (((cell_far (p := ⟨gb605, _, none⟩) NB603_605.out _).trans (hHeld.2.2.1)))))), ((cell_far (p := ⟨gb605, _, none⟩) NB604_605.out _).trans (((cell_far (p := ⟨gb605, _, none⟩) NB604_605.out _).trans (((cell_far (p := ⟨gb605, _, none⟩) NB604_605.out _).trans (hHeld.2.2.2.1)))))), ((cell_far (p := ⟨gb605, _, none⟩) NB604_605.out _).trans (((cell_far (p := ⟨gb605, _, none⟩) NB604_605.out _).trans (((cell_far (p := ⟨gb605, _, none⟩) NB604_605.out _).trans (hHeld.2.2.2.2.1)))))), ((cell_far (p := ⟨gb605, _, none⟩) NB604_605.out _).trans (((cell_far (p := ⟨gb605, _, none⟩) NB604_605.out _).trans (((cell_far (p := ⟨gb605, _, none⟩) NB604_605.out _).trans (hHeld.2.2.2.2.2))))))⟩ (fun hHeld => ?_)
 clear hK K
 refine done_ (by kernel_rfl) ?_
 try go_wp2
 refine bodyPost_ret (results_cell_row rfl _ _ gb605 25 #[.bool t615, .string t616, .string t617] (0, 0) _ rfl (xp BK605) Tryd.underlying25 rfl (by kernel_rfl)) rfl ?_
 exact ⟨xy, xs HB⟩
/-! ### guarantee_Refunds: function 12 -/
def guarantee_Refunds.l0 : Nat → List (S25) → List (S25) → Int → Int → Bool → ByteArray → ByteArray → Bool → ByteArray → ByteArray → Bool → ByteArray → ByteArray → Option ((List (S25)))
 | 0, _, _, _, _, _, _, _, _, _, _, _, _, _ => none
 | k + 1, x5, x16, x17, x18, x619000, x619001, x619002, x623000, x623001, x623002, x624000, x624001, x624002 => if x18 < x17 then (if 0 ≤ x18 then (if x18 < (x16.length : Int) then ((guarantee_positive.f k ((rd_T25 x16 x18).f0) ((rd_T25 x16 x18).f1) ((rd_T25 x16 x18).f2)).bind fun bt626 => ((rational_Add.f k x623000 x623001 x623002 bt626.1 bt626.2.1 bt626.2.2).bind fun bt629 => ((guarantee_positive.f k x619000 x619001 x619002).bind fun bt632 => ((rational_Subtract.f k bt629.1 bt629.2.1 bt629.2.2 bt632.1 bt632.2.1 bt632.2.2).bind fun bt635 => ((guarantee_positive.f k bt635.1 bt635.2.1 bt635.2.2).bind fun bt638 => ((rational_Subtract.f k bt638.1 bt638.2.1 bt638.2.2 x624000 x624001 x624002).bind fun bt642 => (if x18 < (x5.length : Int) then (guarantee_Refunds.l0 k (x5.set (x18 : Int).toNat (⟨bt642.1, bt642.2.1, bt642.2.2⟩ : S25)) x16 x17 (wrap64 (x18 + 1)) x619000 x619001 x619002 bt629.1 bt629.2.1 bt629.2.2 bt638.1 bt638.2.1 bt638.2.2) else (none)))))))) else (none)) else (none)) else (some x5)
def guarantee_Refunds.f (k : Nat) (a0_0 : Bool) (a0_1 : ByteArray) (a0_2 : ByteArray) (l1 : List (S25)) : Option ((List (S25))) := if 0 ≤ (l1.length : Int) then (if ((l1.length : Int) : Int).toNat ≤ 7036874417766 then (guarantee_Refunds.l0 k (List.replicate ((l1.length : Int) : Int).toNat z25) l1 (l1.length : Int) 0 a0_0 a0_1 a0_2 false (⟨#[]⟩ : ByteArray) (⟨#[]⟩ : ByteArray) false (⟨#[]⟩ : ByteArray) (⟨#[]⟩ : ByteArray)) else (none)) else (none)
theorem guarantee_Refunds.mono_l : ∀ k, (∀ y0 y1 y2 y3 y4 y5 y6 y7 y8 y9 y10 y11 y12, LeO (guarantee_Refunds.l0 k y0 y1 y2 y3 y4 y5 y6 y7 y8 y9 y10 y11 y12) (guarantee_Refunds.l0 (k + 1) y0 y1 y2 y3 y4 y5 y6 y7 y8 y9 y10 y11 y12))
 | 0 => fun _ _ _ _ _ _ _ _ _ _ _ _ _ r h => by simp [guarantee_Refunds.l0] at h
 | k + 1 => by
  have ih0 := guarantee_Refunds.mono_l k
  ·intro y0 y1 y2 y3 y4 y5 y6 y7 y8 y9 y10 y11 y12
   unfold guarantee_Refunds.l0
   have m0 := @ih0; have m1 := @guarantee_positive.mono; have m2 := @rational_Add.mono; have m3 := @rational_Subtract.mono; exact xM
theorem guarantee_Refunds.mono : ∀ a0 a1 a2 a3 k, LeO (guarantee_Refunds.f k a0 a1 a2 a3) (guarantee_Refunds.f (k + 1) a0 a1 a2 a3) := by
 intro a0 a1 a2 a3 k
 have ih0 := guarantee_Refunds.mono_l k
 unfold guarantee_Refunds.f
 have m0 := @ih0; have m1 := @guarantee_positive.mono; have m2 := @rational_Add.mono; have m3 := @rational_Subtract.mono; exact xM
set_option maxHeartbeats 8000000 in
set_option maxRecDepth 100000 in
theorem guarantee_Refunds.calls (k : Nat) (a0_0 : Bool) (a0_1 : ByteArray) (a0_2 : ByteArray) (A1 : Option Addr) (c1 : Nat) (l1 : List (S25)) (r : List (S25)) (w : World) (hr1 : Kd.C k25 w A1 l1.length l1) (hc1 : l1.length ≤ c1) (h : guarantee_Refunds.f k a0_0 a0_1 a0_2 l1 = some r) :
  Calls Tryd.prog 12 #[.agg #[.bool a0_0, .string a0_1, .string a0_2], .slice A1 l1.length c1] w fun e w' => ∃ v0_ : Value, e = .returned (v0_) ∧ Kd.R k25 25 w' w.heap.size (fun _ => True) v0_ r ∧ Below w.heap.size w w' := by
 have hu25 := Tryd.underlying25
 have HR1 := Aside0.mk hr1
 have HC1 := Aside0.mk hc1
 clear hr1 hc1
 have HB := Aside0.mk (Below.refl w.heap.size w)
 have H : (if 0 ≤ (l1.length : Int) then (if ((l1.length : Int) : Int).toNat ≤ 7036874417766 then (guarantee_Refunds.l0 k (List.replicate ((l1.length : Int) : Int).toNat z25) l1 (l1.length : Int) 0 a0_0 a0_1 a0_2 false (⟨#[]⟩ : ByteArray) (⟨#[]⟩ : ByteArray) false (⟨#[]⟩ : ByteArray) (⟨#[]⟩ : ByteArray)) else (none)) else (none)) = some r := h
 clear h
 by_cases c3 : 0 ≤ (l1.length : Int)
 rotate_left
 ·rw [if_neg c3] at H
  exact absurd H (by simp)
 rw [if_pos c3] at H
 have c3b0 := eq_true c3
 have c3b1 : decide (0 ≤ (l1.length : Int)) = true := decide_eq_true c3
 clear c3
 by_cases c4 : ((l1.length : Int) : Int).toNat ≤ 7036874417766
 rotate_left
 ·rw [if_neg c4] at H
  exact absurd H (by simp)
 rw [if_pos c4] at H
 have c4b0 := eq_true c4
 have c4b1 : decide (((l1.length : Int) : Int).toNat ≤ 7036874417766) = true := decide_eq_true c4
 clear c4
 obtain ⟨y619, hy619⟩ : ∃ y_ : List (S25), y_ = (List.replicate ((l1.length : Int) : Int).toNat z25) := ⟨_, rfl⟩
 replace H : (guarantee_Refunds.l0 k y619 l1 (l1.length : Int) 0 a0_0 a0_1 a0_2 false (⟨#[]⟩ : ByteArray) (⟨#[]⟩ : ByteArray) false (⟨#[]⟩ : ByteArray) (⟨#[]⟩ : ByteArray)) = some r := by first | (rw [hy619]; with_reducible exact H) | (have H2_ := (Option.bind_some _ _).symm.trans H; rw [hy619]; with_reducible exact H2_) | (have H2_ := (Option.bind_some _ _).symm.trans H; with_reducible exact H2_) | with_reducible exact H | (rw [hy619]; exact H) | exact H
 have Ny619 := Aside0.mk hy619
 clear hy619
 have H' := Aside0.mk H
 clear H
 go_enter Tryd.func12, Tryd.ntmps12
 go_wp2_with (first | (refine xE (N := 2) #[.bool a0_0, .string a0_1, .string a0_2] 25 rfl ?_; intro gb618 hg w5 hbox hb; have BK618 := Aside0.mk (hbox); have GW618 := (xG HB hg); have GE618 := (xG HB hg); replace HB := xS HB hb; clear hb hbox hg) | ((with_reducible refine gate_dst (N := 13) rfl ?_); refine Kd.R_make k25 _ 25 rfl (N := 13) rfl 27 _ _ rfl (l1.length : Int) rfl rfl Tryd.underlying27 (.agg #[(.bool false), (.string ⟨#[]⟩), (.string ⟨#[]⟩)]) 40 info25 rfl (by decide) (by omega) z25 (ok := fun _ => True) (okp := fun _ => True) (k25_mkM _ _ _ z25 ) (fun _ hk => hk) trivial (xa) (Nat.le_trans (Nat.mul_le_mul_right _ (xa : (l1.length : Int).toNat ≤ 7036874417766)) (by omega)) (Below.refl _ _) (Nat.le_refl _) ?_; intro v620 w6 ho7 hb hg_ hnew_; clear hg_ hnew_; (first | rw [← Ny619.out] at ho7 | (simp only [Int.reduceToNat] at ho7; rw [← Ny619.out] at ho7)); have HO621 := Aside0.mk (Kd.R_lower (Kd.R_newB ho7 (g := gb618) (o := .cells #[.bool a0_0, .string a0_1, .string a0_2] 25 (0, 0)) (xb BK618)) (below_size (xs HB))); replace BK618 := xB BK618 hb; replace HB := xS HB hb; clear hb ho7) | (refine xE (N := 6) #[.bool false, .string (⟨#[]⟩ : ByteArray), .string (⟨#[]⟩ : ByteArray)] 25 rfl ?_; intro gb622 hg w8 hbox hb; replace HO621 := Aside0.mk (Kd.R_below (Kd.R_elderB (xr HO621.out) gb622 (Nat.le_of_eq hg.symm)) hb); have BK622 := Aside0.mk (hbox); have GW622 := (xG HB hg); have GE622 := (xG HB hg); replace HB := xS HB hb; have NB618_622 := xL BK618 hg; have NB622_618 := xR BK618 hg; replace BK618 := xB BK618 hb; clear hb hbox hg) | (refine xE (N := 7) #[.bool false, .string (⟨#[]⟩ : ByteArray), .string (⟨#[]⟩ : ByteArray)] 25 rfl ?_; intro gb623 hg w9 hbox hb; replace HO621 := Aside0.mk (Kd.R_below (Kd.R_elderB (xr HO621.out) gb623 (Nat.le_of_eq hg.symm)) hb); have BK623 := Aside0.mk (hbox); have GW623 := (xG HB hg); have GE623 := (xG HB hg); replace HB := xS HB hb; have NB618_623 := xL BK618 hg; have NB623_618 := xR BK618 hg; replace BK618 := xB BK618 hb; have NB622_623 := xL BK622 hg; have NB623_622 := xR BK622 hg; replace BK622 := xB BK622 hb; clear hb hbox hg; have hnb10 := NB622_618.out; have hnc10 := NB618_622.out; have hnb11 := NB622_623.out; have hnc11 := NB623_622.out; obtain ⟨hcz12_0, hcz12_1, hcz12_2, hfz12_0, hfz12_1, hfz12_2⟩ := x6 BK622; have hnb13 := NB623_618.out; have hnc13 := NB618_623.out; obtain ⟨hcz14_0, hcz14_1, hcz14_2, hfz14_0, hfz14_1, hfz14_2⟩ := x6 BK623))
 go_loopg [18] k (fun kq v18 w' => ∃ (x5_1 : List (S25)) (x18_1 : Int) (x619000_1 : Bool) (x619001_1 : ByteArray) (x619002_1 : ByteArray) (x623000_1 : Bool) (x623001_1 : ByteArray) (x623002_1 : ByteArray) (x624000_1 : Bool) (x624001_1 : ByteArray) (x624002_1 : ByteArray), v18 = .int .i64 x18_1 ∧ Aside0 (guarantee_Refunds.l0 kq x5_1 l1 (l1.length : Int) x18_1 x619000_1 x619001_1 x619002_1 x623000_1 x623001_1 x623002_1 x624000_1 x624001_1 x624002_1 = some r) ∧ Aside0 (kq ≤ k) ∧ Aside0 (Kd.R k25 25 w' w.heap.size (fun k_ => k_ ≠ gb618 ∧ k_ ≠ gb622 ∧ k_ ≠ gb623) v620 x5_1) ∧ Aside0 (w'.heap[gb618]? = some (.cells #[.bool x619000_1, .string x619001_1, .string x619002_1] 25 (0, 0))) ∧ Aside0 (w'.heap[gb622]? = some (.cells #[.bool x623000_1, .string x623001_1, .string x623002_1] 25 (0, 0))) ∧ Aside0 (w'.heap[gb623]? = some (.cells #[.bool x624000_1, .string x624001_1, .string x624002_1] 25 (0, 0))) ∧ Aside0 (Below w.heap.size w w'))
 case atStart => exact ⟨(y619), (0), (a0_0), (a0_1), (a0_2), (false), ((⟨#[]⟩ : ByteArray)), ((⟨#[]⟩ : ByteArray)), (false), ((⟨#[]⟩ : ByteArray)), ((⟨#[]⟩ : ByteArray)), xz, H', ⟨Nat.le_refl _⟩, ⟨by (with_reducible repeat (first | apply Kd.R_alloc | apply Kd.R_drewN | apply Kd.R_drew)); exact Kd.R_mono (Kd.R_far (p := ⟨gb623, 2, none⟩) (Kd.R_far (p := ⟨gb623, 1, none⟩) (Kd.R_far (p := ⟨gb623, 0, none⟩) (Kd.R_far (p := ⟨gb622, 2, none⟩) (Kd.R_far (p := ⟨gb622, 1, none⟩) (Kd.R_far (p := ⟨gb622, 0, none⟩) (Kd.R_mono (Kd.R_mono HO621.out (fun k_ hk => (⟨hk, hk.1.2⟩ : _ ∧ k_ ≠ gb622))) (fun k_ hk => (⟨hk, hk.1.2⟩ : _ ∧ k_ ≠ gb623))) (fun _ hk => hk.1.2) (.bool false)) (fun _ hk => hk.1.2) (.string (⟨#[]⟩ : ByteArray))) (fun _ hk => hk.1.2) (.string (⟨#[]⟩ : ByteArray))) (fun _ hk => hk.2) (.bool false)) (fun _ hk => hk.2) (.string (⟨#[]⟩ : ByteArray))) (fun _ hk => hk.2) (.string (⟨#[]⟩ : ByteArray))) (fun _ hk => ⟨hk.1.1.1.1.2, ⟨hk.1.1.1.2, hk.1.1.2⟩⟩)⟩, ⟨xb BK618⟩, ⟨by (with_reducible repeat (first | refine blk_drewN ?_ _ | refine blk_drew ?_ | refine blk_alloc ?_ _)); refine blk_far ?_ NB622_623.out _; (with_reducible repeat (first | refine blk_drewN ?_ _ | refine blk_drew ?_ | refine blk_alloc ?_ _)); refine blk_far ?_ NB622_623.out _; (with_reducible repeat (first | refine blk_drewN ?_ _ | refine blk_drew ?_ | refine blk_alloc ?_ _)); refine blk_far ?_ NB622_623.out _; (with_reducible repeat (first | refine blk_drewN ?_ _ | refine blk_drew ?_ | refine blk_alloc ?_ _)); refine blk_put (cs := #[.bool false, .string (⟨#[]⟩ : ByteArray), .string (⟨#[]⟩ : ByteArray)]) ?_ 2 _ (by first | rfl | simp [ne_nil_b]); (with_reducible repeat (first | refine blk_drewN ?_ _ | refine blk_drew ?_ | refine blk_alloc ?_ _)); refine blk_put (cs := #[.bool false, .string (⟨#[]⟩ : ByteArray), .string (⟨#[]⟩ : ByteArray)]) ?_ 1 _ (by first | rfl | simp [ne_nil_b]); (with_reducible repeat (first | refine blk_drewN ?_ _ | refine blk_drew ?_ | refine blk_alloc ?_ _)); refine blk_put (cs := #[.bool false, .string (⟨#[]⟩ : ByteArray), .string (⟨#[]⟩ : ByteArray)]) ?_ 0 _ (by first | rfl | simp [ne_nil_b]); (with_reducible repeat (first | refine blk_drewN ?_ _ | refine blk_drew ?_ | refine blk_alloc ?_ _)); exact BK622.out⟩, ⟨by (with_reducible repeat (first | refine blk_drewN ?_ _ | refine blk_drew ?_ | refine blk_alloc ?_ _)); refine blk_put (cs := #[.bool false, .string (⟨#[]⟩ : ByteArray), .string (⟨#[]⟩ : ByteArray)]) ?_ 2 _ (by first | rfl | simp [ne_nil_b]); (with_reducible repeat (first | refine blk_drewN ?_ _ | refine blk_drew ?_ | refine blk_alloc ?_ _)); refine blk_put (cs := #[.bool false, .string (⟨#[]⟩ : ByteArray), .string (⟨#[]⟩ : ByteArray)]) ?_ 1 _ (by first | rfl | simp [ne_nil_b]); (with_reducible repeat (first | refine blk_drewN ?_ _ | refine blk_drew ?_ | refine blk_alloc ?_ _)); refine blk_put (cs := #[.bool false, .string (⟨#[]⟩ : ByteArray), .string (⟨#[]⟩ : ByteArray)]) ?_ 0 _ (by first | rfl | simp [ne_nil_b]); (with_reducible repeat (first | refine blk_drewN ?_ _ | refine blk_drew ?_ | refine blk_alloc ?_ _)); refine blk_far ?_ NB623_622.out _; (with_reducible repeat (first | refine blk_drewN ?_ _ | refine blk_drew ?_ | refine blk_alloc ?_ _)); refine blk_far ?_ NB623_622.out _; (with_reducible repeat (first | refine blk_drewN ?_ _ | refine blk_drew ?_ | refine blk_alloc ?_ _)); refine blk_far ?_ NB623_622.out _; (with_reducible repeat (first | refine blk_drewN ?_ _ | refine blk_drew ?_ | refine blk_alloc ?_ _)); exact BK623.out⟩, ⟨xs HB⟩⟩
 case round =>
  clear H'
  try clear c1
  try clear p2
  try clear c3
  try clear c3b0
  try clear c3b1
  try clear c4
  try clear c4b0
  try clear c4b1
  try clear c10
  try clear c11
  try clear c12
  try clear c13
  try clear hcz12_0
  try clear hcz12_1
  try clear hcz12_2
  try clear hcz14_0
  try clear hcz14_1
  try clear hcz14_2
  try clear hfz12_0
  try clear hfz12_1
  try clear hfz12_2
  try clear hfz14_0
  try clear hfz14_1
  try clear hfz14_2
  obtain ⟨x5_1, x18_1, x619000_1, x619001_1, x619002_1, x623000_1, x623001_1, x623002_1, x624000_1, x624001_1, x624002_1, rfl, HA, HK1, HO_5, BK618, BK622, BK623, HB⟩ := hrel
  cases gk with
  | zero => exact absurd HA.out (by simp [guarantee_Refunds.l0])
  | succ k1 =>
   have H := HA.out
   clear HA
   simp only [guarantee_Refunds.l0] at H
   by_cases c15 : x18_1 < (l1.length : Int)
   ·rw [if_pos c15] at H
    have c15b0 : decide (x18_1 < (l1.length : Int)) = true := decide_eq_true c15
    clear c15
    by_cases c16 : 0 ≤ x18_1
    rotate_left
    ·rw [if_neg c16] at H
     exact absurd H (by simp)
    rw [if_pos c16] at H
    have c16b0 : decide (0 ≤ x18_1) = true := decide_eq_true c16
    clear c16
    by_cases c17 : x18_1 < (l1.length : Int)
    rotate_left
    ·rw [if_neg c17] at H
     exact absurd H (by simp)
    rw [if_pos c17] at H
    have c17b0 : decide (x18_1 < (l1.length : Int)) = true := decide_eq_true c17
    clear c17
    replace H := xH H; obtain ⟨⟨t626, t627, t628⟩, A18, H⟩ := H
    dsimp only at H
    replace H := xH H; obtain ⟨⟨t629, t630, t631⟩, A19, H⟩ := H
    dsimp only at H
    replace H := xH H; obtain ⟨⟨t632, t633, t634⟩, A20, H⟩ := H
    dsimp only at H
    replace H := xH H; obtain ⟨⟨t635, t636, t637⟩, A21, H⟩ := H
    dsimp only at H
    replace H := xH H; obtain ⟨⟨t638, t639, t640⟩, A22, H⟩ := H
    dsimp only at H
    replace H := xH H; obtain ⟨⟨t642, t643, t644⟩, A23, H⟩ := H
    dsimp only at H
    by_cases c24 : x18_1 < (x5_1.length : Int)
    rotate_left
    ·rw [if_neg c24] at H
     exact absurd H (by simp)
    rw [if_pos c24] at H
    have c24b0 : decide (x18_1 < (x5_1.length : Int)) = true := decide_eq_true c24
    clear c24
    obtain ⟨y645, hy645⟩ : ∃ y_ : List (S25), y_ = (x5_1.set (x18_1 : Int).toNat (⟨t642, t643, t644⟩ : S25)) := ⟨_, rfl⟩
    replace H : (guarantee_Refunds.l0 k1 y645 l1 (l1.length : Int) (wrap64 (x18_1 + 1)) x619000_1 x619001_1 x619002_1 t629 t630 t631 t638 t639 t640) = some r := by first | (rw [hy645]; with_reducible exact H) | (have H2_ := (Option.bind_some _ _).symm.trans H; rw [hy645]; with_reducible exact H2_) | (have H2_ := (Option.bind_some _ _).symm.trans H; with_reducible exact H2_) | with_reducible exact H | (rw [hy645]; exact H) | exact H
    have Ny645 := Aside0.mk hy645
    clear hy645
    have H' := Aside0.mk H
    clear H
    have p624 : 0 ≤ (x18_1 : Int) := xa
    have q624 : x18_1 < (l1.length : Int) := xa
    obtain ⟨ad624, e624, hx624_0, hx624_1, hx624_2⟩ := at_T25 HR1.out x18_1 p624 q624
    cases e624
    (try replace hx624_0 := (HB.out.cell (World.block_lt_of_cell? w _ hx624_0)).trans hx624_0)
    (try replace hx624_1 := (HB.out.cell (World.block_lt_of_cell? w _ hx624_1)).trans hx624_1)
    (try replace hx624_2 := (HB.out.cell (World.block_lt_of_cell? w _ hx624_2)).trans hx624_2)
    replace p624 := eq_true p624
    replace q624 := eq_true q624
    try go_wp2_with (first | (refine xE (N := 9) #[.bool false, .string (⟨#[]⟩ : ByteArray), .string (⟨#[]⟩ : ByteArray)] 25 rfl ?_; intro gb625 hg w26 hbox hb; replace HO_5 := Aside0.mk (Kd.R_below (Kd.R_elderB (xr HO_5.out) gb625 (Nat.le_of_eq hg.symm)) hb); have BK625 := Aside0.mk (hbox); have GW625 := (xG HB hg); have GE625 := (xG HB hg); replace HB := xS HB hb; have NB618_625 := xL BK618 hg; have NB625_618 := xR BK618 hg; replace BK618 := xB BK618 hb; have NB622_625 := xL BK622 hg; have NB625_622 := xR BK622 hg; replace BK622 := xB BK622 hb; have NB623_625 := xL BK623 hg; have NB625_623 := xR BK623 hg; replace BK623 := xB BK623 hb; clear hb hbox hg; have hnb27 := NB625_618.out; have hnc27 := NB618_625.out; have hnb28 := NB625_622.out; have hnc28 := NB622_625.out; have hnb29 := NB625_623.out; have hnc29 := NB623_625.out; obtain ⟨hcz30_0, hcz30_1, hcz30_2, hfz30_0, hfz30_1, hfz30_2⟩ := x6 BK625))
    have n0_ : Aside0 (Kd.R k25 25 (((w26.setCell ⟨gb625, 0, none⟩ (.bool ((rd_T25 l1 x18_1).f0))).setCell ⟨gb625, 1, none⟩ (.string ((rd_T25 l1 x18_1).f1))).setCell ⟨gb625, 2, none⟩ (.string ((rd_T25 l1 x18_1).f2))) w.heap.size (fun k_ => k_ ≠ gb618 ∧ k_ ≠ gb622 ∧ k_ ≠ gb623 ∧ k_ ≠ gb625) v620 x5_1) := ⟨by (with_reducible repeat (first | apply Kd.R_alloc | apply Kd.R_drewN | apply Kd.R_drew)); exact Kd.R_mono (Kd.R_far (p := ⟨gb625, 2, none⟩) (Kd.R_far (p := ⟨gb625, 1, none⟩) (Kd.R_far (p := ⟨gb625, 0, none⟩) (Kd.R_mono HO_5.out (fun k_ hk => (⟨hk, hk.2⟩ : _ ∧ k_ ≠ gb625))) (fun _ hk => hk.2) (.bool ((rd_T25 l1 x18_1).f0))) (fun _ hk => hk.2) (.string ((rd_T25 l1 x18_1).f1))) (fun _ hk => hk.2) (.string ((rd_T25 l1 x18_1).f2))) (fun _ hk => ⟨hk.1.1.1, ⟨hk.1.1.2.1, ⟨hk.1.1.2.2, hk.1.2⟩⟩⟩)⟩
    have n1_ : Aside0 ((((w26.setCell ⟨gb625, 0, none⟩ (.bool ((rd_T25 l1 x18_1).f0))).setCell ⟨gb625, 1, none⟩ (.string ((rd_T25 l1 x18_1).f1))).setCell ⟨gb625, 2, none⟩ (.string ((rd_T25 l1 x18_1).f2))).heap[gb618]? = some (.cells #[.bool x619000_1, .string x619001_1, .string x619002_1] 25 (0, 0))) := ⟨xb BK618⟩
    have n2_ : Aside0 ((((w26.setCell ⟨gb625, 0, none⟩ (.bool ((rd_T25 l1 x18_1).f0))).setCell ⟨gb625, 1, none⟩ (.string ((rd_T25 l1 x18_1).f1))).setCell ⟨gb625, 2, none⟩ (.string ((rd_T25 l1 x18_1).f2))).heap[gb622]? = some (.cells #[.bool x623000_1, .string x623001_1, .string x623002_1] 25 (0, 0))) := ⟨xb BK622⟩
    have n3_ : Aside0 ((((w26.setCell ⟨gb625, 0, none⟩ (.bool ((rd_T25 l1 x18_1).f0))).setCell ⟨gb625, 1, none⟩ (.string ((rd_T25 l1 x18_1).f1))).setCell ⟨gb625, 2, none⟩ (.string ((rd_T25 l1 x18_1).f2))).heap[gb623]? = some (.cells #[.bool x624000_1, .string x624001_1, .string x624002_1] 25 (0, 0))) := ⟨xb BK623⟩
    have n4_ : Aside0 ((((w26.setCell ⟨gb625, 0, none⟩ (.bool ((rd_T25 l1 x18_1).f0))).setCell ⟨gb625, 1, none⟩ (.string ((rd_T25 l1 x18_1).f1))).setCell ⟨gb625, 2, none⟩ (.string ((rd_T25 l1 x18_1).f2))).heap[gb625]? = some (.cells #[.bool ((rd_T25 l1 x18_1).f0), .string ((rd_T25 l1 x18_1).f1), .string ((rd_T25 l1 x18_1).f2)] 25 (0, 0))) := ⟨xp BK625⟩
    have n5_ : Aside0 (Below w.heap.size w (((w26.setCell ⟨gb625, 0, none⟩ (.bool ((rd_T25 l1 x18_1).f0))).setCell ⟨gb625, 1, none⟩ (.string ((rd_T25 l1 x18_1).f1))).setCell ⟨gb625, 2, none⟩ (.string ((rd_T25 l1 x18_1).f2)))) := ⟨xs HB⟩
    (try clear HO_5)
    (try clear BK618)
    (try clear BK622)
    (try clear BK623)
    (try clear BK625)
    (try clear HB)
    generalize (((w26.setCell ⟨gb625, 0, none⟩ (.bool ((rd_T25 l1 x18_1).f0))).setCell ⟨gb625, 1, none⟩ (.string ((rd_T25 l1 x18_1).f1))).setCell ⟨gb625, 2, none⟩ (.string ((rd_T25 l1 x18_1).f2))) = w31 at n0_ n1_ n2_ n3_ n4_ n5_ ⊢
    have HO_5 := n0_
    have BK618 := n1_
    have BK622 := n2_
    have BK623 := n3_
    have BK625 := n4_
    have HB := n5_
    clear n0_ n1_ n2_ n3_ n4_ n5_
    replace HO_5 := Aside0.mk (Kd.R_drew HO_5.out)
    replace BK618 := xD BK618
    replace BK622 := xD BK622
    replace BK623 := xD BK623
    replace BK625 := xD BK625
    replace HB := xW HB
    refine start_ (n := 5) (S := fun w' => w'.cell? ⟨gb622, 0, none⟩ = some (.bool x623000_1) ∧ w'.cell? ⟨gb622, 1, none⟩ = some (.string x623001_1) ∧ w'.cell? ⟨gb622, 2, none⟩ = some (.string x623002_1) ∧ w'.cell? ⟨gb625, 0, none⟩ = some (.bool ((rd_T25 l1 x18_1).f0)) ∧ w'.cell? ⟨gb625, 1, none⟩ = some (.string ((rd_T25 l1 x18_1).f1)) ∧ w'.cell? ⟨gb625, 2, none⟩ = some (.string ((rd_T25 l1 x18_1).f2))) (ds := [4]) #[false, false, false, false, false] (by kernel_rfl) rfl rfl xV (fun hHeld => ?_)
    generalize w31.drew = w32 at HO_5 BK618 BK622 BK623 BK625 HB hHeld ⊢
    refine xT 0 (some 23) (b 5 1) rfl rfl hHeld ?_
    refine xT 1 (some 24) (b 5 3) rfl rfl hHeld ?_
    refine xO 2 (some 25) (b 5 7) rfl rfl fun K hK => ?_
    refine xc Tryd.func35 (guarantee_positive.calls k1 ((rd_T25 l1 x18_1).f0) ((rd_T25 l1 x18_1).f1) ((rd_T25 l1 x18_1).f2) t626 t627 t628 _ A18.out) ?_
    rintro w33 hb
    replace HO_5 := Aside0.mk (Kd.R_below (xr HO_5.out) hb)
    replace BK618 := xB BK618 hb
    replace BK622 := xB BK622 hb
    replace BK623 := xB BK623 hb
    replace BK625 := xB BK625 hb
    replace HB := xS HB hb
    clear hb
    refine hK.out _ _ xV (fun hHeld => ?_)
    clear hK K
    refine xN 25 ?_
    refine xO 3 (some 26) (b 5 15) rfl rfl fun K hK => ?_
    refine xc Tryd.func21 (rational_Add.calls k1 x623000_1 x623001_1 x623002_1 t626 t627 t628 t629 t630 t631 _ A19.out) ?_
    rintro w34 hb
    replace HO_5 := Aside0.mk (Kd.R_below (xr HO_5.out) hb)
    replace BK618 := xB BK618 hb
    replace BK622 := xB BK622 hb
    replace BK623 := xB BK623 hb
    replace BK625 := xB BK625 hb
    replace HB := xS HB hb
    clear hb
    refine hK.out _ _ xV (fun hHeld => ?_)
    clear hK K
    refine xN 26 ?_
    refine xZ 4 none (b 5 31) rfl rfl fun K hK => ?_
    obtain ⟨hs35, hs36, hs37, hfs35, hfs36, hfs37⟩ := x6 BK622
    have hns35_0 := NB618_622.out
    have hns35_2 := NB623_622.out
    have hns35_3 := NB625_622.out
    have hms35_0 := NB622_618.out
    have hms35_2 := NB622_623.out
    have hms35_3 := NB622_625.out
    refine xk ?_
    refine hK.out _ _ ?_
    clear hK K
    refine done_ (by kernel_rfl) ?_
    try go_wp2
    have n0_ : Aside0 (Kd.R k25 25 (((w34.setCell ⟨gb622, 0, none⟩ (.bool t629)).setCell ⟨gb622, 1, none⟩ (.string t630)).setCell ⟨gb622, 2, none⟩ (.string t631)) w.heap.size (fun k_ => k_ ≠ gb618 ∧ k_ ≠ gb622 ∧ k_ ≠ gb623 ∧ k_ ≠ gb625) v620 x5_1) := ⟨by (with_reducible repeat (first | apply Kd.R_alloc | apply Kd.R_drewN | apply Kd.R_drew)); exact Kd.R_mono (Kd.R_far (p := ⟨gb622, 2, none⟩) (Kd.R_far (p := ⟨gb622, 1, none⟩) (Kd.R_far (p := ⟨gb622, 0, none⟩) (Kd.R_mono HO_5.out (fun k_ hk => (⟨hk, hk.2.1⟩ : _ ∧ k_ ≠ gb622))) (fun _ hk => hk.2) (.bool t629)) (fun _ hk => hk.2) (.string t630)) (fun _ hk => hk.2) (.string t631)) (fun _ hk => ⟨hk.1.1, ⟨hk.1.2.1, ⟨hk.1.2.2.1, hk.1.2.2.2⟩⟩⟩)⟩
    have n1_ : Aside0 ((((w34.setCell ⟨gb622, 0, none⟩ (.bool t629)).setCell ⟨gb622, 1, none⟩ (.string t630)).setCell ⟨gb622, 2, none⟩ (.string t631)).heap[gb618]? = some (.cells #[.bool x619000_1, .string x619001_1, .string x619002_1] 25 (0, 0))) := ⟨xb BK618⟩
    have n2_ : Aside0 ((((w34.setCell ⟨gb622, 0, none⟩ (.bool t629)).setCell ⟨gb622, 1, none⟩ (.string t630)).setCell ⟨gb622, 2, none⟩ (.string t631)).heap[gb622]? = some (.cells #[.bool t629, .string t630, .string t631] 25 (0, 0))) := ⟨xp BK622⟩
    have n3_ : Aside0 ((((w34.setCell ⟨gb622, 0, none⟩ (.bool t629)).setCell ⟨gb622, 1, none⟩ (.string t630)).setCell ⟨gb622, 2, none⟩ (.string t631)).heap[gb623]? = some (.cells #[.bool x624000_1, .string x624001_1, .string x624002_1] 25 (0, 0))) := ⟨xb BK623⟩
    have n4_ : Aside0 ((((w34.setCell ⟨gb622, 0, none⟩ (.bool t629)).setCell ⟨gb622, 1, none⟩ (.string t630)).setCell ⟨gb622, 2, none⟩ (.string t631)).heap[gb625]? = some (.cells #[.bool ((rd_T25 l1 x18_1).f0), .string ((rd_T25 l1 x18_1).f1), .string ((rd_T25 l1 x18_1).f2)] 25 (0, 0))) := ⟨xb BK625⟩
    have n5_ : Aside0 (Below w.heap.size w (((w34.setCell ⟨gb622, 0, none⟩ (.bool t629)).setCell ⟨gb622, 1, none⟩ (.string t630)).setCell ⟨gb622, 2, none⟩ (.string t631))) := ⟨xs HB⟩
    (try clear HO_5)
    (try clear BK618)
    (try clear BK622)
    (try clear BK623)
    (try clear BK625)
    (try clear HB)
    generalize (((w34.setCell ⟨gb622, 0, none⟩ (.bool t629)).setCell ⟨gb622, 1, none⟩ (.string t630)).setCell ⟨gb622, 2, none⟩ (.string t631)) = w38 at n0_ n1_ n2_ n3_ n4_ n5_ ⊢
    have HO_5 := n0_
    have BK618 := n1_
    have BK622 := n2_
    have BK623 := n3_
    have BK625 := n4_
    have HB := n5_
    clear n0_ n1_ n2_ n3_ n4_ n5_
    replace HO_5 := Aside0.mk (Kd.R_drew HO_5.out)
    replace BK618 := xD BK618
    replace BK622 := xD BK622
    replace BK623 := xD BK623
    replace BK625 := xD BK625
    replace HB := xW HB
    refine start_ (n := 7) (S := fun w' => w'.cell? ⟨gb622, 0, none⟩ = some (.bool t629) ∧ w'.cell? ⟨gb622, 1, none⟩ = some (.string t630) ∧ w'.cell? ⟨gb622, 2, none⟩ = some (.string t631) ∧ w'.cell? ⟨gb618, 0, none⟩ = some (.bool x619000_1) ∧ w'.cell? ⟨gb618, 1, none⟩ = some (.string x619001_1) ∧ w'.cell? ⟨gb618, 2, none⟩ = some (.string x619002_1)) (ds := []) #[false, false, false, false, false, false, false] (by kernel_rfl) rfl rfl xV (fun hHeld => ?_)
    generalize w38.drew = w39 at HO_5 BK618 BK622 BK623 BK625 HB hHeld ⊢
    refine xT 0 (some 27) (b 7 1) rfl rfl hHeld ?_
    refine xT 1 (some 28) (b 7 3) rfl rfl hHeld ?_
    refine join_ (σ := Nat) 1 #[true, true, true, true, true, true, false] (fun s_ => [(29, .agg #[.bool t632, .string t633, .string t634]), (30, .agg #[.bool t635, .string t636, .string t637]), (31, .agg #[.bool t638, .string t639, .string t640]), (10, .pointer (some ⟨s_, 0, none⟩))]) (fun s_ w' => (w'.cell? ⟨gb622, 0, none⟩ = some (.bool t629) ∧ w'.cell? ⟨gb622, 1, none⟩ = some (.string t630) ∧ w'.cell? ⟨gb622, 2, none⟩ = some (.string t631) ∧ w'.cell? ⟨gb618, 0, none⟩ = some (.bool x619000_1) ∧ w'.cell? ⟨gb618, 1, none⟩ = some (.string x619001_1) ∧ w'.cell? ⟨gb618, 2, none⟩ = some (.string x619002_1)) ∧ (Kd.R k25 25 w' w.heap.size (fun k_ => k_ ≠ gb618 ∧ k_ ≠ gb622 ∧ k_ ≠ gb623 ∧ k_ ≠ gb625 ∧ k_ ≠ s_) v620 x5_1) ∧ (w'.heap[gb618]? = some (.cells #[.bool x619000_1, .string x619001_1, .string x619002_1] 25 (0, 0))) ∧ (w'.heap[gb622]? = some (.cells #[.bool t629, .string t630, .string t631] 25 (0, 0))) ∧ (w'.heap[gb623]? = some (.cells #[.bool x624000_1, .string x624001_1, .string x624002_1] 25 (0, 0))) ∧ (w'.heap[gb625]? = some (.cells #[.bool ((rd_T25 l1 x18_1).f0), .string ((rd_T25 l1 x18_1).f1), .string ((rd_T25 l1 x18_1).f2)] 25 (0, 0))) ∧ (w'.heap[s_]? = some (.cells #[.bool false, .string (⟨#[]⟩ : ByteArray), .string (⟨#[]⟩ : ByteArray)] 25 (0, 0))) ∧ (w.heap.size ≤ s_) ∧ (w.heap.size ≤ s_) ∧ (gb618 ≠ s_) ∧ (s_ ≠ gb618) ∧ (gb622 ≠ s_) ∧ (s_ ≠ gb622) ∧ (gb623 ≠ s_) ∧ (s_ ≠ gb623) ∧ (gb625 ≠ s_) ∧ (s_ ≠ gb625) ∧ (Below w.heap.size w w')) ?_ ?_
    rotate_left
    ·intro hCont
     refine two_ (i := 2) (j := 5) (Ni := some 29) (Nj := some 10) #[true, true, true, false, false, false, false] #[true, true, false, false, false, true, false] rfl rfl rfl rfl (by kernel_rfl) (by decide) (by decide) (fun K hK => ?_) (fun K hK => ?_)
     ·skip
      refine xc Tryd.func35 (guarantee_positive.calls k1 x619000_1 x619001_1 x619002_1 t632 t633 t634 _ A20.out) ?_
      rintro w40 hb
      replace HO_5 := Aside0.mk (Kd.R_below (xr HO_5.out) hb)
      replace BK618 := xB BK618 hb
      replace BK622 := xB BK622 hb
      replace BK623 := xB BK623 hb
      replace BK625 := xB BK625 hb
      replace HB := xS HB hb
      clear hb
      refine hK.out _ _ xV (fun hHeld => ?_)
      clear hK K
      refine xN 29 ?_
      refine two_ (i := 3) (j := 5) (Ni := some 30) (Nj := some 10) #[true, true, true, true, false, false, false] #[true, true, true, false, false, true, false] rfl rfl rfl rfl (by kernel_rfl) (by decide) (by decide) (fun K hK => ?_) (fun K hK => ?_)
      ·skip
       refine xc Tryd.func36 (rational_Subtract.calls k1 t629 t630 t631 t632 t633 t634 t635 t636 t637 _ A21.out) ?_
       rintro w41 hb
       replace HO_5 := Aside0.mk (Kd.R_below (xr HO_5.out) hb)
       replace BK618 := xB BK618 hb
       replace BK622 := xB BK622 hb
       replace BK623 := xB BK623 hb
       replace BK625 := xB BK625 hb
       replace HB := xS HB hb
       clear hb
       refine hK.out _ _ xV (fun hHeld => ?_)
       clear hK K
       refine xN 30 ?_
       refine two_ (i := 4) (j := 5) (Ni := some 31) (Nj := some 10) #[true, true, true, true, true, false, false] #[true, true, true, true, false, true, false] rfl rfl rfl rfl (by kernel_rfl) (by decide) (by decide) (fun K hK => ?_) (fun K hK => ?_)
       ·skip
        refine xc Tryd.func35 (guarantee_positive.calls k1 t635 t636 t637 t638 t639 t640 _ A22.out) ?_
        rintro w42 hb
        replace HO_5 := Aside0.mk (Kd.R_below (xr HO_5.out) hb)
        replace BK618 := xB BK618 hb
        replace BK622 := xB BK622 hb
        replace BK623 := xB BK623 hb
        replace BK625 := xB BK625 hb
        replace HB := xS HB hb
        clear hb
        refine hK.out _ _ xV (fun hHeld => ?_)
        clear hK K
        refine xN 31 ?_
        refine xO 5 (some 10) (b 7 63) rfl rfl fun K hK => ?_
        refine box_step ?hg (N := 10) ?hd (cs := #[.bool false, .string (⟨#[]⟩ : ByteArray), .string (⟨#[]⟩ : ByteArray)]) (t := 25) ?hr ?_; (case hd => rfl); (case hg => rfl); (case hr => first | (go_simp; done) | (go_simp; rfl))
        intro gb641 hg w43 hbox hb
        replace HO_5 := Aside0.mk (Kd.R_below (Kd.R_elderB (xr HO_5.out) gb641 (Nat.le_of_eq hg.symm)) hb)
        have BK641 := Aside0.mk (hbox)
        have GW641 := (xG HB hg)
        have GE641 := (xG HB hg)
        replace HB := xS HB hb
        have NB618_641 := xL BK618 hg
        have NB641_618 := xR BK618 hg
        replace BK618 := xB BK618 hb
        have NB622_641 := xL BK622 hg
        have NB641_622 := xR BK622 hg
        replace BK622 := xB BK622 hb
        have NB623_641 := xL BK623 hg
        have NB641_623 := xR BK623 hg
        replace BK623 := xB BK623 hb
        have NB625_641 := xL BK625 hg
        have NB641_625 := xR BK625 hg
        replace BK625 := xB BK625 hb
        clear hb hbox hg
        refine hK.out _ _ xV (fun hHeld => ?_)
        clear hK K
        refine xN 10 ?_
        exact norm_ (by simp only [putAll, Act.put, List.setIfInBounds_toArray, List.set_cons_zero, List.set_cons_succ]) (hCont (gb641) _ ⟨hHeld, (by (with_reducible repeat (first | apply Kd.R_alloc | apply Kd.R_drewN | apply Kd.R_drew)); exact Kd.R_mono HO_5.out (fun _ hk => by first | exact ⟨hk.1.1, ⟨hk.1.2.1, ⟨hk.1.2.2.1, ⟨hk.1.2.2.2, hk.2⟩⟩⟩⟩ | (simp only [ob_map] at hk ⊢; first | exact ⟨hk.1.1, ⟨hk.1.2.1, ⟨hk.1.2.2.1, ⟨hk.1.2.2.2, hk.2⟩⟩⟩⟩ | grind) | grind)), (xb BK618), (xb BK622), (xb BK623), (xb BK625), (xb BK641), GW641.out, GE641.out, NB618_641.out, NB641_618.out, NB622_641.out, NB641_622.out, NB623_641.out, NB641_623.out, NB625_641.out, NB641_625.out, (xs HB)⟩)
       ·skip
        refine box_step ?hg (N := 10) ?hd (cs := #[.bool false, .string (⟨#[]⟩ : ByteArray), .string (⟨#[]⟩ : ByteArray)]) (t := 25) ?hr ?_; (case hd => rfl); (case hg => rfl); (case hr => first | (go_simp; done) | (go_simp; rfl))
        intro gb641 hg w42 hbox hb
        replace HO_5 := Aside0.mk (Kd.R_below (Kd.R_elderB (xr HO_5.out) gb641 (Nat.le_of_eq hg.symm)) hb)
        have BK641 := Aside0.mk (hbox)
        have GW641 := (xG HB hg)
        have GE641 := (xG HB hg)
        replace HB := xS HB hb
        have NB618_641 := xL BK618 hg
        have NB641_618 := xR BK618 hg
        replace BK618 := xB BK618 hb
        have NB622_641 := xL BK622 hg
        have NB641_622 := xR BK622 hg
        replace BK622 := xB BK622 hb
        have NB623_641 := xL BK623 hg
        have NB641_623 := xR BK623 hg
        replace BK623 := xB BK623 hb
        have NB625_641 := xL BK625 hg
        have NB641_625 := xR BK625 hg
        replace BK625 := xB BK625 hb
        clear hb hbox hg
        refine hK.out _ _ xV (fun hHeld => ?_)
        clear hK K
        refine xN 10 ?_
        refine xO 4 (some 31) (b 7 63) rfl rfl fun K hK => ?_
        refine xc Tryd.func35 (guarantee_positive.calls k1 t635 t636 t637 t638 t639 t640 _ A22.out) ?_
        rintro w43 hb
        replace HO_5 := Aside0.mk (Kd.R_below (xr HO_5.out) hb)
        replace BK618 := xB BK618 hb
        replace BK622 := xB BK622 hb
        replace BK623 := xB BK623 hb
        replace BK625 := xB BK625 hb
        replace BK641 := xB BK641 hb
        replace HB := xS HB hb
        clear hb
        refine hK.out _ _ xV (fun hHeld => ?_)
        clear hK K
        refine xN 31 ?_
        exact norm_ (by simp only [putAll, Act.put, List.setIfInBounds_toArray, List.set_cons_zero, List.set_cons_succ]) (hCont (gb641) _ ⟨hHeld, (by (with_reducible repeat (first | apply Kd.R_alloc | apply Kd.R_drewN | apply Kd.R_drew)); exact Kd.R_mono HO_5.out (fun _ hk => by first | exact ⟨hk.1.1, ⟨hk.1.2.1, ⟨hk.1.2.2.1, ⟨hk.1.2.2.2, hk.2⟩⟩⟩⟩ | (simp only [ob_map] at hk ⊢; first | exact ⟨hk.1.1, ⟨hk.1.2.1, ⟨hk.1.2.2.1, ⟨hk.1.2.2.2, hk.2⟩⟩⟩⟩ | grind) | grind)), (xb BK618), (xb BK622), (xb BK623), (xb BK625), (xb BK641), GW641.out, GE641.out, NB618_641.out, NB641_618.out, NB622_641.out, NB641_622.out, NB623_641.out, NB641_623.out, NB625_641.out, NB641_625.out, (xs HB)⟩)
      ·skip
       refine box_step ?hg (N := 10) ?hd (cs := #[.bool false, .string (⟨#[]⟩ : ByteArray), .string (⟨#[]⟩ : ByteArray)]) (t := 25) ?hr ?_; (case hd => rfl); (case hg => rfl); (case hr => first | (go_simp; done) | (go_simp; rfl))
       intro gb641 hg w41 hbox hb
       replace HO_5 := Aside0.mk (Kd.R_below (Kd.R_elderB (xr HO_5.out) gb641 (Nat.le_of_eq hg.symm)) hb)
       have BK641 := Aside0.mk (hbox)
       have GW641 := (xG HB hg)
       have GE641 := (xG HB hg)
       replace HB := xS HB hb
       have NB618_641 := xL BK618 hg
       have NB641_618 := xR BK618 hg
       replace BK618 := xB BK618 hb
       have NB622_641 := xL BK622 hg
       have NB641_622 := xR BK622 hg
       replace BK622 := xB BK622 hb
       have NB623_641 := xL BK623 hg
       have NB641_623 := xR BK623 hg
       replace BK623 := xB BK623 hb
       have NB625_641 := xL BK625 hg
       have NB641_625 := xR BK625 hg
       replace BK625 := xB BK625 hb
       clear hb hbox hg
       refine hK.out _ _ xV (fun hHeld => ?_)
       clear hK K
       refine xN 10 ?_
       refine xO 3 (some 30) (b 7 47) rfl rfl fun K hK => ?_
       refine xc Tryd.func36 (rational_Subtract.calls k1 t629 t630 t631 t632 t633 t634 t635 t636 t637 _ A21.out) ?_
       rintro w42 hb
       replace HO_5 := Aside0.mk (Kd.R_below (xr HO_5.out) hb)
       replace BK618 := xB BK618 hb
       replace BK622 := xB BK622 hb
       replace BK623 := xB BK623 hb
       replace BK625 := xB BK625 hb
       replace BK641 := xB BK641 hb
       replace HB := xS HB hb
       clear hb
       refine hK.out _ _ xV (fun hHeld => ?_)
       clear hK K
       refine xN 30 ?_
       refine xO 4 (some 31) (b 7 63) rfl rfl fun K hK => ?_
       refine xc Tryd.func35 (guarantee_positive.calls k1 t635 t636 t637 t638 t639 t640 _ A22.out) ?_
       rintro w43 hb
       replace HO_5 := Aside0.mk (Kd.R_below (xr HO_5.out) hb)
       replace BK618 := xB BK618 hb
       replace BK622 := xB BK622 hb
       replace BK623 := xB BK623 hb
       replace BK625 := xB BK625 hb
       replace BK641 := xB BK641 hb
       replace HB := xS HB hb
       clear hb
       refine hK.out _ _ xV (fun hHeld => ?_)
       clear hK K
       refine xN 31 ?_
       exact norm_ (by simp only [putAll, Act.put, List.setIfInBounds_toArray, List.set_cons_zero, List.set_cons_succ]) (hCont (gb641) _ ⟨hHeld, (by (with_reducible repeat (first | apply Kd.R_alloc | apply Kd.R_drewN | apply Kd.R_drew)); exact Kd.R_mono HO_5.out (fun _ hk => by first | exact ⟨hk.1.1, ⟨hk.1.2.1, ⟨hk.1.2.2.1, ⟨hk.1.2.2.2, hk.2⟩⟩⟩⟩ | (simp only [ob_map] at hk ⊢; first | exact ⟨hk.1.1, ⟨hk.1.2.1, ⟨hk.1.2.2.1, ⟨hk.1.2.2.2, hk.2⟩⟩⟩⟩ | grind) | grind)), (xb BK618), (xb BK622), (xb BK623), (xb BK625), (xb BK641), GW641.out, GE641.out, NB618_641.out, NB641_618.out, NB622_641.out, NB641_622.out, NB623_641.out, NB641_623.out, NB625_641.out, NB641_625.out, (xs HB)⟩)
     ·skip
      refine box_step ?hg (N := 10) ?hd (cs := #[.bool false, .string (⟨#[]⟩ : ByteArray), .string (⟨#[]⟩ : ByteArray)]) (t := 25) ?hr ?_; (case hd => rfl); (case hg => rfl); (case hr => first | (go_simp; done) | (go_simp; rfl))
      intro gb641 hg w40 hbox hb
      replace HO_5 := Aside0.mk (Kd.R_below (Kd.R_elderB (xr HO_5.out) gb641 (Nat.le_of_eq hg.symm)) hb)
      have BK641 := Aside0.mk (hbox)
      have GW641 := (xG HB hg)
      have GE641 := (xG HB hg)
      replace HB := xS HB hb
      have NB618_641 := xL BK618 hg
      have NB641_618 := xR BK618 hg
      replace BK618 := xB BK618 hb
      have NB622_641 := xL BK622 hg
      have NB641_622 := xR BK622 hg
      replace BK622 := xB BK622 hb
      have NB623_641 := xL BK623 hg
      have NB641_623 := xR BK623 hg
      replace BK623 := xB BK623 hb
      have NB625_641 := xL BK625 hg
      have NB641_625 := xR BK625 hg
      replace BK625 := xB BK625 hb
      clear hb hbox hg
      refine hK.out _ _ xV (fun hHeld => ?_)
      clear hK K
      refine xN 10 ?_
      refine xO 2 (some 29) (b 7 39) rfl rfl fun K hK => ?_
      refine xc Tryd.func35 (guarantee_positive.calls k1 x619000_1 x619001_1 x619002_1 t632 t633 t634 _ A20.out) ?_
      rintro w41 hb
      replace HO_5 := Aside0.mk (Kd.R_below (xr HO_5.out) hb)
      replace BK618 := xB BK618 hb
      replace BK622 := xB BK622 hb
      replace BK623 := xB BK623 hb
      replace BK625 := xB BK625 hb
      replace BK641 := xB BK641 hb
      replace HB := xS HB hb
      clear hb
      refine hK.out _ _ xV (fun hHeld => ?_)
      clear hK K
      refine xN 29 ?_
      refine xO 3 (some 30) (b 7 47) rfl rfl fun K hK => ?_
      refine xc Tryd.func36 (rational_Subtract.calls k1 t629 t630 t631 t632 t633 t634 t635 t636 t637 _ A21.out) ?_
      rintro w42 hb
      replace HO_5 := Aside0.mk (Kd.R_below (xr HO_5.out) hb)
      replace BK618 := xB BK618 hb
      replace BK622 := xB BK622 hb
      replace BK623 := xB BK623 hb
      replace BK625 := xB BK625 hb
      replace BK641 := xB BK641 hb
      replace HB := xS HB hb
      clear hb
      refine hK.out _ _ xV (fun hHeld => ?_)
      clear hK K
      refine xN 30 ?_
      refine xO 4 (some 31) (b 7 63) rfl rfl fun K hK => ?_
      refine xc Tryd.func35 (guarantee_positive.calls k1 t635 t636 t637 t638 t639 t640 _ A22.out) ?_
      rintro w43 hb
      replace HO_5 := Aside0.mk (Kd.R_below (xr HO_5.out) hb)
      replace BK618 := xB BK618 hb
      replace BK622 := xB BK622 hb
      replace BK623 := xB BK623 hb
      replace BK625 := xB BK625 hb
      replace BK641 := xB BK641 hb
      replace HB := xS HB hb
      clear hb
      refine hK.out _ _ xV (fun hHeld => ?_)
      clear hK K
      refine xN 31 ?_
      exact norm_ (by simp only [putAll, Act.put, List.setIfInBounds_toArray, List.set_cons_zero, List.set_cons_succ]) (hCont (gb641) _ ⟨hHeld, (by (with_reducible repeat (first | apply Kd.R_alloc | apply Kd.R_drewN | apply Kd.R_drew)); exact Kd.R_mono HO_5.out (fun _ hk => by first | exact ⟨hk.1.1, ⟨hk.1.2.1, ⟨hk.1.2.2.1, ⟨hk.1.2.2.2, hk.2⟩⟩⟩⟩ | (simp only [ob_map] at hk ⊢; first | exact ⟨hk.1.1, ⟨hk.1.2.1, ⟨hk.1.2.2.1, ⟨hk.1.2.2.2, hk.2⟩⟩⟩⟩ | grind) | grind)), (xb BK618), (xb BK622), (xb BK623), (xb BK625), (xb BK641), GW641.out, GE641.out, NB618_641.out, NB641_618.out, NB622_641.out, NB641_622.out, NB623_641.out, NB641_623.out, NB625_641.out, NB641_625.out, (xs HB)⟩)
    rintro gb641 w44 ⟨hS_, h0_, h1_, h2_, h3_, h4_, h5_, h6_, h7_, h8_, h9_, h10_, h11_, h12_, h13_, h14_, h15_, h16_⟩
    have n0_ : Aside0 (Kd.R k25 25 w44 w.heap.size (fun k_ => k_ ≠ gb618 ∧ k_ ≠ gb622 ∧ k_ ≠ gb623 ∧ k_ ≠ gb625 ∧ k_ ≠ gb641) v620 x5_1) := ⟨h0_⟩
    have n1_ : Aside0 (w44.heap[gb618]? = some (.cells #[.bool x619000_1, .string x619001_1, .string x619002_1] 25 (0, 0))) := ⟨h1_⟩
    have n2_ : Aside0 (w44.heap[gb622]? = some (.cells #[.bool t629, .string t630, .string t631] 25 (0, 0))) := ⟨h2_⟩
    have n3_ : Aside0 (w44.heap[gb623]? = some (.cells #[.bool x624000_1, .string x624001_1, .string x624002_1] 25 (0, 0))) := ⟨h3_⟩
    have n4_ : Aside0 (w44.heap[gb625]? = some (.cells #[.bool ((rd_T25 l1 x18_1).f0), .string ((rd_T25 l1 x18_1).f1), .string ((rd_T25 l1 x18_1).f2)] 25 (0, 0))) := ⟨h4_⟩
    have n5_ : Aside0 (w44.heap[gb641]? = some (.cells #[.bool false, .string (⟨#[]⟩ : ByteArray), .string (⟨#[]⟩ : ByteArray)] 25 (0, 0))) := ⟨h5_⟩
    have n6_ : Aside0 (w.heap.size ≤ gb641) := ⟨h6_⟩
    have n7_ : Aside0 (w.heap.size ≤ gb641) := ⟨h7_⟩
    have n8_ : Aside0 (gb618 ≠ gb641) := ⟨h8_⟩
    have n9_ : Aside0 (gb641 ≠ gb618) := ⟨h9_⟩
    have n10_ : Aside0 (gb622 ≠ gb641) := ⟨h10_⟩
    have n11_ : Aside0 (gb641 ≠ gb622) := ⟨h11_⟩
    have n12_ : Aside0 (gb623 ≠ gb641) := ⟨h12_⟩
    have n13_ : Aside0 (gb641 ≠ gb623) := ⟨h13_⟩
    have n14_ : Aside0 (gb625 ≠ gb641) := ⟨h14_⟩
    have n15_ : Aside0 (gb641 ≠ gb625) := ⟨h15_⟩
    have n16_ : Aside0 (Below w.heap.size w w44) := ⟨h16_⟩
    clear HO_5
    clear BK618
    clear BK622
    clear BK623
    clear BK625
    clear HB
    clear h0_ h1_ h2_ h3_ h4_ h5_ h6_ h7_ h8_ h9_ h10_ h11_ h12_ h13_ h14_ h15_ h16_
    have HO_5 := n0_
    have BK618 := n1_
    have BK622 := n2_
    have BK623 := n3_
    have BK625 := n4_
    have BK641 := n5_
    have GW641 := n6_
    have GE641 := n7_
    have NB618_641 := n8_
    have NB641_618 := n9_
    have NB622_641 := n10_
    have NB641_622 := n11_
    have NB623_641 := n12_
    have NB641_623 := n13_
    have NB625_641 := n14_
    have NB641_625 := n15_
    have HB := n16_
    clear n0_ n1_ n2_ n3_ n4_ n5_ n6_ n7_ n8_ n9_ n10_ n11_ n12_ n13_ n14_ n15_ n16_
    have hHeld : w44.cell? ⟨gb622, 0, none⟩ = some (.bool t629) ∧ w44.cell? ⟨gb622, 1, none⟩ = some (.string t630) ∧ w44.cell? ⟨gb622, 2, none⟩ = some (.string t631) ∧ w44.cell? ⟨gb618, 0, none⟩ = some (.bool x619000_1) ∧ w44.cell? ⟨gb618, 1, none⟩ = some (.string x619001_1) ∧ w44.cell? ⟨gb618, 2, none⟩ = some (.string x619002_1) := hS_
    refine norm_ (a' := ?_) ?_ ?_
    rotate_left
    ·simp only [putAll, Act.put, List.setIfInBounds_toArray, List.set_cons_zero, List.set_cons_succ]
     rfl
    refine xO 6 none (b 7 127) rfl rfl fun K hK => ?_
    obtain ⟨hs45, hs46, hs47, hfs45, hfs46, hfs47⟩ := x6 BK641
    have hns45_0 := NB618_641.out
    have hns45_1 := NB622_641.out
    have hns45_2 := NB623_641.out
    have hns45_3 := NB625_641.out
    have hms45_0 := NB641_618.out
    have hms45_1 := NB641_622.out
    have hms45_2 := NB641_623.out
    have hms45_3 := NB641_625.out
    refine xk ?_
    refine hK.out _ _ ⟨((cell_far (p := ⟨gb641, _, none⟩) NB622_641.out _).trans (((cell_far (p := ⟨gb641, _, none⟩) NB622_641.out _).trans (((cell_far (p := ⟨gb641, _, none⟩) NB622_641.out _).trans (hHeld.1)))))), ((cell_far (p := ⟨gb641, _, none⟩) NB622_641.out _).trans (((cell_far (p := ⟨gb641, _, none⟩) NB622_641.out _).trans (((cell_far (p := ⟨gb641, _, none⟩) NB622_641.out _).trans (hHeld.2.1)))))), ((cell_far (p := ⟨gb641, _, none⟩) NB622_641.out _).trans (((cell_far (p := ⟨gb641, _, none⟩) NB622_641.out _).trans (((cell_far (p := ⟨gb641, _, none⟩) NB622_641.out _).trans (hHeld.2.2.1)))))), ((cell_far (p := ⟨gb641, _, none⟩) NB618_641.out _).trans (((cell_far (p := ⟨gb641, _, none⟩) NB618_641.out _).trans (((cell_far (p := ⟨gb641, _, none⟩) NB618_641.out _).trans (hHeld.2.2.2.1)))))), ((cell_far (p := ⟨gb641, _, none⟩) NB618_641.out _).trans (((cell_far (p := ⟨gb641, _, none⟩) NB618_641.out _).trans (((cell_far (p := ⟨gb641, _, none⟩) NB618_641.out _).trans (hHeld.2.2.2.2.1)))))), ((cell_far (p := ⟨gb641, _, none⟩) NB618_641.out _).trans (((cell_far (p := ⟨gb641, _, none⟩) NB618_641.out _).trans (((cell_far (p := ⟨gb641, _, none⟩) NB618_641.out _).trans (hHeld.2.2.2.2.2))))))⟩ (fun hHeld => ?_)
    clear hK K
    refine done_ (by kernel_rfl) ?_
    have hnb48 := NB641_618.out
    have hnc48 := NB618_641.out
    have hnb49 := NB641_622.out
    have hnc49 := NB622_641.out
    have hnb50 := NB641_623.out
    have hnc50 := NB623_641.out
    have hnb51 := NB641_625.out
    have hnc51 := NB625_641.out
    obtain ⟨hcz52_0, hcz52_1, hcz52_2, hfz52_0, hfz52_1, hfz52_2⟩ := x6 BK641
    have hnb53 := NB623_618.out
    have hnc53 := NB618_623.out
    have hnb54 := NB623_622.out
    have hnc54 := NB622_623.out
    obtain ⟨hcz55_0, hcz55_1, hcz55_2, hfz55_0, hfz55_1, hfz55_2⟩ := x6 BK623
    try go_wp2_with (first | (refine xC Tryd.func36 (some 36) (rational_Subtract.calls k1 t638 t639 t640 x624000_1 x624001_1 x624002_1 t642 t643 t644 _ A23.out) ?_; rintro w56 hb; replace HO_5 := Aside0.mk (Kd.R_below (by (with_reducible repeat (first | apply Kd.R_alloc | apply Kd.R_drewN | apply Kd.R_drew)); exact (Kd.R_mono (Kd.R_far (p := ⟨gb641, 2, none⟩) (Kd.R_far (p := ⟨gb641, 1, none⟩) (Kd.R_far (p := ⟨gb641, 0, none⟩) (Kd.R_mono HO_5.out (fun k_ hk => (⟨hk, hk.2.2.2.2⟩ : _ ∧ k_ ≠ gb641))) (fun _ hk => hk.2) (.bool t638)) (fun _ hk => hk.2) (.string t639)) (fun _ hk => hk.2) (.string t640)) (fun _ h_ => h_.1))) hb); replace BK618 := xB BK618 hb; replace BK622 := xB BK622 hb; replace BK623 := xB BK623 hb; replace BK625 := xB BK625 hb; replace BK641 := Aside0.mk (blk_below (g := gb641) (o := .cells #[.bool t638, .string t639, .string t640] 25 (0, 0)) (xp BK641) hb); replace HB := xS HB hb; clear hb; have p25 : 0 ≤ (x18_1 : Int) := xa; have q25 : (x18_1 : Int) < ((x5_1.length : Int) : Int) := xa; obtain ⟨go25, co25, eo25, gb25, gl25, cl25, HG25⟩ := Kd.R_form HO_5.out (by omega); (first | cases eo25 | (injection eo25 with ea_ en_ ec_; (first | subst ea_ | (injection ea_ with ea_; subst ea_)); subst ec_; clear en_)); have GB25 := Aside0.mk gb25; have GG25 := Aside0.mk HG25; clear gb25 gl25 HG25; obtain ⟨ce25, hcl25, hM25, hcc25, hfr25⟩ := Kd.R_elem HO_5.out z25 (x18_1 : Int) p25 q25; obtain rfl := k25_openM hM25; have hx25_0 : w56.cell? ⟨go25, (x18_1 : Int).toNat * 3, none⟩ = some (.bool ((rd_T25 x5_1 x18_1).f0)) := hcc25 0 _ rfl; have hx25_1 : w56.cell? ⟨go25, (x18_1 : Int).toNat * 3 + 1, none⟩ = some (.string ((rd_T25 x5_1 x18_1).f1)) := hcc25 1 _ rfl; have hx25_2 : w56.cell? ⟨go25, (x18_1 : Int).toNat * 3 + 2, none⟩ = some (.string ((rd_T25 x5_1 x18_1).f2)) := hcc25 2 _ rfl; have hf25_0 : w56.frozen? ⟨go25, (x18_1 : Int).toNat * 3, none⟩ = false := hfr25 0; have hf25_1 : w56.frozen? ⟨go25, (x18_1 : Int).toNat * 3 + 1, none⟩ = false := hfr25 1; have hf25_2 : w56.frozen? ⟨go25, (x18_1 : Int).toNat * 3 + 2, none⟩ = false := hfr25 2; clear hcl25 hcc25 hfr25 hM25; replace p25 := eq_true p25; replace q25 := eq_true q25; have HX57 := Aside0.mk (show Kd.R k25 25 w56 w.heap.size (fun k_ => k_ ≠ gb618 ∧ k_ ≠ gb622 ∧ k_ ≠ gb623 ∧ k_ ≠ gb625 ∧ k_ ≠ gb641) (.slice (some ⟨go25, 0, none⟩) x5_1.length co25) x5_1 from (xr HO_5.out)); obtain ⟨ce57, hcl57, hM57, hcc57, hfr57⟩ := Kd.R_elem HX57.out z25 (x18_1 : Int) (xa) (by have h_ : (x18_1 : Int) < ((x5_1.length : Int) : Int) := xa; first | exact h_ | (have e_ := (Kd.R_reads' HO_5.out).1; omega) | simpa using h_); obtain rfl := k25_openM hM57; have HP57 := Kd.R_seg HX57.out (x18_1 : Int) (xa) (by have h_ : (x18_1 : Int) < ((x5_1.length : Int) : Int) := xa; first | exact h_ | (have e_ := (Kd.R_reads' HO_5.out).1; omega) | simpa using h_) (seg := [.bool t642, .string t643, .string t644]) (j := 0) hcl57 hcc57 (show 3 ≤ 3 from by decide) (x' := (⟨t642, t643, t644⟩ : S25)) (k25_mkM _ _ _ (⟨t642, t643, t644⟩ : S25) ) (fun _ hk => hk); have hx57_0 := hcc57 0 _ rfl; (try simp only [show (k25).sz = 3 from rfl, Nat.mul_one, Nat.add_zero] at hx57_0); have hf57_0 := hfr57 0; (try simp only [show (k25).sz = 3 from rfl, Nat.mul_one, Nat.add_zero] at hf57_0); have hx57_1 := hcc57 1 _ rfl; (try simp only [show (k25).sz = 3 from rfl, Nat.mul_one, Nat.add_zero] at hx57_1); have hf57_1 := hfr57 1; (try simp only [show (k25).sz = 3 from rfl, Nat.mul_one, Nat.add_zero] at hf57_1); have hx57_2 := hcc57 2 _ rfl; (try simp only [show (k25).sz = 3 from rfl, Nat.mul_one, Nat.add_zero] at hx57_2); have hf57_2 := hfr57 2; (try simp only [show (k25).sz = 3 from rfl, Nat.mul_one, Nat.add_zero] at hf57_2); clear hcl57 hcc57 hfr57 hM57) | ((with_reducible refine gate_store (t := 25) (p := 37) rfl ?_); refine store_event (t := 25) (p := 37) (v := ?vo_w58) (w1 := (((w56.setCell ⟨go25, (x18_1 : Int).toNat * 3, none⟩ (.bool t642)).setCell ⟨go25, (x18_1 : Int).toNat * 3 + 1, none⟩ (.string t643)).setCell ⟨go25, (x18_1 : Int).toNat * 3 + 2, none⟩ (.string t644))) ?hg ?ho ?hn ?hr ?_; (case ho => rfl); (case hg => rfl); (case hn => rfl); (case hr => first | (go_simp; done) | (go_simp; rfl)); intro w58 hw; have hg : w56.grownBy w58 (some go25) := (by rw [hw]; exact HP57.2); have hp_ : Kd.R k25 25 w58 w.heap.size (fun k_ => k_ ≠ gb618 ∧ k_ ≠ gb622 ∧ k_ ≠ gb623 ∧ k_ ≠ gb625 ∧ k_ ≠ gb641) (.slice (some ⟨go25, 0, none⟩) x5_1.length co25) y645 := (by rw [hw, Ny645.out]; exact HP57.1); clear HP57; replace BK618 := xK BK618 hg (Kd.R_away HO_5.out (fun _ hk => hk.1)); replace BK622 := xK BK622 hg (Kd.R_away HO_5.out (fun _ hk => hk.2.1)); replace BK623 := xK BK623 hg (Kd.R_away HO_5.out (fun _ hk => hk.2.2.1)); replace BK625 := xK BK625 hg (Kd.R_away HO_5.out (fun _ hk => hk.2.2.2.1)); replace BK641 := xK BK641 hg (Kd.R_away HO_5.out (fun _ hk => hk.2.2.2.2)); replace HO_5 := Aside0.mk (hp_); replace HB := Aside0.mk ((by rw [hw]; exact below_set (below_set (below_set (HB.out) GB25.out) GB25.out) GB25.out : Below w.heap.size w w58)); clear hg hw hp_; obtain ⟨hcz59_0, hcz59_1, hcz59_2, hfz59_0, hfz59_1, hfz59_2⟩ := x6 BK641; obtain ⟨hcz60_0, hcz60_1, hcz60_2, hfz60_0, hfz60_1, hfz60_2⟩ := x6 BK623))
    (first | go_roundg k1 | (refine Handed.intro k1 ?measure ?_; rotate_left; go_step; (repeat apply Exists.intro); refine ⟨?rel, (by first | rfl | (simp only [add_plain]; rfl))⟩))
    case measure => have := HK1.out; omega
    case rel => exact ⟨(y645), (wrap64 (x18_1 + 1)), (x619000_1), (x619001_1), (x619002_1), (t629), (t630), (t631), (t638), (t639), (t640), xz, H', ⟨by have := HK1.out; omega⟩, ⟨by (with_reducible repeat (first | apply Kd.R_alloc | apply Kd.R_drewN | apply Kd.R_drew)); exact Kd.R_mono (Kd.R_far (p := ⟨gb623, 2, none⟩) (Kd.R_far (p := ⟨gb623, 1, none⟩) (Kd.R_far (p := ⟨gb623, 0, none⟩) (Kd.R_mono HO_5.out (fun k_ hk => (⟨hk, hk.2.2.1⟩ : _ ∧ k_ ≠ gb623))) (fun _ hk => hk.2) (.bool t638)) (fun _ hk => hk.2) (.string t639)) (fun _ hk => hk.2) (.string t640)) (fun _ hk => ⟨hk.1.1, ⟨hk.1.2.1, hk.1.2.2.1⟩⟩)⟩, ⟨xb BK618⟩, ⟨xb BK622⟩, ⟨by (with_reducible repeat (first | refine blk_drewN ?_ _ | refine blk_drew ?_ | refine blk_alloc ?_ _)); refine blk_put (cs := #[.bool t638, .string t639, .string x624002_1]) ?_ 2 _ (by first | rfl | simp [ne_nil_b]); (with_reducible repeat (first | refine blk_drewN ?_ _ | refine blk_drew ?_ | refine blk_alloc ?_ _)); refine blk_put (cs := #[.bool t638, .string x624001_1, .string x624002_1]) ?_ 1 _ (by first | rfl | simp [ne_nil_b]); (with_reducible repeat (first | refine blk_drewN ?_ _ | refine blk_drew ?_ | refine blk_alloc ?_ _)); refine blk_put (cs := #[.bool x624000_1, .string x624001_1, .string x624002_1]) ?_ 0 _ (by first | rfl | simp [ne_nil_b]); (with_reducible repeat (first | refine blk_drewN ?_ _ | refine blk_drew ?_ | refine blk_alloc ?_ _)); exact BK623.out⟩, ⟨xs HB⟩⟩
   ·rw [if_neg c15] at H
    have c15b0 : decide (x18_1 < (l1.length : Int)) = false := decide_eq_false c15
    clear c15
    obtain rfl := Option.some.inj H
    go_wp2
    go_ret
    exact ⟨_, xy, by (with_reducible repeat (first | apply Kd.R_alloc | apply Kd.R_drewN | apply Kd.R_drew)); exact Kd.R_mono HO_5.out (fun _ hk => trivial), xs HB⟩
/-! ### natural_FromUint: function 87 -/
def natural_FromUint.f (k : Nat) (a0 : Int) : Option (ByteArray) := (natural_limbs_text.f k (([(a0) % 4294967296, (a0 / 4294967296) % 4294967296] : List Int))).bind fun t649 => (some t649)
theorem natural_FromUint.mono : ∀ a0 k, LeO (natural_FromUint.f k a0) (natural_FromUint.f (k + 1) a0) := by
 intro a0 k
 unfold natural_FromUint.f
 have m0 := @natural_limbs_text.mono; exact xM
set_option maxHeartbeats 8000000 in
set_option maxRecDepth 100000 in
theorem natural_FromUint.calls (k : Nat) (a0 : Int) (r : ByteArray) (w : World) (h : natural_FromUint.f k a0 = some r) :
  Calls Tryd.prog 87 #[.int .u64 a0] w fun e w' => e = .returned (.string r) ∧ Below w.heap.size w w' := by
 have HB := Aside0.mk (Below.refl w.heap.size w)
 have H : ((natural_limbs_text.f k (([(a0) % 4294967296, (a0 / 4294967296) % 4294967296] : List Int))).bind fun t649 => (some t649)) = some r := h
 clear h
 obtain ⟨y646, hy646⟩ : ∃ y_ : List Int, y_ = (([(a0) % 4294967296, (a0 / 4294967296) % 4294967296] : List Int)) := ⟨_, rfl⟩
 replace H : ((natural_limbs_text.f k y646).bind fun t649 => (some t649)) = some r := by first | (rw [hy646]; with_reducible exact H) | (have H2_ := (Option.bind_some _ _).symm.trans H; rw [hy646]; with_reducible exact H2_) | (have H2_ := (Option.bind_some _ _).symm.trans H; with_reducible exact H2_) | with_reducible exact H | (rw [hy646]; exact H) | exact H
 have Ny646 := Aside0.mk hy646
 clear hy646
 replace H := xH H; obtain ⟨t649, A2, H⟩ := H
 obtain rfl := Option.some.inj H
 go_enter Tryd.func87, Tryd.ntmps87
 go_wp2_with (first | ((with_reducible refine gate_dst (N := 8) rfl ?_); refine Kd.R_lit (Kd.int .u32) _ 85 ?hg (N := 8) ?hd (xs := ([(a0) % 4294967296, (a0 / 4294967296) % 4294967296] : List Int)) (inner := [.int .u32 ((a0) % 4294967296), .int .u32 ((a0 / 4294967296) % 4294967296)]) (ok := fun _ => True) (okp := fun _ => True) ?hr ?hp (fun _ hk => hk) trivial (Below.refl _ _) (Nat.le_refl _) (by simp) ?_; (case hd => rfl); (case hg => rfl); (case hr => first | (go_simp; done) | (go_simp; rfl)); (case hp => exact (Reps.one (show Kd.M (Kd.int .u32) _ _ _ ((a0) % 4294967296) [.int .u32 ((a0) % 4294967296)] from rfl) (Reps.one (show Kd.M (Kd.int .u32) _ _ _ ((a0 / 4294967296) % 4294967296) [.int .u32 ((a0 / 4294967296) % 4294967296)] from rfl) (Reps.none _ _)))); intro v647 w3 ho4 hb hg_ hnew_; clear hg_ hnew_; (first | rw [← Ny646.out] at ho4 | (simp only [Int.reduceToNat] at ho4; rw [← Ny646.out] at ho4)); have HO648 := Aside0.mk (Kd.R_lower ho4 (below_size (xs HB))); replace HB := xS HB hb; clear hb ho4; obtain ⟨Ao5, co5, eo5⟩ := Kd.R_slice HO648.out; subst eo5) | (refine xg Tryd.func78 (some 9) #[.slice Ao5 y646.length co5] ?_; (with_reducible refine (natural_limbs_text.calls k _ _ y646 t649 _ ?side1 ?side2 A2.out).mono ?_); (case side1 => repeat (first | exact (Kd.R_reads' HO648.out).2.2 | (with_reducible refine Kd.C_alloc ?_ _) | (with_reducible refine Kd.C_drewN ?_ _) | (with_reducible refine Kd.C_drew ?_))); (case side2 => exact (Kd.R_reads' HO648.out).2.1); rintro e w6 ⟨rfl, hb⟩; refine ⟨_, rfl, ?_⟩; replace HO648 := Aside0.mk (Kd.R_below (xr HO648.out) hb); replace HB := xS HB hb; clear hb))
 go_ret
 exact ⟨xy, xs HB⟩
/-! ### rational_magnitude: function 63 -/
def rational_magnitude.f (k : Nat) (a0 : Int) : Option (ByteArray) := if a0 < 0 then ((natural_FromUint.f k (IntKind.u64.wrap (-(IntKind.u64.wrap (a0))))).bind fun t650 => (some t650)) else ((natural_FromUint.f k (IntKind.u64.wrap (a0))).bind fun t651 => (some t651))
theorem rational_magnitude.mono : ∀ a0 k, LeO (rational_magnitude.f k a0) (rational_magnitude.f (k + 1) a0) := by
 intro a0 k
 unfold rational_magnitude.f
 have m0 := @natural_FromUint.mono; exact xM
set_option maxHeartbeats 8000000 in
set_option maxRecDepth 100000 in
theorem rational_magnitude.calls (k : Nat) (a0 : Int) (r : ByteArray) (w : World) (h : rational_magnitude.f k a0 = some r) :
  Calls Tryd.prog 63 #[.int .i64 a0] w fun e w' => e = .returned (.string r) ∧ Below w.heap.size w w' := by
 have HB := Aside0.mk (Below.refl w.heap.size w)
 have H : (if a0 < 0 then ((natural_FromUint.f k (IntKind.u64.wrap (-(IntKind.u64.wrap (a0))))).bind fun t650 => (some t650)) else ((natural_FromUint.f k (IntKind.u64.wrap (a0))).bind fun t651 => (some t651))) = some r := h
 clear h
 by_cases c2 : a0 < 0
 ·rw [if_pos c2] at H
  have c2b0 : decide (a0 < 0) = true := decide_eq_true c2
  clear c2
  replace H := xH H; obtain ⟨t650, A3, H⟩ := H
  obtain rfl := Option.some.inj H
  go_enter Tryd.func63, Tryd.ntmps63
  go_wp2_with (first | (refine xC Tryd.func87 (some 8) (natural_FromUint.calls k (IntKind.u64.wrap (-(IntKind.u64.wrap (a0)))) t650 _ A3.out) ?_; rintro w4 hb; replace HB := xS HB hb; clear hb))
  go_ret
  exact ⟨xy, xs HB⟩
 ·rw [if_neg c2] at H
  have c2b0 : decide (a0 < 0) = false := decide_eq_false c2
  clear c2
  replace H := xH H; obtain ⟨t651, A5, H⟩ := H
  obtain rfl := Option.some.inj H
  go_enter Tryd.func63, Tryd.ntmps63
  go_wp2_with (first | (refine xC Tryd.func87 (some 11) (natural_FromUint.calls k (IntKind.u64.wrap (a0)) t651 _ A5.out) ?_; rintro w6 hb; replace HB := xS HB hb; clear hb))
  go_ret
  exact ⟨xy, xs HB⟩
/-! ### rational_Int: function 39 -/
def rational_Int.f (k : Nat) (a0 : Int) : Option (Bool × ByteArray × ByteArray) := (rational_magnitude.f k a0).bind fun t653 => ((rational_reduced.f k (decide (a0 < 0)) t653 (⟨#[1]⟩ : ByteArray)).bind fun bt654 => (some (bt654.1, bt654.2.1, bt654.2.2)))
theorem rational_Int.mono : ∀ a0 k, LeO (rational_Int.f k a0) (rational_Int.f (k + 1) a0) := by
 intro a0 k
 unfold rational_Int.f
 have m0 := @rational_magnitude.mono; have m1 := @rational_reduced.mono; exact xM
set_option maxHeartbeats 8000000 in
set_option maxRecDepth 100000 in
theorem rational_Int.calls (k : Nat) (a0 : Int) (r1 : Bool) (r2 : ByteArray) (r3 : ByteArray) (w : World) (h : rational_Int.f k a0 = some (r1, r2, r3)) :
  Calls Tryd.prog 39 #[.int .i64 a0] w fun e w' => e = .returned (.agg #[.bool r1, .string r2, .string r3]) ∧ Below w.heap.size w w' := by
 have hu25 := Tryd.underlying25
 have HB := Aside0.mk (Below.refl w.heap.size w)
 have H : ((rational_magnitude.f k a0).bind fun t653 => ((rational_reduced.f k (decide (a0 < 0)) t653 (⟨#[1]⟩ : ByteArray)).bind fun bt654 => (some (bt654.1, bt654.2.1, bt654.2.2)))) = some (r1, r2, r3) := h
 clear h
 replace H := xH H; obtain ⟨t653, A2, H⟩ := H
 replace H := xH H; obtain ⟨⟨t654, t655, t656⟩, A3, H⟩ := H
 dsimp only at H
 simp only [Option.some.injEq, Prod.mk.injEq] at H
 obtain ⟨rfl, rfl, rfl⟩ := H
 go_enter Tryd.func39, Tryd.ntmps39
 go_wp2_with (first | (refine xE (N := 2) #[.bool false, .string (⟨#[]⟩ : ByteArray), .string (⟨#[]⟩ : ByteArray)] 25 rfl ?_; intro gb652 hg w4 hbox hb; have BK652 := Aside0.mk (hbox); have GW652 := (xG HB hg); have GE652 := (xG HB hg); replace HB := xS HB hb; clear hb hbox hg) | (refine xC Tryd.func63 (some 6) (rational_magnitude.calls k a0 t653 _ A2.out) ?_; rintro w5 hb; replace BK652 := xB BK652 hb; replace HB := xS HB hb; clear hb) | (refine xC Tryd.func52 (some 7) (rational_reduced.calls k (decide (a0 < 0)) t653 (⟨#[1]⟩ : ByteArray) t654 t655 t656 _ A3.out) ?_; rintro w6 hb; replace BK652 := xB BK652 hb; replace HB := xS HB hb; clear hb; obtain ⟨hcz7_0, hcz7_1, hcz7_2, hfz7_0, hfz7_1, hfz7_2⟩ := x6 BK652))
 refine bodyPost_ret (results_cell_row rfl _ _ gb652 25 #[.bool t654, .string t655, .string t656] (0, 0) _ rfl (xp BK652) Tryd.underlying25 rfl (by kernel_rfl)) rfl ?_
 exact ⟨xy, xs HB⟩
section
attribute [local go_sem high] eqA25
/-! ### insolvencylaw18_awake: function 14 -/
def insolvencylaw18_awake.f (k : Nat)  : Option (Bool) := (rational_Int.f k 100).bind fun bt657 => ((rational_Int.f k 70).bind fun bt660 => ((rational_Int.f k 50).bind fun bt663 => ((rational_Int.f k 20).bind fun bt666 => ((guarantee_Refunds.f k bt657.1 bt657.2.1 bt657.2.2 (([(⟨bt660.1, bt660.2.1, bt660.2.2⟩ : S25), (⟨bt663.1, bt663.2.1, bt663.2.2⟩ : S25), (⟨bt666.1, bt666.2.1, bt666.2.2⟩ : S25)] : List (S25)))).bind fun t672 => (if (t672.length : Int) = 3 then (if 0 < (t672.length : Int) then ((rational_Int.f k 0).bind fun bt676 => (if (((rd_T25 t672 0).f0) == bt676.1 && ((((rd_T25 t672 0).f1).toList) == bt676.2.1.toList && ((((rd_T25 t672 0).f2).toList) == bt676.2.2.toList))) = true then (if 1 < (t672.length : Int) then ((rational_Int.f k 20).bind fun bt680 => (if (((rd_T25 t672 1).f0) == bt680.1 && ((((rd_T25 t672 1).f1).toList) == bt680.2.1.toList && ((((rd_T25 t672 1).f2).toList) == bt680.2.2.toList))) = true then (if 2 < (t672.length : Int) then ((rational_Int.f k 20).bind fun bt684 => (some (((rd_T25 t672 2).f0) == bt684.1 && ((((rd_T25 t672 2).f1).toList) == bt684.2.1.toList && ((((rd_T25 t672 2).f2).toList) == bt684.2.2.toList))))) else (none)) else (some false))) else (none)) else (some false))) else (none)) else (some false))))))
theorem insolvencylaw18_awake.mono : ∀ k, LeO (insolvencylaw18_awake.f k ) (insolvencylaw18_awake.f (k + 1) ) := by
 intro  k
 unfold insolvencylaw18_awake.f
 have m0 := @guarantee_Refunds.mono; have m1 := @rational_Int.mono; exact xM
def insolvencylaw18_awake.T2 : Bool × List (List Nat × List Nat) := (true, [([], []), ([0], [0]), ([1], [1]), ([2], [2]), ([3], [3]), ([4, 3], [3, 4]), ([5, 3], [3, 5]), ([3, 3], [3]), ([6, 7, 3], [3, 6, 7]), ([3, 8], [3, 8]), ([9, 7], [9]), ([10], [10]), ([11, 10], [10, 11]), ([12, 10], [10, 12]), ([10, 10], [10]), ([13, 14, 10], [10, 13, 14]), ([10, 15], [10, 15]), ([16, 14], [16]), ([17], [17]), ([18, 17], [17, 18]), ([19, 17], [17, 19]), ([17, 17], [17]), ([20, 21, 17], [17, 20, 21]), ([17, 22], [17, 22]), ([23, 21, 0, 1, 2, 3, 4, 5, 6, 7, 8, 9, 10, 11, 12, 13, 14, 15, 16, 17, 18, 19, 20, 21, 22, 23], [23])])
def insolvencylaw18_awake.B2 : List Nat := [0, 1, 3, 7, 15, 31, 63, 15, 255, 511, 1023, 2047, 4095, 8191, 2047, 32767, 65535, 131071, 262143, 524287, 1048575, 262143, 4194303, 8388607, 16777215]
theorem insolvencylaw18_awake.tab2 : rtab .any (opsOf Tryd.f14 2) = insolvencylaw18_awake.T2 := by kernel_rfl
theorem insolvencylaw18_awake.bits2 : waitsOk insolvencylaw18_awake.T2.2 insolvencylaw18_awake.B2 = true := by kernel_rfl
set_option maxHeartbeats 8000000 in
set_option maxRecDepth 100000 in
theorem insolvencylaw18_awake.calls (k : Nat)  (r : Bool) (w : World) (h : insolvencylaw18_awake.f k  = some r) :
  Calls Tryd.prog 14 #[] w fun e w' => e = .returned (.bool r) ∧ Below w.heap.size w w' := by
 have hu25 := Tryd.underlying25
 have HB := Aside0.mk (Below.refl w.heap.size w)
 have H : ((rational_Int.f k 100).bind fun bt657 => ((rational_Int.f k 70).bind fun bt660 => ((rational_Int.f k 50).bind fun bt663 => ((rational_Int.f k 20).bind fun bt666 => ((guarantee_Refunds.f k bt657.1 bt657.2.1 bt657.2.2 (([(⟨bt660.1, bt660.2.1, bt660.2.2⟩ : S25), (⟨bt663.1, bt663.2.1, bt663.2.2⟩ : S25), (⟨bt666.1, bt666.2.1, bt666.2.2⟩ : S25)] : List (S25)))).bind fun t672 => (if (t672.length : Int) = 3 then (if 0 < (t672.length : Int) then ((rational_Int.f k 0).bind fun bt676 => (if (((rd_T25 t672 0).f0) == bt676.1 && ((((rd_T25 t672 0).f1).toList) == bt676.2.1.toList && ((((rd_T25 t672 0).f2).toList) == bt676.2.2.toList))) = true then (if 1 < (t672.length : Int) then ((rational_Int.f k 20).bind fun bt680 => (if (((rd_T25 t672 1).f0) == bt680.1 && ((((rd_T25 t672 1).f1).toList) == bt680.2.1.toList && ((((rd_T25 t672 1).f2).toList) == bt680.2.2.toList))) = true then (if 2 < (t672.length : Int) then ((rational_Int.f k 20).bind fun bt684 => (some (((rd_T25 t672 2).f0) == bt684.1 && ((((rd_T25 t672 2).f1).toList) == bt684.2.1.toList && ((((rd_T25 t672 2).f2).toList) == bt684.2.2.toList))))) else (none)) else (some false))) else (none)) else (some false))) else (none)) else (some false))))))) = some r := h
 clear h
 replace H := xH H; obtain ⟨⟨t657, t658, t659⟩, A1, H⟩ := H
 dsimp only at H
 replace H := xH H; obtain ⟨⟨t660, t661, t662⟩, A2, H⟩ := H
 dsimp only at H
 replace H := xH H; obtain ⟨⟨t663, t664, t665⟩, A3, H⟩ := H
 dsimp only at H
 replace H := xH H; obtain ⟨⟨t666, t667, t668⟩, A4, H⟩ := H
 dsimp only at H
 obtain ⟨y669, hy669⟩ : ∃ y_ : List (S25), y_ = (([(⟨t660, t661, t662⟩ : S25), (⟨t663, t664, t665⟩ : S25), (⟨t666, t667, t668⟩ : S25)] : List (S25))) := ⟨_, rfl⟩
 replace H : ((guarantee_Refunds.f k t657 t658 t659 y669).bind fun t672 => (if (t672.length : Int) = 3 then (if 0 < (t672.length : Int) then ((rational_Int.f k 0).bind fun bt676 => (if (((rd_T25 t672 0).f0) == bt676.1 && ((((rd_T25 t672 0).f1).toList) == bt676.2.1.toList && ((((rd_T25 t672 0).f2).toList) == bt676.2.2.toList))) = true then (if 1 < (t672.length : Int) then ((rational_Int.f k 20).bind fun bt680 => (if (((rd_T25 t672 1).f0) == bt680.1 && ((((rd_T25 t672 1).f1).toList) == bt680.2.1.toList && ((((rd_T25 t672 1).f2).toList) == bt680.2.2.toList))) = true then (if 2 < (t672.length : Int) then ((rational_Int.f k 20).bind fun bt684 => (some (((rd_T25 t672 2).f0) == bt684.1 && ((((rd_T25 t672 2).f1).toList) == bt684.2.1.toList && ((((rd_T25 t672 2).f2).toList) == bt684.2.2.toList))))) else (none)) else (some false))) else (none)) else (some false))) else (none)) else (some false))) = some r := by first | (rw [hy669]; with_reducible exact H) | (have H2_ := (Option.bind_some _ _).symm.trans H; rw [hy669]; with_reducible exact H2_) | (have H2_ := (Option.bind_some _ _).symm.trans H; with_reducible exact H2_) | with_reducible exact H | (rw [hy669]; exact H) | exact H
 have Ny669 := Aside0.mk hy669
 clear hy669
 replace H := xH H; obtain ⟨t672, A5, H⟩ := H
 by_cases c6 : (t672.length : Int) = 3
 ·rw [if_pos c6] at H
  have c6b0 : ((t672.length : Int) == 3) = true := beq_iff_eq.mpr c6
  have c6b1 : ((t672.length : Int) != 3) = false := bne_eq_false_iff_eq.mpr c6
  clear c6
  by_cases c7 : 0 < (t672.length : Int)
  rotate_left
  ·rw [if_neg c7] at H
   exact absurd H (by simp)
  rw [if_pos c7] at H
  have c7b0 : decide (0 < (t672.length : Int)) = true := decide_eq_true c7
  have c7b1 : decide (0 < t672.length) = true := decide_eq_true (by omega)
  clear c7
  replace H := xH H; obtain ⟨⟨t676, t677, t678⟩, A8, H⟩ := H
  dsimp only at H
  by_cases c9 : (((rd_T25 t672 0).f0) == t676 && ((((rd_T25 t672 0).f1).toList) == t677.toList && ((((rd_T25 t672 0).f2).toList) == t678.toList))) = true
  ·rw [if_pos c9] at H
   have c9b0 : (((rd_T25 t672 0).f0) == t676 && ((((rd_T25 t672 0).f1).toList) == t677.toList && ((((rd_T25 t672 0).f2).toList) == t678.toList))) = true := c9
   (try (have c9b1 : decide (((rd_T25 t672 0).f0) = t676 && ((((rd_T25 t672 0).f1).toList) == t677.toList && ((((rd_T25 t672 0).f2).toList) == t678.toList))) = true := by simpa using c9))
   (try (have c9b2 : (((rd_T25 t672 0).f0) == t676 && ((((rd_T25 t672 0).f1).toList) == t677.toList && ((((rd_T25 t672 0).f2).toList) == t678.toList))) = true := by simpa using c9))
   clear c9
   by_cases c10 : 1 < (t672.length : Int)
   rotate_left
   ·rw [if_neg c10] at H
    exact absurd H (by simp)
   rw [if_pos c10] at H
   have c10b0 : decide (1 < (t672.length : Int)) = true := decide_eq_true c10
   have c10b1 : decide (1 < t672.length) = true := decide_eq_true (by omega)
   clear c10
   replace H := xH H; obtain ⟨⟨t680, t681, t682⟩, A11, H⟩ := H
   dsimp only at H
   by_cases c12 : (((rd_T25 t672 1).f0) == t680 && ((((rd_T25 t672 1).f1).toList) == t681.toList && ((((rd_T25 t672 1).f2).toList) == t682.toList))) = true
   ·rw [if_pos c12] at H
    have c12b0 : (((rd_T25 t672 1).f0) == t680 && ((((rd_T25 t672 1).f1).toList) == t681.toList && ((((rd_T25 t672 1).f2).toList) == t682.toList))) = true := c12
    (try (have c12b1 : decide (((rd_T25 t672 1).f0) = t680 && ((((rd_T25 t672 1).f1).toList) == t681.toList && ((((rd_T25 t672 1).f2).toList) == t682.toList))) = true := by simpa using c12))
    (try (have c12b2 : (((rd_T25 t672 1).f0) == t680 && ((((rd_T25 t672 1).f1).toList) == t681.toList && ((((rd_T25 t672 1).f2).toList) == t682.toList))) = true := by simpa using c12))
    clear c12
    by_cases c13 : 2 < (t672.length : Int)
    rotate_left
    ·rw [if_neg c13] at H
     exact absurd H (by simp)
    rw [if_pos c13] at H
    have c13b0 : decide (2 < (t672.length : Int)) = true := decide_eq_true c13
    have c13b1 : decide (2 < t672.length) = true := decide_eq_true (by omega)
    clear c13
    replace H := xH H; obtain ⟨⟨t684, t685, t686⟩, A14, H⟩ := H
    dsimp only at H
    obtain rfl := Option.some.inj H
    go_enter Tryd.func14, Tryd.ntmps14
    try go_wp2_with (first | (refine xC Tryd.func39 (some 2) (rational_Int.calls k 100 t657 t658 t659 _ A1.out) ?_; rintro w15 hb; replace HB := xS HB hb; clear hb) | (refine xC Tryd.func39 (some 3) (rational_Int.calls k 70 t660 t661 t662 _ A2.out) ?_; rintro w16 hb; replace HB := xS HB hb; clear hb) | (refine xC Tryd.func39 (some 4) (rational_Int.calls k 50 t663 t664 t665 _ A3.out) ?_; rintro w17 hb; replace HB := xS HB hb; clear hb) | (refine xC Tryd.func39 (some 5) (rational_Int.calls k 20 t666 t667 t668 _ A4.out) ?_; rintro w18 hb; replace HB := xS HB hb; clear hb) | ((with_reducible refine gate_dst (N := 6) rfl ?_); refine Kd.R_lit k25 _ 25 ?hg (N := 6) ?hd (xs := ([(⟨t660, t661, t662⟩ : S25), (⟨t663, t664, t665⟩ : S25), (⟨t666, t667, t668⟩ : S25)] : List (S25))) (inner := [.bool t660, .string t661, .string t662, .bool t663, .string t664, .string t665, .bool t666, .string t667, .string t668]) (ok := fun _ => True) (okp := fun _ => True) ?hr ?hp (fun _ hk => hk) trivial (Below.refl _ _) (Nat.le_refl _) (by simp) ?_; (case hd => rfl); (case hg => rfl); (case hr => first | (go_simp; done) | (go_simp; rfl)); (case hp => exact (Reps.c3 (show Kd.M k25 _ _ _ (⟨t660, t661, t662⟩ : S25) [.bool t660, .string t661, .string t662] from (k25_mkM _ _ _ (⟨t660, t661, t662⟩ : S25) )) (Reps.c3 (show Kd.M k25 _ _ _ (⟨t663, t664, t665⟩ : S25) [.bool t663, .string t664, .string t665] from (k25_mkM _ _ _ (⟨t663, t664, t665⟩ : S25) )) (Reps.c3 (show Kd.M k25 _ _ _ (⟨t666, t667, t668⟩ : S25) [.bool t666, .string t667, .string t668] from (k25_mkM _ _ _ (⟨t666, t667, t668⟩ : S25) )) (Reps.none _ _))))); intro v670 w19 ho20 hb hg_ hnew_; clear hg_ hnew_; (first | rw [← Ny669.out] at ho20 | (simp only [Int.reduceToNat] at ho20; rw [← Ny669.out] at ho20)); have HO671 := Aside0.mk (Kd.R_lower ho20 (below_size (xs HB))); replace HB := xS HB hb; clear hb ho20; obtain ⟨Ao21, co21, eo21⟩ := Kd.R_slice HO671.out; subst eo21) | (refine xg Tryd.func12 (some 7) #[.agg #[.bool t657, .string t658, .string t659], .slice Ao21 y669.length co21] ?_; (with_reducible refine (guarantee_Refunds.calls k t657 t658 t659 _ _ y669 t672 _ ?side1 ?side2 A5.out).mono ?_); (case side1 => repeat (first | exact (Kd.R_reads' HO671.out).2.2 | (with_reducible refine Kd.C_alloc ?_ _) | (with_reducible refine Kd.C_drewN ?_ _) | (with_reducible refine Kd.C_drew ?_))); (case side2 => exact (Kd.R_reads' HO671.out).2.1); rintro e w22 ⟨v673, rfl, ho0, hb⟩; refine ⟨_, rfl, ?_⟩; have HO674 := Aside0.mk (Kd.R_lower (Kd.R_new' ho0 (Kd.R_lt (xr HO671.out))) (below_size (xs HB))); replace HO671 := Aside0.mk (Kd.R_elder' (xr HO671.out) (Kd.R_base ho0) hb); replace HB := xS HB hb; clear hb ho0))
    replace HO671 := Aside0.mk (Kd.R_drew HO671.out)
    replace HO674 := Aside0.mk (Kd.R_drew HO674.out)
    replace HB := xW HB
    obtain ⟨Ao24, co24, eo24⟩ := Kd.R_slice HO674.out
    (first | subst eo24 | (injection eo24 with f1_ f2_ f3_; have f4_ := f1_.symm; have f5_ := f3_.symm; clear f1_ f2_ f3_; subst f4_; subst f5_))
    have p675 : 0 ≤ (0 : Int) := (by omega)
    have q675 : 0 < (t672.length : Int) := xa
    obtain ⟨ad675, e675, hx675_0, hx675_1, hx675_2⟩ := at_T25 (Kd.R_reads' HO674.out).2.2 0 p675 q675
    cases e675
    have qi675 : (0 < t672.length) = True := eq_true (by omega)
    (try rw [show ((0 : Int)).toNat = 0 from rfl] at hx675_0)
    (try rw [show 0 * 3 = 0 from rfl] at hx675_0)
    (try rw [Addr.add_zero'] at hx675_0)
    (try rw [show ((0 : Int)).toNat = 0 from rfl] at hx675_1)
    (try rw [show 0 * 3 = 0 from rfl] at hx675_1)
    (try rw [Addr.add_zero'] at hx675_1)
    (try rw [show ((0 : Int)).toNat = 0 from rfl] at hx675_2)
    (try rw [show 0 * 3 = 0 from rfl] at hx675_2)
    (try rw [Addr.add_zero'] at hx675_2)
    replace p675 := eq_true p675
    replace q675 := eq_true q675
    have p679 : 0 ≤ (1 : Int) := (by omega)
    have q679 : 1 < (t672.length : Int) := xa
    obtain ⟨ad679, e679, hx679_0, hx679_1, hx679_2⟩ := at_T25 (Kd.R_reads' HO674.out).2.2 1 p679 q679
    obtain rfl : ad675 = ad679 := (by injection e679)
    (try simp only [show (1 : Int).toNat = 1 from rfl, Nat.reduceMul, Nat.reduceEqDiff, Go.Addr.add, ↓reduceIte] at hx679_0)
    (try simp only [show (1 : Int).toNat = 1 from rfl, Nat.reduceMul, Nat.reduceEqDiff, Go.Addr.add, ↓reduceIte] at hx679_1)
    (try simp only [show (1 : Int).toNat = 1 from rfl, Nat.reduceMul, Nat.reduceEqDiff, Go.Addr.add, ↓reduceIte] at hx679_2)
    have qi679 : (1 < t672.length) = True := eq_true (by omega)
    (try rw [show ((1 : Int)).toNat = 1 from rfl] at hx679_0)
    (try rw [show 1 * 3 = 3 from rfl] at hx679_0)
    (try rw [show ((1 : Int)).toNat = 1 from rfl] at hx679_1)
    (try rw [show 1 * 3 = 3 from rfl] at hx679_1)
    (try rw [show ((1 : Int)).toNat = 1 from rfl] at hx679_2)
    (try rw [show 1 * 3 = 3 from rfl] at hx679_2)
    replace p679 := eq_true p679
    replace q679 := eq_true q679
    have p683 : 0 ≤ (2 : Int) := (by omega)
    have q683 : 2 < (t672.length : Int) := xa
    obtain ⟨ad683, e683, hx683_0, hx683_1, hx683_2⟩ := at_T25 (Kd.R_reads' HO674.out).2.2 2 p683 q683
    obtain rfl : ad675 = ad683 := (by injection e683)
    (try simp only [show (2 : Int).toNat = 2 from rfl, Nat.reduceMul, Nat.reduceEqDiff, Go.Addr.add, ↓reduceIte] at hx683_0)
    (try simp only [show (2 : Int).toNat = 2 from rfl, Nat.reduceMul, Nat.reduceEqDiff, Go.Addr.add, ↓reduceIte] at hx683_1)
    (try simp only [show (2 : Int).toNat = 2 from rfl, Nat.reduceMul, Nat.reduceEqDiff, Go.Addr.add, ↓reduceIte] at hx683_2)
    have qi683 : (2 < t672.length) = True := eq_true (by omega)
    (try rw [show ((2 : Int)).toNat = 2 from rfl] at hx683_0)
    (try rw [show 2 * 3 = 6 from rfl] at hx683_0)
    (try rw [show ((2 : Int)).toNat = 2 from rfl] at hx683_1)
    (try rw [show 2 * 3 = 6 from rfl] at hx683_1)
    (try rw [show ((2 : Int)).toNat = 2 from rfl] at hx683_2)
    (try rw [show 2 * 3 = 6 from rfl] at hx683_2)
    replace p683 := eq_true p683
    replace q683 := eq_true q683
    refine start_ (n := 25) (S := fun w' => w'.cell? ad675 = some (.bool ((rd_T25 t672 0).f0)) ∧ w'.cell? ⟨ad675.block, ad675.off + 1, none⟩ = some (.string ((rd_T25 t672 0).f1)) ∧ w'.cell? ⟨ad675.block, ad675.off + 2, none⟩ = some (.string ((rd_T25 t672 0).f2)) ∧ w'.cell? ⟨ad675.block, ad675.off + 3, none⟩ = some (.bool ((rd_T25 t672 1).f0)) ∧ w'.cell? ⟨ad675.block, ad675.off + 3 + 1, none⟩ = some (.string ((rd_T25 t672 1).f1)) ∧ w'.cell? ⟨ad675.block, ad675.off + 3 + 2, none⟩ = some (.string ((rd_T25 t672 1).f2)) ∧ w'.cell? ⟨ad675.block, ad675.off + 6, none⟩ = some (.bool ((rd_T25 t672 2).f0)) ∧ w'.cell? ⟨ad675.block, ad675.off + 6 + 1, none⟩ = some (.string ((rd_T25 t672 2).f1)) ∧ w'.cell? ⟨ad675.block, ad675.off + 6 + 2, none⟩ = some (.string ((rd_T25 t672 2).f2))) (ds := []) #[false, false, false, false, false, false, false, false, false, false, false, false, false, false, false, false, false, false, false, false, false, false, false, false, false] (by kernel_rfl) rfl rfl ⟨hx675_0, hx675_1, hx675_2, hx679_0, hx679_1, hx679_2, hx683_0, hx683_1, hx683_2⟩ (fun hHeld => ?_); refine with_tabW insolvencylaw18_awake.tab2 insolvencylaw18_awake.bits2 (fun HT_ HW_ => ?_)
    generalize w22.drew = w23 at HO671 HO674 HB hx675_0 hx675_1 hx675_2 hx679_0 hx679_1 hx679_2 hx683_0 hx683_1 hx683_2 hHeld ⊢
    refine xP 0 (some 8) (b 25 1) rfl rfl ?_
    refine xP 1 (some 9) (b 25 3) rfl rfl ?_
    refine xP 2 (some 10) (b 25 7) rfl rfl ?_
    refine xP 3 (some 11) (b 25 15) rfl rfl ?_
    refine xP 4 (some 12) (b 25 31) rfl rfl ?_
    refine xP 5 (some 13) (b 25 63) rfl rfl ?_
    refine xT 6 (some 14) (b 25 127) rfl rfl hHeld ?_
    refine xO 7 (some 15) (b 25 255) rfl rfl fun K hK => ?_
    refine goes_ Tryd.func39 (by kernel_rfl) rfl #[.int .i64 0] (by rfl) rfl rfl (by (try simp only [List.map_toArray, List.map_cons, List.map_nil]); first | done | rfl | (simp only [List.length_drop, List.length_take]; rfl)) ?_
    with_reducible refine (rational_Int.calls k 0 t676 t677 t678 _ A8.out).mono ?_
    rintro e w25 ⟨rfl, hb⟩
    have HS0_ := (hb.cell (World.block_lt_of_cell? _ _ (hHeld.1))).trans (hHeld.1)
    have HS1_ := (hb.cell (World.block_lt_of_cell? _ _ (hHeld.2.1))).trans (hHeld.2.1)
    have HS2_ := (hb.cell (World.block_lt_of_cell? _ _ (hHeld.2.2.1))).trans (hHeld.2.2.1)
    have HS3_ := (hb.cell (World.block_lt_of_cell? _ _ (hHeld.2.2.2.1))).trans (hHeld.2.2.2.1)
    have HS4_ := (hb.cell (World.block_lt_of_cell? _ _ (hHeld.2.2.2.2.1))).trans (hHeld.2.2.2.2.1)
    have HS5_ := (hb.cell (World.block_lt_of_cell? _ _ (hHeld.2.2.2.2.2.1))).trans (hHeld.2.2.2.2.2.1)
    have HS6_ := (hb.cell (World.block_lt_of_cell? _ _ (hHeld.2.2.2.2.2.2.1))).trans (hHeld.2.2.2.2.2.2.1)
    have HS7_ := (hb.cell (World.block_lt_of_cell? _ _ (hHeld.2.2.2.2.2.2.2.1))).trans (hHeld.2.2.2.2.2.2.2.1)
    have HS8_ := (hb.cell (World.block_lt_of_cell? _ _ (hHeld.2.2.2.2.2.2.2.2))).trans (hHeld.2.2.2.2.2.2.2.2)
    refine ⟨_, rfl, ?_⟩
    replace HO671 := Aside0.mk (Kd.R_below (xr HO671.out) hb)
    replace HO674 := Aside0.mk (Kd.R_below (xr HO674.out) hb)
    replace HB := xS HB hb
    (try clear hb)
    (try clear hb2)
    (try clear hk)
    (try clear hi)
    refine hK.out _ _ ⟨HS0_, HS1_, HS2_, HS3_, HS4_, HS5_, HS6_, HS7_, HS8_⟩ (fun hHeld => ?_)
    clear hK K
    refine xN 15 ?_
    refine xP 8 (some 16) (b 25 511) rfl rfl ?_
    refine xP 9 (some 17) (b 25 1023) rfl rfl ?_
    refine xP 10 (some 18) (b 25 2047) rfl rfl ?_
    refine xP 11 (some 19) (b 25 4095) rfl rfl ?_
    refine xP 12 (some 20) (b 25 8191) rfl rfl ?_
    refine xT 13 (some 21) (b 25 16383) rfl rfl hHeld ?_
    refine xO 14 (some 22) (b 25 32767) rfl rfl fun K hK => ?_
    refine goes_ Tryd.func39 (by kernel_rfl) rfl #[.int .i64 20] (by rfl) rfl rfl (by (try simp only [List.map_toArray, List.map_cons, List.map_nil]); first | done | rfl | (simp only [List.length_drop, List.length_take]; rfl)) ?_
    with_reducible refine (rational_Int.calls k 20 t680 t681 t682 _ A11.out).mono ?_
    rintro e w26 ⟨rfl, hb⟩
    have HS0_ := (hb.cell (World.block_lt_of_cell? _ _ (hHeld.1))).trans (hHeld.1)
    have HS1_ := (hb.cell (World.block_lt_of_cell? _ _ (hHeld.2.1))).trans (hHeld.2.1)
    have HS2_ := (hb.cell (World.block_lt_of_cell? _ _ (hHeld.2.2.1))).trans (hHeld.2.2.1)
    have HS3_ := (hb.cell (World.block_lt_of_cell? _ _ (hHeld.2.2.2.1))).trans (hHeld.2.2.2.1)
    have HS4_ := (hb.cell (World.block_lt_of_cell? _ _ (hHeld.2.2.2.2.1))).trans (hHeld.2.2.2.2.1)
    have HS5_ := (hb.cell (World.block_lt_of_cell? _ _ (hHeld.2.2.2.2.2.1))).trans (hHeld.2.2.2.2.2.1)
    have HS6_ := (hb.cell (World.block_lt_of_cell? _ _ (hHeld.2.2.2.2.2.2.1))).trans (hHeld.2.2.2.2.2.2.1)
    have HS7_ := (hb.cell (World.block_lt_of_cell? _ _ (hHeld.2.2.2.2.2.2.2.1))).trans (hHeld.2.2.2.2.2.2.2.1)
    have HS8_ := (hb.cell (World.block_lt_of_cell? _ _ (hHeld.2.2.2.2.2.2.2.2))).trans (hHeld.2.2.2.2.2.2.2.2)
    refine ⟨_, rfl, ?_⟩
    replace HO671 := Aside0.mk (Kd.R_below (xr HO671.out) hb)
    replace HO674 := Aside0.mk (Kd.R_below (xr HO674.out) hb)
    replace HB := xS HB hb
    (try clear hb)
    (try clear hb2)
    (try clear hk)
    (try clear hi)
    refine hK.out _ _ ⟨HS0_, HS1_, HS2_, HS3_, HS4_, HS5_, HS6_, HS7_, HS8_⟩ (fun hHeld => ?_)
    clear hK K
    refine xN 22 ?_
    refine xP 15 (some 23) (b 25 65535) rfl rfl ?_
    refine xP 16 (some 24) (b 25 131071) rfl rfl ?_
    refine xP 17 (some 25) (b 25 262143) rfl rfl ?_
    refine xP 18 (some 26) (b 25 524287) rfl rfl ?_
    refine xP 19 (some 27) (b 25 1048575) rfl rfl ?_
    refine xT 20 (some 28) (b 25 2097151) rfl rfl hHeld ?_
    refine xO 21 (some 29) (b 25 4194303) rfl rfl fun K hK => ?_
    refine goes_ Tryd.func39 (by kernel_rfl) rfl #[.int .i64 20] (by rfl) rfl rfl (by (try simp only [List.map_toArray, List.map_cons, List.map_nil]); first | done | rfl | (simp only [List.length_drop, List.length_take]; rfl)) ?_
    with_reducible refine (rational_Int.calls k 20 t684 t685 t686 _ A14.out).mono ?_
    rintro e w27 ⟨rfl, hb⟩
    have HS0_ := (hb.cell (World.block_lt_of_cell? _ _ (hHeld.1))).trans (hHeld.1)
    have HS1_ := (hb.cell (World.block_lt_of_cell? _ _ (hHeld.2.1))).trans (hHeld.2.1)
    have HS2_ := (hb.cell (World.block_lt_of_cell? _ _ (hHeld.2.2.1))).trans (hHeld.2.2.1)
    have HS3_ := (hb.cell (World.block_lt_of_cell? _ _ (hHeld.2.2.2.1))).trans (hHeld.2.2.2.1)
    have HS4_ := (hb.cell (World.block_lt_of_cell? _ _ (hHeld.2.2.2.2.1))).trans (hHeld.2.2.2.2.1)
    have HS5_ := (hb.cell (World.block_lt_of_cell? _ _ (hHeld.2.2.2.2.2.1))).trans (hHeld.2.2.2.2.2.1)
    have HS6_ := (hb.cell (World.block_lt_of_cell? _ _ (hHeld.2.2.2.2.2.2.1))).trans (hHeld.2.2.2.2.2.2.1)
    have HS7_ := (hb.cell (World.block_lt_of_cell? _ _ (hHeld.2.2.2.2.2.2.2.1))).trans (hHeld.2.2.2.2.2.2.2.1)
    have HS8_ := (hb.cell (World.block_lt_of_cell? _ _ (hHeld.2.2.2.2.2.2.2.2))).trans (hHeld.2.2.2.2.2.2.2.2)
    refine ⟨_, rfl, ?_⟩
    replace HO671 := Aside0.mk (Kd.R_below (xr HO671.out) hb)
    replace HO674 := Aside0.mk (Kd.R_below (xr HO674.out) hb)
    replace HB := xS HB hb
    (try clear hb)
    (try clear hb2)
    (try clear hk)
    (try clear hi)
    refine hK.out _ _ ⟨HS0_, HS1_, HS2_, HS3_, HS4_, HS5_, HS6_, HS7_, HS8_⟩ (fun hHeld => ?_)
    clear hK K
    refine xN 29 ?_
    refine xP 22 (some 30) (b 25 8388607) rfl rfl ?_
    refine xP 23 (some 31) (b 25 16777215) rfl rfl ?_
    refine xP 24 (some 0) (b 25 33554431) rfl rfl ?_
    refine done_ (done_of HT_.out (by kernel_rfl)) ?_
    try go_wp2
    go_ret
    exact ⟨xy, xs HB⟩
   ·rw [if_neg c12] at H
    have c12b0 : (((rd_T25 t672 1).f0) == t680 && ((((rd_T25 t672 1).f1).toList) == t681.toList && ((((rd_T25 t672 1).f2).toList) == t682.toList))) = false := by simpa using c12
    (try (have c12b1 : decide (((rd_T25 t672 1).f0) = t680 && ((((rd_T25 t672 1).f1).toList) == t681.toList && ((((rd_T25 t672 1).f2).toList) == t682.toList))) = false := by simpa using c12))
    (try (have c12b2 : (((rd_T25 t672 1).f0) == t680 && ((((rd_T25 t672 1).f1).toList) == t681.toList && ((((rd_T25 t672 1).f2).toList) == t682.toList))) = false := by simpa using c12))
    (try (have c12b3 : ¬ (((rd_T25 t672 1).f0) = t680 && ((((rd_T25 t672 1).f1).toList) == t681.toList && ((((rd_T25 t672 1).f2).toList) == t682.toList))) := by simpa using c12))
    clear c12
    obtain rfl := Option.some.inj H
    go_enter Tryd.func14, Tryd.ntmps14
    try go_wp2_with (first | (refine xC Tryd.func39 (some 2) (rational_Int.calls k 100 t657 t658 t659 _ A1.out) ?_; rintro w28 hb; replace HB := xS HB hb; clear hb) | (refine xC Tryd.func39 (some 3) (rational_Int.calls k 70 t660 t661 t662 _ A2.out) ?_; rintro w29 hb; replace HB := xS HB hb; clear hb) | (refine xC Tryd.func39 (some 4) (rational_Int.calls k 50 t663 t664 t665 _ A3.out) ?_; rintro w30 hb; replace HB := xS HB hb; clear hb) | (refine xC Tryd.func39 (some 5) (rational_Int.calls k 20 t666 t667 t668 _ A4.out) ?_; rintro w31 hb; replace HB := xS HB hb; clear hb) | ((with_reducible refine gate_dst (N := 6) rfl ?_); refine Kd.R_lit k25 _ 25 ?hg (N := 6) ?hd (xs := ([(⟨t660, t661, t662⟩ : S25), (⟨t663, t664, t665⟩ : S25), (⟨t666, t667, t668⟩ : S25)] : List (S25))) (inner := [.bool t660, .string t661, .string t662, .bool t663, .string t664, .string t665, .bool t666, .string t667, .string t668]) (ok := fun _ => True) (okp := fun _ => True) ?hr ?hp (fun _ hk => hk) trivial (Below.refl _ _) (Nat.le_refl _) (by simp) ?_; (case hd => rfl); (case hg => rfl); (case hr => first | (go_simp; done) | (go_simp; rfl)); (case hp => exact (Reps.c3 (show Kd.M k25 _ _ _ (⟨t660, t661, t662⟩ : S25) [.bool t660, .string t661, .string t662] from (k25_mkM _ _ _ (⟨t660, t661, t662⟩ : S25) )) (Reps.c3 (show Kd.M k25 _ _ _ (⟨t663, t664, t665⟩ : S25) [.bool t663, .string t664, .string t665] from (k25_mkM _ _ _ (⟨t663, t664, t665⟩ : S25) )) (Reps.c3 (show Kd.M k25 _ _ _ (⟨t666, t667, t668⟩ : S25) [.bool t666, .string t667, .string t668] from (k25_mkM _ _ _ (⟨t666, t667, t668⟩ : S25) )) (Reps.none _ _))))); intro v670 w32 ho33 hb hg_ hnew_; clear hg_ hnew_; (first | rw [← Ny669.out] at ho33 | (simp only [Int.reduceToNat] at ho33; rw [← Ny669.out] at ho33)); have HO671 := Aside0.mk (Kd.R_lower ho33 (below_size (xs HB))); replace HB := xS HB hb; clear hb ho33; obtain ⟨Ao34, co34, eo34⟩ := Kd.R_slice HO671.out; subst eo34) | (refine xg Tryd.func12 (some 7) #[.agg #[.bool t657, .string t658, .string t659], .slice Ao34 y669.length co34] ?_; (with_reducible refine (guarantee_Refunds.calls k t657 t658 t659 _ _ y669 t672 _ ?side1 ?side2 A5.out).mono ?_); (case side1 => repeat (first | exact (Kd.R_reads' HO671.out).2.2 | (with_reducible refine Kd.C_alloc ?_ _) | (with_reducible refine Kd.C_drewN ?_ _) | (with_reducible refine Kd.C_drew ?_))); (case side2 => exact (Kd.R_reads' HO671.out).2.1); rintro e w35 ⟨v673, rfl, ho0, hb⟩; refine ⟨_, rfl, ?_⟩; have HO674 := Aside0.mk (Kd.R_lower (Kd.R_new' ho0 (Kd.R_lt (xr HO671.out))) (below_size (xs HB))); replace HO671 := Aside0.mk (Kd.R_elder' (xr HO671.out) (Kd.R_base ho0) hb); replace HB := xS HB hb; clear hb ho0))
    replace HO671 := Aside0.mk (Kd.R_drew HO671.out)
    replace HO674 := Aside0.mk (Kd.R_drew HO674.out)
    replace HB := xW HB
    obtain ⟨Ao37, co37, eo37⟩ := Kd.R_slice HO674.out
    (first | subst eo37 | (injection eo37 with f1_ f2_ f3_; have f4_ := f1_.symm; have f5_ := f3_.symm; clear f1_ f2_ f3_; subst f4_; subst f5_))
    have p675 : 0 ≤ (0 : Int) := (by omega)
    have q675 : 0 < (t672.length : Int) := xa
    obtain ⟨ad675, e675, hx675_0, hx675_1, hx675_2⟩ := at_T25 (Kd.R_reads' HO674.out).2.2 0 p675 q675
    cases e675
    have qi675 : (0 < t672.length) = True := eq_true (by omega)
    (try rw [show ((0 : Int)).toNat = 0 from rfl] at hx675_0)
    (try rw [show 0 * 3 = 0 from rfl] at hx675_0)
    (try rw [Addr.add_zero'] at hx675_0)
    (try rw [show ((0 : Int)).toNat = 0 from rfl] at hx675_1)
    (try rw [show 0 * 3 = 0 from rfl] at hx675_1)
    (try rw [Addr.add_zero'] at hx675_1)
    (try rw [show ((0 : Int)).toNat = 0 from rfl] at hx675_2)
    (try rw [show 0 * 3 = 0 from rfl] at hx675_2)
    (try rw [Addr.add_zero'] at hx675_2)
    replace p675 := eq_true p675
    replace q675 := eq_true q675
    have p679 : 0 ≤ (1 : Int) := (by omega)
    have q679 : 1 < (t672.length : Int) := xa
    obtain ⟨ad679, e679, hx679_0, hx679_1, hx679_2⟩ := at_T25 (Kd.R_reads' HO674.out).2.2 1 p679 q679
    obtain rfl : ad675 = ad679 := (by injection e679)
    (try simp only [show (1 : Int).toNat = 1 from rfl, Nat.reduceMul, Nat.reduceEqDiff, Go.Addr.add, ↓reduceIte] at hx679_0)
    (try simp only [show (1 : Int).toNat = 1 from rfl, Nat.reduceMul, Nat.reduceEqDiff, Go.Addr.add, ↓reduceIte] at hx679_1)
    (try simp only [show (1 : Int).toNat = 1 from rfl, Nat.reduceMul, Nat.reduceEqDiff, Go.Addr.add, ↓reduceIte] at hx679_2)
    have qi679 : (1 < t672.length) = True := eq_true (by omega)
    (try rw [show ((1 : Int)).toNat = 1 from rfl] at hx679_0)
    (try rw [show 1 * 3 = 3 from rfl] at hx679_0)
    (try rw [show ((1 : Int)).toNat = 1 from rfl] at hx679_1)
    (try rw [show 1 * 3 = 3 from rfl] at hx679_1)
    (try rw [show ((1 : Int)).toNat = 1 from rfl] at hx679_2)
    (try rw [show 1 * 3 = 3 from rfl] at hx679_2)
    replace p679 := eq_true p679
    replace q679 := eq_true q679
    refine start_ (n := 25) (S := fun w' => w'.cell? ad675 = some (.bool ((rd_T25 t672 0).f0)) ∧ w'.cell? ⟨ad675.block, ad675.off + 1, none⟩ = some (.string ((rd_T25 t672 0).f1)) ∧ w'.cell? ⟨ad675.block, ad675.off + 2, none⟩ = some (.string ((rd_T25 t672 0).f2)) ∧ w'.cell? ⟨ad675.block, ad675.off + 3, none⟩ = some (.bool ((rd_T25 t672 1).f0)) ∧ w'.cell? ⟨ad675.block, ad675.off + 3 + 1, none⟩ = some (.string ((rd_T25 t672 1).f1)) ∧ w'.cell? ⟨ad675.block, ad675.off + 3 + 2, none⟩ = some (.string ((rd_T25 t672 1).f2))) (ds := []) #[false, false, false, false, false, false, false, false, false, false, false, false, false, false, false, false, false, false, false, false, false, false, false, false, false] (by kernel_rfl) rfl rfl ⟨hx675_0, hx675_1, hx675_2, hx679_0, hx679_1, hx679_2⟩ (fun hHeld => ?_); refine with_tabW insolvencylaw18_awake.tab2 insolvencylaw18_awake.bits2 (fun HT_ HW_ => ?_)
    generalize w35.drew = w36 at HO671 HO674 HB hx675_0 hx675_1 hx675_2 hx679_0 hx679_1 hx679_2 hHeld ⊢
    refine xP 0 (some 8) (b 25 1) rfl rfl ?_
    refine xP 1 (some 9) (b 25 3) rfl rfl ?_
    refine xP 2 (some 10) (b 25 7) rfl rfl ?_
    refine xP 3 (some 11) (b 25 15) rfl rfl ?_
    refine xP 4 (some 12) (b 25 31) rfl rfl ?_
    refine xP 5 (some 13) (b 25 63) rfl rfl ?_
    refine xT 6 (some 14) (b 25 127) rfl rfl hHeld ?_
    refine xO 7 (some 15) (b 25 255) rfl rfl fun K hK => ?_
    refine goes_ Tryd.func39 (by kernel_rfl) rfl #[.int .i64 0] (by rfl) rfl rfl (by (try simp only [List.map_toArray, List.map_cons, List.map_nil]); first | done | rfl | (simp only [List.length_drop, List.length_take]; rfl)) ?_
    with_reducible refine (rational_Int.calls k 0 t676 t677 t678 _ A8.out).mono ?_
    rintro e w38 ⟨rfl, hb⟩
    have HS0_ := (hb.cell (World.block_lt_of_cell? _ _ (hHeld.1))).trans (hHeld.1)
    have HS1_ := (hb.cell (World.block_lt_of_cell? _ _ (hHeld.2.1))).trans (hHeld.2.1)
    have HS2_ := (hb.cell (World.block_lt_of_cell? _ _ (hHeld.2.2.1))).trans (hHeld.2.2.1)
    have HS3_ := (hb.cell (World.block_lt_of_cell? _ _ (hHeld.2.2.2.1))).trans (hHeld.2.2.2.1)
    have HS4_ := (hb.cell (World.block_lt_of_cell? _ _ (hHeld.2.2.2.2.1))).trans (hHeld.2.2.2.2.1)
    have HS5_ := (hb.cell (World.block_lt_of_cell? _ _ (hHeld.2.2.2.2.2))).trans (hHeld.2.2.2.2.2)
    refine ⟨_, rfl, ?_⟩
    replace HO671 := Aside0.mk (Kd.R_below (xr HO671.out) hb)
    replace HO674 := Aside0.mk (Kd.R_below (xr HO674.out) hb)
    replace HB := xS HB hb
    (try clear hb)
    (try clear hb2)
    (try clear hk)
    (try clear hi)
    refine hK.out _ _ ⟨HS0_, HS1_, HS2_, HS3_, HS4_, HS5_⟩ (fun hHeld => ?_)
    clear hK K
    refine xN 15 ?_
    refine xP 8 (some 16) (b 25 511) rfl rfl ?_
    refine xP 9 (some 17) (b 25 1023) rfl rfl ?_
    refine xP 10 (some 18) (b 25 2047) rfl rfl ?_
    refine xP 11 (some 19) (b 25 4095) rfl rfl ?_
    refine xP 12 (some 20) (b 25 8191) rfl rfl ?_
    refine xT 13 (some 21) (b 25 16383) rfl rfl hHeld ?_
    refine xO 14 (some 22) (b 25 32767) rfl rfl fun K hK => ?_
    refine goes_ Tryd.func39 (by kernel_rfl) rfl #[.int .i64 20] (by rfl) rfl rfl (by (try simp only [List.map_toArray, List.map_cons, List.map_nil]); first | done | rfl | (simp only [List.length_drop, List.length_take]; rfl)) ?_
    with_reducible refine (rational_Int.calls k 20 t680 t681 t682 _ A11.out).mono ?_
    rintro e w39 ⟨rfl, hb⟩
    have HS0_ := (hb.cell (World.block_lt_of_cell? _ _ (hHeld.1))).trans (hHeld.1)
    have HS1_ := (hb.cell (World.block_lt_of_cell? _ _ (hHeld.2.1))).trans (hHeld.2.1)
    have HS2_ := (hb.cell (World.block_lt_of_cell? _ _ (hHeld.2.2.1))).trans (hHeld.2.2.1)
    have HS3_ := (hb.cell (World.block_lt_of_cell? _ _ (hHeld.2.2.2.1))).trans (hHeld.2.2.2.1)
    have HS4_ := (hb.cell (World.block_lt_of_cell? _ _ (hHeld.2.2.2.2.1))).trans (hHeld.2.2.2.2.1)
    have HS5_ := (hb.cell (World.block_lt_of_cell? _ _ (hHeld.2.2.2.2.2))).trans (hHeld.2.2.2.2.2)
    refine ⟨_, rfl, ?_⟩
    replace HO671 := Aside0.mk (Kd.R_below (xr HO671.out) hb)
    replace HO674 := Aside0.mk (Kd.R_below (xr HO674.out) hb)
    replace HB := xS HB hb
    (try clear hb)
    (try clear hb2)
    (try clear hk)
    (try clear hi)
    refine hK.out _ _ ⟨HS0_, HS1_, HS2_, HS3_, HS4_, HS5_⟩ (fun hHeld => ?_)
    clear hK K
    refine xN 22 ?_
    refine xP 15 (some 23) (b 25 65535) rfl rfl ?_
    refine xP 16 (some 24) (b 25 131071) rfl rfl ?_
    refine xP 17 (some 25) (b 25 262143) rfl rfl ?_
    refine xU 18 (some 26) (b 25 524287) rfl rfl ?_
    refine xU 19 (some 27) (b 25 1048575) rfl rfl ?_
    refine xU 20 (some 28) (b 25 2097151) rfl rfl ?_
    refine xU 21 (some 29) (b 25 4194303) rfl rfl ?_
    refine xU 22 (some 30) (b 25 8388607) rfl rfl ?_
    refine xP 23 (some 31) (b 25 16777215) rfl rfl ?_
    refine xP 24 (some 0) (b 25 33554431) rfl rfl ?_
    refine done_ (done_of HT_.out (by kernel_rfl)) ?_
    try go_wp2
    go_ret
    exact ⟨xy, xs HB⟩
  ·rw [if_neg c9] at H
   have c9b0 : (((rd_T25 t672 0).f0) == t676 && ((((rd_T25 t672 0).f1).toList) == t677.toList && ((((rd_T25 t672 0).f2).toList) == t678.toList))) = false := by simpa using c9
   (try (have c9b1 : decide (((rd_T25 t672 0).f0) = t676 && ((((rd_T25 t672 0).f1).toList) == t677.toList && ((((rd_T25 t672 0).f2).toList) == t678.toList))) = false := by simpa using c9))
   (try (have c9b2 : (((rd_T25 t672 0).f0) == t676 && ((((rd_T25 t672 0).f1).toList) == t677.toList && ((((rd_T25 t672 0).f2).toList) == t678.toList))) = false := by simpa using c9))
   (try (have c9b3 : ¬ (((rd_T25 t672 0).f0) = t676 && ((((rd_T25 t672 0).f1).toList) == t677.toList && ((((rd_T25 t672 0).f2).toList) == t678.toList))) := by simpa using c9))
   clear c9
   obtain rfl := Option.some.inj H
   go_enter Tryd.func14, Tryd.ntmps14
   try go_wp2_with (first | (refine xC Tryd.func39 (some 2) (rational_Int.calls k 100 t657 t658 t659 _ A1.out) ?_; rintro w40 hb; replace HB := xS HB hb; clear hb) | (refine xC Tryd.func39 (some 3) (rational_Int.calls k 70 t660 t661 t662 _ A2.out) ?_; rintro w41 hb; replace HB := xS HB hb; clear hb) | (refine xC Tryd.func39 (some 4) (rational_Int.calls k 50 t663 t664 t665 _ A3.out) ?_; rintro w42 hb; replace HB := xS HB hb; clear hb) | (refine xC Tryd.func39 (some 5) (rational_Int.calls k 20 t666 t667 t668 _ A4.out) ?_; rintro w43 hb; replace HB := xS HB hb; clear hb) | ((with_reducible refine gate_dst (N := 6) rfl ?_); refine Kd.R_lit k25 _ 25 ?hg (N := 6) ?hd (xs := ([(⟨t660, t661, t662⟩ : S25), (⟨t663, t664, t665⟩ : S25), (⟨t666, t667, t668⟩ : S25)] : List (S25))) (inner := [.bool t660, .string t661, .string t662, .bool t663, .string t664, .string t665, .bool t666, .string t667, .string t668]) (ok := fun _ => True) (okp := fun _ => True) ?hr ?hp (fun _ hk => hk) trivial (Below.refl _ _) (Nat.le_refl _) (by simp) ?_; (case hd => rfl); (case hg => rfl); (case hr => first | (go_simp; done) | (go_simp; rfl)); (case hp => exact (Reps.c3 (show Kd.M k25 _ _ _ (⟨t660, t661, t662⟩ : S25) [.bool t660, .string t661, .string t662] from (k25_mkM _ _ _ (⟨t660, t661, t662⟩ : S25) )) (Reps.c3 (show Kd.M k25 _ _ _ (⟨t663, t664, t665⟩ : S25) [.bool t663, .string t664, .string t665] from (k25_mkM _ _ _ (⟨t663, t664, t665⟩ : S25) )) (Reps.c3 (show Kd.M k25 _ _ _ (⟨t666, t667, t668⟩ : S25) [.bool t666, .string t667, .string t668] from (k25_mkM _ _ _ (⟨t666, t667, t668⟩ : S25) )) (Reps.none _ _))))); intro v670 w44 ho45 hb hg_ hnew_; clear hg_ hnew_; (first | rw [← Ny669.out] at ho45 | (simp only [Int.reduceToNat] at ho45; rw [← Ny669.out] at ho45)); have HO671 := Aside0.mk (Kd.R_lower ho45 (below_size (xs HB))); replace HB := xS HB hb; clear hb ho45; obtain ⟨Ao46, co46, eo46⟩ := Kd.R_slice HO671.out; subst eo46) | (refine xg Tryd.func12 (some 7) #[.agg #[.bool t657, .string t658, .string t659], .slice Ao46 y669.length co46] ?_; (with_reducible refine (guarantee_Refunds.calls k t657 t658 t659 _ _ y669 t672 _ ?side1 ?side2 A5.out).mono ?_); (case side1 => repeat (first | exact (Kd.R_reads' HO671.out).2.2 | (with_reducible refine Kd.C_alloc ?_ _) | (with_reducible refine Kd.C_drewN ?_ _) | (with_reducible refine Kd.C_drew ?_))); (case side2 => exact (Kd.R_reads' HO671.out).2.1); rintro e w47 ⟨v673, rfl, ho0, hb⟩; refine ⟨_, rfl, ?_⟩; have HO674 := Aside0.mk (Kd.R_lower (Kd.R_new' ho0 (Kd.R_lt (xr HO671.out))) (below_size (xs HB))); replace HO671 := Aside0.mk (Kd.R_elder' (xr HO671.out) (Kd.R_base ho0) hb); replace HB := xS HB hb; clear hb ho0))
   replace HO671 := Aside0.mk (Kd.R_drew HO671.out)
   replace HO674 := Aside0.mk (Kd.R_drew HO674.out)
   replace HB := xW HB
   obtain ⟨Ao49, co49, eo49⟩ := Kd.R_slice HO674.out
   (first | subst eo49 | (injection eo49 with f1_ f2_ f3_; have f4_ := f1_.symm; have f5_ := f3_.symm; clear f1_ f2_ f3_; subst f4_; subst f5_))
   have p675 : 0 ≤ (0 : Int) := (by omega)
   have q675 : 0 < (t672.length : Int) := xa
   obtain ⟨ad675, e675, hx675_0, hx675_1, hx675_2⟩ := at_T25 (Kd.R_reads' HO674.out).2.2 0 p675 q675
   cases e675
   have qi675 : (0 < t672.length) = True := eq_true (by omega)
   (try rw [show ((0 : Int)).toNat = 0 from rfl] at hx675_0)
   (try rw [show 0 * 3 = 0 from rfl] at hx675_0)
   (try rw [Addr.add_zero'] at hx675_0)
   (try rw [show ((0 : Int)).toNat = 0 from rfl] at hx675_1)
   (try rw [show 0 * 3 = 0 from rfl] at hx675_1)
   (try rw [Addr.add_zero'] at hx675_1)
   (try rw [show ((0 : Int)).toNat = 0 from rfl] at hx675_2)
   (try rw [show 0 * 3 = 0 from rfl] at hx675_2)
   (try rw [Addr.add_zero'] at hx675_2)
   replace p675 := eq_true p675
   replace q675 := eq_true q675
   refine start_ (n := 25) (S := fun w' => w'.cell? ad675 = some (.bool ((rd_T25 t672 0).f0)) ∧ w'.cell? ⟨ad675.block, ad675.off + 1, none⟩ = some (.string ((rd_T25 t672 0).f1)) ∧ w'.cell? ⟨ad675.block, ad675.off + 2, none⟩ = some (.string ((rd_T25 t672 0).f2))) (ds := []) #[false, false, false, false, false, false, false, false, false, false, false, false, false, false, false, false, false, false, false, false, false, false, false, false, false] (by kernel_rfl) rfl rfl ⟨hx675_0, hx675_1, hx675_2⟩ (fun hHeld => ?_); refine with_tabW insolvencylaw18_awake.tab2 insolvencylaw18_awake.bits2 (fun HT_ HW_ => ?_)
   generalize w47.drew = w48 at HO671 HO674 HB hx675_0 hx675_1 hx675_2 hHeld ⊢
   refine xP 0 (some 8) (b 25 1) rfl rfl ?_
   refine xP 1 (some 9) (b 25 3) rfl rfl ?_
   refine xP 2 (some 10) (b 25 7) rfl rfl ?_
   refine xP 3 (some 11) (b 25 15) rfl rfl ?_
   refine xP 4 (some 12) (b 25 31) rfl rfl ?_
   refine xP 5 (some 13) (b 25 63) rfl rfl ?_
   refine xT 6 (some 14) (b 25 127) rfl rfl hHeld ?_
   refine xO 7 (some 15) (b 25 255) rfl rfl fun K hK => ?_
   refine goes_ Tryd.func39 (by kernel_rfl) rfl #[.int .i64 0] (by rfl) rfl rfl (by (try simp only [List.map_toArray, List.map_cons, List.map_nil]); first | done | rfl | (simp only [List.length_drop, List.length_take]; rfl)) ?_
   with_reducible refine (rational_Int.calls k 0 t676 t677 t678 _ A8.out).mono ?_
   rintro e w50 ⟨rfl, hb⟩
   have HS0_ := (hb.cell (World.block_lt_of_cell? _ _ (hHeld.1))).trans (hHeld.1)
   have HS1_ := (hb.cell (World.block_lt_of_cell? _ _ (hHeld.2.1))).trans (hHeld.2.1)
   have HS2_ := (hb.cell (World.block_lt_of_cell? _ _ (hHeld.2.2))).trans (hHeld.2.2)
   refine ⟨_, rfl, ?_⟩
   replace HO671 := Aside0.mk (Kd.R_below (xr HO671.out) hb)
   replace HO674 := Aside0.mk (Kd.R_below (xr HO674.out) hb)
   replace HB := xS HB hb
   (try clear hb)
   (try clear hb2)
   (try clear hk)
   (try clear hi)
   refine hK.out _ _ ⟨HS0_, HS1_, HS2_⟩ (fun hHeld => ?_)
   clear hK K
   refine xN 15 ?_
   refine xP 8 (some 16) (b 25 511) rfl rfl ?_
   refine xP 9 (some 17) (b 25 1023) rfl rfl ?_
   refine xP 10 (some 18) (b 25 2047) rfl rfl ?_
   refine xU 11 (some 19) (b 25 4095) rfl rfl ?_
   refine xU 12 (some 20) (b 25 8191) rfl rfl ?_
   refine xU 13 (some 21) (b 25 16383) rfl rfl ?_
   refine xU 14 (some 22) (b 25 32767) rfl rfl ?_
   refine xU 15 (some 23) (b 25 65535) rfl rfl ?_
   refine xP 16 (some 24) (b 25 131071) rfl rfl ?_
   refine xP 17 (some 25) (b 25 262143) rfl rfl ?_
   refine xU 18 (some 26) (b 25 524287) rfl rfl ?_
   refine xU 19 (some 27) (b 25 1048575) rfl rfl ?_
   refine xU 20 (some 28) (b 25 2097151) rfl rfl ?_
   refine xU 21 (some 29) (b 25 4194303) rfl rfl ?_
   refine xU 22 (some 30) (b 25 8388607) rfl rfl ?_
   refine xP 23 (some 31) (b 25 16777215) rfl rfl ?_
   refine xP 24 (some 0) (b 25 33554431) rfl rfl ?_
   refine done_ (done_of HT_.out (by kernel_rfl)) ?_
   try go_wp2
   go_ret
   exact ⟨xy, xs HB⟩
 ·rw [if_neg c6] at H
  have c6b0 : ((t672.length : Int) == 3) = false := beq_eq_false_iff_ne.mpr c6
  have c6b1 : ((t672.length : Int) != 3) = true := bne_iff_ne.mpr c6
  obtain rfl := Option.some.inj H
  go_enter Tryd.func14, Tryd.ntmps14
  try go_wp2_with (first | (refine xC Tryd.func39 (some 2) (rational_Int.calls k 100 t657 t658 t659 _ A1.out) ?_; rintro w51 hb; replace HB := xS HB hb; clear hb) | (refine xC Tryd.func39 (some 3) (rational_Int.calls k 70 t660 t661 t662 _ A2.out) ?_; rintro w52 hb; replace HB := xS HB hb; clear hb) | (refine xC Tryd.func39 (some 4) (rational_Int.calls k 50 t663 t664 t665 _ A3.out) ?_; rintro w53 hb; replace HB := xS HB hb; clear hb) | (refine xC Tryd.func39 (some 5) (rational_Int.calls k 20 t666 t667 t668 _ A4.out) ?_; rintro w54 hb; replace HB := xS HB hb; clear hb) | ((with_reducible refine gate_dst (N := 6) rfl ?_); refine Kd.R_lit k25 _ 25 ?hg (N := 6) ?hd (xs := ([(⟨t660, t661, t662⟩ : S25), (⟨t663, t664, t665⟩ : S25), (⟨t666, t667, t668⟩ : S25)] : List (S25))) (inner := [.bool t660, .string t661, .string t662, .bool t663, .string t664, .string t665, .bool t666, .string t667, .string t668]) (ok := fun _ => True) (okp := fun _ => True) ?hr ?hp (fun _ hk => hk) trivial (Below.refl _ _) (Nat.le_refl _) (by simp) ?_; (case hd => rfl); (case hg => rfl); (case hr => first | (go_simp; done) | (go_simp; rfl)); (case hp => exact (Reps.c3 (show Kd.M k25 _ _ _ (⟨t660, t661, t662⟩ : S25) [.bool t660, .string t661, .string t662] from (k25_mkM _ _ _ (⟨t660, t661, t662⟩ : S25) )) (Reps.c3 (show Kd.M k25 _ _ _ (⟨t663, t664, t665⟩ : S25) [.bool t663, .string t664, .string t665] from (k25_mkM _ _ _ (⟨t663, t664, t665⟩ : S25) )) (Reps.c3 (show Kd.M k25 _ _ _ (⟨t666, t667, t668⟩ : S25) [.bool t666, .string t667, .string t668] from (k25_mkM _ _ _ (⟨t666, t667, t668⟩ : S25) )) (Reps.none _ _))))); intro v670 w55 ho56 hb hg_ hnew_; clear hg_ hnew_; (first | rw [← Ny669.out] at ho56 | (simp only [Int.reduceToNat] at ho56; rw [← Ny669.out] at ho56)); have HO671 := Aside0.mk (Kd.R_lower ho56 (below_size (xs HB))); replace HB := xS HB hb; clear hb ho56; obtain ⟨Ao57, co57, eo57⟩ := Kd.R_slice HO671.out; subst eo57) | (refine xg Tryd.func12 (some 7) #[.agg #[.bool t657, .string t658, .string t659], .slice Ao57 y669.length co57] ?_; (with_reducible refine (guarantee_Refunds.calls k t657 t658 t659 _ _ y669 t672 _ ?side1 ?side2 A5.out).mono ?_); (case side1 => repeat (first | exact (Kd.R_reads' HO671.out).2.2 | (with_reducible refine Kd.C_alloc ?_ _) | (with_reducible refine Kd.C_drewN ?_ _) | (with_reducible refine Kd.C_drew ?_))); (case side2 => exact (Kd.R_reads' HO671.out).2.1); rintro e w58 ⟨v673, rfl, ho0, hb⟩; refine ⟨_, rfl, ?_⟩; have HO674 := Aside0.mk (Kd.R_lower (Kd.R_new' ho0 (Kd.R_lt (xr HO671.out))) (below_size (xs HB))); replace HO671 := Aside0.mk (Kd.R_elder' (xr HO671.out) (Kd.R_base ho0) hb); replace HB := xS HB hb; clear hb ho0))
  replace HO671 := Aside0.mk (Kd.R_drew HO671.out)
  replace HO674 := Aside0.mk (Kd.R_drew HO674.out)
  replace HB := xW HB
  obtain ⟨Ao60, co60, eo60⟩ := Kd.R_slice HO674.out
  (first | subst eo60 | (injection eo60 with f1_ f2_ f3_; have f4_ := f1_.symm; have f5_ := f3_.symm; clear f1_ f2_ f3_; subst f4_; subst f5_))
  refine start_ (n := 25) (S := fun w' => True) (ds := []) #[false, false, false, false, false, false, false, false, false, false, false, false, false, false, false, false, false, false, false, false, false, false, false, false, false] (by kernel_rfl) rfl rfl trivial (fun hHeld => ?_); refine with_tabW insolvencylaw18_awake.tab2 insolvencylaw18_awake.bits2 (fun HT_ HW_ => ?_)
  generalize w58.drew = w59 at HO671 HO674 HB hHeld ⊢
  refine xP 0 (some 8) (b 25 1) rfl rfl ?_
  refine xP 1 (some 9) (b 25 3) rfl rfl ?_
  refine xP 2 (some 10) (b 25 7) rfl rfl ?_
  refine xP 3 (some 11) (b 25 15) rfl rfl ?_
  refine xU 4 (some 12) (b 25 31) rfl rfl ?_
  refine xU 5 (some 13) (b 25 63) rfl rfl ?_
  refine xU 6 (some 14) (b 25 127) rfl rfl ?_
  refine xU 7 (some 15) (b 25 255) rfl rfl ?_
  refine xU 8 (some 16) (b 25 511) rfl rfl ?_
  refine xP 9 (some 17) (b 25 1023) rfl rfl ?_
  refine xP 10 (some 18) (b 25 2047) rfl rfl ?_
  refine xU 11 (some 19) (b 25 4095) rfl rfl ?_
  refine xU 12 (some 20) (b 25 8191) rfl rfl ?_
  refine xU 13 (some 21) (b 25 16383) rfl rfl ?_
  refine xU 14 (some 22) (b 25 32767) rfl rfl ?_
  refine xU 15 (some 23) (b 25 65535) rfl rfl ?_
  refine xP 16 (some 24) (b 25 131071) rfl rfl ?_
  refine xP 17 (some 25) (b 25 262143) rfl rfl ?_
  refine xU 18 (some 26) (b 25 524287) rfl rfl ?_
  refine xU 19 (some 27) (b 25 1048575) rfl rfl ?_
  refine xU 20 (some 28) (b 25 2097151) rfl rfl ?_
  refine xU 21 (some 29) (b 25 4194303) rfl rfl ?_
  refine xU 22 (some 30) (b 25 8388607) rfl rfl ?_
  refine xP 23 (some 31) (b 25 16777215) rfl rfl ?_
  refine xP 24 (some 0) (b 25 33554431) rfl rfl ?_
  refine done_ (done_of HT_.out (by kernel_rfl)) ?_
  try go_wp2
  go_ret
  exact ⟨xy, xs HB⟩
end
end Go.Proofs.YtpoogjcgjpkbeaaDoor.XC
