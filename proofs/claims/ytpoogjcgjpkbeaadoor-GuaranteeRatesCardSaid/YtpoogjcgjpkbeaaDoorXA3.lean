/- Walks of functions of the program: a plain Lean function for each, and a proof that a call answers as it says. Written by a program (the kit's print with changes, then shortened). -/
import Derived.Test.YtpoogjcgjpkbeaaDoorXA2
namespace Go.Proofs.YtpoogjcgjpkbeaaDoor.XA
open Go.RowKit Go.Proofs.YtpoogjcgjpkbeaaDoorW.PrintWords Go.Proofs.YtpoogjcgjpkbeaaDoorW.PrintLast Go.Proofs.YtpoogjcgjpkbeaaDoorW.PrintMore Go.Proofs.YtpoogjcgjpkbeaaDoorW.Sq Go.Proofs.YtpoogjcgjpkbeaaDoorW.Sr Go.Proofs.YtpoogjcgjpkbeaaDoorW.Ss
attribute [local go_sem] max2_int min2_int max_two min_two max_three min_three max_four min_four   -- for this text's walks alone
set_option linter.unusedVariables false
set_option linter.unusedSimpArgs false
set_option maxHeartbeats 8000000
set_option maxRecDepth 100000
open Go.RowKit Go.Proofs.YtpoogjcgjpkbeaaDoorW.PrintWords Go.Proofs.YtpoogjcgjpkbeaaDoorW.PrintLast Go.Proofs.YtpoogjcgjpkbeaaDoorW.PrintMore Go.Proofs.YtpoogjcgjpkbeaaDoorW.Sq Go.Proofs.YtpoogjcgjpkbeaaDoorW.Sr
/-! ### rational_Subtract: function 36 -/
def rational_Subtract.f (k : Nat) (a0_0 : Bool) (a0_1 : ByteArray) (a0_2 : ByteArray) (a1_0 : Bool) (a1_1 : ByteArray) (a1_2 : ByteArray) : Option (Bool × ByteArray × ByteArray) := (rational_clean.f k a0_0 a0_1 a0_2).bind fun bt664 => ((rational_clean.f k a1_0 a1_1 a1_2).bind fun bt667 => ((rational_negate.f bt667.1 bt667.2.1 bt667.2.2).bind fun bt670 => ((rational_add.f k bt664.1 bt664.2.1 bt664.2.2 bt670.1 bt670.2.1 bt670.2.2).bind fun bt673 => (some (bt673.1, bt673.2.1, bt673.2.2)))))
theorem rational_Subtract.mono : ∀ a0 a1 a2 a3 a4 a5 k, LeO (rational_Subtract.f k a0 a1 a2 a3 a4 a5) (rational_Subtract.f (k + 1) a0 a1 a2 a3 a4 a5) := by
 intro a0 a1 a2 a3 a4 a5 k
 unfold rational_Subtract.f
 have m0 := @rational_add.mono; have m1 := @rational_clean.mono; exact xM
theorem rational_Subtract.calls (k : Nat) (a0_0 : Bool) (a0_1 : ByteArray) (a0_2 : ByteArray) (a1_0 : Bool) (a1_1 : ByteArray) (a1_2 : ByteArray) (r1 : Bool) (r2 : ByteArray) (r3 : ByteArray) (w : World) (h : rational_Subtract.f k a0_0 a0_1 a0_2 a1_0 a1_1 a1_2 = some (r1, r2, r3)) :
  Calls Tryd.prog 36 #[.agg #[.bool a0_0, .string a0_1, .string a0_2], .agg #[.bool a1_0, .string a1_1, .string a1_2]] w fun e w' => e = .returned (.agg #[.bool r1, .string r2, .string r3]) ∧ Below w.heap.size w w' := by
 have hu25 := Tryd.underlying25
 have HB := Aside0.mk (Below.refl w.heap.size w)
 have H := h; clear h
 unfold rational_Subtract.f at H
 replace H := xH H; obtain ⟨⟨t664, t665, t666⟩, A3, H⟩ := H
 dsimp only at H
 replace H := xH H; obtain ⟨⟨t667, t668, t669⟩, A4, H⟩ := H
 dsimp only at H
 replace H := xH H; obtain ⟨⟨t670, t671, t672⟩, A5, H⟩ := H
 dsimp only at H
 replace H := xH H; obtain ⟨⟨t673, t674, t675⟩, A6, H⟩ := H
 dsimp only at H
 simp only [Option.some.injEq, Prod.mk.injEq] at H
 obtain ⟨rfl, rfl, rfl⟩ := H
 go_enter Tryd.func36, Tryd.ntmps36
 try go_wp2_with (first | (refine xF (N := 2) #[.bool a0_0, .string a0_1, .string a0_2] 25 HB ?_; clear HB; intro gb661 hg w7 hb BK661 GW661 HB; clear hb hg) | (refine xF (N := 3) #[.bool a1_0, .string a1_1, .string a1_2] 25 HB ?_; clear HB; intro gb662 hg w8 hb BK662 GW662 HB; have NB661_662 := xL BK661 hg; have NB662_661 := xR BK661 hg; replace BK661 := xB BK661 hb; clear hb hg) | (refine xF (N := 4) #[.bool false, .string (⟨#[]⟩ : ByteArray), .string (⟨#[]⟩ : ByteArray)] 25 HB ?_; clear HB; intro gb663 hg w9 hb BK663 GW663 HB; have NB661_663 := xL BK661 hg; have NB663_661 := xR BK661 hg; replace BK661 := xB BK661 hb; have NB662_663 := xL BK662 hg; have NB663_662 := xR BK662 hg; replace BK662 := xB BK662 hb; clear hb hg))
 replace BK661 := xD BK661
 replace BK662 := xD BK662
 replace BK663 := xD BK663
 replace HB := xW HB
 refine start_ (n := 7) (S := fun w' => w'.cell? ⟨gb661, 0, none⟩ = some (.bool a0_0) ∧ w'.cell? ⟨gb661, 1, none⟩ = some (.string a0_1) ∧ w'.cell? ⟨gb661, 2, none⟩ = some (.string a0_2) ∧ w'.cell? ⟨gb662, 0, none⟩ = some (.bool a1_0) ∧ w'.cell? ⟨gb662, 1, none⟩ = some (.string a1_1) ∧ w'.cell? ⟨gb662, 2, none⟩ = some (.string a1_2)) (ds := []) (b 7 0) (by kernel_rfl) rfl rfl xV (fun hHeld => ?_)
 generalize w9.drew = w10 at BK661 BK662 BK663 HB hHeld ⊢
 refine yT 0 (some 5) (b 7 1) hHeld ?_
 refine yT 2 (some 7) (b 7 5) hHeld ?_
 refine yO 1 (some 6) (b 7 7) fun K hK => ?_
 refine xc Tryd.func38 (rational_clean.calls k a0_0 a0_1 a0_2 t664 t665 t666 _ A3.out) ?_
 rintro w11 hb
 replace BK661 := xB BK661 hb
 replace BK662 := xB BK662 hb
 replace BK663 := xB BK663 hb
 replace HB := xS HB hb
 clear hb
 refine hK.out _ _ xV (fun hHeld => ?_)
 clear hK K
 refine xN 6 ?_
 refine yO 3 (some 8) (b 7 15) fun K hK => ?_
 refine xc Tryd.func38 (rational_clean.calls k a1_0 a1_1 a1_2 t667 t668 t669 _ A4.out) ?_
 rintro w12 hb
 replace BK661 := xB BK661 hb
 replace BK662 := xB BK662 hb
 replace BK663 := xB BK663 hb
 replace HB := xS HB hb
 clear hb
 refine hK.out _ _ xV (fun hHeld => ?_)
 clear hK K
 refine xN 8 ?_
 refine yO 4 (some 9) (b 7 31) fun K hK => ?_
 refine xc Tryd.func61 (rational_negate.calls t667 t668 t669 t670 t671 t672 _ A5.out) ?_
 rintro w13 hb
 replace BK661 := xB BK661 hb
 replace BK662 := xB BK662 hb
 replace BK663 := xB BK663 hb
 replace HB := xS HB hb
 clear hb
 refine hK.out _ _ xV (fun hHeld => ?_)
 clear hK K
 refine xN 9 ?_
 refine yO 5 (some 10) (b 7 63) fun K hK => ?_
 refine xc Tryd.func46 (rational_add.calls k t664 t665 t666 t670 t671 t672 t673 t674 t675 _ A6.out) ?_
 rintro w14 hb
 replace BK661 := xB BK661 hb
 replace BK662 := xB BK662 hb
 replace BK663 := xB BK663 hb
 replace HB := xS HB hb
 clear hb
 refine hK.out _ _ xV (fun hHeld => ?_)
 clear hK K
 refine xN 10 ?_
 refine yO 6 none (b 7 127) fun K hK => ?_
 obtain ⟨hs15, hs16, hs17, hfs15, hfs16, hfs17⟩ := x6 BK663
 have hns15_0 := NB661_663.out
 have hns15_1 := NB662_663.out
 have hms15_0 := NB663_661.out
 have hms15_1 := NB663_662.out
 refine xk ?_
 refine hK.out _ _ ⟨((cell_far (p := ⟨gb663, _, none⟩) NB661_663.out _).trans ((cell_far (p := ⟨gb663, _, none⟩) NB661_663.out _).trans ((cell_far (p := ⟨gb663, _, none⟩) NB661_663.out _).trans (hHeld.1)))), ((cell_far (p := ⟨gb663, _, none⟩) NB661_663.out _).trans ((cell_far (p := ⟨gb663, _, none⟩) NB661_663.out _).trans ((cell_far (p := ⟨gb663, _, none⟩) NB661_663.out _).trans (hHeld.2.1)))), ((cell_far (p := ⟨gb663, _, none⟩) NB661_663.out _).trans ((cell_far (p := ⟨gb663, _, none⟩) NB661_663.out _).trans ((cell_far (p := ⟨gb663, _, none⟩) NB661_663.out _).trans (hHeld.2.2.1)))), ((cell_far (p := ⟨gb663, _, none⟩) NB662_663.out _).trans ((cell_far (p := ⟨gb663, _, none⟩) NB662_663.out _).trans ((cell_far (p := ⟨gb663, _, none⟩) NB662_663.out _).trans (hHeld.2.2.2.1)))), ((cell_far (p := ⟨gb663, _, none⟩) NB662_663.out _).trans ((cell_far (p := ⟨gb663, _, none⟩) NB662_663.out _).trans ((cell_far (p := ⟨gb663, _, none⟩) NB662_663.out _).trans (hHeld.2.2.2.2.1)))), ((cell_far (p := ⟨gb663, _, none⟩) NB662_663.out _).trans ((cell_far (p := ⟨gb663, _, none⟩) NB662_663.out _).trans ((cell_far (p := ⟨gb663, _, none⟩) NB662_663.out _).trans (hHeld.2.2.2.2.2))))⟩ (fun hHeld => ?_)
 clear hK K
 refine done_ (by kernel_rfl) ?_
 try go_wp2
 refine bodyPost_ret (results_cell_row rfl _ _ gb663 25 #[.bool t673, .string t674, .string t675] (0, 0) _ rfl (xp BK663) Tryd.underlying25 rfl (by kernel_rfl)) rfl ?_
 exact ⟨xy, xs HB⟩
/-! ### guarantee_Refunds: function 12 -/
def guarantee_Refunds.l0 : Nat → List (S25) → List (S25) → Int → Int → Bool → ByteArray → ByteArray → Bool → ByteArray → ByteArray → Bool → ByteArray → ByteArray → Option (List (S25))
 | 0, _, _, _, _, _, _, _, _, _, _, _, _, _ => none
 | k + 1, x5, x16, x17, x18, x677000, x677001, x677002, x681000, x681001, x681002, x682000, x682001, x682002 => if x18 < x17 then (if 0 ≤ x18 then (if x18 < (x16.length : Int) then ((guarantee_positive.f k ((rd_T25 x16 x18).f0) ((rd_T25 x16 x18).f1) ((rd_T25 x16 x18).f2)).bind fun bt684 => ((rational_Add.f k x681000 x681001 x681002 bt684.1 bt684.2.1 bt684.2.2).bind fun bt687 => ((guarantee_positive.f k x677000 x677001 x677002).bind fun bt690 => ((rational_Subtract.f k bt687.1 bt687.2.1 bt687.2.2 bt690.1 bt690.2.1 bt690.2.2).bind fun bt693 => ((guarantee_positive.f k bt693.1 bt693.2.1 bt693.2.2).bind fun bt696 => ((rational_Subtract.f k bt696.1 bt696.2.1 bt696.2.2 x682000 x682001 x682002).bind fun bt700 => (if x18 < (x5.length : Int) then (guarantee_Refunds.l0 k (x5.set (x18 : Int).toNat (⟨bt700.1, bt700.2.1, bt700.2.2⟩ : S25)) x16 x17 (wrap64 (x18 + 1)) x677000 x677001 x677002 bt687.1 bt687.2.1 bt687.2.2 bt696.1 bt696.2.1 bt696.2.2) else (none)))))))) else (none)) else (none)) else (some x5)
def guarantee_Refunds.f (k : Nat) (a0_0 : Bool) (a0_1 : ByteArray) (a0_2 : ByteArray) (l1 : List (S25)) : Option (List (S25)) := if 0 ≤ (l1.length : Int) then (if ((l1.length : Int) : Int).toNat ≤ 7036874417766 then (guarantee_Refunds.l0 k (List.replicate ((l1.length : Int) : Int).toNat z25) l1 (l1.length : Int) 0 a0_0 a0_1 a0_2 false (⟨#[]⟩ : ByteArray) (⟨#[]⟩ : ByteArray) false (⟨#[]⟩ : ByteArray) (⟨#[]⟩ : ByteArray)) else (none)) else (none)
theorem guarantee_Refunds.mono_l : ∀ k, (∀ y0 y1 y2 y3 y4 y5 y6 y7 y8 y9 y10 y11 y12, LeO (guarantee_Refunds.l0 k y0 y1 y2 y3 y4 y5 y6 y7 y8 y9 y10 y11 y12) (guarantee_Refunds.l0 (k + 1) y0 y1 y2 y3 y4 y5 y6 y7 y8 y9 y10 y11 y12))
 | 0 => fun _ _ _ _ _ _ _ _ _ _ _ _ _ r h => by simp [guarantee_Refunds.l0] at h
 | k + 1 => by
  have ih0 := guarantee_Refunds.mono_l k
  ·intro y0 y1 y2 y3 y4 y5 y6 y7 y8 y9 y10 y11 y12
   unfold guarantee_Refunds.l0
   have m0 := @ih0; have m1 := @guarantee_positive.mono; have m2 := @rational_Add.mono; have m3 := @rational_Subtract.mono; exact xM
theorem guarantee_Refunds.mono : ∀ a0 a1 a2 a3 k, LeO (guarantee_Refunds.f k a0 a1 a2 a3) (guarantee_Refunds.f (k + 1) a0 a1 a2 a3) := by
 intro a0 a1 a2 a3 k
 have ih0 := guarantee_Refunds.mono_l k
 unfold guarantee_Refunds.f
 have m0 := @ih0; have m1 := @guarantee_positive.mono; have m2 := @rational_Add.mono; have m3 := @rational_Subtract.mono; exact xM
theorem guarantee_Refunds.calls (k : Nat) (a0_0 : Bool) (a0_1 : ByteArray) (a0_2 : ByteArray) (A1 : Option Addr) (c1 : Nat) (l1 : List (S25)) (r : List (S25)) (w : World) (hr1 : Kd.C k25 w A1 l1.length l1) (hc1 : l1.length ≤ c1) (h : guarantee_Refunds.f k a0_0 a0_1 a0_2 l1 = some r) :
  Calls Tryd.prog 12 #[.agg #[.bool a0_0, .string a0_1, .string a0_2], .slice A1 l1.length c1] w fun e w' => ∃ v0_ : Value, e = .returned (v0_) ∧ Kd.R k25 25 w' w.heap.size (fun _ => True) v0_ r ∧ Below w.heap.size w w' := by
 have hu25 := Tryd.underlying25
 have HR1 := Aside0.mk hr1
 have HC1 := Aside0.mk hc1
 clear hr1 hc1
 have HB := Aside0.mk (Below.refl w.heap.size w)
 have H := h; clear h
 unfold guarantee_Refunds.f at H
 obtain ⟨c3b0, c3b1, H⟩ := xQt H
 obtain ⟨c4b0, c4b1, H⟩ := xQt H
 generalize hy677 : (List.replicate ((l1.length : Int) : Int).toNat z25 : List (S25)) = y677 at H
 have Ny677 := Aside0.mk hy677.symm
 clear hy677
 have H' := Aside0.mk H
 clear H
 go_enter Tryd.func12, Tryd.ntmps12
 go_wp2_with (first | (refine xF (N := 2) #[.bool a0_0, .string a0_1, .string a0_2] 25 HB ?_; clear HB; intro gb676 hg w5 hb BK676 GW676 HB; clear hb hg) | ((with_reducible refine gate_dst (N := 13) rfl ?_); refine Kd.R_make k25 _ 25 rfl (N := 13) rfl 27 _ _ rfl (l1.length : Int) rfl rfl Tryd.underlying27 (.agg #[(.bool false), (.string ⟨#[]⟩), (.string ⟨#[]⟩)]) 40 info25 rfl (by decide) (by omega) z25 (ok := fun _ => True) (okp := fun _ => True) (k25_mkM _ _ _ z25 ) (fun _ hk => hk) trivial (xa) (Nat.le_trans (Nat.mul_le_mul_right _ (xa : (l1.length : Int).toNat ≤ 7036874417766)) (by omega)) (Below.refl _ _) (Nat.le_refl _) ?_; intro v678 w6 ho7 hb hg_ hnew_; clear hg_ hnew_; (rw [← Ny677.out] at ho7); have HO679 := Aside0.mk (Kd.R_lower (Kd.R_newB ho7 (g := gb676) (o := .cells #[.bool a0_0, .string a0_1, .string a0_2] 25 (0, 0)) (xb BK676)) (below_size (xs HB))); replace BK676 := xB BK676 hb; replace HB := xS HB hb; clear hb ho7) | (refine xF (N := 6) #[.bool false, .string (⟨#[]⟩ : ByteArray), .string (⟨#[]⟩ : ByteArray)] 25 HB ?_; clear HB; intro gb680 hg w8 hb BK680 GW680 HB; replace HO679 := Aside0.mk (Kd.R_below (Kd.R_elderB (xr HO679.out) gb680 (Nat.le_of_eq hg.symm)) hb); have NB676_680 := xL BK676 hg; have NB680_676 := xR BK676 hg; replace BK676 := xB BK676 hb; clear hb hg) | (refine xF (N := 7) #[.bool false, .string (⟨#[]⟩ : ByteArray), .string (⟨#[]⟩ : ByteArray)] 25 HB ?_; clear HB; intro gb681 hg w9 hb BK681 GW681 HB; replace HO679 := Aside0.mk (Kd.R_below (Kd.R_elderB (xr HO679.out) gb681 (Nat.le_of_eq hg.symm)) hb); have NB676_681 := xL BK676 hg; have NB681_676 := xR BK676 hg; replace BK676 := xB BK676 hb; have NB680_681 := xL BK680 hg; have NB681_680 := xR BK680 hg; replace BK680 := xB BK680 hb; clear hb hg; have hnb10 := NB680_676.out; have hnc10 := NB676_680.out; have hnb11 := NB680_681.out; have hnc11 := NB681_680.out; obtain ⟨hcz12_0, hcz12_1, hcz12_2, hfz12_0, hfz12_1, hfz12_2⟩ := x6 BK680; have hnb13 := NB681_676.out; have hnc13 := NB676_681.out; obtain ⟨hcz14_0, hcz14_1, hcz14_2, hfz14_0, hfz14_1, hfz14_2⟩ := x6 BK681))
 go_loopg [18] k (fun kq v18 w' => ∃ (x5_1 : List (S25)) (x18_1 : Int) (x677000_1 : Bool) (x677001_1 : ByteArray) (x677002_1 : ByteArray) (x681000_1 : Bool) (x681001_1 : ByteArray) (x681002_1 : ByteArray) (x682000_1 : Bool) (x682001_1 : ByteArray) (x682002_1 : ByteArray), v18 = .int .i64 x18_1 ∧ Aside0 (guarantee_Refunds.l0 kq x5_1 l1 (l1.length : Int) x18_1 x677000_1 x677001_1 x677002_1 x681000_1 x681001_1 x681002_1 x682000_1 x682001_1 x682002_1 = some r) ∧ Aside0 (kq ≤ k) ∧ Aside0 (Kd.R k25 25 w' w.heap.size (fun k_ => k_ ≠ gb676 ∧ k_ ≠ gb680 ∧ k_ ≠ gb681) v678 x5_1) ∧ Aside0 (w'.heap[gb676]? = some (.cells #[.bool x677000_1, .string x677001_1, .string x677002_1] 25 (0, 0))) ∧ Aside0 (w'.heap[gb680]? = some (.cells #[.bool x681000_1, .string x681001_1, .string x681002_1] 25 (0, 0))) ∧ Aside0 (w'.heap[gb681]? = some (.cells #[.bool x682000_1, .string x682001_1, .string x682002_1] 25 (0, 0))) ∧ Aside0 (Below w.heap.size w w'))
 case atStart => exact ⟨(y677), (0), (a0_0), (a0_1), (a0_2), (false), (⟨#[]⟩ : ByteArray), (⟨#[]⟩ : ByteArray), (false), (⟨#[]⟩ : ByteArray), (⟨#[]⟩ : ByteArray), xz, H', ⟨Nat.le_refl _⟩, ⟨by exact Kd.R_mono (Kd.R_far (p := ⟨gb681, 2, none⟩) (Kd.R_far (p := ⟨gb681, 1, none⟩) (Kd.R_far (p := ⟨gb681, 0, none⟩) (Kd.R_far (p := ⟨gb680, 2, none⟩) (Kd.R_far (p := ⟨gb680, 1, none⟩) (Kd.R_far (p := ⟨gb680, 0, none⟩) (Kd.R_mono (Kd.R_mono HO679.out (fun k_ hk => (⟨hk, hk.1.2⟩ : _ ∧ k_ ≠ gb680))) (fun k_ hk => (⟨hk, hk.1.2⟩ : _ ∧ k_ ≠ gb681))) (fun _ hk => hk.1.2) (.bool false)) (fun _ hk => hk.1.2) (.string (⟨#[]⟩ : ByteArray))) (fun _ hk => hk.1.2) (.string (⟨#[]⟩ : ByteArray))) (fun _ hk => hk.2) (.bool false)) (fun _ hk => hk.2) (.string (⟨#[]⟩ : ByteArray))) (fun _ hk => hk.2) (.string (⟨#[]⟩ : ByteArray))) (fun _ hk => ⟨hk.1.1.1.1.2, ⟨hk.1.1.1.2, hk.1.1.2⟩⟩)⟩, ⟨xb BK676⟩, ⟨by refine blk_far ?_ NB680_681.out _; refine blk_far ?_ NB680_681.out _; refine blk_far ?_ NB680_681.out _; refine blk_put (cs := #[.bool false, .string (⟨#[]⟩ : ByteArray), .string (⟨#[]⟩ : ByteArray)]) ?_ 2 _ (by rfl); refine blk_put (cs := #[.bool false, .string (⟨#[]⟩ : ByteArray), .string (⟨#[]⟩ : ByteArray)]) ?_ 1 _ (by rfl); refine blk_put (cs := #[.bool false, .string (⟨#[]⟩ : ByteArray), .string (⟨#[]⟩ : ByteArray)]) ?_ 0 _ (by rfl); exact BK680.out⟩, ⟨by refine blk_put (cs := #[.bool false, .string (⟨#[]⟩ : ByteArray), .string (⟨#[]⟩ : ByteArray)]) ?_ 2 _ (by rfl); refine blk_put (cs := #[.bool false, .string (⟨#[]⟩ : ByteArray), .string (⟨#[]⟩ : ByteArray)]) ?_ 1 _ (by rfl); refine blk_put (cs := #[.bool false, .string (⟨#[]⟩ : ByteArray), .string (⟨#[]⟩ : ByteArray)]) ?_ 0 _ (by rfl); refine blk_far ?_ NB681_680.out _; refine blk_far ?_ NB681_680.out _; refine blk_far ?_ NB681_680.out _; exact BK681.out⟩, ⟨xs HB⟩⟩
 case round =>
  clear H'
  clear c3b0 c3b1 c4b0 c4b1 hcz12_0 hcz12_1 hcz12_2 hcz14_0 hcz14_1 hcz14_2 hfz12_0 hfz12_1 hfz12_2 hfz14_0 hfz14_1 hfz14_2
  obtain ⟨x5_1, x18_1, x677000_1, x677001_1, x677002_1, x681000_1, x681001_1, x681002_1, x682000_1, x682001_1, x682002_1, rfl, HA, HK1, HO_5, BK676, BK680, BK681, HB⟩ := hrel
  cases gk with
  | zero => exact absurd HA.out (by simp [guarantee_Refunds.l0])
  | succ k1 =>
   have H := HA.out
   clear HA
   simp only [guarantee_Refunds.l0] at H
   obtain ⟨c15b0, H⟩ | ⟨c15b0, H⟩ := xOd H
   ·obtain ⟨c16b0, H⟩ := xQd H
    obtain ⟨c17b0, H⟩ := xQd H
    replace H := xH H; obtain ⟨⟨t684, t685, t686⟩, A18, H⟩ := H
    dsimp only at H
    replace H := xH H; obtain ⟨⟨t687, t688, t689⟩, A19, H⟩ := H
    dsimp only at H
    replace H := xH H; obtain ⟨⟨t690, t691, t692⟩, A20, H⟩ := H
    dsimp only at H
    replace H := xH H; obtain ⟨⟨t693, t694, t695⟩, A21, H⟩ := H
    dsimp only at H
    replace H := xH H; obtain ⟨⟨t696, t697, t698⟩, A22, H⟩ := H
    dsimp only at H
    replace H := xH H; obtain ⟨⟨t700, t701, t702⟩, A23, H⟩ := H
    dsimp only at H
    obtain ⟨c24b0, H⟩ := xQd H
    generalize hy703 : (x5_1.set (x18_1 : Int).toNat (⟨t700, t701, t702⟩ : S25) : List (S25)) = y703 at H
    have Ny703 := Aside0.mk hy703.symm
    clear hy703
    have H' := Aside0.mk H
    clear H
    obtain ⟨p682, q682, ad682, e682, hx682_0, hx682_1, hx682_2⟩ := xA (at_T25 HR1.out x18_1)
    cases e682
    (try replace hx682_0 := xcl HB hx682_0)
    (try replace hx682_1 := xcl HB hx682_1)
    (try replace hx682_2 := xcl HB hx682_2)
    try go_wp2_with (refine xF (N := 9) #[.bool false, .string (⟨#[]⟩ : ByteArray), .string (⟨#[]⟩ : ByteArray)] 25 HB ?_; clear HB; intro gb683 hg w26 hb BK683 GW683 HB; replace HO_5 := Aside0.mk (Kd.R_below (Kd.R_elderB (xr HO_5.out) gb683 (Nat.le_of_eq hg.symm)) hb); have NB676_683 := xL BK676 hg; have NB683_676 := xR BK676 hg; replace BK676 := xB BK676 hb; have NB680_683 := xL BK680 hg; have NB683_680 := xR BK680 hg; replace BK680 := xB BK680 hb; have NB681_683 := xL BK681 hg; have NB683_681 := xR BK681 hg; replace BK681 := xB BK681 hb; clear hb hg; have hnb27 := NB683_676.out; have hnc27 := NB676_683.out; have hnb28 := NB683_680.out; have hnc28 := NB680_683.out; have hnb29 := NB683_681.out; have hnc29 := NB681_683.out; obtain ⟨hcz30_0, hcz30_1, hcz30_2, hfz30_0, hfz30_1, hfz30_2⟩ := x6 BK683)
    have n0_ : Aside0 (Kd.R k25 25 (((w26.setCell ⟨gb683, 0, none⟩ (.bool ((rd_T25 l1 x18_1).f0))).setCell ⟨gb683, 1, none⟩ (.string ((rd_T25 l1 x18_1).f1))).setCell ⟨gb683, 2, none⟩ (.string ((rd_T25 l1 x18_1).f2))) w.heap.size (fun k_ => k_ ≠ gb676 ∧ k_ ≠ gb680 ∧ k_ ≠ gb681 ∧ k_ ≠ gb683) v678 x5_1) := ⟨by exact Kd.R_mono (Kd.R_far (p := ⟨gb683, 2, none⟩) (Kd.R_far (p := ⟨gb683, 1, none⟩) (Kd.R_far (p := ⟨gb683, 0, none⟩) (Kd.R_mono HO_5.out (fun k_ hk => (⟨hk, hk.2⟩ : _ ∧ k_ ≠ gb683))) (fun _ hk => hk.2) (.bool ((rd_T25 l1 x18_1).f0))) (fun _ hk => hk.2) (.string ((rd_T25 l1 x18_1).f1))) (fun _ hk => hk.2) (.string ((rd_T25 l1 x18_1).f2))) (fun _ hk => ⟨hk.1.1.1, ⟨hk.1.1.2.1, ⟨hk.1.1.2.2, hk.1.2⟩⟩⟩)⟩
    have n1_ : Aside0 ((((w26.setCell ⟨gb683, 0, none⟩ (.bool ((rd_T25 l1 x18_1).f0))).setCell ⟨gb683, 1, none⟩ (.string ((rd_T25 l1 x18_1).f1))).setCell ⟨gb683, 2, none⟩ (.string ((rd_T25 l1 x18_1).f2))).heap[gb676]? = some (.cells #[.bool x677000_1, .string x677001_1, .string x677002_1] 25 (0, 0))) := ⟨xb BK676⟩
    have n2_ : Aside0 ((((w26.setCell ⟨gb683, 0, none⟩ (.bool ((rd_T25 l1 x18_1).f0))).setCell ⟨gb683, 1, none⟩ (.string ((rd_T25 l1 x18_1).f1))).setCell ⟨gb683, 2, none⟩ (.string ((rd_T25 l1 x18_1).f2))).heap[gb680]? = some (.cells #[.bool x681000_1, .string x681001_1, .string x681002_1] 25 (0, 0))) := ⟨xb BK680⟩
    have n3_ : Aside0 ((((w26.setCell ⟨gb683, 0, none⟩ (.bool ((rd_T25 l1 x18_1).f0))).setCell ⟨gb683, 1, none⟩ (.string ((rd_T25 l1 x18_1).f1))).setCell ⟨gb683, 2, none⟩ (.string ((rd_T25 l1 x18_1).f2))).heap[gb681]? = some (.cells #[.bool x682000_1, .string x682001_1, .string x682002_1] 25 (0, 0))) := ⟨xb BK681⟩
    have n4_ : Aside0 ((((w26.setCell ⟨gb683, 0, none⟩ (.bool ((rd_T25 l1 x18_1).f0))).setCell ⟨gb683, 1, none⟩ (.string ((rd_T25 l1 x18_1).f1))).setCell ⟨gb683, 2, none⟩ (.string ((rd_T25 l1 x18_1).f2))).heap[gb683]? = some (.cells #[.bool ((rd_T25 l1 x18_1).f0), .string ((rd_T25 l1 x18_1).f1), .string ((rd_T25 l1 x18_1).f2)] 25 (0, 0))) := ⟨xp BK683⟩
    have n5_ : Aside0 (Below w.heap.size w (((w26.setCell ⟨gb683, 0, none⟩ (.bool ((rd_T25 l1 x18_1).f0))).setCell ⟨gb683, 1, none⟩ (.string ((rd_T25 l1 x18_1).f1))).setCell ⟨gb683, 2, none⟩ (.string ((rd_T25 l1 x18_1).f2)))) := ⟨xs HB⟩
    clear HO_5 BK676 BK680 BK681 BK683 HB
    generalize (((w26.setCell ⟨gb683, 0, none⟩ (.bool ((rd_T25 l1 x18_1).f0))).setCell ⟨gb683, 1, none⟩ (.string ((rd_T25 l1 x18_1).f1))).setCell ⟨gb683, 2, none⟩ (.string ((rd_T25 l1 x18_1).f2))) = w31 at n0_ n1_ n2_ n3_ n4_ n5_ ⊢
    have HO_5 := n0_
    have BK676 := n1_
    have BK680 := n2_
    have BK681 := n3_
    have BK683 := n4_
    have HB := n5_
    clear n0_ n1_ n2_ n3_ n4_ n5_
    replace HO_5 := Aside0.mk (Kd.R_drew HO_5.out)
    replace BK676 := xD BK676
    replace BK680 := xD BK680
    replace BK681 := xD BK681
    replace BK683 := xD BK683
    replace HB := xW HB
    refine start_ (n := 5) (S := fun w' => w'.cell? ⟨gb680, 0, none⟩ = some (.bool x681000_1) ∧ w'.cell? ⟨gb680, 1, none⟩ = some (.string x681001_1) ∧ w'.cell? ⟨gb680, 2, none⟩ = some (.string x681002_1) ∧ w'.cell? ⟨gb683, 0, none⟩ = some (.bool ((rd_T25 l1 x18_1).f0)) ∧ w'.cell? ⟨gb683, 1, none⟩ = some (.string ((rd_T25 l1 x18_1).f1)) ∧ w'.cell? ⟨gb683, 2, none⟩ = some (.string ((rd_T25 l1 x18_1).f2))) (ds := [4]) (b 5 0) (by kernel_rfl) rfl rfl xV (fun hHeld => ?_)
    generalize w31.drew = w32 at HO_5 BK676 BK680 BK681 BK683 HB hHeld ⊢
    refine yT 0 (some 23) (b 5 1) hHeld ?_
    refine yT 1 (some 24) (b 5 3) hHeld ?_
    refine yO 2 (some 25) (b 5 7) fun K hK => ?_
    refine xc Tryd.func35 (guarantee_positive.calls k1 ((rd_T25 l1 x18_1).f0) ((rd_T25 l1 x18_1).f1) ((rd_T25 l1 x18_1).f2) t684 t685 t686 _ A18.out) ?_
    rintro w33 hb
    replace HO_5 := xRb HO_5 hb
    replace BK676 := xB BK676 hb
    replace BK680 := xB BK680 hb
    replace BK681 := xB BK681 hb
    replace BK683 := xB BK683 hb
    replace HB := xS HB hb
    clear hb
    refine hK.out _ _ xV (fun hHeld => ?_)
    clear hK K
    refine xN 25 ?_
    refine yO 3 (some 26) (b 5 15) fun K hK => ?_
    refine xc Tryd.func21 (rational_Add.calls k1 x681000_1 x681001_1 x681002_1 t684 t685 t686 t687 t688 t689 _ A19.out) ?_
    rintro w34 hb
    replace HO_5 := xRb HO_5 hb
    replace BK676 := xB BK676 hb
    replace BK680 := xB BK680 hb
    replace BK681 := xB BK681 hb
    replace BK683 := xB BK683 hb
    replace HB := xS HB hb
    clear hb
    refine hK.out _ _ xV (fun hHeld => ?_)
    clear hK K
    refine xN 26 ?_
    refine yZ 4 none (b 5 31) fun K hK => ?_
    obtain ⟨hs35, hs36, hs37, hfs35, hfs36, hfs37⟩ := x6 BK680
    have hns35_0 := NB676_680.out
    have hns35_2 := NB681_680.out
    have hns35_3 := NB683_680.out
    have hms35_0 := NB680_676.out
    have hms35_2 := NB680_681.out
    have hms35_3 := NB680_683.out
    refine xk ?_
    refine hK.out _ _ ?_
    clear hK K
    refine done_ (by kernel_rfl) ?_
    try go_wp2
    have n0_ : Aside0 (Kd.R k25 25 (((w34.setCell ⟨gb680, 0, none⟩ (.bool t687)).setCell ⟨gb680, 1, none⟩ (.string t688)).setCell ⟨gb680, 2, none⟩ (.string t689)) w.heap.size (fun k_ => k_ ≠ gb676 ∧ k_ ≠ gb680 ∧ k_ ≠ gb681 ∧ k_ ≠ gb683) v678 x5_1) := ⟨by exact Kd.R_mono (Kd.R_far (p := ⟨gb680, 2, none⟩) (Kd.R_far (p := ⟨gb680, 1, none⟩) (Kd.R_far (p := ⟨gb680, 0, none⟩) (Kd.R_mono HO_5.out (fun k_ hk => (⟨hk, hk.2.1⟩ : _ ∧ k_ ≠ gb680))) (fun _ hk => hk.2) (.bool t687)) (fun _ hk => hk.2) (.string t688)) (fun _ hk => hk.2) (.string t689)) (fun _ hk => ⟨hk.1.1, ⟨hk.1.2.1, ⟨hk.1.2.2.1, hk.1.2.2.2⟩⟩⟩)⟩
    have n1_ : Aside0 ((((w34.setCell ⟨gb680, 0, none⟩ (.bool t687)).setCell ⟨gb680, 1, none⟩ (.string t688)).setCell ⟨gb680, 2, none⟩ (.string t689)).heap[gb676]? = some (.cells #[.bool x677000_1, .string x677001_1, .string x677002_1] 25 (0, 0))) := ⟨xb BK676⟩
    have n2_ : Aside0 ((((w34.setCell ⟨gb680, 0, none⟩ (.bool t687)).setCell ⟨gb680, 1, none⟩ (.string t688)).setCell ⟨gb680, 2, none⟩ (.string t689)).heap[gb680]? = some (.cells #[.bool t687, .string t688, .string t689] 25 (0, 0))) := ⟨xp BK680⟩
    have n3_ : Aside0 ((((w34.setCell ⟨gb680, 0, none⟩ (.bool t687)).setCell ⟨gb680, 1, none⟩ (.string t688)).setCell ⟨gb680, 2, none⟩ (.string t689)).heap[gb681]? = some (.cells #[.bool x682000_1, .string x682001_1, .string x682002_1] 25 (0, 0))) := ⟨xb BK681⟩
    have n4_ : Aside0 ((((w34.setCell ⟨gb680, 0, none⟩ (.bool t687)).setCell ⟨gb680, 1, none⟩ (.string t688)).setCell ⟨gb680, 2, none⟩ (.string t689)).heap[gb683]? = some (.cells #[.bool ((rd_T25 l1 x18_1).f0), .string ((rd_T25 l1 x18_1).f1), .string ((rd_T25 l1 x18_1).f2)] 25 (0, 0))) := ⟨xb BK683⟩
    have n5_ : Aside0 (Below w.heap.size w (((w34.setCell ⟨gb680, 0, none⟩ (.bool t687)).setCell ⟨gb680, 1, none⟩ (.string t688)).setCell ⟨gb680, 2, none⟩ (.string t689))) := ⟨xs HB⟩
    clear HO_5 BK676 BK680 BK681 BK683 HB
    generalize (((w34.setCell ⟨gb680, 0, none⟩ (.bool t687)).setCell ⟨gb680, 1, none⟩ (.string t688)).setCell ⟨gb680, 2, none⟩ (.string t689)) = w38 at n0_ n1_ n2_ n3_ n4_ n5_ ⊢
    have HO_5 := n0_
    have BK676 := n1_
    have BK680 := n2_
    have BK681 := n3_
    have BK683 := n4_
    have HB := n5_
    clear n0_ n1_ n2_ n3_ n4_ n5_
    replace HO_5 := Aside0.mk (Kd.R_drew HO_5.out)
    replace BK676 := xD BK676
    replace BK680 := xD BK680
    replace BK681 := xD BK681
    replace BK683 := xD BK683
    replace HB := xW HB
    refine start_ (n := 7) (S := fun w' => w'.cell? ⟨gb680, 0, none⟩ = some (.bool t687) ∧ w'.cell? ⟨gb680, 1, none⟩ = some (.string t688) ∧ w'.cell? ⟨gb680, 2, none⟩ = some (.string t689) ∧ w'.cell? ⟨gb676, 0, none⟩ = some (.bool x677000_1) ∧ w'.cell? ⟨gb676, 1, none⟩ = some (.string x677001_1) ∧ w'.cell? ⟨gb676, 2, none⟩ = some (.string x677002_1)) (ds := []) (b 7 0) (by kernel_rfl) rfl rfl xV (fun hHeld => ?_)
    generalize w38.drew = w39 at HO_5 BK676 BK680 BK681 BK683 HB hHeld ⊢
    refine yT 0 (some 27) (b 7 1) hHeld ?_
    refine yT 1 (some 28) (b 7 3) hHeld ?_
    refine join_ (σ := Nat) 1 #[true, true, true, true, true, true, false] (fun s_ => [(29, .agg #[.bool t690, .string t691, .string t692]), (30, .agg #[.bool t693, .string t694, .string t695]), (31, .agg #[.bool t696, .string t697, .string t698]), (10, .pointer (some ⟨s_, 0, none⟩))]) (fun s_ w' => (w'.cell? ⟨gb680, 0, none⟩ = some (.bool t687) ∧ w'.cell? ⟨gb680, 1, none⟩ = some (.string t688) ∧ w'.cell? ⟨gb680, 2, none⟩ = some (.string t689) ∧ w'.cell? ⟨gb676, 0, none⟩ = some (.bool x677000_1) ∧ w'.cell? ⟨gb676, 1, none⟩ = some (.string x677001_1) ∧ w'.cell? ⟨gb676, 2, none⟩ = some (.string x677002_1)) ∧ (Kd.R k25 25 w' w.heap.size (fun k_ => k_ ≠ gb676 ∧ k_ ≠ gb680 ∧ k_ ≠ gb681 ∧ k_ ≠ gb683 ∧ k_ ≠ s_) v678 x5_1) ∧ (w'.heap[gb676]? = some (.cells #[.bool x677000_1, .string x677001_1, .string x677002_1] 25 (0, 0))) ∧ (w'.heap[gb680]? = some (.cells #[.bool t687, .string t688, .string t689] 25 (0, 0))) ∧ (w'.heap[gb681]? = some (.cells #[.bool x682000_1, .string x682001_1, .string x682002_1] 25 (0, 0))) ∧ (w'.heap[gb683]? = some (.cells #[.bool ((rd_T25 l1 x18_1).f0), .string ((rd_T25 l1 x18_1).f1), .string ((rd_T25 l1 x18_1).f2)] 25 (0, 0))) ∧ (w'.heap[s_]? = some (.cells #[.bool false, .string (⟨#[]⟩ : ByteArray), .string (⟨#[]⟩ : ByteArray)] 25 (0, 0))) ∧ (w.heap.size ≤ s_) ∧ (w.heap.size ≤ s_) ∧ (gb676 ≠ s_) ∧ (s_ ≠ gb676) ∧ (gb680 ≠ s_) ∧ (s_ ≠ gb680) ∧ (gb681 ≠ s_) ∧ (s_ ≠ gb681) ∧ (gb683 ≠ s_) ∧ (s_ ≠ gb683) ∧ (Below w.heap.size w w')) ?_ ?_
    rotate_left
    ·intro hCont
     refine two_ (i := 2) (j := 5) (Ni := some 29) (Nj := some 10) #[true, true, true, false, false, false, false] #[true, true, false, false, false, true, false] rfl rfl rfl rfl (by kernel_rfl) (by decide) (by decide) (fun K hK => ?_) (fun K hK => ?_)
     ·skip
      refine xc Tryd.func35 (guarantee_positive.calls k1 x677000_1 x677001_1 x677002_1 t690 t691 t692 _ A20.out) ?_
      rintro w40 hb
      replace HO_5 := xRb HO_5 hb
      replace BK676 := xB BK676 hb
      replace BK680 := xB BK680 hb
      replace BK681 := xB BK681 hb
      replace BK683 := xB BK683 hb
      replace HB := xS HB hb
      clear hb
      refine hK.out _ _ xV (fun hHeld => ?_)
      clear hK K
      refine xN 29 ?_
      refine two_ (i := 3) (j := 5) (Ni := some 30) (Nj := some 10) #[true, true, true, true, false, false, false] #[true, true, true, false, false, true, false] rfl rfl rfl rfl (by kernel_rfl) (by decide) (by decide) (fun K hK => ?_) (fun K hK => ?_)
      ·skip
       refine xc Tryd.func36 (rational_Subtract.calls k1 t687 t688 t689 t690 t691 t692 t693 t694 t695 _ A21.out) ?_
       rintro w41 hb
       replace HO_5 := xRb HO_5 hb
       replace BK676 := xB BK676 hb
       replace BK680 := xB BK680 hb
       replace BK681 := xB BK681 hb
       replace BK683 := xB BK683 hb
       replace HB := xS HB hb
       clear hb
       refine hK.out _ _ xV (fun hHeld => ?_)
       clear hK K
       refine xN 30 ?_
       refine two_ (i := 4) (j := 5) (Ni := some 31) (Nj := some 10) #[true, true, true, true, true, false, false] #[true, true, true, true, false, true, false] rfl rfl rfl rfl (by kernel_rfl) (by decide) (by decide) (fun K hK => ?_) (fun K hK => ?_)
       ·skip
        refine xc Tryd.func35 (guarantee_positive.calls k1 t693 t694 t695 t696 t697 t698 _ A22.out) ?_
        rintro w42 hb
        replace HO_5 := xRb HO_5 hb
        replace BK676 := xB BK676 hb
        replace BK680 := xB BK680 hb
        replace BK681 := xB BK681 hb
        replace BK683 := xB BK683 hb
        replace HB := xS HB hb
        clear hb
        refine hK.out _ _ xV (fun hHeld => ?_)
        clear hK K
        refine xN 31 ?_
        refine yO 5 (some 10) (b 7 63) fun K hK => ?_
        refine box_step ?hg (N := 10) ?hd (cs := #[.bool false, .string (⟨#[]⟩ : ByteArray), .string (⟨#[]⟩ : ByteArray)]) (t := 25) ?hr ?_; (case hd => rfl); (case hg => rfl); (case hr => (go_simp; done))
        intro gb699 hg w43 hbox hb
        replace HO_5 := Aside0.mk (Kd.R_below (Kd.R_elderB (xr HO_5.out) gb699 (Nat.le_of_eq hg.symm)) hb)
        have BK699 := Aside0.mk (hbox)
        have GW699 := (xG HB hg)
        have GE699 := (xG HB hg)
        replace HB := xS HB hb
        have NB676_699 := xL BK676 hg
        have NB699_676 := xR BK676 hg
        replace BK676 := xB BK676 hb
        have NB680_699 := xL BK680 hg
        have NB699_680 := xR BK680 hg
        replace BK680 := xB BK680 hb
        have NB681_699 := xL BK681 hg
        have NB699_681 := xR BK681 hg
        replace BK681 := xB BK681 hb
        have NB683_699 := xL BK683 hg
        have NB699_683 := xR BK683 hg
        replace BK683 := xB BK683 hb
        clear hb hbox hg
        refine hK.out _ _ xV (fun hHeld => ?_)
        clear hK K
        refine xN 10 ?_
        exact norm_ (by simp only [putAll, Act.put, List.setIfInBounds_toArray, List.set_cons_zero, List.set_cons_succ]) (hCont (gb699) _ ⟨hHeld, (by exact Kd.R_mono HO_5.out (fun _ hk => by exact ⟨hk.1.1, ⟨hk.1.2.1, ⟨hk.1.2.2.1, ⟨hk.1.2.2.2, hk.2⟩⟩⟩⟩)), (xb BK676), (xb BK680), (xb BK681), (xb BK683), (xb BK699), GW699.out, GE699.out, NB676_699.out, NB699_676.out, NB680_699.out, NB699_680.out, NB681_699.out, NB699_681.out, NB683_699.out, NB699_683.out, (xs HB)⟩)
       ·skip
        refine box_step ?hg (N := 10) ?hd (cs := #[.bool false, .string (⟨#[]⟩ : ByteArray), .string (⟨#[]⟩ : ByteArray)]) (t := 25) ?hr ?_; (case hd => rfl); (case hg => rfl); (case hr => (go_simp; done))
        intro gb699 hg w42 hbox hb
        replace HO_5 := Aside0.mk (Kd.R_below (Kd.R_elderB (xr HO_5.out) gb699 (Nat.le_of_eq hg.symm)) hb)
        have BK699 := Aside0.mk (hbox)
        have GW699 := (xG HB hg)
        have GE699 := (xG HB hg)
        replace HB := xS HB hb
        have NB676_699 := xL BK676 hg
        have NB699_676 := xR BK676 hg
        replace BK676 := xB BK676 hb
        have NB680_699 := xL BK680 hg
        have NB699_680 := xR BK680 hg
        replace BK680 := xB BK680 hb
        have NB681_699 := xL BK681 hg
        have NB699_681 := xR BK681 hg
        replace BK681 := xB BK681 hb
        have NB683_699 := xL BK683 hg
        have NB699_683 := xR BK683 hg
        replace BK683 := xB BK683 hb
        clear hb hbox hg
        refine hK.out _ _ xV (fun hHeld => ?_)
        clear hK K
        refine xN 10 ?_
        refine yO 4 (some 31) (b 7 63) fun K hK => ?_
        refine xc Tryd.func35 (guarantee_positive.calls k1 t693 t694 t695 t696 t697 t698 _ A22.out) ?_
        rintro w43 hb
        replace HO_5 := xRb HO_5 hb
        replace BK676 := xB BK676 hb
        replace BK680 := xB BK680 hb
        replace BK681 := xB BK681 hb
        replace BK683 := xB BK683 hb
        replace BK699 := xB BK699 hb
        replace HB := xS HB hb
        clear hb
        refine hK.out _ _ xV (fun hHeld => ?_)
        clear hK K
        refine xN 31 ?_
        exact norm_ (by simp only [putAll, Act.put, List.setIfInBounds_toArray, List.set_cons_zero, List.set_cons_succ]) (hCont (gb699) _ ⟨hHeld, (by exact Kd.R_mono HO_5.out (fun _ hk => by exact ⟨hk.1.1, ⟨hk.1.2.1, ⟨hk.1.2.2.1, ⟨hk.1.2.2.2, hk.2⟩⟩⟩⟩)), (xb BK676), (xb BK680), (xb BK681), (xb BK683), (xb BK699), GW699.out, GE699.out, NB676_699.out, NB699_676.out, NB680_699.out, NB699_680.out, NB681_699.out, NB699_681.out, NB683_699.out, NB699_683.out, (xs HB)⟩)
      ·skip
       refine box_step ?hg (N := 10) ?hd (cs := #[.bool false, .string (⟨#[]⟩ : ByteArray), .string (⟨#[]⟩ : ByteArray)]) (t := 25) ?hr ?_; (case hd => rfl); (case hg => rfl); (case hr => (go_simp; done))
       intro gb699 hg w41 hbox hb
       replace HO_5 := Aside0.mk (Kd.R_below (Kd.R_elderB (xr HO_5.out) gb699 (Nat.le_of_eq hg.symm)) hb)
       have BK699 := Aside0.mk (hbox)
       have GW699 := (xG HB hg)
       have GE699 := (xG HB hg)
       replace HB := xS HB hb
       have NB676_699 := xL BK676 hg
       have NB699_676 := xR BK676 hg
       replace BK676 := xB BK676 hb
       have NB680_699 := xL BK680 hg
       have NB699_680 := xR BK680 hg
       replace BK680 := xB BK680 hb
       have NB681_699 := xL BK681 hg
       have NB699_681 := xR BK681 hg
       replace BK681 := xB BK681 hb
       have NB683_699 := xL BK683 hg
       have NB699_683 := xR BK683 hg
       replace BK683 := xB BK683 hb
       clear hb hbox hg
       refine hK.out _ _ xV (fun hHeld => ?_)
       clear hK K
       refine xN 10 ?_
       refine yO 3 (some 30) (b 7 47) fun K hK => ?_
       refine xc Tryd.func36 (rational_Subtract.calls k1 t687 t688 t689 t690 t691 t692 t693 t694 t695 _ A21.out) ?_
       rintro w42 hb
       replace HO_5 := xRb HO_5 hb
       replace BK676 := xB BK676 hb
       replace BK680 := xB BK680 hb
       replace BK681 := xB BK681 hb
       replace BK683 := xB BK683 hb
       replace BK699 := xB BK699 hb
       replace HB := xS HB hb
       clear hb
       refine hK.out _ _ xV (fun hHeld => ?_)
       clear hK K
       refine xN 30 ?_
       refine yO 4 (some 31) (b 7 63) fun K hK => ?_
       refine xc Tryd.func35 (guarantee_positive.calls k1 t693 t694 t695 t696 t697 t698 _ A22.out) ?_
       rintro w43 hb
       replace HO_5 := xRb HO_5 hb
       replace BK676 := xB BK676 hb
       replace BK680 := xB BK680 hb
       replace BK681 := xB BK681 hb
       replace BK683 := xB BK683 hb
       replace BK699 := xB BK699 hb
       replace HB := xS HB hb
       clear hb
       refine hK.out _ _ xV (fun hHeld => ?_)
       clear hK K
       refine xN 31 ?_
       exact norm_ (by simp only [putAll, Act.put, List.setIfInBounds_toArray, List.set_cons_zero, List.set_cons_succ]) (hCont (gb699) _ ⟨hHeld, (by exact Kd.R_mono HO_5.out (fun _ hk => by exact ⟨hk.1.1, ⟨hk.1.2.1, ⟨hk.1.2.2.1, ⟨hk.1.2.2.2, hk.2⟩⟩⟩⟩)), (xb BK676), (xb BK680), (xb BK681), (xb BK683), (xb BK699), GW699.out, GE699.out, NB676_699.out, NB699_676.out, NB680_699.out, NB699_680.out, NB681_699.out, NB699_681.out, NB683_699.out, NB699_683.out, (xs HB)⟩)
     ·skip
      refine box_step ?hg (N := 10) ?hd (cs := #[.bool false, .string (⟨#[]⟩ : ByteArray), .string (⟨#[]⟩ : ByteArray)]) (t := 25) ?hr ?_; (case hd => rfl); (case hg => rfl); (case hr => (go_simp; done))
      intro gb699 hg w40 hbox hb
      replace HO_5 := Aside0.mk (Kd.R_below (Kd.R_elderB (xr HO_5.out) gb699 (Nat.le_of_eq hg.symm)) hb)
      have BK699 := Aside0.mk (hbox)
      have GW699 := (xG HB hg)
      have GE699 := (xG HB hg)
      replace HB := xS HB hb
      have NB676_699 := xL BK676 hg
      have NB699_676 := xR BK676 hg
      replace BK676 := xB BK676 hb
      have NB680_699 := xL BK680 hg
      have NB699_680 := xR BK680 hg
      replace BK680 := xB BK680 hb
      have NB681_699 := xL BK681 hg
      have NB699_681 := xR BK681 hg
      replace BK681 := xB BK681 hb
      have NB683_699 := xL BK683 hg
      have NB699_683 := xR BK683 hg
      replace BK683 := xB BK683 hb
      clear hb hbox hg
      refine hK.out _ _ xV (fun hHeld => ?_)
      clear hK K
      refine xN 10 ?_
      refine yO 2 (some 29) (b 7 39) fun K hK => ?_
      refine xc Tryd.func35 (guarantee_positive.calls k1 x677000_1 x677001_1 x677002_1 t690 t691 t692 _ A20.out) ?_
      rintro w41 hb
      replace HO_5 := xRb HO_5 hb
      replace BK676 := xB BK676 hb
      replace BK680 := xB BK680 hb
      replace BK681 := xB BK681 hb
      replace BK683 := xB BK683 hb
      replace BK699 := xB BK699 hb
      replace HB := xS HB hb
      clear hb
      refine hK.out _ _ xV (fun hHeld => ?_)
      clear hK K
      refine xN 29 ?_
      refine yO 3 (some 30) (b 7 47) fun K hK => ?_
      refine xc Tryd.func36 (rational_Subtract.calls k1 t687 t688 t689 t690 t691 t692 t693 t694 t695 _ A21.out) ?_
      rintro w42 hb
      replace HO_5 := xRb HO_5 hb
      replace BK676 := xB BK676 hb
      replace BK680 := xB BK680 hb
      replace BK681 := xB BK681 hb
      replace BK683 := xB BK683 hb
      replace BK699 := xB BK699 hb
      replace HB := xS HB hb
      clear hb
      refine hK.out _ _ xV (fun hHeld => ?_)
      clear hK K
      refine xN 30 ?_
      refine yO 4 (some 31) (b 7 63) fun K hK => ?_
      refine xc Tryd.func35 (guarantee_positive.calls k1 t693 t694 t695 t696 t697 t698 _ A22.out) ?_
      rintro w43 hb
      replace HO_5 := xRb HO_5 hb
      replace BK676 := xB BK676 hb
      replace BK680 := xB BK680 hb
      replace BK681 := xB BK681 hb
      replace BK683 := xB BK683 hb
      replace BK699 := xB BK699 hb
      replace HB := xS HB hb
      clear hb
      refine hK.out _ _ xV (fun hHeld => ?_)
      clear hK K
      refine xN 31 ?_
      exact norm_ (by simp only [putAll, Act.put, List.setIfInBounds_toArray, List.set_cons_zero, List.set_cons_succ]) (hCont (gb699) _ ⟨hHeld, (by exact Kd.R_mono HO_5.out (fun _ hk => by exact ⟨hk.1.1, ⟨hk.1.2.1, ⟨hk.1.2.2.1, ⟨hk.1.2.2.2, hk.2⟩⟩⟩⟩)), (xb BK676), (xb BK680), (xb BK681), (xb BK683), (xb BK699), GW699.out, GE699.out, NB676_699.out, NB699_676.out, NB680_699.out, NB699_680.out, NB681_699.out, NB699_681.out, NB683_699.out, NB699_683.out, (xs HB)⟩)
    rintro gb699 w44 ⟨hS_, h0_, h1_, h2_, h3_, h4_, h5_, h6_, h7_, h8_, h9_, h10_, h11_, h12_, h13_, h14_, h15_, h16_⟩
    have n0_ : Aside0 (Kd.R k25 25 w44 w.heap.size (fun k_ => k_ ≠ gb676 ∧ k_ ≠ gb680 ∧ k_ ≠ gb681 ∧ k_ ≠ gb683 ∧ k_ ≠ gb699) v678 x5_1) := ⟨h0_⟩
    have n1_ : Aside0 (w44.heap[gb676]? = some (.cells #[.bool x677000_1, .string x677001_1, .string x677002_1] 25 (0, 0))) := ⟨h1_⟩
    have n2_ : Aside0 (w44.heap[gb680]? = some (.cells #[.bool t687, .string t688, .string t689] 25 (0, 0))) := ⟨h2_⟩
    have n3_ : Aside0 (w44.heap[gb681]? = some (.cells #[.bool x682000_1, .string x682001_1, .string x682002_1] 25 (0, 0))) := ⟨h3_⟩
    have n4_ : Aside0 (w44.heap[gb683]? = some (.cells #[.bool ((rd_T25 l1 x18_1).f0), .string ((rd_T25 l1 x18_1).f1), .string ((rd_T25 l1 x18_1).f2)] 25 (0, 0))) := ⟨h4_⟩
    have n5_ : Aside0 (w44.heap[gb699]? = some (.cells #[.bool false, .string (⟨#[]⟩ : ByteArray), .string (⟨#[]⟩ : ByteArray)] 25 (0, 0))) := ⟨h5_⟩
    have n6_ : Aside0 (w.heap.size ≤ gb699) := ⟨h6_⟩
    have n7_ : Aside0 (w.heap.size ≤ gb699) := ⟨h7_⟩
    have n8_ : Aside0 (gb676 ≠ gb699) := ⟨h8_⟩
    have n9_ : Aside0 (gb699 ≠ gb676) := ⟨h9_⟩
    have n10_ : Aside0 (gb680 ≠ gb699) := ⟨h10_⟩
    have n11_ : Aside0 (gb699 ≠ gb680) := ⟨h11_⟩
    have n12_ : Aside0 (gb681 ≠ gb699) := ⟨h12_⟩
    have n13_ : Aside0 (gb699 ≠ gb681) := ⟨h13_⟩
    have n14_ : Aside0 (gb683 ≠ gb699) := ⟨h14_⟩
    have n15_ : Aside0 (gb699 ≠ gb683) := ⟨h15_⟩
    have n16_ : Aside0 (Below w.heap.size w w44) := ⟨h16_⟩
    clear HO_5
    clear BK676
    clear BK680
    clear BK681
    clear BK683
    clear HB
    clear h0_ h1_ h2_ h3_ h4_ h5_ h6_ h7_ h8_ h9_ h10_ h11_ h12_ h13_ h14_ h15_ h16_
    have HO_5 := n0_
    have BK676 := n1_
    have BK680 := n2_
    have BK681 := n3_
    have BK683 := n4_
    have BK699 := n5_
    have GW699 := n6_
    have GE699 := n7_
    have NB676_699 := n8_
    have NB699_676 := n9_
    have NB680_699 := n10_
    have NB699_680 := n11_
    have NB681_699 := n12_
    have NB699_681 := n13_
    have NB683_699 := n14_
    have NB699_683 := n15_
    have HB := n16_
    clear n0_ n1_ n2_ n3_ n4_ n5_ n6_ n7_ n8_ n9_ n10_ n11_ n12_ n13_ n14_ n15_ n16_
    have hHeld : w44.cell? ⟨gb680, 0, none⟩ = some (.bool t687) ∧ w44.cell? ⟨gb680, 1, none⟩ = some (.string t688) ∧ w44.cell? ⟨gb680, 2, none⟩ = some (.string t689) ∧ w44.cell? ⟨gb676, 0, none⟩ = some (.bool x677000_1) ∧ w44.cell? ⟨gb676, 1, none⟩ = some (.string x677001_1) ∧ w44.cell? ⟨gb676, 2, none⟩ = some (.string x677002_1) := hS_
    refine norm_ (a' := ?_) ?_ ?_
    rotate_left
    ·simp only [putAll, Act.put, List.setIfInBounds_toArray, List.set_cons_zero, List.set_cons_succ]
     rfl
    refine yO 6 none (b 7 127) fun K hK => ?_
    obtain ⟨hs45, hs46, hs47, hfs45, hfs46, hfs47⟩ := x6 BK699
    have hns45_0 := NB676_699.out
    have hns45_1 := NB680_699.out
    have hns45_2 := NB681_699.out
    have hns45_3 := NB683_699.out
    have hms45_0 := NB699_676.out
    have hms45_1 := NB699_680.out
    have hms45_2 := NB699_681.out
    have hms45_3 := NB699_683.out
    refine xk ?_
    refine hK.out _ _ ⟨((cell_far (p := ⟨gb699, _, none⟩) NB680_699.out _).trans ((cell_far (p := ⟨gb699, _, none⟩) NB680_699.out _).trans ((cell_far (p := ⟨gb699, _, none⟩) NB680_699.out _).trans (hHeld.1)))), ((cell_far (p := ⟨gb699, _, none⟩) NB680_699.out _).trans ((cell_far (p := ⟨gb699, _, none⟩) NB680_699.out _).trans ((cell_far (p := ⟨gb699, _, none⟩) NB680_699.out _).trans (hHeld.2.1)))), ((cell_far (p := ⟨gb699, _, none⟩) NB680_699.out _).trans ((cell_far (p := ⟨gb699, _, none⟩) NB680_699.out _).trans ((cell_far (p := ⟨gb699, _, none⟩) NB680_699.out _).trans (hHeld.2.2.1)))), ((cell_far (p := ⟨gb699, _, none⟩) NB676_699.out _).trans ((cell_far (p := ⟨gb699, _, none⟩) NB676_699.out _).trans ((cell_far (p := ⟨gb699, _, none⟩) NB676_699.out _).trans (hHeld.2.2.2.1)))), ((cell_far (p := ⟨gb699, _, none⟩) NB676_699.out _).trans ((cell_far (p := ⟨gb699, _, none⟩) NB676_699.out _).trans ((cell_far (p := ⟨gb699, _, none⟩) NB676_699.out _).trans (hHeld.2.2.2.2.1)))), ((cell_far (p := ⟨gb699, _, none⟩) NB676_699.out _).trans ((cell_far (p := ⟨gb699, _, none⟩) NB676_699.out _).trans ((cell_far (p := ⟨gb699, _, none⟩) NB676_699.out _).trans (hHeld.2.2.2.2.2))))⟩ (fun hHeld => ?_)
    clear hK K
    refine done_ (by kernel_rfl) ?_
    have hnb48 := NB699_676.out
    have hnc48 := NB676_699.out
    have hnb49 := NB699_680.out
    have hnc49 := NB680_699.out
    have hnb50 := NB699_681.out
    have hnc50 := NB681_699.out
    have hnb51 := NB699_683.out
    have hnc51 := NB683_699.out
    obtain ⟨hcz52_0, hcz52_1, hcz52_2, hfz52_0, hfz52_1, hfz52_2⟩ := x6 BK699
    have hnb53 := NB681_676.out
    have hnc53 := NB676_681.out
    have hnb54 := NB681_680.out
    have hnc54 := NB680_681.out
    obtain ⟨hcz55_0, hcz55_1, hcz55_2, hfz55_0, hfz55_1, hfz55_2⟩ := x6 BK681
    try go_wp2_with (first | (refine xC Tryd.func36 (some 36) (rational_Subtract.calls k1 t696 t697 t698 x682000_1 x682001_1 x682002_1 t700 t701 t702 _ A23.out) ?_; rintro w56 hb; replace HO_5 := Aside0.mk (Kd.R_below (by exact (Kd.R_mono (Kd.R_far (p := ⟨gb699, 2, none⟩) (Kd.R_far (p := ⟨gb699, 1, none⟩) (Kd.R_far (p := ⟨gb699, 0, none⟩) (Kd.R_mono HO_5.out (fun k_ hk => (⟨hk, hk.2.2.2.2⟩ : _ ∧ k_ ≠ gb699))) (fun _ hk => hk.2) (.bool t696)) (fun _ hk => hk.2) (.string t697)) (fun _ hk => hk.2) (.string t698)) (fun _ h_ => h_.1))) hb); replace BK676 := xB BK676 hb; replace BK680 := xB BK680 hb; replace BK681 := xB BK681 hb; replace BK683 := xB BK683 hb; replace BK699 := Aside0.mk (blk_below (g := gb699) (o := .cells #[.bool t696, .string t697, .string t698] 25 (0, 0)) (xp BK699) hb); replace HB := xS HB hb; clear hb; have p25 : 0 ≤ (x18_1 : Int) := xa; have q25 : (x18_1 : Int) < ((x5_1.length : Int) : Int) := xa; obtain ⟨go25, co25, eo25, gb25, gl25, cl25, HG25⟩ := Kd.R_form HO_5.out (by omega); (cases eo25); have GB25 := Aside0.mk gb25; have GG25 := Aside0.mk HG25; clear gb25 gl25 HG25; obtain ⟨ce25, hcl25, hM25, hcc25, hfr25⟩ := Kd.R_elem HO_5.out z25 (x18_1 : Int) p25 q25; obtain rfl := k25_openM hM25; have hx25_0 : w56.cell? ⟨go25, (x18_1 : Int).toNat * 3, none⟩ = some (.bool ((rd_T25 x5_1 x18_1).f0)) := hcc25 0 _ rfl; have hx25_1 : w56.cell? ⟨go25, (x18_1 : Int).toNat * 3 + 1, none⟩ = some (.string ((rd_T25 x5_1 x18_1).f1)) := hcc25 1 _ rfl; have hx25_2 : w56.cell? ⟨go25, (x18_1 : Int).toNat * 3 + 2, none⟩ = some (.string ((rd_T25 x5_1 x18_1).f2)) := hcc25 2 _ rfl; have hf25_0 : w56.frozen? ⟨go25, (x18_1 : Int).toNat * 3, none⟩ = false := hfr25 0; have hf25_1 : w56.frozen? ⟨go25, (x18_1 : Int).toNat * 3 + 1, none⟩ = false := hfr25 1; have hf25_2 : w56.frozen? ⟨go25, (x18_1 : Int).toNat * 3 + 2, none⟩ = false := hfr25 2; clear hcl25 hcc25 hfr25 hM25; replace p25 := eq_true p25; replace q25 := eq_true q25; have HX57 := Aside0.mk (show Kd.R k25 25 w56 w.heap.size (fun k_ => k_ ≠ gb676 ∧ k_ ≠ gb680 ∧ k_ ≠ gb681 ∧ k_ ≠ gb683 ∧ k_ ≠ gb699) (.slice (some ⟨go25, 0, none⟩) x5_1.length co25) x5_1 from (xr HO_5.out)); obtain ⟨ce57, hcl57, hM57, hcc57, hfr57⟩ := Kd.R_elem HX57.out z25 (x18_1 : Int) (xa) (by have h_ : (x18_1 : Int) < ((x5_1.length : Int) : Int) := xa; exact h_); obtain rfl := k25_openM hM57; have HP57 := Kd.R_seg HX57.out (x18_1 : Int) (xa) (by have h_ : (x18_1 : Int) < ((x5_1.length : Int) : Int) := xa; exact h_) (seg := [.bool t700, .string t701, .string t702]) (j := 0) hcl57 hcc57 (show 3 ≤ 3 from by decide) (x' := (⟨t700, t701, t702⟩ : S25)) (k25_mkM _ _ _ (⟨t700, t701, t702⟩ : S25) ) (fun _ hk => hk); have hx57_0 := hcc57 0 _ rfl; (try simp only [show (k25).sz = 3 from rfl, Nat.mul_one, Nat.add_zero] at hx57_0); have hf57_0 := hfr57 0; (try simp only [show (k25).sz = 3 from rfl, Nat.mul_one, Nat.add_zero] at hf57_0); have hx57_1 := hcc57 1 _ rfl; (try simp only [show (k25).sz = 3 from rfl, Nat.mul_one, Nat.add_zero] at hx57_1); have hf57_1 := hfr57 1; (try simp only [show (k25).sz = 3 from rfl, Nat.mul_one, Nat.add_zero] at hf57_1); have hx57_2 := hcc57 2 _ rfl; (try simp only [show (k25).sz = 3 from rfl, Nat.mul_one, Nat.add_zero] at hx57_2); have hf57_2 := hfr57 2; (try simp only [show (k25).sz = 3 from rfl, Nat.mul_one, Nat.add_zero] at hf57_2); clear hcl57 hcc57 hfr57 hM57) | (refine xst 25 37 (((w56.setCell ⟨go25, (x18_1 : Int).toNat * 3, none⟩ (.bool t700)).setCell ⟨go25, (x18_1 : Int).toNat * 3 + 1, none⟩ (.string t701)).setCell ⟨go25, (x18_1 : Int).toNat * 3 + 2, none⟩ (.string t702)) ?_; intro w58 hw; have hg : w56.grownBy w58 (some go25) := (by rw [hw]; exact HP57.2); have hp_ : Kd.R k25 25 w58 w.heap.size (fun k_ => k_ ≠ gb676 ∧ k_ ≠ gb680 ∧ k_ ≠ gb681 ∧ k_ ≠ gb683 ∧ k_ ≠ gb699) (.slice (some ⟨go25, 0, none⟩) x5_1.length co25) y703 := (by rw [hw, Ny703.out]; exact HP57.1); clear HP57; replace BK676 := xK BK676 hg (Kd.R_away HO_5.out (fun _ hk => hk.1)); replace BK680 := xK BK680 hg (Kd.R_away HO_5.out (fun _ hk => hk.2.1)); replace BK681 := xK BK681 hg (Kd.R_away HO_5.out (fun _ hk => hk.2.2.1)); replace BK683 := xK BK683 hg (Kd.R_away HO_5.out (fun _ hk => hk.2.2.2.1)); replace BK699 := xK BK699 hg (Kd.R_away HO_5.out (fun _ hk => hk.2.2.2.2)); replace HO_5 := Aside0.mk (hp_); replace HB := Aside0.mk (by rw [hw]; exact below_set (below_set (below_set (HB.out) GB25.out) GB25.out) GB25.out : Below w.heap.size w w58); clear hg hw hp_; obtain ⟨hcz59_0, hcz59_1, hcz59_2, hfz59_0, hfz59_1, hfz59_2⟩ := x6 BK699; obtain ⟨hcz60_0, hcz60_1, hcz60_2, hfz60_0, hfz60_1, hfz60_2⟩ := x6 BK681))
    go_roundg k1
    case measure => have := HK1.out; omega
    case rel => exact ⟨(y703), (wrap64 (x18_1 + 1)), (x677000_1), (x677001_1), (x677002_1), (t687), (t688), (t689), (t696), (t697), (t698), xz, H', ⟨by have := HK1.out; omega⟩, ⟨by exact Kd.R_mono (Kd.R_far (p := ⟨gb681, 2, none⟩) (Kd.R_far (p := ⟨gb681, 1, none⟩) (Kd.R_far (p := ⟨gb681, 0, none⟩) (Kd.R_mono HO_5.out (fun k_ hk => (⟨hk, hk.2.2.1⟩ : _ ∧ k_ ≠ gb681))) (fun _ hk => hk.2) (.bool t696)) (fun _ hk => hk.2) (.string t697)) (fun _ hk => hk.2) (.string t698)) (fun _ hk => ⟨hk.1.1, ⟨hk.1.2.1, hk.1.2.2.1⟩⟩)⟩, ⟨xb BK676⟩, ⟨xb BK680⟩, ⟨by refine blk_put (cs := #[.bool t696, .string t697, .string x682002_1]) ?_ 2 _ (by rfl); refine blk_put (cs := #[.bool t696, .string x682001_1, .string x682002_1]) ?_ 1 _ (by rfl); refine blk_put (cs := #[.bool x682000_1, .string x682001_1, .string x682002_1]) ?_ 0 _ (by rfl); exact BK681.out⟩, ⟨xs HB⟩⟩
   obtain rfl := Option.some.inj H
   go_wp2
   go_ret
   exact ⟨_, xy, by exact Kd.R_mono HO_5.out (fun _ hk => trivial), xs HB⟩
/-! ### natural_FromUint: function 87 -/
def natural_FromUint.f (k : Nat) (a0 : Int) : Option (ByteArray) := (natural_limbs_text.f k ([(a0) % 4294967296, (a0 / 4294967296) % 4294967296] : List Int)).bind fun t712 => (some t712)
theorem natural_FromUint.mono : ∀ a0 k, LeO (natural_FromUint.f k a0) (natural_FromUint.f (k + 1) a0) := by
 intro a0 k
 unfold natural_FromUint.f
 have m0 := @natural_limbs_text.mono; exact xM
theorem natural_FromUint.calls (k : Nat) (a0 : Int) (r : ByteArray) (w : World) (h : natural_FromUint.f k a0 = some r) :
  Calls Tryd.prog 87 #[.int .u64 a0] w fun e w' => e = .returned (.string r) ∧ Below w.heap.size w w' := by
 have HB := Aside0.mk (Below.refl w.heap.size w)
 have H := h; clear h
 unfold natural_FromUint.f at H
 generalize hy709 : (([(a0) % 4294967296, (a0 / 4294967296) % 4294967296] : List Int) : List Int) = y709 at H
 have Ny709 := Aside0.mk hy709.symm
 clear hy709
 replace H := xH H; obtain ⟨t712, A2, H⟩ := H
 obtain rfl := Option.some.inj H
 go_enter Tryd.func87, Tryd.ntmps87
 go_wp2_with (first | ((with_reducible refine gate_dst (N := 8) rfl ?_); refine Kd.R_lit (Kd.int .u32) _ 85 ?hg (N := 8) ?hd (xs := ([(a0) % 4294967296, (a0 / 4294967296) % 4294967296] : List Int)) (inner := [.int .u32 ((a0) % 4294967296), .int .u32 ((a0 / 4294967296) % 4294967296)]) (ok := fun _ => True) (okp := fun _ => True) ?hr ?hp (fun _ hk => hk) trivial (Below.refl _ _) (Nat.le_refl _) (by simp) ?_; (case hd => rfl); (case hg => rfl); (case hr => (go_simp; done)); (case hp => exact (Reps.one (show Kd.M (Kd.int .u32) _ _ _ ((a0) % 4294967296) [.int .u32 ((a0) % 4294967296)] from rfl) (Reps.one (show Kd.M (Kd.int .u32) _ _ _ ((a0 / 4294967296) % 4294967296) [.int .u32 ((a0 / 4294967296) % 4294967296)] from rfl) (Reps.none _ _)))); intro v710 w3 ho4 hb hg_ hnew_; clear hg_ hnew_; (rw [← Ny709.out] at ho4); have HO711 := Aside0.mk (Kd.R_lower ho4 (below_size (xs HB))); replace HB := xS HB hb; clear hb ho4; obtain ⟨Ao5, co5, eo5⟩ := Kd.R_slice HO711.out; subst eo5) | (refine xg Tryd.func78 (some 9) #[.slice Ao5 y709.length co5] ?_; (with_reducible refine (natural_limbs_text.calls k _ _ y709 t712 _ ?side1 ?side2 A2.out).mono ?_); (case side1 => repeat (exact (Kd.R_reads' HO711.out).2.2)); (case side2 => exact (Kd.R_reads' HO711.out).2.1); rintro e w6 ⟨rfl, hb⟩; refine ⟨_, rfl, ?_⟩; replace HO711 := xRb HO711 hb; replace HB := xS HB hb; clear hb))
 go_ret
 exact ⟨xy, xs HB⟩
/-! ### rational_magnitude: function 63 -/
def rational_magnitude.f (k : Nat) (a0 : Int) : Option (ByteArray) := if a0 < 0 then ((natural_FromUint.f k (IntKind.u64.wrap (-(IntKind.u64.wrap (a0))))).bind fun t713 => (some t713)) else ((natural_FromUint.f k (IntKind.u64.wrap (a0))).bind fun t714 => (some t714))
theorem rational_magnitude.mono : ∀ a0 k, LeO (rational_magnitude.f k a0) (rational_magnitude.f (k + 1) a0) := by
 intro a0 k
 unfold rational_magnitude.f
 have m0 := @natural_FromUint.mono; exact xM
theorem rational_magnitude.calls (k : Nat) (a0 : Int) (r : ByteArray) (w : World) (h : rational_magnitude.f k a0 = some r) :
  Calls Tryd.prog 63 #[.int .i64 a0] w fun e w' => e = .returned (.string r) ∧ Below w.heap.size w w' := by
 have HB := Aside0.mk (Below.refl w.heap.size w)
 have H := h; clear h
 unfold rational_magnitude.f at H
 obtain ⟨c2b0, H⟩ | ⟨c2b0, H⟩ := xOd H
 ·replace H := xH H; obtain ⟨t713, A3, H⟩ := H
  obtain rfl := Option.some.inj H
  go_enter Tryd.func63, Tryd.ntmps63
  go_wp2_with (refine xC Tryd.func87 (some 8) (natural_FromUint.calls k (IntKind.u64.wrap (-(IntKind.u64.wrap (a0)))) t713 _ A3.out) ?_; rintro w4 hb; replace HB := xS HB hb; clear hb)
  go_ret
  exact ⟨xy, xs HB⟩
 replace H := xH H; obtain ⟨t714, A5, H⟩ := H
 obtain rfl := Option.some.inj H
 go_enter Tryd.func63, Tryd.ntmps63
 go_wp2_with (refine xC Tryd.func87 (some 11) (natural_FromUint.calls k (IntKind.u64.wrap (a0)) t714 _ A5.out) ?_; rintro w6 hb; replace HB := xS HB hb; clear hb)
 go_ret
 exact ⟨xy, xs HB⟩
/-! ### rational_Int: function 39 -/
def rational_Int.f (k : Nat) (a0 : Int) : Option (Bool × ByteArray × ByteArray) := (rational_magnitude.f k a0).bind fun t716 => ((rational_reduced.f k (decide (a0 < 0)) t716 (⟨#[1]⟩ : ByteArray)).bind fun bt717 => (some (bt717.1, bt717.2.1, bt717.2.2)))
theorem rational_Int.mono : ∀ a0 k, LeO (rational_Int.f k a0) (rational_Int.f (k + 1) a0) := by
 intro a0 k
 unfold rational_Int.f
 have m0 := @rational_magnitude.mono; have m1 := @rational_reduced.mono; exact xM
theorem rational_Int.calls (k : Nat) (a0 : Int) (r1 : Bool) (r2 : ByteArray) (r3 : ByteArray) (w : World) (h : rational_Int.f k a0 = some (r1, r2, r3)) :
  Calls Tryd.prog 39 #[.int .i64 a0] w fun e w' => e = .returned (.agg #[.bool r1, .string r2, .string r3]) ∧ Below w.heap.size w w' := by
 have hu25 := Tryd.underlying25
 have HB := Aside0.mk (Below.refl w.heap.size w)
 have H := h; clear h
 unfold rational_Int.f at H
 replace H := xH H; obtain ⟨t716, A2, H⟩ := H
 replace H := xH H; obtain ⟨⟨t717, t718, t719⟩, A3, H⟩ := H
 dsimp only at H
 simp only [Option.some.injEq, Prod.mk.injEq] at H
 obtain ⟨rfl, rfl, rfl⟩ := H
 go_enter Tryd.func39, Tryd.ntmps39
 go_wp2_with (first | (refine xF (N := 2) #[.bool false, .string (⟨#[]⟩ : ByteArray), .string (⟨#[]⟩ : ByteArray)] 25 HB ?_; clear HB; intro gb715 hg w4 hb BK715 GW715 HB; clear hb hg) | (refine xC Tryd.func63 (some 6) (rational_magnitude.calls k a0 t716 _ A2.out) ?_; rintro w5 hb; replace BK715 := xB BK715 hb; replace HB := xS HB hb; clear hb) | (refine xC Tryd.func52 (some 7) (rational_reduced.calls k (decide (a0 < 0)) t716 (⟨#[1]⟩ : ByteArray) t717 t718 t719 _ A3.out) ?_; rintro w6 hb; replace BK715 := xB BK715 hb; replace HB := xS HB hb; clear hb; obtain ⟨hcz7_0, hcz7_1, hcz7_2, hfz7_0, hfz7_1, hfz7_2⟩ := x6 BK715))
 refine bodyPost_ret (results_cell_row rfl _ _ gb715 25 #[.bool t717, .string t718, .string t719] (0, 0) _ rfl (xp BK715) Tryd.underlying25 rfl (by kernel_rfl)) rfl ?_
 exact ⟨xy, xs HB⟩
section
attribute [local go_sem high] eqA25
/-! ### insolvencylaw18_awake: function 14 -/
def insolvencylaw18_awake.f (k : Nat)  : Option (Bool) := (rational_Int.f k 100).bind fun bt720 => ((rational_Int.f k 70).bind fun bt723 => ((rational_Int.f k 50).bind fun bt726 => ((rational_Int.f k 20).bind fun bt729 => ((guarantee_Refunds.f k bt720.1 bt720.2.1 bt720.2.2 ([(⟨bt723.1, bt723.2.1, bt723.2.2⟩ : S25), (⟨bt726.1, bt726.2.1, bt726.2.2⟩ : S25), (⟨bt729.1, bt729.2.1, bt729.2.2⟩ : S25)] : List (S25))).bind fun t735 => (if (t735.length : Int) = 3 then (if 0 < (t735.length : Int) then ((rational_Int.f k 0).bind fun bt739 => (if (((rd_T25 t735 0).f0) == bt739.1 && ((((rd_T25 t735 0).f1).toList) == bt739.2.1.toList && ((((rd_T25 t735 0).f2).toList) == bt739.2.2.toList))) = true then (if 1 < (t735.length : Int) then ((rational_Int.f k 20).bind fun bt743 => (if (((rd_T25 t735 1).f0) == bt743.1 && ((((rd_T25 t735 1).f1).toList) == bt743.2.1.toList && ((((rd_T25 t735 1).f2).toList) == bt743.2.2.toList))) = true then (if 2 < (t735.length : Int) then ((rational_Int.f k 20).bind fun bt747 => (some (((rd_T25 t735 2).f0) == bt747.1 && ((((rd_T25 t735 2).f1).toList) == bt747.2.1.toList && ((((rd_T25 t735 2).f2).toList) == bt747.2.2.toList))))) else (none)) else (some false))) else (none)) else (some false))) else (none)) else (some false))))))
theorem insolvencylaw18_awake.mono : ∀ k, LeO (insolvencylaw18_awake.f k ) (insolvencylaw18_awake.f (k + 1) ) := by
 intro  k
 unfold insolvencylaw18_awake.f
 have m0 := @guarantee_Refunds.mono; have m1 := @rational_Int.mono; exact xM
def insolvencylaw18_awake.T2 : Bool × List (List Nat × List Nat) := (true, [([], []), ([0], [0]), ([1], [1]), ([2], [2]), ([3], [3]), ([4, 3], [3, 4]), ([5, 3], [3, 5]), ([3, 3], [3]), ([6, 7, 3], [3, 6, 7]), ([3, 8], [3, 8]), ([9, 7], [9]), ([10], [10]), ([11, 10], [10, 11]), ([12, 10], [10, 12]), ([10, 10], [10]), ([13, 14, 10], [10, 13, 14]), ([10, 15], [10, 15]), ([16, 14], [16]), ([17], [17]), ([18, 17], [17, 18]), ([19, 17], [17, 19]), ([17, 17], [17]), ([20, 21, 17], [17, 20, 21]), ([17, 22], [17, 22]), ([23, 21, 0, 1, 2, 3, 4, 5, 6, 7, 8, 9, 10, 11, 12, 13, 14, 15, 16, 17, 18, 19, 20, 21, 22, 23], [23])])
def insolvencylaw18_awake.B2 : List Nat := [0, 1, 3, 7, 15, 31, 63, 15, 255, 511, 1023, 2047, 4095, 8191, 2047, 32767, 65535, 131071, 262143, 524287, 1048575, 262143, 4194303, 8388607, 16777215]
theorem insolvencylaw18_awake.tab2 : rtab .any (opsOf Tryd.f14 2) = insolvencylaw18_awake.T2 := by kernel_rfl
theorem insolvencylaw18_awake.bits2 : waitsOk insolvencylaw18_awake.T2.2 insolvencylaw18_awake.B2 = true := by kernel_rfl
theorem insolvencylaw18_awake.calls (k : Nat)  (r : Bool) (w : World) (h : insolvencylaw18_awake.f k  = some r) :
  Calls Tryd.prog 14 #[] w fun e w' => e = .returned (.bool r) ∧ Below w.heap.size w w' := by
 have hu25 := Tryd.underlying25
 have HB := Aside0.mk (Below.refl w.heap.size w)
 have H := h; clear h
 unfold insolvencylaw18_awake.f at H
 replace H := xH H; obtain ⟨⟨t720, t721, t722⟩, A1, H⟩ := H
 dsimp only at H
 replace H := xH H; obtain ⟨⟨t723, t724, t725⟩, A2, H⟩ := H
 dsimp only at H
 replace H := xH H; obtain ⟨⟨t726, t727, t728⟩, A3, H⟩ := H
 dsimp only at H
 replace H := xH H; obtain ⟨⟨t729, t730, t731⟩, A4, H⟩ := H
 dsimp only at H
 generalize hy732 : (([(⟨t723, t724, t725⟩ : S25), (⟨t726, t727, t728⟩ : S25), (⟨t729, t730, t731⟩ : S25)] : List (S25)) : List (S25)) = y732 at H
 have Ny732 := Aside0.mk hy732.symm
 clear hy732
 replace H := xH H; obtain ⟨t735, A5, H⟩ := H
 obtain ⟨c6, H⟩ | ⟨c6, H⟩ := xO H
 ·have c6b0 := beq_iff_eq.mpr c6
  have c6b1 := bne_eq_false_iff_eq.mpr c6
  clear c6
  obtain ⟨c7, H⟩ := xQ H
  have c7b0 := decide_eq_true c7
  have c7b1 : decide (0 < t735.length) = true := decide_eq_true (by omega)
  clear c7
  replace H := xH H; obtain ⟨⟨t739, t740, t741⟩, A8, H⟩ := H
  dsimp only at H
  obtain ⟨c9, H⟩ | ⟨c9, H⟩ := xO H
  ·have c9b0 : (((rd_T25 t735 0).f0) == t739 && ((((rd_T25 t735 0).f1).toList) == t740.toList && ((((rd_T25 t735 0).f2).toList) == t741.toList))) = true := c9
   (try (have c9b1 : decide (((rd_T25 t735 0).f0) = t739 && ((((rd_T25 t735 0).f1).toList) == t740.toList && ((((rd_T25 t735 0).f2).toList) == t741.toList))) = true := by simpa using c9))
   (try (have c9b2 : (((rd_T25 t735 0).f0) == t739 && ((((rd_T25 t735 0).f1).toList) == t740.toList && ((((rd_T25 t735 0).f2).toList) == t741.toList))) = true := by simpa using c9))
   clear c9
   obtain ⟨c10, H⟩ := xQ H
   have c10b0 := decide_eq_true c10
   have c10b1 : decide (1 < t735.length) = true := decide_eq_true (by omega)
   clear c10
   replace H := xH H; obtain ⟨⟨t743, t744, t745⟩, A11, H⟩ := H
   dsimp only at H
   obtain ⟨c12, H⟩ | ⟨c12, H⟩ := xO H
   ·have c12b0 : (((rd_T25 t735 1).f0) == t743 && ((((rd_T25 t735 1).f1).toList) == t744.toList && ((((rd_T25 t735 1).f2).toList) == t745.toList))) = true := c12
    (try (have c12b1 : decide (((rd_T25 t735 1).f0) = t743 && ((((rd_T25 t735 1).f1).toList) == t744.toList && ((((rd_T25 t735 1).f2).toList) == t745.toList))) = true := by simpa using c12))
    (try (have c12b2 : (((rd_T25 t735 1).f0) == t743 && ((((rd_T25 t735 1).f1).toList) == t744.toList && ((((rd_T25 t735 1).f2).toList) == t745.toList))) = true := by simpa using c12))
    clear c12
    obtain ⟨c13, H⟩ := xQ H
    have c13b0 := decide_eq_true c13
    have c13b1 : decide (2 < t735.length) = true := decide_eq_true (by omega)
    clear c13
    replace H := xH H; obtain ⟨⟨t747, t748, t749⟩, A14, H⟩ := H
    dsimp only at H
    obtain rfl := Option.some.inj H
    go_enter Tryd.func14, Tryd.ntmps14
    try go_wp2_with (first | (refine xC Tryd.func39 (some 2) (rational_Int.calls k 100 t720 t721 t722 _ A1.out) ?_; rintro w15 hb; replace HB := xS HB hb; clear hb) | (refine xC Tryd.func39 (some 3) (rational_Int.calls k 70 t723 t724 t725 _ A2.out) ?_; rintro w16 hb; replace HB := xS HB hb; clear hb) | (refine xC Tryd.func39 (some 4) (rational_Int.calls k 50 t726 t727 t728 _ A3.out) ?_; rintro w17 hb; replace HB := xS HB hb; clear hb) | (refine xC Tryd.func39 (some 5) (rational_Int.calls k 20 t729 t730 t731 _ A4.out) ?_; rintro w18 hb; replace HB := xS HB hb; clear hb) | ((with_reducible refine gate_dst (N := 6) rfl ?_); refine Kd.R_lit k25 _ 25 ?hg (N := 6) ?hd (xs := ([(⟨t723, t724, t725⟩ : S25), (⟨t726, t727, t728⟩ : S25), (⟨t729, t730, t731⟩ : S25)] : List (S25))) (inner := [.bool t723, .string t724, .string t725, .bool t726, .string t727, .string t728, .bool t729, .string t730, .string t731]) (ok := fun _ => True) (okp := fun _ => True) ?hr ?hp (fun _ hk => hk) trivial (Below.refl _ _) (Nat.le_refl _) (by simp) ?_; (case hd => rfl); (case hg => rfl); (case hr => (go_simp; done)); (case hp => exact (Reps.c3 (show Kd.M k25 _ _ _ (⟨t723, t724, t725⟩ : S25) [.bool t723, .string t724, .string t725] from (k25_mkM _ _ _ (⟨t723, t724, t725⟩ : S25) )) (Reps.c3 (show Kd.M k25 _ _ _ (⟨t726, t727, t728⟩ : S25) [.bool t726, .string t727, .string t728] from (k25_mkM _ _ _ (⟨t726, t727, t728⟩ : S25) )) (Reps.c3 (show Kd.M k25 _ _ _ (⟨t729, t730, t731⟩ : S25) [.bool t729, .string t730, .string t731] from (k25_mkM _ _ _ (⟨t729, t730, t731⟩ : S25) )) (Reps.none _ _))))); intro v733 w19 ho20 hb hg_ hnew_; clear hg_ hnew_; (rw [← Ny732.out] at ho20); have HO734 := Aside0.mk (Kd.R_lower ho20 (below_size (xs HB))); replace HB := xS HB hb; clear hb ho20; obtain ⟨Ao21, co21, eo21⟩ := Kd.R_slice HO734.out; subst eo21) | (refine xg Tryd.func12 (some 7) #[.agg #[.bool t720, .string t721, .string t722], .slice Ao21 y732.length co21] ?_; (with_reducible refine (guarantee_Refunds.calls k t720 t721 t722 _ _ y732 t735 _ ?side1 ?side2 A5.out).mono ?_); (case side1 => repeat (exact (Kd.R_reads' HO734.out).2.2)); (case side2 => exact (Kd.R_reads' HO734.out).2.1); rintro e w22 ⟨v736, rfl, ho0, hb⟩; refine ⟨_, rfl, ?_⟩; have HO737 := Aside0.mk (Kd.R_lower (Kd.R_new' ho0 (Kd.R_lt (xr HO734.out))) (below_size (xs HB))); replace HO734 := Aside0.mk (Kd.R_elder' (xr HO734.out) (Kd.R_base ho0) hb); replace HB := xS HB hb; clear hb ho0))
    replace HO734 := Aside0.mk (Kd.R_drew HO734.out)
    replace HO737 := Aside0.mk (Kd.R_drew HO737.out)
    replace HB := xW HB
    obtain ⟨Ao24, co24, eo24⟩ := Kd.R_slice HO737.out
    subst eo24
    have p738 : 0 ≤ (0 : Int) := (by omega)
    have q738 : 0 < (t735.length : Int) := xa
    obtain ⟨ad738, e738, hx738_0, hx738_1, hx738_2⟩ := at_T25 (Kd.R_reads' HO737.out).2.2 0 p738 q738
    cases e738
    have qi738 : (0 < t735.length) = True := eq_true (by omega)
    (try rw [show (0 : Int).toNat = 0 from rfl] at hx738_0)
    (try rw [show 0 * 3 = 0 from rfl] at hx738_0)
    (try rw [Addr.add_zero'] at hx738_0)
    (try rw [show (0 : Int).toNat = 0 from rfl] at hx738_1)
    (try rw [show 0 * 3 = 0 from rfl] at hx738_1)
    (try rw [Addr.add_zero'] at hx738_1)
    (try rw [show (0 : Int).toNat = 0 from rfl] at hx738_2)
    (try rw [show 0 * 3 = 0 from rfl] at hx738_2)
    (try rw [Addr.add_zero'] at hx738_2)
    replace p738 := eq_true p738
    replace q738 := eq_true q738
    have p742 : 0 ≤ (1 : Int) := (by omega)
    have q742 : 1 < (t735.length : Int) := xa
    obtain ⟨ad742, e742, hx742_0, hx742_1, hx742_2⟩ := at_T25 (Kd.R_reads' HO737.out).2.2 1 p742 q742
    obtain rfl : ad738 = ad742 := (by injection e742)
    (try simp only [show (1 : Int).toNat = 1 from rfl, Nat.reduceMul, Nat.reduceEqDiff, Go.Addr.add, ↓reduceIte] at hx742_0)
    (try simp only [show (1 : Int).toNat = 1 from rfl, Nat.reduceMul, Nat.reduceEqDiff, Go.Addr.add, ↓reduceIte] at hx742_1)
    (try simp only [show (1 : Int).toNat = 1 from rfl, Nat.reduceMul, Nat.reduceEqDiff, Go.Addr.add, ↓reduceIte] at hx742_2)
    have qi742 : (1 < t735.length) = True := eq_true (by omega)
    replace p742 := eq_true p742
    replace q742 := eq_true q742
    have p746 : 0 ≤ (2 : Int) := (by omega)
    have q746 : 2 < (t735.length : Int) := xa
    obtain ⟨ad746, e746, hx746_0, hx746_1, hx746_2⟩ := at_T25 (Kd.R_reads' HO737.out).2.2 2 p746 q746
    obtain rfl : ad738 = ad746 := (by injection e746)
    (try simp only [show (2 : Int).toNat = 2 from rfl, Nat.reduceMul, Nat.reduceEqDiff, Go.Addr.add, ↓reduceIte] at hx746_0)
    (try simp only [show (2 : Int).toNat = 2 from rfl, Nat.reduceMul, Nat.reduceEqDiff, Go.Addr.add, ↓reduceIte] at hx746_1)
    (try simp only [show (2 : Int).toNat = 2 from rfl, Nat.reduceMul, Nat.reduceEqDiff, Go.Addr.add, ↓reduceIte] at hx746_2)
    have qi746 : (2 < t735.length) = True := eq_true (by omega)
    replace p746 := eq_true p746
    replace q746 := eq_true q746
    refine start_ (n := 25) (S := fun w' => w'.cell? ad738 = some (.bool ((rd_T25 t735 0).f0)) ∧ w'.cell? ⟨ad738.block, ad738.off + 1, none⟩ = some (.string ((rd_T25 t735 0).f1)) ∧ w'.cell? ⟨ad738.block, ad738.off + 2, none⟩ = some (.string ((rd_T25 t735 0).f2)) ∧ w'.cell? ⟨ad738.block, ad738.off + 3, none⟩ = some (.bool ((rd_T25 t735 1).f0)) ∧ w'.cell? ⟨ad738.block, ad738.off + 3 + 1, none⟩ = some (.string ((rd_T25 t735 1).f1)) ∧ w'.cell? ⟨ad738.block, ad738.off + 3 + 2, none⟩ = some (.string ((rd_T25 t735 1).f2)) ∧ w'.cell? ⟨ad738.block, ad738.off + 6, none⟩ = some (.bool ((rd_T25 t735 2).f0)) ∧ w'.cell? ⟨ad738.block, ad738.off + 6 + 1, none⟩ = some (.string ((rd_T25 t735 2).f1)) ∧ w'.cell? ⟨ad738.block, ad738.off + 6 + 2, none⟩ = some (.string ((rd_T25 t735 2).f2))) (ds := []) (b 25 0) (by kernel_rfl) rfl rfl ⟨hx738_0, hx738_1, hx738_2, hx742_0, hx742_1, hx742_2, hx746_0, hx746_1, hx746_2⟩ (fun hHeld => ?_); refine with_tabW insolvencylaw18_awake.tab2 insolvencylaw18_awake.bits2 (fun HT_ HW_ => ?_)
    generalize w22.drew = w23 at HO734 HO737 HB hx738_0 hx738_1 hx738_2 hx742_0 hx742_1 hx742_2 hx746_0 hx746_1 hx746_2 hHeld ⊢
    refine yP 0 (some 8) (b 25 1) ?_
    refine yP 1 (some 9) (b 25 3) ?_
    refine yP 2 (some 10) (b 25 7) ?_
    refine yP 3 (some 11) (b 25 15) ?_
    refine yP 4 (some 12) (b 25 31) ?_
    refine yP 5 (some 13) (b 25 63) ?_
    refine yT 6 (some 14) (b 25 127) hHeld ?_
    refine yO 7 (some 15) (b 25 255) fun K hK => ?_
    refine goes_ Tryd.func39 (by kernel_rfl) rfl #[.int .i64 0] (by rfl) rfl rfl (by (try simp only [List.map_toArray, List.map_cons, List.map_nil]); rfl) ?_
    with_reducible refine (rational_Int.calls k 0 t739 t740 t741 _ A8.out).mono ?_
    rintro e w25 ⟨rfl, hb⟩
    have HS0_ := (hb.cell (World.block_lt_of_cell? _ _ (hHeld.1))).trans (hHeld.1)
    have HS1_ := (hb.cell (World.block_lt_of_cell? _ _ (hHeld.2.1))).trans (hHeld.2.1)
    have HS2_ := (hb.cell (World.block_lt_of_cell? _ _ (hHeld.2.2.1))).trans (hHeld.2.2.1)
    have HS3_ := (hb.cell (World.block_lt_of_cell? _ _ (hHeld.2.2.2.1))).trans (hHeld.2.2.2.1)
    have HS4_ := (hb.cell (World.block_lt_of_cell? _ _ (hHeld.2.2.2.2.1))).trans (hHeld.2.2.2.2.1)
    have HS5_ := (hb.cell (World.block_lt_of_cell? _ _ (hHeld.2.2.2.2.2.1))).trans (hHeld.2.2.2.2.2.1)
    have HS6_ := (hb.cell (World.block_lt_of_cell? _ _ (hHeld.2.2.2.2.2.2.1))).trans (hHeld.2.2.2.2.2.2.1)
    have HS7_ := (hb.cell (World.block_lt_of_cell? _ _ (hHeld.2.2.2.2.2.2.2.1))).trans (hHeld.2.2.2.2.2.2.2.1)
    have HS8_ := (hb.cell (World.block_lt_of_cell? _ _ (hHeld.2.2.2.2.2.2.2.2))).trans (hHeld.2.2.2.2.2.2.2.2)
    refine ⟨_, rfl, ?_⟩
    replace HO734 := xRb HO734 hb
    replace HO737 := xRb HO737 hb
    replace HB := xS HB hb
    clear hb
    refine hK.out _ _ ⟨HS0_, HS1_, HS2_, HS3_, HS4_, HS5_, HS6_, HS7_, HS8_⟩ (fun hHeld => ?_)
    clear hK K
    refine xN 15 ?_
    refine yP 8 (some 16) (b 25 511) ?_
    refine yP 9 (some 17) (b 25 1023) ?_
    refine yP 10 (some 18) (b 25 2047) ?_
    refine yP 11 (some 19) (b 25 4095) ?_
    refine yP 12 (some 20) (b 25 8191) ?_
    refine yT 13 (some 21) (b 25 16383) hHeld ?_
    refine yO 14 (some 22) (b 25 32767) fun K hK => ?_
    refine goes_ Tryd.func39 (by kernel_rfl) rfl #[.int .i64 20] (by rfl) rfl rfl (by (try simp only [List.map_toArray, List.map_cons, List.map_nil]); rfl) ?_
    with_reducible refine (rational_Int.calls k 20 t743 t744 t745 _ A11.out).mono ?_
    rintro e w26 ⟨rfl, hb⟩
    have HS0_ := (hb.cell (World.block_lt_of_cell? _ _ (hHeld.1))).trans (hHeld.1)
    have HS1_ := (hb.cell (World.block_lt_of_cell? _ _ (hHeld.2.1))).trans (hHeld.2.1)
    have HS2_ := (hb.cell (World.block_lt_of_cell? _ _ (hHeld.2.2.1))).trans (hHeld.2.2.1)
    have HS3_ := (hb.cell (World.block_lt_of_cell? _ _ (hHeld.2.2.2.1))).trans (hHeld.2.2.2.1)
    have HS4_ := (hb.cell (World.block_lt_of_cell? _ _ (hHeld.2.2.2.2.1))).trans (hHeld.2.2.2.2.1)
    have HS5_ := (hb.cell (World.block_lt_of_cell? _ _ (hHeld.2.2.2.2.2.1))).trans (hHeld.2.2.2.2.2.1)
    have HS6_ := (hb.cell (World.block_lt_of_cell? _ _ (hHeld.2.2.2.2.2.2.1))).trans (hHeld.2.2.2.2.2.2.1)
    have HS7_ := (hb.cell (World.block_lt_of_cell? _ _ (hHeld.2.2.2.2.2.2.2.1))).trans (hHeld.2.2.2.2.2.2.2.1)
    have HS8_ := (hb.cell (World.block_lt_of_cell? _ _ (hHeld.2.2.2.2.2.2.2.2))).trans (hHeld.2.2.2.2.2.2.2.2)
    refine ⟨_, rfl, ?_⟩
    replace HO734 := xRb HO734 hb
    replace HO737 := xRb HO737 hb
    replace HB := xS HB hb
    clear hb
    refine hK.out _ _ ⟨HS0_, HS1_, HS2_, HS3_, HS4_, HS5_, HS6_, HS7_, HS8_⟩ (fun hHeld => ?_)
    clear hK K
    refine xN 22 ?_
    refine yP 15 (some 23) (b 25 65535) ?_
    refine yP 16 (some 24) (b 25 131071) ?_
    refine yP 17 (some 25) (b 25 262143) ?_
    refine yP 18 (some 26) (b 25 524287) ?_
    refine yP 19 (some 27) (b 25 1048575) ?_
    refine yT 20 (some 28) (b 25 2097151) hHeld ?_
    refine yO 21 (some 29) (b 25 4194303) fun K hK => ?_
    refine goes_ Tryd.func39 (by kernel_rfl) rfl #[.int .i64 20] (by rfl) rfl rfl (by (try simp only [List.map_toArray, List.map_cons, List.map_nil]); rfl) ?_
    with_reducible refine (rational_Int.calls k 20 t747 t748 t749 _ A14.out).mono ?_
    rintro e w27 ⟨rfl, hb⟩
    have HS0_ := (hb.cell (World.block_lt_of_cell? _ _ (hHeld.1))).trans (hHeld.1)
    have HS1_ := (hb.cell (World.block_lt_of_cell? _ _ (hHeld.2.1))).trans (hHeld.2.1)
    have HS2_ := (hb.cell (World.block_lt_of_cell? _ _ (hHeld.2.2.1))).trans (hHeld.2.2.1)
    have HS3_ := (hb.cell (World.block_lt_of_cell? _ _ (hHeld.2.2.2.1))).trans (hHeld.2.2.2.1)
    have HS4_ := (hb.cell (World.block_lt_of_cell? _ _ (hHeld.2.2.2.2.1))).trans (hHeld.2.2.2.2.1)
    have HS5_ := (hb.cell (World.block_lt_of_cell? _ _ (hHeld.2.2.2.2.2.1))).trans (hHeld.2.2.2.2.2.1)
    have HS6_ := (hb.cell (World.block_lt_of_cell? _ _ (hHeld.2.2.2.2.2.2.1))).trans (hHeld.2.2.2.2.2.2.1)
    have HS7_ := (hb.cell (World.block_lt_of_cell? _ _ (hHeld.2.2.2.2.2.2.2.1))).trans (hHeld.2.2.2.2.2.2.2.1)
    have HS8_ := (hb.cell (World.block_lt_of_cell? _ _ (hHeld.2.2.2.2.2.2.2.2))).trans (hHeld.2.2.2.2.2.2.2.2)
    refine ⟨_, rfl, ?_⟩
    replace HO734 := xRb HO734 hb
    replace HO737 := xRb HO737 hb
    replace HB := xS HB hb
    clear hb
    refine hK.out _ _ ⟨HS0_, HS1_, HS2_, HS3_, HS4_, HS5_, HS6_, HS7_, HS8_⟩ (fun hHeld => ?_)
    clear hK K
    refine xN 29 ?_
    refine yP 22 (some 30) (b 25 8388607) ?_
    refine yP 23 (some 31) (b 25 16777215) ?_
    refine yP 24 (some 0) (b 25 33554431) ?_
    refine done_ (done_of HT_.out (by kernel_rfl)) ?_
    try go_wp2
    go_ret
    exact ⟨xy, xs HB⟩
   have c12b0 : (((rd_T25 t735 1).f0) == t743 && ((((rd_T25 t735 1).f1).toList) == t744.toList && ((((rd_T25 t735 1).f2).toList) == t745.toList))) = false := by simpa using c12
   (try (have c12b1 : decide (((rd_T25 t735 1).f0) = t743 && ((((rd_T25 t735 1).f1).toList) == t744.toList && ((((rd_T25 t735 1).f2).toList) == t745.toList))) = false := by simpa using c12))
   (try (have c12b2 : (((rd_T25 t735 1).f0) == t743 && ((((rd_T25 t735 1).f1).toList) == t744.toList && ((((rd_T25 t735 1).f2).toList) == t745.toList))) = false := by simpa using c12))
   (try (have c12b3 : ¬ (((rd_T25 t735 1).f0) = t743 && ((((rd_T25 t735 1).f1).toList) == t744.toList && ((((rd_T25 t735 1).f2).toList) == t745.toList))) := by simpa using c12))
   clear c12
   obtain rfl := Option.some.inj H
   go_enter Tryd.func14, Tryd.ntmps14
   try go_wp2_with (first | (refine xC Tryd.func39 (some 2) (rational_Int.calls k 100 t720 t721 t722 _ A1.out) ?_; rintro w28 hb; replace HB := xS HB hb; clear hb) | (refine xC Tryd.func39 (some 3) (rational_Int.calls k 70 t723 t724 t725 _ A2.out) ?_; rintro w29 hb; replace HB := xS HB hb; clear hb) | (refine xC Tryd.func39 (some 4) (rational_Int.calls k 50 t726 t727 t728 _ A3.out) ?_; rintro w30 hb; replace HB := xS HB hb; clear hb) | (refine xC Tryd.func39 (some 5) (rational_Int.calls k 20 t729 t730 t731 _ A4.out) ?_; rintro w31 hb; replace HB := xS HB hb; clear hb) | ((with_reducible refine gate_dst (N := 6) rfl ?_); refine Kd.R_lit k25 _ 25 ?hg (N := 6) ?hd (xs := ([(⟨t723, t724, t725⟩ : S25), (⟨t726, t727, t728⟩ : S25), (⟨t729, t730, t731⟩ : S25)] : List (S25))) (inner := [.bool t723, .string t724, .string t725, .bool t726, .string t727, .string t728, .bool t729, .string t730, .string t731]) (ok := fun _ => True) (okp := fun _ => True) ?hr ?hp (fun _ hk => hk) trivial (Below.refl _ _) (Nat.le_refl _) (by simp) ?_; (case hd => rfl); (case hg => rfl); (case hr => (go_simp; done)); (case hp => exact (Reps.c3 (show Kd.M k25 _ _ _ (⟨t723, t724, t725⟩ : S25) [.bool t723, .string t724, .string t725] from (k25_mkM _ _ _ (⟨t723, t724, t725⟩ : S25) )) (Reps.c3 (show Kd.M k25 _ _ _ (⟨t726, t727, t728⟩ : S25) [.bool t726, .string t727, .string t728] from (k25_mkM _ _ _ (⟨t726, t727, t728⟩ : S25) )) (Reps.c3 (show Kd.M k25 _ _ _ (⟨t729, t730, t731⟩ : S25) [.bool t729, .string t730, .string t731] from (k25_mkM _ _ _ (⟨t729, t730, t731⟩ : S25) )) (Reps.none _ _))))); intro v733 w32 ho33 hb hg_ hnew_; clear hg_ hnew_; (rw [← Ny732.out] at ho33); have HO734 := Aside0.mk (Kd.R_lower ho33 (below_size (xs HB))); replace HB := xS HB hb; clear hb ho33; obtain ⟨Ao34, co34, eo34⟩ := Kd.R_slice HO734.out; subst eo34) | (refine xg Tryd.func12 (some 7) #[.agg #[.bool t720, .string t721, .string t722], .slice Ao34 y732.length co34] ?_; (with_reducible refine (guarantee_Refunds.calls k t720 t721 t722 _ _ y732 t735 _ ?side1 ?side2 A5.out).mono ?_); (case side1 => repeat (exact (Kd.R_reads' HO734.out).2.2)); (case side2 => exact (Kd.R_reads' HO734.out).2.1); rintro e w35 ⟨v736, rfl, ho0, hb⟩; refine ⟨_, rfl, ?_⟩; have HO737 := Aside0.mk (Kd.R_lower (Kd.R_new' ho0 (Kd.R_lt (xr HO734.out))) (below_size (xs HB))); replace HO734 := Aside0.mk (Kd.R_elder' (xr HO734.out) (Kd.R_base ho0) hb); replace HB := xS HB hb; clear hb ho0))
   replace HO734 := Aside0.mk (Kd.R_drew HO734.out)
   replace HO737 := Aside0.mk (Kd.R_drew HO737.out)
   replace HB := xW HB
   obtain ⟨Ao37, co37, eo37⟩ := Kd.R_slice HO737.out
   subst eo37
   have p738 : 0 ≤ (0 : Int) := (by omega)
   have q738 : 0 < (t735.length : Int) := xa
   obtain ⟨ad738, e738, hx738_0, hx738_1, hx738_2⟩ := at_T25 (Kd.R_reads' HO737.out).2.2 0 p738 q738
   cases e738
   have qi738 : (0 < t735.length) = True := eq_true (by omega)
   (try rw [show (0 : Int).toNat = 0 from rfl] at hx738_0)
   (try rw [show 0 * 3 = 0 from rfl] at hx738_0)
   (try rw [Addr.add_zero'] at hx738_0)
   (try rw [show (0 : Int).toNat = 0 from rfl] at hx738_1)
   (try rw [show 0 * 3 = 0 from rfl] at hx738_1)
   (try rw [Addr.add_zero'] at hx738_1)
   (try rw [show (0 : Int).toNat = 0 from rfl] at hx738_2)
   (try rw [show 0 * 3 = 0 from rfl] at hx738_2)
   (try rw [Addr.add_zero'] at hx738_2)
   replace p738 := eq_true p738
   replace q738 := eq_true q738
   have p742 : 0 ≤ (1 : Int) := (by omega)
   have q742 : 1 < (t735.length : Int) := xa
   obtain ⟨ad742, e742, hx742_0, hx742_1, hx742_2⟩ := at_T25 (Kd.R_reads' HO737.out).2.2 1 p742 q742
   obtain rfl : ad738 = ad742 := (by injection e742)
   (try simp only [show (1 : Int).toNat = 1 from rfl, Nat.reduceMul, Nat.reduceEqDiff, Go.Addr.add, ↓reduceIte] at hx742_0)
   (try simp only [show (1 : Int).toNat = 1 from rfl, Nat.reduceMul, Nat.reduceEqDiff, Go.Addr.add, ↓reduceIte] at hx742_1)
   (try simp only [show (1 : Int).toNat = 1 from rfl, Nat.reduceMul, Nat.reduceEqDiff, Go.Addr.add, ↓reduceIte] at hx742_2)
   have qi742 : (1 < t735.length) = True := eq_true (by omega)
   replace p742 := eq_true p742
   replace q742 := eq_true q742
   refine start_ (n := 25) (S := fun w' => w'.cell? ad738 = some (.bool ((rd_T25 t735 0).f0)) ∧ w'.cell? ⟨ad738.block, ad738.off + 1, none⟩ = some (.string ((rd_T25 t735 0).f1)) ∧ w'.cell? ⟨ad738.block, ad738.off + 2, none⟩ = some (.string ((rd_T25 t735 0).f2)) ∧ w'.cell? ⟨ad738.block, ad738.off + 3, none⟩ = some (.bool ((rd_T25 t735 1).f0)) ∧ w'.cell? ⟨ad738.block, ad738.off + 3 + 1, none⟩ = some (.string ((rd_T25 t735 1).f1)) ∧ w'.cell? ⟨ad738.block, ad738.off + 3 + 2, none⟩ = some (.string ((rd_T25 t735 1).f2))) (ds := []) (b 25 0) (by kernel_rfl) rfl rfl ⟨hx738_0, hx738_1, hx738_2, hx742_0, hx742_1, hx742_2⟩ (fun hHeld => ?_); refine with_tabW insolvencylaw18_awake.tab2 insolvencylaw18_awake.bits2 (fun HT_ HW_ => ?_)
   generalize w35.drew = w36 at HO734 HO737 HB hx738_0 hx738_1 hx738_2 hx742_0 hx742_1 hx742_2 hHeld ⊢
   refine yP 0 (some 8) (b 25 1) ?_
   refine yP 1 (some 9) (b 25 3) ?_
   refine yP 2 (some 10) (b 25 7) ?_
   refine yP 3 (some 11) (b 25 15) ?_
   refine yP 4 (some 12) (b 25 31) ?_
   refine yP 5 (some 13) (b 25 63) ?_
   refine yT 6 (some 14) (b 25 127) hHeld ?_
   refine yO 7 (some 15) (b 25 255) fun K hK => ?_
   refine goes_ Tryd.func39 (by kernel_rfl) rfl #[.int .i64 0] (by rfl) rfl rfl (by (try simp only [List.map_toArray, List.map_cons, List.map_nil]); rfl) ?_
   with_reducible refine (rational_Int.calls k 0 t739 t740 t741 _ A8.out).mono ?_
   rintro e w38 ⟨rfl, hb⟩
   have HS0_ := (hb.cell (World.block_lt_of_cell? _ _ (hHeld.1))).trans (hHeld.1)
   have HS1_ := (hb.cell (World.block_lt_of_cell? _ _ (hHeld.2.1))).trans (hHeld.2.1)
   have HS2_ := (hb.cell (World.block_lt_of_cell? _ _ (hHeld.2.2.1))).trans (hHeld.2.2.1)
   have HS3_ := (hb.cell (World.block_lt_of_cell? _ _ (hHeld.2.2.2.1))).trans (hHeld.2.2.2.1)
   have HS4_ := (hb.cell (World.block_lt_of_cell? _ _ (hHeld.2.2.2.2.1))).trans (hHeld.2.2.2.2.1)
   have HS5_ := (hb.cell (World.block_lt_of_cell? _ _ (hHeld.2.2.2.2.2))).trans (hHeld.2.2.2.2.2)
   refine ⟨_, rfl, ?_⟩
   replace HO734 := xRb HO734 hb
   replace HO737 := xRb HO737 hb
   replace HB := xS HB hb
   clear hb
   refine hK.out _ _ ⟨HS0_, HS1_, HS2_, HS3_, HS4_, HS5_⟩ (fun hHeld => ?_)
   clear hK K
   refine xN 15 ?_
   refine yP 8 (some 16) (b 25 511) ?_
   refine yP 9 (some 17) (b 25 1023) ?_
   refine yP 10 (some 18) (b 25 2047) ?_
   refine yP 11 (some 19) (b 25 4095) ?_
   refine yP 12 (some 20) (b 25 8191) ?_
   refine yT 13 (some 21) (b 25 16383) hHeld ?_
   refine yO 14 (some 22) (b 25 32767) fun K hK => ?_
   refine goes_ Tryd.func39 (by kernel_rfl) rfl #[.int .i64 20] (by rfl) rfl rfl (by (try simp only [List.map_toArray, List.map_cons, List.map_nil]); rfl) ?_
   with_reducible refine (rational_Int.calls k 20 t743 t744 t745 _ A11.out).mono ?_
   rintro e w39 ⟨rfl, hb⟩
   have HS0_ := (hb.cell (World.block_lt_of_cell? _ _ (hHeld.1))).trans (hHeld.1)
   have HS1_ := (hb.cell (World.block_lt_of_cell? _ _ (hHeld.2.1))).trans (hHeld.2.1)
   have HS2_ := (hb.cell (World.block_lt_of_cell? _ _ (hHeld.2.2.1))).trans (hHeld.2.2.1)
   have HS3_ := (hb.cell (World.block_lt_of_cell? _ _ (hHeld.2.2.2.1))).trans (hHeld.2.2.2.1)
   have HS4_ := (hb.cell (World.block_lt_of_cell? _ _ (hHeld.2.2.2.2.1))).trans (hHeld.2.2.2.2.1)
   have HS5_ := (hb.cell (World.block_lt_of_cell? _ _ (hHeld.2.2.2.2.2))).trans (hHeld.2.2.2.2.2)
   refine ⟨_, rfl, ?_⟩
   replace HO734 := xRb HO734 hb
   replace HO737 := xRb HO737 hb
   replace HB := xS HB hb
   clear hb
   refine hK.out _ _ ⟨HS0_, HS1_, HS2_, HS3_, HS4_, HS5_⟩ (fun hHeld => ?_)
   clear hK K
   refine xN 22 ?_
   refine yP 15 (some 23) (b 25 65535) ?_
   refine yP 16 (some 24) (b 25 131071) ?_
   refine yP 17 (some 25) (b 25 262143) ?_
   refine yU 18 (some 26) (b 25 524287) ?_
   refine yU 19 (some 27) (b 25 1048575) ?_
   refine yU 20 (some 28) (b 25 2097151) ?_
   refine yU 21 (some 29) (b 25 4194303) ?_
   refine yU 22 (some 30) (b 25 8388607) ?_
   refine yP 23 (some 31) (b 25 16777215) ?_
   refine yP 24 (some 0) (b 25 33554431) ?_
   refine done_ (done_of HT_.out (by kernel_rfl)) ?_
   try go_wp2
   go_ret
   exact ⟨xy, xs HB⟩
  have c9b0 : (((rd_T25 t735 0).f0) == t739 && ((((rd_T25 t735 0).f1).toList) == t740.toList && ((((rd_T25 t735 0).f2).toList) == t741.toList))) = false := by simpa using c9
  (try (have c9b1 : decide (((rd_T25 t735 0).f0) = t739 && ((((rd_T25 t735 0).f1).toList) == t740.toList && ((((rd_T25 t735 0).f2).toList) == t741.toList))) = false := by simpa using c9))
  (try (have c9b2 : (((rd_T25 t735 0).f0) == t739 && ((((rd_T25 t735 0).f1).toList) == t740.toList && ((((rd_T25 t735 0).f2).toList) == t741.toList))) = false := by simpa using c9))
  (try (have c9b3 : ¬ (((rd_T25 t735 0).f0) = t739 && ((((rd_T25 t735 0).f1).toList) == t740.toList && ((((rd_T25 t735 0).f2).toList) == t741.toList))) := by simpa using c9))
  clear c9
  obtain rfl := Option.some.inj H
  go_enter Tryd.func14, Tryd.ntmps14
  try go_wp2_with (first | (refine xC Tryd.func39 (some 2) (rational_Int.calls k 100 t720 t721 t722 _ A1.out) ?_; rintro w40 hb; replace HB := xS HB hb; clear hb) | (refine xC Tryd.func39 (some 3) (rational_Int.calls k 70 t723 t724 t725 _ A2.out) ?_; rintro w41 hb; replace HB := xS HB hb; clear hb) | (refine xC Tryd.func39 (some 4) (rational_Int.calls k 50 t726 t727 t728 _ A3.out) ?_; rintro w42 hb; replace HB := xS HB hb; clear hb) | (refine xC Tryd.func39 (some 5) (rational_Int.calls k 20 t729 t730 t731 _ A4.out) ?_; rintro w43 hb; replace HB := xS HB hb; clear hb) | ((with_reducible refine gate_dst (N := 6) rfl ?_); refine Kd.R_lit k25 _ 25 ?hg (N := 6) ?hd (xs := ([(⟨t723, t724, t725⟩ : S25), (⟨t726, t727, t728⟩ : S25), (⟨t729, t730, t731⟩ : S25)] : List (S25))) (inner := [.bool t723, .string t724, .string t725, .bool t726, .string t727, .string t728, .bool t729, .string t730, .string t731]) (ok := fun _ => True) (okp := fun _ => True) ?hr ?hp (fun _ hk => hk) trivial (Below.refl _ _) (Nat.le_refl _) (by simp) ?_; (case hd => rfl); (case hg => rfl); (case hr => (go_simp; done)); (case hp => exact (Reps.c3 (show Kd.M k25 _ _ _ (⟨t723, t724, t725⟩ : S25) [.bool t723, .string t724, .string t725] from (k25_mkM _ _ _ (⟨t723, t724, t725⟩ : S25) )) (Reps.c3 (show Kd.M k25 _ _ _ (⟨t726, t727, t728⟩ : S25) [.bool t726, .string t727, .string t728] from (k25_mkM _ _ _ (⟨t726, t727, t728⟩ : S25) )) (Reps.c3 (show Kd.M k25 _ _ _ (⟨t729, t730, t731⟩ : S25) [.bool t729, .string t730, .string t731] from (k25_mkM _ _ _ (⟨t729, t730, t731⟩ : S25) )) (Reps.none _ _))))); intro v733 w44 ho45 hb hg_ hnew_; clear hg_ hnew_; (rw [← Ny732.out] at ho45); have HO734 := Aside0.mk (Kd.R_lower ho45 (below_size (xs HB))); replace HB := xS HB hb; clear hb ho45; obtain ⟨Ao46, co46, eo46⟩ := Kd.R_slice HO734.out; subst eo46) | (refine xg Tryd.func12 (some 7) #[.agg #[.bool t720, .string t721, .string t722], .slice Ao46 y732.length co46] ?_; (with_reducible refine (guarantee_Refunds.calls k t720 t721 t722 _ _ y732 t735 _ ?side1 ?side2 A5.out).mono ?_); (case side1 => repeat (exact (Kd.R_reads' HO734.out).2.2)); (case side2 => exact (Kd.R_reads' HO734.out).2.1); rintro e w47 ⟨v736, rfl, ho0, hb⟩; refine ⟨_, rfl, ?_⟩; have HO737 := Aside0.mk (Kd.R_lower (Kd.R_new' ho0 (Kd.R_lt (xr HO734.out))) (below_size (xs HB))); replace HO734 := Aside0.mk (Kd.R_elder' (xr HO734.out) (Kd.R_base ho0) hb); replace HB := xS HB hb; clear hb ho0))
  replace HO734 := Aside0.mk (Kd.R_drew HO734.out)
  replace HO737 := Aside0.mk (Kd.R_drew HO737.out)
  replace HB := xW HB
  obtain ⟨Ao49, co49, eo49⟩ := Kd.R_slice HO737.out
  subst eo49
  have p738 : 0 ≤ (0 : Int) := (by omega)
  have q738 : 0 < (t735.length : Int) := xa
  obtain ⟨ad738, e738, hx738_0, hx738_1, hx738_2⟩ := at_T25 (Kd.R_reads' HO737.out).2.2 0 p738 q738
  cases e738
  have qi738 : (0 < t735.length) = True := eq_true (by omega)
  (try rw [show (0 : Int).toNat = 0 from rfl] at hx738_0)
  (try rw [show 0 * 3 = 0 from rfl] at hx738_0)
  (try rw [Addr.add_zero'] at hx738_0)
  (try rw [show (0 : Int).toNat = 0 from rfl] at hx738_1)
  (try rw [show 0 * 3 = 0 from rfl] at hx738_1)
  (try rw [Addr.add_zero'] at hx738_1)
  (try rw [show (0 : Int).toNat = 0 from rfl] at hx738_2)
  (try rw [show 0 * 3 = 0 from rfl] at hx738_2)
  (try rw [Addr.add_zero'] at hx738_2)
  replace p738 := eq_true p738
  replace q738 := eq_true q738
  refine start_ (n := 25) (S := fun w' => w'.cell? ad738 = some (.bool ((rd_T25 t735 0).f0)) ∧ w'.cell? ⟨ad738.block, ad738.off + 1, none⟩ = some (.string ((rd_T25 t735 0).f1)) ∧ w'.cell? ⟨ad738.block, ad738.off + 2, none⟩ = some (.string ((rd_T25 t735 0).f2))) (ds := []) (b 25 0) (by kernel_rfl) rfl rfl ⟨hx738_0, hx738_1, hx738_2⟩ (fun hHeld => ?_); refine with_tabW insolvencylaw18_awake.tab2 insolvencylaw18_awake.bits2 (fun HT_ HW_ => ?_)
  generalize w47.drew = w48 at HO734 HO737 HB hx738_0 hx738_1 hx738_2 hHeld ⊢
  refine yP 0 (some 8) (b 25 1) ?_
  refine yP 1 (some 9) (b 25 3) ?_
  refine yP 2 (some 10) (b 25 7) ?_
  refine yP 3 (some 11) (b 25 15) ?_
  refine yP 4 (some 12) (b 25 31) ?_
  refine yP 5 (some 13) (b 25 63) ?_
  refine yT 6 (some 14) (b 25 127) hHeld ?_
  refine yO 7 (some 15) (b 25 255) fun K hK => ?_
  refine goes_ Tryd.func39 (by kernel_rfl) rfl #[.int .i64 0] (by rfl) rfl rfl (by (try simp only [List.map_toArray, List.map_cons, List.map_nil]); rfl) ?_
  with_reducible refine (rational_Int.calls k 0 t739 t740 t741 _ A8.out).mono ?_
  rintro e w50 ⟨rfl, hb⟩
  have HS0_ := (hb.cell (World.block_lt_of_cell? _ _ (hHeld.1))).trans (hHeld.1)
  have HS1_ := (hb.cell (World.block_lt_of_cell? _ _ (hHeld.2.1))).trans (hHeld.2.1)
  have HS2_ := (hb.cell (World.block_lt_of_cell? _ _ (hHeld.2.2))).trans (hHeld.2.2)
  refine ⟨_, rfl, ?_⟩
  replace HO734 := xRb HO734 hb
  replace HO737 := xRb HO737 hb
  replace HB := xS HB hb
  clear hb
  refine hK.out _ _ ⟨HS0_, HS1_, HS2_⟩ (fun hHeld => ?_)
  clear hK K
  refine xN 15 ?_
  refine yP 8 (some 16) (b 25 511) ?_
  refine yP 9 (some 17) (b 25 1023) ?_
  refine yP 10 (some 18) (b 25 2047) ?_
  refine yU 11 (some 19) (b 25 4095) ?_
  refine yU 12 (some 20) (b 25 8191) ?_
  refine yU 13 (some 21) (b 25 16383) ?_
  refine yU 14 (some 22) (b 25 32767) ?_
  refine yU 15 (some 23) (b 25 65535) ?_
  refine yP 16 (some 24) (b 25 131071) ?_
  refine yP 17 (some 25) (b 25 262143) ?_
  refine yU 18 (some 26) (b 25 524287) ?_
  refine yU 19 (some 27) (b 25 1048575) ?_
  refine yU 20 (some 28) (b 25 2097151) ?_
  refine yU 21 (some 29) (b 25 4194303) ?_
  refine yU 22 (some 30) (b 25 8388607) ?_
  refine yP 23 (some 31) (b 25 16777215) ?_
  refine yP 24 (some 0) (b 25 33554431) ?_
  refine done_ (done_of HT_.out (by kernel_rfl)) ?_
  try go_wp2
  go_ret
  exact ⟨xy, xs HB⟩
 have c6b0 := beq_eq_false_iff_ne.mpr c6
 have c6b1 := bne_iff_ne.mpr c6
 obtain rfl := Option.some.inj H
 go_enter Tryd.func14, Tryd.ntmps14
 try go_wp2_with (first | (refine xC Tryd.func39 (some 2) (rational_Int.calls k 100 t720 t721 t722 _ A1.out) ?_; rintro w51 hb; replace HB := xS HB hb; clear hb) | (refine xC Tryd.func39 (some 3) (rational_Int.calls k 70 t723 t724 t725 _ A2.out) ?_; rintro w52 hb; replace HB := xS HB hb; clear hb) | (refine xC Tryd.func39 (some 4) (rational_Int.calls k 50 t726 t727 t728 _ A3.out) ?_; rintro w53 hb; replace HB := xS HB hb; clear hb) | (refine xC Tryd.func39 (some 5) (rational_Int.calls k 20 t729 t730 t731 _ A4.out) ?_; rintro w54 hb; replace HB := xS HB hb; clear hb) | ((with_reducible refine gate_dst (N := 6) rfl ?_); refine Kd.R_lit k25 _ 25 ?hg (N := 6) ?hd (xs := ([(⟨t723, t724, t725⟩ : S25), (⟨t726, t727, t728⟩ : S25), (⟨t729, t730, t731⟩ : S25)] : List (S25))) (inner := [.bool t723, .string t724, .string t725, .bool t726, .string t727, .string t728, .bool t729, .string t730, .string t731]) (ok := fun _ => True) (okp := fun _ => True) ?hr ?hp (fun _ hk => hk) trivial (Below.refl _ _) (Nat.le_refl _) (by simp) ?_; (case hd => rfl); (case hg => rfl); (case hr => (go_simp; done)); (case hp => exact (Reps.c3 (show Kd.M k25 _ _ _ (⟨t723, t724, t725⟩ : S25) [.bool t723, .string t724, .string t725] from (k25_mkM _ _ _ (⟨t723, t724, t725⟩ : S25) )) (Reps.c3 (show Kd.M k25 _ _ _ (⟨t726, t727, t728⟩ : S25) [.bool t726, .string t727, .string t728] from (k25_mkM _ _ _ (⟨t726, t727, t728⟩ : S25) )) (Reps.c3 (show Kd.M k25 _ _ _ (⟨t729, t730, t731⟩ : S25) [.bool t729, .string t730, .string t731] from (k25_mkM _ _ _ (⟨t729, t730, t731⟩ : S25) )) (Reps.none _ _))))); intro v733 w55 ho56 hb hg_ hnew_; clear hg_ hnew_; (rw [← Ny732.out] at ho56); have HO734 := Aside0.mk (Kd.R_lower ho56 (below_size (xs HB))); replace HB := xS HB hb; clear hb ho56; obtain ⟨Ao57, co57, eo57⟩ := Kd.R_slice HO734.out; subst eo57) | (refine xg Tryd.func12 (some 7) #[.agg #[.bool t720, .string t721, .string t722], .slice Ao57 y732.length co57] ?_; (with_reducible refine (guarantee_Refunds.calls k t720 t721 t722 _ _ y732 t735 _ ?side1 ?side2 A5.out).mono ?_); (case side1 => repeat (exact (Kd.R_reads' HO734.out).2.2)); (case side2 => exact (Kd.R_reads' HO734.out).2.1); rintro e w58 ⟨v736, rfl, ho0, hb⟩; refine ⟨_, rfl, ?_⟩; have HO737 := Aside0.mk (Kd.R_lower (Kd.R_new' ho0 (Kd.R_lt (xr HO734.out))) (below_size (xs HB))); replace HO734 := Aside0.mk (Kd.R_elder' (xr HO734.out) (Kd.R_base ho0) hb); replace HB := xS HB hb; clear hb ho0))
 replace HO734 := Aside0.mk (Kd.R_drew HO734.out)
 replace HO737 := Aside0.mk (Kd.R_drew HO737.out)
 replace HB := xW HB
 obtain ⟨Ao60, co60, eo60⟩ := Kd.R_slice HO737.out
 subst eo60
 refine start_ (n := 25) (S := fun w' => True) (ds := []) (b 25 0) (by kernel_rfl) rfl rfl trivial (fun hHeld => ?_); refine with_tabW insolvencylaw18_awake.tab2 insolvencylaw18_awake.bits2 (fun HT_ HW_ => ?_)
 generalize w58.drew = w59 at HO734 HO737 HB hHeld ⊢
 refine yP 0 (some 8) (b 25 1) ?_
 refine yP 1 (some 9) (b 25 3) ?_
 refine yP 2 (some 10) (b 25 7) ?_
 refine yP 3 (some 11) (b 25 15) ?_
 refine yU 4 (some 12) (b 25 31) ?_
 refine yU 5 (some 13) (b 25 63) ?_
 refine yU 6 (some 14) (b 25 127) ?_
 refine yU 7 (some 15) (b 25 255) ?_
 refine yU 8 (some 16) (b 25 511) ?_
 refine yP 9 (some 17) (b 25 1023) ?_
 refine yP 10 (some 18) (b 25 2047) ?_
 refine yU 11 (some 19) (b 25 4095) ?_
 refine yU 12 (some 20) (b 25 8191) ?_
 refine yU 13 (some 21) (b 25 16383) ?_
 refine yU 14 (some 22) (b 25 32767) ?_
 refine yU 15 (some 23) (b 25 65535) ?_
 refine yP 16 (some 24) (b 25 131071) ?_
 refine yP 17 (some 25) (b 25 262143) ?_
 refine yU 18 (some 26) (b 25 524287) ?_
 refine yU 19 (some 27) (b 25 1048575) ?_
 refine yU 20 (some 28) (b 25 2097151) ?_
 refine yU 21 (some 29) (b 25 4194303) ?_
 refine yU 22 (some 30) (b 25 8388607) ?_
 refine yP 23 (some 31) (b 25 16777215) ?_
 refine yP 24 (some 0) (b 25 33554431) ?_
 refine done_ (done_of HT_.out (by kernel_rfl)) ?_
 try go_wp2
 go_ret
 exact ⟨xy, xs HB⟩
end
section
attribute [local go_sem high] eqA25
/-! ### insolvencylaw0_Few: function 15 -/
def insolvencylaw0_Few.f (a0_0 : Bool) (a0_1 : ByteArray) (a0_2 : ByteArray) : Option (Bool) := if (a0_1.size : Int) ≤ 24 then (some (decide ((a0_2.size : Int) ≤ 24))) else (some false)
theorem insolvencylaw0_Few.calls (a0_0 : Bool) (a0_1 : ByteArray) (a0_2 : ByteArray) (r : Bool) (w : World) (h : insolvencylaw0_Few.f a0_0 a0_1 a0_2 = some r) :
  Calls Tryd.prog 15 #[.agg #[.bool a0_0, .string a0_1, .string a0_2]] w fun e w' => e = .returned (.bool r) ∧ Below w.heap.size w w' := by
 have hu25 := Tryd.underlying25
 have HB := Aside0.mk (Below.refl w.heap.size w)
 have H := h; clear h
 unfold insolvencylaw0_Few.f at H
 obtain ⟨c2, H⟩ | ⟨c2, H⟩ := xO H
 ·have c2b0 := decide_eq_true c2
  have c2b1 : decide (a0_1.size ≤ 24) = true := decide_eq_true (by omega)
  clear c2
  obtain rfl := Option.some.inj H
  go_enter Tryd.func15, Tryd.ntmps15
  go_wp2_with ((with_reducible refine gate_dst (N := 1) rfl ?_); (try (refine gate_guard (by rfl) ?_; dsimp only)); refine xF (N := 1) #[.bool a0_0, .string a0_1, .string a0_2] 25 HB ?_; clear HB; intro gb765 hg w3 hb BK765 GW765 HB; clear hb hg; obtain ⟨hcz4_0, hcz4_1, hcz4_2, hfz4_0, hfz4_1, hfz4_2⟩ := x6 BK765)
  go_ret
  exact ⟨xy, xs HB⟩
 have c2b0 := decide_eq_false c2
 have c2b1 : decide (a0_1.size ≤ 24) = false := decide_eq_false (by omega)
 clear c2
 obtain rfl := Option.some.inj H
 go_enter Tryd.func15, Tryd.ntmps15
 go_wp2_with ((with_reducible refine gate_dst (N := 1) rfl ?_); (try (refine gate_guard (by rfl) ?_; dsimp only)); refine xF (N := 1) #[.bool a0_0, .string a0_1, .string a0_2] 25 HB ?_; clear HB; intro gb765 hg w5 hb BK765 GW765 HB; clear hb hg; obtain ⟨hcz6_0, hcz6_1, hcz6_2, hfz6_0, hfz6_1, hfz6_2⟩ := x6 BK765)
 go_ret
 exact ⟨xy, xs HB⟩
end
section
attribute [local go_sem high] eqA25
/-! ### insolvencylaw0_FewRats: function 16 -/
def insolvencylaw0_FewRats.l0 : Nat → List (S25) → Int → Int → Option (Bool)
 | 0, _, _, _ => none
 | k + 1, x11, x12, x13 => if x13 < x12 then (if 0 ≤ x13 then (if x13 < (x11.length : Int) then ((insolvencylaw0_Few.f ((rd_T25 x11 x13).f0) ((rd_T25 x11 x13).f1) ((rd_T25 x11 x13).f2)).bind fun t768 => (if t768 = true then (insolvencylaw0_FewRats.l0 k x11 x12 (wrap64 (x13 + 1))) else (some false))) else (none)) else (none)) else (some true)
def insolvencylaw0_FewRats.f (k : Nat) (l0 : List (S25)) (a1 : Int) : Option (Bool) := if (l0.length : Int) > a1 then (some false) else (insolvencylaw0_FewRats.l0 k l0 (l0.length : Int) 0)
theorem insolvencylaw0_FewRats.mono_l : ∀ k, (∀ y0 y1 y2, LeO (insolvencylaw0_FewRats.l0 k y0 y1 y2) (insolvencylaw0_FewRats.l0 (k + 1) y0 y1 y2))
 | 0 => fun _ _ _ r h => by simp [insolvencylaw0_FewRats.l0] at h
 | k + 1 => by
  have ih0 := insolvencylaw0_FewRats.mono_l k
  ·intro y0 y1 y2
   unfold insolvencylaw0_FewRats.l0
   have m0 := @ih0; exact xM
theorem insolvencylaw0_FewRats.mono : ∀ a0 a1 k, LeO (insolvencylaw0_FewRats.f k a0 a1) (insolvencylaw0_FewRats.f (k + 1) a0 a1) := by
 intro a0 a1 k
 have ih0 := insolvencylaw0_FewRats.mono_l k
 unfold insolvencylaw0_FewRats.f
 have m0 := @ih0; exact xM
theorem insolvencylaw0_FewRats.calls (k : Nat) (A0 : Option Addr) (c0 : Nat) (l0 : List (S25)) (a1 : Int) (r : Bool) (w : World) (hr0 : Kd.C k25 w A0 l0.length l0) (hc0 : l0.length ≤ c0) (h : insolvencylaw0_FewRats.f k l0 a1 = some r) :
  Calls Tryd.prog 16 #[.slice A0 l0.length c0, .int .i64 a1] w fun e w' => e = .returned (.bool r) ∧ Below w.heap.size w w' := by
 have hu25 := Tryd.underlying25
 have HR0 := Aside0.mk hr0
 have HC0 := Aside0.mk hc0
 clear hr0 hc0
 have HB := Aside0.mk (Below.refl w.heap.size w)
 have H := h; clear h
 unfold insolvencylaw0_FewRats.f at H
 obtain ⟨c3b0, H⟩ | ⟨c3b0, H⟩ := xOd H
 ·obtain rfl := Option.some.inj H
  go_enter Tryd.func16, Tryd.ntmps16
  go_wp2
  go_ret
  exact ⟨xy, xs HB⟩
 have H' := Aside0.mk H
 clear H
 go_enter Tryd.func16, Tryd.ntmps16
 go_wp2
 go_loopg [13] k (fun kq v13 w' => ∃ (x13_1 : Int), v13 = .int .i64 x13_1 ∧ Aside0 (insolvencylaw0_FewRats.l0 kq l0 (l0.length : Int) x13_1 = some r) ∧ Aside0 (kq ≤ k) ∧ Aside0 (Below w.heap.size w w'))
 case atStart => exact ⟨(0), xz, H', ⟨Nat.le_refl _⟩, ⟨xs HB⟩⟩
 case round =>
  clear H'
  clear c3b0
  obtain ⟨x13_1, rfl, HA, HK1, HB⟩ := hrel
  cases gk with
  | zero => exact absurd HA.out (by simp [insolvencylaw0_FewRats.l0])
  | succ k1 =>
   have H := HA.out
   clear HA
   simp only [insolvencylaw0_FewRats.l0] at H
   obtain ⟨c4b0, H⟩ | ⟨c4b0, H⟩ := xOd H
   ·obtain ⟨c5b0, H⟩ := xQd H
    obtain ⟨c6b0, H⟩ := xQd H
    replace H := xH H; obtain ⟨t768, A7, H⟩ := H
    by_cases c8 : t768 = true
    ·subst c8
     replace H := xI H
     have H' := Aside0.mk H
     clear H
     obtain ⟨p766, q766, ad766, e766, hx766_0, hx766_1, hx766_2⟩ := xA (at_T25 HR0.out x13_1)
     cases e766
     (try replace hx766_0 := xcl HB hx766_0)
     (try replace hx766_1 := xcl HB hx766_1)
     (try replace hx766_2 := xcl HB hx766_2)
     go_wp2_with (first | (refine xF (N := 6) #[.bool false, .string (⟨#[]⟩ : ByteArray), .string (⟨#[]⟩ : ByteArray)] 25 HB ?_; clear HB; intro gb767 hg w9 hb BK767 GW767 HB; clear hb hg; obtain ⟨hcz10_0, hcz10_1, hcz10_2, hfz10_0, hfz10_1, hfz10_2⟩ := x6 BK767) | (refine xC Tryd.func15 (some 18) (insolvencylaw0_Few.calls ((rd_T25 l0 x13_1).f0) ((rd_T25 l0 x13_1).f1) ((rd_T25 l0 x13_1).f2) true _ A7.out) ?_; rintro w11 hb; replace BK767 := Aside0.mk (blk_below (g := gb767) (o := .cells #[.bool ((rd_T25 l0 x13_1).f0), .string ((rd_T25 l0 x13_1).f1), .string ((rd_T25 l0 x13_1).f2)] 25 (0, 0)) (xp BK767) hb); replace HB := xS HB hb; clear hb))
     go_roundg k1
     case measure => have := HK1.out; omega
     case rel => exact ⟨(wrap64 (x13_1 + 1)), xz, H', ⟨by have := HK1.out; omega⟩, ⟨xs HB⟩⟩
    replace c8 := Bool.eq_false_iff.mpr c8
    subst c8
    have H1 : (some false) = some r := by rw [if_neg (show ¬ (false = true) by decide)] at H; exact H
    clear H
    have H := H1
    clear H1
    obtain rfl := Option.some.inj H
    obtain ⟨p766, q766, ad766, e766, hx766_0, hx766_1, hx766_2⟩ := xA (at_T25 HR0.out x13_1)
    cases e766
    (try replace hx766_0 := xcl HB hx766_0)
    (try replace hx766_1 := xcl HB hx766_1)
    (try replace hx766_2 := xcl HB hx766_2)
    go_wp2_with (first | (refine xF (N := 6) #[.bool false, .string (⟨#[]⟩ : ByteArray), .string (⟨#[]⟩ : ByteArray)] 25 HB ?_; clear HB; intro gb767 hg w12 hb BK767 GW767 HB; clear hb hg; obtain ⟨hcz13_0, hcz13_1, hcz13_2, hfz13_0, hfz13_1, hfz13_2⟩ := x6 BK767) | (refine xC Tryd.func15 (some 18) (insolvencylaw0_Few.calls ((rd_T25 l0 x13_1).f0) ((rd_T25 l0 x13_1).f1) ((rd_T25 l0 x13_1).f2) false _ A7.out) ?_; rintro w14 hb; replace BK767 := Aside0.mk (blk_below (g := gb767) (o := .cells #[.bool ((rd_T25 l0 x13_1).f0), .string ((rd_T25 l0 x13_1).f1), .string ((rd_T25 l0 x13_1).f2)] 25 (0, 0)) (xp BK767) hb); replace HB := xS HB hb; clear hb))
    go_ret
    exact ⟨xy, xs HB⟩
   obtain rfl := Option.some.inj H
   go_wp2
   go_ret
   exact ⟨xy, xs HB⟩
end
section
attribute [local go_sem high] eqA25
/-! ### insolvencyref1_SameRats: function 17 -/
def insolvencyref1_SameRats.l0 : Nat → List (S25) → List (S25) → Int → Option (Bool)
 | 0, _, _, _ => none
 | k + 1, x0, x1, x5 => if x5 < (x0.length : Int) then (if 0 ≤ x5 then (if x5 < (x1.length : Int) then (if (!(((rd_T25 x0 x5).f0) == ((rd_T25 x1 x5).f0)) || (!((((rd_T25 x0 x5).f1).toList) == (((rd_T25 x1 x5).f1).toList)) || (!((((rd_T25 x0 x5).f2).toList) == (((rd_T25 x1 x5).f2).toList))))) = true then (some false) else (insolvencyref1_SameRats.l0 k x0 x1 (wrap64 (x5 + 1)))) else (none)) else (none)) else (some true)
def insolvencyref1_SameRats.f (k : Nat) (l0 : List (S25)) (l1 : List (S25)) : Option (Bool) := if (l0.length : Int) = (l1.length : Int) then (insolvencyref1_SameRats.l0 k l0 l1 0) else (some false)
theorem insolvencyref1_SameRats.mono_l : ∀ k, (∀ y0 y1 y2, LeO (insolvencyref1_SameRats.l0 k y0 y1 y2) (insolvencyref1_SameRats.l0 (k + 1) y0 y1 y2))
 | 0 => fun _ _ _ r h => by simp [insolvencyref1_SameRats.l0] at h
 | k + 1 => by
  have ih0 := insolvencyref1_SameRats.mono_l k
  ·intro y0 y1 y2
   unfold insolvencyref1_SameRats.l0
   have m0 := @ih0; exact xM
theorem insolvencyref1_SameRats.mono : ∀ a0 a1 k, LeO (insolvencyref1_SameRats.f k a0 a1) (insolvencyref1_SameRats.f (k + 1) a0 a1) := by
 intro a0 a1 k
 have ih0 := insolvencyref1_SameRats.mono_l k
 unfold insolvencyref1_SameRats.f
 have m0 := @ih0; exact xM
theorem insolvencyref1_SameRats.calls (k : Nat) (A0 : Option Addr) (c0 : Nat) (l0 : List (S25)) (A1 : Option Addr) (c1 : Nat) (l1 : List (S25)) (r : Bool) (w : World) (hr0 : Kd.C k25 w A0 l0.length l0) (hc0 : l0.length ≤ c0) (hr1 : Kd.C k25 w A1 l1.length l1) (hc1 : l1.length ≤ c1) (h : insolvencyref1_SameRats.f k l0 l1 = some r) :
  Calls Tryd.prog 17 #[.slice A0 l0.length c0, .slice A1 l1.length c1] w fun e w' => e = .returned (.bool r) ∧ Drawn0 w w' := by
 have hu25 := Tryd.underlying25
 have HR0 := Aside0.mk hr0
 have HC0 := Aside0.mk hc0
 clear hr0 hc0
 have HR1 := Aside0.mk hr1
 have HC1 := Aside0.mk hc1
 clear hr1 hc1
 have H := h; clear h
 unfold insolvencyref1_SameRats.f at H
 obtain ⟨c3, H⟩ | ⟨c3, H⟩ := xO H
 ·have c3b0 := beq_iff_eq.mpr c3
  have c3b1 := bne_eq_false_iff_eq.mpr c3
  have c3b2 : (l0.length == l1.length) = true := by (simp at c3 ⊢; omega)
  clear c3
  have H' := Aside0.mk H
  clear H
  go_enter Tryd.func17, Tryd.ntmps17
  go_wp2
  repeat (go_quiet (fail); try go_wp2)
  go_loopg [5] k (fun kq v5 w' => ∃ (x5_1 : Int), v5 = .int .i64 x5_1 ∧ Aside0 (insolvencyref1_SameRats.l0 kq l0 l1 x5_1 = some r) ∧ Aside0 (kq ≤ k) ∧ Drawn0 w w')
  case atStart => exact ⟨(0), xz, H', ⟨Nat.le_refl _⟩, xd⟩
  case round =>
   clear H'
   clear c3b0 c3b1 c3b2
   obtain ⟨x5_1, rfl, HA, HK1, ⟨m1, rfl⟩⟩ := hrel
   cases gk with
   | zero => exact absurd HA.out (by simp [insolvencyref1_SameRats.l0])
   | succ k1 =>
    have H := HA.out
    clear HA
    simp only [insolvencyref1_SameRats.l0] at H
    obtain ⟨c4b0, H⟩ | ⟨c4b0, H⟩ := xOd H
    ·obtain ⟨c5b0, H⟩ := xQd H
     obtain ⟨c6b0, H⟩ := xQd H
     obtain ⟨c7, H⟩ | ⟨c7, H⟩ := xO H
     ·have c7b0 : (!(((rd_T25 l0 x5_1).f0) == ((rd_T25 l1 x5_1).f0)) || (!((((rd_T25 l0 x5_1).f1).toList) == (((rd_T25 l1 x5_1).f1).toList)) || (!((((rd_T25 l0 x5_1).f2).toList) == (((rd_T25 l1 x5_1).f2).toList))))) = true := c7
      clear c7
      obtain rfl := Option.some.inj H
      obtain ⟨p769, q769, ad769, e769, hx769_0, hx769_1, hx769_2⟩ := xA (at_T25 HR0.out x5_1)
      cases e769
      obtain ⟨p770, q770, ad770, e770, hx770_0, hx770_1, hx770_2⟩ := xA (at_T25 HR1.out x5_1)
      cases e770
      go_wp2
      repeat (go_quiet (fail); try go_wp2)
      go_ret
      exact ⟨xz, xd⟩
     have c7b0 : (!(((rd_T25 l0 x5_1).f0) == ((rd_T25 l1 x5_1).f0)) || (!((((rd_T25 l0 x5_1).f1).toList) == (((rd_T25 l1 x5_1).f1).toList)) || (!((((rd_T25 l0 x5_1).f2).toList) == (((rd_T25 l1 x5_1).f2).toList))))) = false := by simpa using c7
     clear c7
     have H' := Aside0.mk H
     clear H
     obtain ⟨p769, q769, ad769, e769, hx769_0, hx769_1, hx769_2⟩ := xA (at_T25 HR0.out x5_1)
     cases e769
     obtain ⟨p770, q770, ad770, e770, hx770_0, hx770_1, hx770_2⟩ := xA (at_T25 HR1.out x5_1)
     cases e770
     go_wp2
     repeat (go_quiet (fail); try go_wp2)
     go_roundg k1
     case measure => have := HK1.out; omega
     case rel => exact ⟨(wrap64 (x5_1 + 1)), xz, H', ⟨by have := HK1.out; omega⟩, xd⟩
    obtain rfl := Option.some.inj H
    go_wp2
    repeat (go_quiet (fail); try go_wp2)
    go_ret
    exact ⟨xz, xd⟩
 have c3b0 := beq_eq_false_iff_ne.mpr c3
 have c3b1 := bne_iff_ne.mpr c3
 have c3b2 : (l0.length == l1.length) = false := by (simp at c3 ⊢; omega)
 obtain rfl := Option.some.inj H
 go_enter Tryd.func17, Tryd.ntmps17
 go_wp2
 repeat (go_quiet (fail); try go_wp2)
 go_ret
 exact ⟨xz, xd⟩
end
section
attribute [local go_sem high] eqA25
/-! ### insolvencyref1_Positive: function 41 -/
def insolvencyref1_Positive.f (a0_0 : Bool) (a0_1 : ByteArray) (a0_2 : ByteArray) : Option (Bool × ByteArray × ByteArray) := if a0_0 = true then (some (false, (⟨#[]⟩ : ByteArray), (⟨#[]⟩ : ByteArray))) else (some (a0_0, a0_1, a0_2))
theorem insolvencyref1_Positive.calls (a0_0 : Bool) (a0_1 : ByteArray) (a0_2 : ByteArray) (r1 : Bool) (r2 : ByteArray) (r3 : ByteArray) (w : World) (h : insolvencyref1_Positive.f a0_0 a0_1 a0_2 = some (r1, r2, r3)) :
  Calls Tryd.prog 41 #[.agg #[.bool a0_0, .string a0_1, .string a0_2]] w fun e w' => e = .returned (.agg #[.bool r1, .string r2, .string r3]) ∧ Below w.heap.size w w' := by
 have hu25 := Tryd.underlying25
 have HB := Aside0.mk (Below.refl w.heap.size w)
 have H := h; clear h
 unfold insolvencyref1_Positive.f at H
 by_cases c2 : a0_0 = true
 ·subst c2
  replace H := xI H
  simp only [Option.some.injEq, Prod.mk.injEq] at H
  obtain ⟨rfl, rfl, rfl⟩ := H
  go_enter Tryd.func41, Tryd.ntmps41
  go_wp2_with (first | (refine xF (N := 1) #[.bool true, .string a0_1, .string a0_2] 25 HB ?_; clear HB; intro gb771 hg w3 hb BK771 GW771 HB; clear hb hg) | (refine xF (N := 2) #[.bool false, .string (⟨#[]⟩ : ByteArray), .string (⟨#[]⟩ : ByteArray)] 25 HB ?_; clear HB; intro gb772 hg w4 hb BK772 GW772 HB; have NB771_772 := xL BK771 hg; have NB772_771 := xR BK771 hg; replace BK771 := xB BK771 hb; clear hb hg; have hnb5 := NB771_772.out; have hnc5 := NB772_771.out; obtain ⟨hcz6_0, hcz6_1, hcz6_2, hfz6_0, hfz6_1, hfz6_2⟩ := x6 BK771; obtain ⟨hcz7_0, hcz7_1, hcz7_2, hfz7_0, hfz7_1, hfz7_2⟩ := x6 BK772))
  refine bodyPost_ret (results_cell_row rfl _ _ gb772 25 #[.bool false, .string (⟨#[]⟩ : ByteArray), .string (⟨#[]⟩ : ByteArray)] (0, 0) _ rfl (xp BK772) Tryd.underlying25 rfl (by kernel_rfl)) rfl ?_
  exact ⟨xy, xs HB⟩
 replace c2 := Bool.eq_false_iff.mpr c2
 subst c2
 have H1 : (some (false, a0_1, a0_2)) = some (r1, r2, r3) := by rw [if_neg (show ¬ (false = true) by decide)] at H; exact H
 clear H
 have H := H1
 clear H1
 simp only [Option.some.injEq, Prod.mk.injEq] at H
 obtain ⟨rfl, rfl, rfl⟩ := H
 go_enter Tryd.func41, Tryd.ntmps41
 go_wp2_with (first | (refine xF (N := 1) #[.bool false, .string a0_1, .string a0_2] 25 HB ?_; clear HB; intro gb771 hg w8 hb BK771 GW771 HB; clear hb hg) | (refine xF (N := 2) #[.bool false, .string (⟨#[]⟩ : ByteArray), .string (⟨#[]⟩ : ByteArray)] 25 HB ?_; clear HB; intro gb772 hg w9 hb BK772 GW772 HB; have NB771_772 := xL BK771 hg; have NB772_771 := xR BK771 hg; replace BK771 := xB BK771 hb; clear hb hg; have hnb10 := NB771_772.out; have hnc10 := NB772_771.out; obtain ⟨hcz11_0, hcz11_1, hcz11_2, hfz11_0, hfz11_1, hfz11_2⟩ := x6 BK771; obtain ⟨hcz12_0, hcz12_1, hcz12_2, hfz12_0, hfz12_1, hfz12_2⟩ := x6 BK772))
 refine bodyPost_ret (results_cell_row rfl _ _ gb772 25 #[.bool false, .string a0_1, .string a0_2] (0, 0) _ rfl (xp BK772) Tryd.underlying25 rfl (by kernel_rfl)) rfl ?_
 exact ⟨xy, xs HB⟩
end
/-! ### insolvencyref1_GCD: function 100 -/
def insolvencyref1_GCD.f (k : Nat) (a0 : ByteArray) (a1 : ByteArray) : Option (ByteArray) := (insolvencyref1_limbs.f k a0).bind fun t773 => ((insolvencyref1_limbs.f k a1).bind fun t776 => ((insolvencyref1_common.f k t773 t776).bind fun t779 => ((insolvencyref1_text.f k t779).bind fun t782 => (some t782))))
theorem insolvencyref1_GCD.mono : ∀ a0 a1 k, LeO (insolvencyref1_GCD.f k a0 a1) (insolvencyref1_GCD.f (k + 1) a0 a1) := by
 intro a0 a1 k
 unfold insolvencyref1_GCD.f
 have m0 := @insolvencyref1_common.mono; have m1 := @insolvencyref1_limbs.mono; have m2 := @insolvencyref1_text.mono; exact xM
theorem insolvencyref1_GCD.calls (k : Nat) (a0 : ByteArray) (a1 : ByteArray) (r : ByteArray) (w : World) (h : insolvencyref1_GCD.f k a0 a1 = some r) :
  Calls Tryd.prog 100 #[.string a0, .string a1] w fun e w' => e = .returned (.string r) ∧ Below w.heap.size w w' := by
 have HB := Aside0.mk (Below.refl w.heap.size w)
 have H := h; clear h
 unfold insolvencyref1_GCD.f at H
 replace H := xH H; obtain ⟨t773, A3, H⟩ := H
 replace H := xH H; obtain ⟨t776, A4, H⟩ := H
 replace H := xH H; obtain ⟨t779, A5, H⟩ := H
 replace H := xH H; obtain ⟨t782, A6, H⟩ := H
 obtain rfl := Option.some.inj H
 go_enter Tryd.func100, Tryd.ntmps100
 go_wp2_with (first | (refine xg Tryd.func67 (some 6) #[.string a0] ?_; (with_reducible refine (insolvencyref1_limbs.calls k a0 t773 _ A3.out).mono ?_); rintro e w7 ⟨v774, rfl, ho0, hb⟩; refine ⟨_, rfl, ?_⟩; have HO775 := Aside0.mk (Kd.R_lower ho0 (below_size (xs HB))); replace HB := xS HB hb; clear hb ho0) | (refine xg Tryd.func67 (some 8) #[.string a1] ?_; (with_reducible refine (insolvencyref1_limbs.calls k a1 t776 _ A4.out).mono ?_); rintro e w8 ⟨v777, rfl, ho0, hb⟩; refine ⟨_, rfl, ?_⟩; have HO778 := Aside0.mk (Kd.R_lower (Kd.R_new' ho0 (Kd.R_lt (xr HO775.out))) (below_size (xs HB))); replace HO775 := Aside0.mk (Kd.R_elder' (xr HO775.out) (Kd.R_base ho0) hb); replace HB := xS HB hb; clear hb ho0; obtain ⟨Ao9, co9, eo9⟩ := Kd.R_slice HO775.out; subst eo9; obtain ⟨Ao10, co10, eo10⟩ := Kd.R_slice HO778.out; subst eo10) | (refine xg Tryd.func90 (some 9) #[.slice Ao9 t773.length co9, .slice Ao10 t776.length co10] ?_; (with_reducible refine (insolvencyref1_common.calls k (fun k_ => some k_ = (.slice Ao9 t773.length co9 : Value).ownBlock) _ _ t773 (fun k_ => some k_ = (.slice Ao10 t776.length co10 : Value).ownBlock) _ _ t776 t779 _ ?side1 ?side2 A5.out).mono ?_); (case side1 => exact Kd.R_V (Kd.R_tight rfl (HO775.out))); (case side2 => exact Kd.R_V (Kd.R_tight rfl (HO778.out))); rintro e w11 ⟨v780, rfl, ho0, hb⟩; refine ⟨_, rfl, ?_⟩; replace HO775 := xRb HO775 hb; replace HO778 := xRb HO778 hb; have HO781 := xVm w (fun k_ => True) ho0 (fun k_ hk_ => trivial); replace HB := xS HB hb; clear hb ho0; obtain ⟨Ao12, co12, eo12⟩ := Kd.V_slice HO781.out; subst eo12) | (refine xg Tryd.func92 (some 10) #[.slice Ao12 t779.length co12] ?_; (with_reducible refine (insolvencyref1_text.calls k _ _ t779 t782 _ (xf (Kd.V_reads' HO781.out).2.2) (Kd.V_reads' HO781.out).2.1 A6.out).mono ?_); rintro e w13 ⟨rfl, hb⟩; refine ⟨_, rfl, ?_⟩; replace HO775 := xRb HO775 hb; replace HO778 := xRb HO778 hb; replace HO781 := xVb HO781 hb; replace HB := xS HB hb; clear hb))
 go_ret
 exact ⟨xy, xs HB⟩
/-! ### insolvencyref1_Valid: function 85 -/
def insolvencyref1_Valid.j0 : Nat → Bool → Bool → ByteArray → ByteArray → Option (Bool)
 | 0, _, _, _, _ => none
 | k + 1, x21, x784000, x784001, x784002 => if x21 = true then (some false) else (if x784001.toList = ([] : List UInt8) then (if x784000 = true then (some false) else (some (x784002.toList == ([] : List UInt8)))) else (if x784002.toList = ([] : List UInt8) then (some true) else ((insolvencyref1_GCD.f k x784001 x784002).bind fun t786 => (some (t786.toList == ([1] : List UInt8))))))
def insolvencyref1_Valid.f (k : Nat) (a0_0 : Bool) (a0_1 : ByteArray) (a0_2 : ByteArray) : Option (Bool) := (insolvencyref1_Normalize.f k a0_1).bind fun t784 => (if t784.toList = a0_1.toList then ((insolvencyref1_Normalize.f k a0_2).bind fun t785 => (if t785.toList = a0_2.toList then (insolvencyref1_Valid.j0 k (a0_2.toList == ([1] : List UInt8)) a0_0 a0_1 a0_2) else (insolvencyref1_Valid.j0 k true a0_0 a0_1 a0_2))) else (insolvencyref1_Valid.j0 k true a0_0 a0_1 a0_2))
theorem insolvencyref1_Valid.mono_l : ∀ k, (∀ y0 y1 y2 y3, LeO (insolvencyref1_Valid.j0 k y0 y1 y2 y3) (insolvencyref1_Valid.j0 (k + 1) y0 y1 y2 y3))
 | 0 => fun _ _ _ _ r h => by simp [insolvencyref1_Valid.j0] at h
 | k + 1 => by
  have ih0 := insolvencyref1_Valid.mono_l k
  ·intro y0 y1 y2 y3
   unfold insolvencyref1_Valid.j0
   have m0 := @ih0; have m1 := @insolvencyref1_GCD.mono; have m2 := @insolvencyref1_Normalize.mono; exact xM
theorem insolvencyref1_Valid.mono : ∀ a0 a1 a2 k, LeO (insolvencyref1_Valid.f k a0 a1 a2) (insolvencyref1_Valid.f (k + 1) a0 a1 a2) := by
 intro a0 a1 a2 k
 have ih0 := insolvencyref1_Valid.mono_l k
 unfold insolvencyref1_Valid.f
 have m0 := @ih0; have m1 := @insolvencyref1_GCD.mono; have m2 := @insolvencyref1_Normalize.mono; exact xM
theorem insolvencyref1_Valid.calls (k : Nat) (a0_0 : Bool) (a0_1 : ByteArray) (a0_2 : ByteArray) (r : Bool) (w : World) (h : insolvencyref1_Valid.f k a0_0 a0_1 a0_2 = some r) :
  Calls Tryd.prog 85 #[.agg #[.bool a0_0, .string a0_1, .string a0_2]] w fun e w' => e = .returned (.bool r) ∧ Below w.heap.size w w' := by
 have hu25 := Tryd.underlying25
 have HB := Aside0.mk (Below.refl w.heap.size w)
 have H := h; clear h
 unfold insolvencyref1_Valid.f at H
 have HC2 := Aside0.mk H
 clear H
 go_enter Tryd.func85, Tryd.ntmps85
 go_upto_region 1 with (refine xF (N := 1) #[.bool a0_0, .string a0_1, .string a0_2] 25 HB ?_; clear HB; intro gb783 hg w3 hb BK783 GW783 HB; clear hb hg)
 repeat (go_quiet (((with_reducible refine gate_dst (N := 1) rfl ?_); refine box_event ?hg (N := 1) ?hd (cs := #[.bool a0_0, .string a0_1, .string a0_2]) (t := 25) ?hr ?_; (case hd => rfl); (case hg => rfl); (case hr => first | (go_simp; done) | (go_simp; rfl)); intro gb783 hg w3 hbox hb; have n0_ := xS HB hb; have n1_ := Aside0.mk (hbox); have n2_ := (xG HB hg); have n3_ := (xG HB hg); clear HB; have HB := n0_; have BK783 := n1_; have GW783 := n2_; have GE783 := n3_; clear n0_ n1_ n2_ n3_; clear hb hbox hg)); go_upto_region 1 with (refine xF (N := 1) #[.bool a0_0, .string a0_1, .string a0_2] 25 HB ?_; clear HB; intro gb783 hg w3 hb BK783 GW783 HB; clear hb hg))
 go_cut [21] (fun v21 wc => ∃ (kq : Nat) (x21_1 : Bool), v21 = .bool x21_1 ∧ Aside0 (insolvencyref1_Valid.j0 kq x21_1 a0_0 a0_1 a0_2 = some r) ∧ Aside0 (kq ≤ k) ∧ Aside0 (wc.heap[gb783]? = some (.cells #[.bool a0_0, .string a0_1, .string a0_2] 25 (0, 0))) ∧ Aside0 (Below w.heap.size w wc))
 case first =>
  have H := HC2.out
  clear HC2
  replace H := xH H; obtain ⟨t784, A4, H⟩ := H
  obtain ⟨c5, H⟩ | ⟨c5, H⟩ := xO H
  ·have c5b0 := beq_iff_eq.mpr c5
   have c5b1 := bne_eq_false_iff_eq.mpr c5
   clear c5
   skip
   replace H := xH H; obtain ⟨t785, A6, H⟩ := H
   obtain ⟨c7, H⟩ | ⟨c7, H⟩ := xO H
   ·have c7b0 := beq_iff_eq.mpr c7
    have c7b1 := bne_eq_false_iff_eq.mpr c7
    clear c7
    have H' := Aside0.mk H
    clear H
    obtain ⟨hcz8_0, hcz8_1, hcz8_2, hfz8_0, hfz8_1, hfz8_2⟩ := x6 BK783
    go_wp2_with (first | (go_at_call 89; (with_reducible refine (insolvencyref1_Normalize.calls k a0_1 t784 _ A4.out).mono ?_); rintro e w' ⟨rfl, ⟨nd, rfl⟩⟩; (try first | exact ⟨rfl, _, World.drewN_drewN _ _ _⟩ | exact ⟨rfl, _, Eq.trans (World.drewN_drewN _ _ _) (congrArg (World.drewN _) (Nat.add_assoc _ _ _))⟩)) | (go_at_call 89; (with_reducible refine (insolvencyref1_Normalize.calls k a0_2 t785 _ A6.out).mono ?_); rintro e w' ⟨rfl, ⟨nd, rfl⟩⟩; (try first | exact ⟨rfl, _, World.drewN_drewN _ _ _⟩ | exact ⟨rfl, _, Eq.trans (World.drewN_drewN _ _ _) (congrArg (World.drewN _) (Nat.add_assoc _ _ _))⟩)))
    repeat (go_quiet (first | (go_at_call 89; (with_reducible refine (insolvencyref1_Normalize.calls k a0_1 t784 _ A4.out).mono ?_); rintro e w' ⟨rfl, ⟨nd, rfl⟩⟩; (try exact ⟨rfl, _, World.drewN_drewN _ _ _⟩)) | (go_at_call 89; (with_reducible refine (insolvencyref1_Normalize.calls k a0_2 t785 _ A6.out).mono ?_); rintro e w' ⟨rfl, ⟨nd, rfl⟩⟩; (try exact ⟨rfl, _, World.drewN_drewN _ _ _⟩))); try go_wp2_with (first | (go_at_call 89; (with_reducible refine (insolvencyref1_Normalize.calls k a0_1 t784 _ A4.out).mono ?_); rintro e w' ⟨rfl, ⟨nd, rfl⟩⟩; (try first | exact ⟨rfl, _, World.drewN_drewN _ _ _⟩ | exact ⟨rfl, _, Eq.trans (World.drewN_drewN _ _ _) (congrArg (World.drewN _) (Nat.add_assoc _ _ _))⟩)) | (go_at_call 89; (with_reducible refine (insolvencyref1_Normalize.calls k a0_2 t785 _ A6.out).mono ?_); rintro e w' ⟨rfl, ⟨nd, rfl⟩⟩; (try first | exact ⟨rfl, _, World.drewN_drewN _ _ _⟩ | exact ⟨rfl, _, Eq.trans (World.drewN_drewN _ _ _) (congrArg (World.drewN _) (Nat.add_assoc _ _ _))⟩))))
    go_meet
    case rel => exact ⟨_, (a0_2.toList == ([1] : List UInt8)), xz, H', ⟨by omega⟩, ⟨xb BK783⟩, ⟨xs HB⟩⟩
   have c7b0 := beq_eq_false_iff_ne.mpr c7
   have c7b1 := bne_iff_ne.mpr c7
   have H' := Aside0.mk H
   clear H
   obtain ⟨hcz9_0, hcz9_1, hcz9_2, hfz9_0, hfz9_1, hfz9_2⟩ := x6 BK783
   go_wp2_with (first | (go_at_call 89; (with_reducible refine (insolvencyref1_Normalize.calls k a0_1 t784 _ A4.out).mono ?_); rintro e w' ⟨rfl, ⟨nd, rfl⟩⟩; (try first | exact ⟨rfl, _, World.drewN_drewN _ _ _⟩ | exact ⟨rfl, _, Eq.trans (World.drewN_drewN _ _ _) (congrArg (World.drewN _) (Nat.add_assoc _ _ _))⟩)) | (go_at_call 89; (with_reducible refine (insolvencyref1_Normalize.calls k a0_2 t785 _ A6.out).mono ?_); rintro e w' ⟨rfl, ⟨nd, rfl⟩⟩; (try first | exact ⟨rfl, _, World.drewN_drewN _ _ _⟩ | exact ⟨rfl, _, Eq.trans (World.drewN_drewN _ _ _) (congrArg (World.drewN _) (Nat.add_assoc _ _ _))⟩)))
   repeat (go_quiet (first | (go_at_call 89; (with_reducible refine (insolvencyref1_Normalize.calls k a0_1 t784 _ A4.out).mono ?_); rintro e w' ⟨rfl, ⟨nd, rfl⟩⟩; (try exact ⟨rfl, _, World.drewN_drewN _ _ _⟩)) | (go_at_call 89; (with_reducible refine (insolvencyref1_Normalize.calls k a0_2 t785 _ A6.out).mono ?_); rintro e w' ⟨rfl, ⟨nd, rfl⟩⟩; (try exact ⟨rfl, _, World.drewN_drewN _ _ _⟩))); try go_wp2_with (first | (go_at_call 89; (with_reducible refine (insolvencyref1_Normalize.calls k a0_1 t784 _ A4.out).mono ?_); rintro e w' ⟨rfl, ⟨nd, rfl⟩⟩; (try first | exact ⟨rfl, _, World.drewN_drewN _ _ _⟩ | exact ⟨rfl, _, Eq.trans (World.drewN_drewN _ _ _) (congrArg (World.drewN _) (Nat.add_assoc _ _ _))⟩)) | (go_at_call 89; (with_reducible refine (insolvencyref1_Normalize.calls k a0_2 t785 _ A6.out).mono ?_); rintro e w' ⟨rfl, ⟨nd, rfl⟩⟩; (try first | exact ⟨rfl, _, World.drewN_drewN _ _ _⟩ | exact ⟨rfl, _, Eq.trans (World.drewN_drewN _ _ _) (congrArg (World.drewN _) (Nat.add_assoc _ _ _))⟩))))
   go_meet
   case rel => exact ⟨_, (true), xz, H', ⟨by omega⟩, ⟨xb BK783⟩, ⟨xs HB⟩⟩
  have c5b0 := beq_eq_false_iff_ne.mpr c5
  have c5b1 := bne_iff_ne.mpr c5
  skip
  have H' := Aside0.mk H
  clear H
  obtain ⟨hcz10_0, hcz10_1, hcz10_2, hfz10_0, hfz10_1, hfz10_2⟩ := x6 BK783
  go_wp2_with (go_at_call 89; (with_reducible refine (insolvencyref1_Normalize.calls k a0_1 t784 _ A4.out).mono ?_); rintro e w' ⟨rfl, ⟨nd, rfl⟩⟩; (try first | exact ⟨rfl, _, World.drewN_drewN _ _ _⟩ | exact ⟨rfl, _, Eq.trans (World.drewN_drewN _ _ _) (congrArg (World.drewN _) (Nat.add_assoc _ _ _))⟩))
  repeat (go_quiet ((go_at_call 89; (with_reducible refine (insolvencyref1_Normalize.calls k a0_1 t784 _ A4.out).mono ?_); rintro e w' ⟨rfl, ⟨nd, rfl⟩⟩; (try exact ⟨rfl, _, World.drewN_drewN _ _ _⟩))); try go_wp2_with (go_at_call 89; (with_reducible refine (insolvencyref1_Normalize.calls k a0_1 t784 _ A4.out).mono ?_); rintro e w' ⟨rfl, ⟨nd, rfl⟩⟩; (try first | exact ⟨rfl, _, World.drewN_drewN _ _ _⟩ | exact ⟨rfl, _, Eq.trans (World.drewN_drewN _ _ _) (congrArg (World.drewN _) (Nat.add_assoc _ _ _))⟩)))
  go_meet
  case rel => exact ⟨_, (true), xz, H', ⟨by omega⟩, ⟨xb BK783⟩, ⟨xs HB⟩⟩
 case rest =>
  clear HC2
  obtain ⟨kq, x21_1, rfl, HA, HJ1, BK783, HB⟩ := hcut
  cases kq with
  | zero => exact absurd HA.out (by simp [insolvencyref1_Valid.j0])
  | succ kj1 =>
   have H := HA.out
   clear HA
   simp only [insolvencyref1_Valid.j0] at H
   by_cases c11 : x21_1 = true
   ·subst c11
    replace H := xI H
    obtain rfl := Option.some.inj H
    go_wp2
    repeat (go_quiet (fail); try go_wp2)
    go_ret
    exact ⟨xy, xs HB⟩
   replace c11 := Bool.eq_false_iff.mpr c11
   subst c11
   have H1 : (if a0_1.toList = ([] : List UInt8) then (if a0_0 = true then (some false) else (some (a0_2.toList == ([] : List UInt8)))) else (if a0_2.toList = ([] : List UInt8) then (some true) else ((insolvencyref1_GCD.f kj1 a0_1 a0_2).bind fun t786 => (some (t786.toList == ([1] : List UInt8)))))) = some r := by rw [if_neg (show ¬ (false = true) by decide)] at H; exact H
   clear H
   have H := H1
   clear H1
   obtain ⟨c12, H⟩ | ⟨c12, H⟩ := xO H
   ·have c12b0 := beq_iff_eq.mpr c12
    have c12b1 := bne_eq_false_iff_eq.mpr c12
    clear c12
    by_cases c13 : a0_0 = true
    ·subst c13
     replace H := xI H
     obtain rfl := Option.some.inj H
     obtain ⟨hcz14_0, hcz14_1, hcz14_2, hfz14_0, hfz14_1, hfz14_2⟩ := x6 BK783
     go_wp2
     repeat (go_quiet (fail); try go_wp2)
     go_ret
     exact ⟨xy, xs HB⟩
    replace c13 := Bool.eq_false_iff.mpr c13
    subst c13
    have H1 : (some (a0_2.toList == ([] : List UInt8))) = some r := by rw [if_neg (show ¬ (false = true) by decide)] at H; exact H
    clear H
    have H := H1
    clear H1
    obtain rfl := Option.some.inj H
    obtain ⟨hcz15_0, hcz15_1, hcz15_2, hfz15_0, hfz15_1, hfz15_2⟩ := x6 BK783
    go_wp2
    repeat (go_quiet (fail); try go_wp2)
    go_ret
    exact ⟨xy, xs HB⟩
   have c12b0 := beq_eq_false_iff_ne.mpr c12
   have c12b1 := bne_iff_ne.mpr c12
   obtain ⟨c16, H⟩ | ⟨c16, H⟩ := xO H
   ·have c16b0 := beq_iff_eq.mpr c16
    have c16b1 := bne_eq_false_iff_eq.mpr c16
    clear c16
    obtain rfl := Option.some.inj H
    obtain ⟨hcz17_0, hcz17_1, hcz17_2, hfz17_0, hfz17_1, hfz17_2⟩ := x6 BK783
    go_wp2
    repeat (go_quiet (fail); try go_wp2)
    go_ret
    exact ⟨xy, xs HB⟩
   have c16b0 := beq_eq_false_iff_ne.mpr c16
   have c16b1 := bne_iff_ne.mpr c16
   replace H := xH H; obtain ⟨t786, A18, H⟩ := H
   obtain rfl := Option.some.inj H
   obtain ⟨hcz19_0, hcz19_1, hcz19_2, hfz19_0, hfz19_1, hfz19_2⟩ := x6 BK783
   go_wp2_with (go_at_call 100; (with_reducible refine (insolvencyref1_GCD.calls kj1 a0_1 a0_2 t786 _ A18.out).mono ?_); rintro e w20 ⟨rfl, hb⟩; replace BK783 := xB BK783 hb; replace HB := xS HB hb; clear hb)
   repeat (go_quiet ((go_at_call 100; (with_reducible refine (insolvencyref1_GCD.calls kj1 a0_1 a0_2 t786 _ A18.out).mono ?_); rintro e w20 ⟨rfl, hb⟩; have n0_ := xB BK783 hb; have n1_ := xS HB hb; clear BK783; clear HB; have BK783 := n0_; have HB := n1_; clear n0_ n1_)); try go_wp2_with (go_at_call 100; (with_reducible refine (insolvencyref1_GCD.calls kj1 a0_1 a0_2 t786 _ A18.out).mono ?_); rintro e w20 ⟨rfl, hb⟩; replace BK783 := xB BK783 hb; replace HB := xS HB hb; clear hb))
   go_ret
   exact ⟨xy, xs HB⟩
/-! ### insolvencyref1_Fix: function 57 -/
def insolvencyref1_Fix.f (k : Nat) (a0_0 : Bool) (a0_1 : ByteArray) (a0_2 : ByteArray) : Option (Bool × ByteArray × ByteArray) := (insolvencyref1_Valid.f k a0_0 a0_1 a0_2).bind fun t789 => (if t789 = true then (some (a0_0, a0_1, a0_2)) else (some (false, (⟨#[]⟩ : ByteArray), (⟨#[]⟩ : ByteArray))))
theorem insolvencyref1_Fix.mono : ∀ a0 a1 a2 k, LeO (insolvencyref1_Fix.f k a0 a1 a2) (insolvencyref1_Fix.f (k + 1) a0 a1 a2) := by
 intro a0 a1 a2 k
 unfold insolvencyref1_Fix.f
 have m0 := @insolvencyref1_Valid.mono; exact xM
theorem insolvencyref1_Fix.calls (k : Nat) (a0_0 : Bool) (a0_1 : ByteArray) (a0_2 : ByteArray) (r1 : Bool) (r2 : ByteArray) (r3 : ByteArray) (w : World) (h : insolvencyref1_Fix.f k a0_0 a0_1 a0_2 = some (r1, r2, r3)) :
  Calls Tryd.prog 57 #[.agg #[.bool a0_0, .string a0_1, .string a0_2]] w fun e w' => e = .returned (.agg #[.bool r1, .string r2, .string r3]) ∧ Below w.heap.size w w' := by
 have hu25 := Tryd.underlying25
 have HB := Aside0.mk (Below.refl w.heap.size w)
 have H := h; clear h
 unfold insolvencyref1_Fix.f at H
 replace H := xH H; obtain ⟨t789, A2, H⟩ := H
 by_cases c3 : t789 = true
 ·subst c3
  replace H := xI H
  simp only [Option.some.injEq, Prod.mk.injEq] at H
  obtain ⟨rfl, rfl, rfl⟩ := H
  go_enter Tryd.func57, Tryd.ntmps57
  go_wp2_with (first | (refine xF (N := 1) #[.bool a0_0, .string a0_1, .string a0_2] 25 HB ?_; clear HB; intro gb787 hg w4 hb BK787 GW787 HB; clear hb hg) | (refine xF (N := 2) #[.bool false, .string (⟨#[]⟩ : ByteArray), .string (⟨#[]⟩ : ByteArray)] 25 HB ?_; clear HB; intro gb788 hg w5 hb BK788 GW788 HB; have NB787_788 := xL BK787 hg; have NB788_787 := xR BK787 hg; replace BK787 := xB BK787 hb; clear hb hg; have hnb6 := NB787_788.out; have hnc6 := NB788_787.out; obtain ⟨hcz7_0, hcz7_1, hcz7_2, hfz7_0, hfz7_1, hfz7_2⟩ := x6 BK787) | (refine xC Tryd.func85 (some 4) (insolvencyref1_Valid.calls k a0_0 a0_1 a0_2 true _ A2.out) ?_; rintro w8 hb; replace BK787 := xB BK787 hb; replace BK788 := xB BK788 hb; replace HB := xS HB hb; clear hb; obtain ⟨hcz9_0, hcz9_1, hcz9_2, hfz9_0, hfz9_1, hfz9_2⟩ := x6 BK787; obtain ⟨hcz10_0, hcz10_1, hcz10_2, hfz10_0, hfz10_1, hfz10_2⟩ := x6 BK788))
  refine bodyPost_ret (results_cell_row rfl _ _ gb788 25 #[.bool a0_0, .string a0_1, .string a0_2] (0, 0) _ rfl (xp BK788) Tryd.underlying25 rfl (by kernel_rfl)) rfl ?_
  exact ⟨xy, xs HB⟩
 replace c3 := Bool.eq_false_iff.mpr c3
 subst c3
 have H1 : (some (false, (⟨#[]⟩ : ByteArray), (⟨#[]⟩ : ByteArray))) = some (r1, r2, r3) := by rw [if_neg (show ¬ (false = true) by decide)] at H; exact H
 clear H
 have H := H1
 clear H1
 simp only [Option.some.injEq, Prod.mk.injEq] at H
 obtain ⟨rfl, rfl, rfl⟩ := H
 go_enter Tryd.func57, Tryd.ntmps57
 go_wp2_with (first | (refine xF (N := 1) #[.bool a0_0, .string a0_1, .string a0_2] 25 HB ?_; clear HB; intro gb787 hg w11 hb BK787 GW787 HB; clear hb hg) | (refine xF (N := 2) #[.bool false, .string (⟨#[]⟩ : ByteArray), .string (⟨#[]⟩ : ByteArray)] 25 HB ?_; clear HB; intro gb788 hg w12 hb BK788 GW788 HB; have NB787_788 := xL BK787 hg; have NB788_787 := xR BK787 hg; replace BK787 := xB BK787 hb; clear hb hg; have hnb13 := NB787_788.out; have hnc13 := NB788_787.out; obtain ⟨hcz14_0, hcz14_1, hcz14_2, hfz14_0, hfz14_1, hfz14_2⟩ := x6 BK787) | (refine xC Tryd.func85 (some 4) (insolvencyref1_Valid.calls k a0_0 a0_1 a0_2 false _ A2.out) ?_; rintro w15 hb; replace BK787 := xB BK787 hb; replace BK788 := xB BK788 hb; replace HB := xS HB hb; clear hb; obtain ⟨hcz16_0, hcz16_1, hcz16_2, hfz16_0, hfz16_1, hfz16_2⟩ := x6 BK788))
 refine bodyPost_ret (results_cell_row rfl _ _ gb788 25 #[.bool false, .string (⟨#[]⟩ : ByteArray), .string (⟨#[]⟩ : ByteArray)] (0, 0) _ rfl (xp BK788) Tryd.underlying25 rfl (by kernel_rfl)) rfl ?_
 exact ⟨xy, xs HB⟩
/-! ### insolvencyref17_amount: function 40 -/
def insolvencyref17_amount.f (k : Nat) (a0_0 : Bool) (a0_1 : ByteArray) (a0_2 : ByteArray) : Option (Bool × ByteArray × ByteArray) := (insolvencyref1_Fix.f k a0_0 a0_1 a0_2).bind fun bt792 => ((insolvencyref1_Positive.f bt792.1 bt792.2.1 bt792.2.2).bind fun bt795 => (some (bt795.1, bt795.2.1, bt795.2.2)))
theorem insolvencyref17_amount.mono : ∀ a0 a1 a2 k, LeO (insolvencyref17_amount.f k a0 a1 a2) (insolvencyref17_amount.f (k + 1) a0 a1 a2) := by
 intro a0 a1 a2 k
 unfold insolvencyref17_amount.f
 have m0 := @insolvencyref1_Fix.mono; exact xM
theorem insolvencyref17_amount.calls (k : Nat) (a0_0 : Bool) (a0_1 : ByteArray) (a0_2 : ByteArray) (r1 : Bool) (r2 : ByteArray) (r3 : ByteArray) (w : World) (h : insolvencyref17_amount.f k a0_0 a0_1 a0_2 = some (r1, r2, r3)) :
  Calls Tryd.prog 40 #[.agg #[.bool a0_0, .string a0_1, .string a0_2]] w fun e w' => e = .returned (.agg #[.bool r1, .string r2, .string r3]) ∧ Below w.heap.size w w' := by
 have hu25 := Tryd.underlying25
 have HB := Aside0.mk (Below.refl w.heap.size w)
 have H := h; clear h
 unfold insolvencyref17_amount.f at H
 replace H := xH H; obtain ⟨⟨t792, t793, t794⟩, A2, H⟩ := H
 dsimp only at H
 replace H := xH H; obtain ⟨⟨t795, t796, t797⟩, A3, H⟩ := H
 dsimp only at H
 simp only [Option.some.injEq, Prod.mk.injEq] at H
 obtain ⟨rfl, rfl, rfl⟩ := H
 go_enter Tryd.func40, Tryd.ntmps40
 go_wp2_with (first | (refine xF (N := 1) #[.bool a0_0, .string a0_1, .string a0_2] 25 HB ?_; clear HB; intro gb790 hg w4 hb BK790 GW790 HB; clear hb hg) | (refine xF (N := 2) #[.bool false, .string (⟨#[]⟩ : ByteArray), .string (⟨#[]⟩ : ByteArray)] 25 HB ?_; clear HB; intro gb791 hg w5 hb BK791 GW791 HB; have NB790_791 := xL BK790 hg; have NB791_790 := xR BK790 hg; replace BK790 := xB BK790 hb; clear hb hg; have hnb6 := NB790_791.out; have hnc6 := NB791_790.out; obtain ⟨hcz7_0, hcz7_1, hcz7_2, hfz7_0, hfz7_1, hfz7_2⟩ := x6 BK790) | (refine xC Tryd.func57 (some 4) (insolvencyref1_Fix.calls k a0_0 a0_1 a0_2 t792 t793 t794 _ A2.out) ?_; rintro w8 hb; replace BK790 := xB BK790 hb; replace BK791 := xB BK791 hb; replace HB := xS HB hb; clear hb) | (refine xC Tryd.func41 (some 5) (insolvencyref1_Positive.calls t792 t793 t794 t795 t796 t797 _ A3.out) ?_; rintro w9 hb; replace BK790 := xB BK790 hb; replace BK791 := xB BK791 hb; replace HB := xS HB hb; clear hb; obtain ⟨hcz10_0, hcz10_1, hcz10_2, hfz10_0, hfz10_1, hfz10_2⟩ := x6 BK791))
 refine bodyPost_ret (results_cell_row rfl _ _ gb791 25 #[.bool t795, .string t796, .string t797] (0, 0) _ rfl (xp BK791) Tryd.underlying25 rfl (by kernel_rfl)) rfl ?_
 exact ⟨xy, xs HB⟩
/-! ### insolvencyref1_den: function 65 -/
def insolvencyref1_den.f (k : Nat) (a0_0 : Bool) (a0_1 : ByteArray) (a0_2 : ByteArray) : Option (List Int) := if a0_2.toList = ([] : List UInt8) then (some ([1] : List Int)) else ((insolvencyref1_limbs.f k a0_2).bind fun t802 => (some t802))
theorem insolvencyref1_den.mono : ∀ a0 a1 a2 k, LeO (insolvencyref1_den.f k a0 a1 a2) (insolvencyref1_den.f (k + 1) a0 a1 a2) := by
 intro a0 a1 a2 k
 unfold insolvencyref1_den.f
 have m0 := @insolvencyref1_limbs.mono; exact xM
theorem insolvencyref1_den.calls (k : Nat) (a0_0 : Bool) (a0_1 : ByteArray) (a0_2 : ByteArray) (r : List Int) (w : World) (h : insolvencyref1_den.f k a0_0 a0_1 a0_2 = some r) :
  Calls Tryd.prog 65 #[.agg #[.bool a0_0, .string a0_1, .string a0_2]] w fun e w' => ∃ v0_ : Value, e = .returned (v0_) ∧ Kd.R (Kd.int .u32) 85 w' w.heap.size (fun _ => True) v0_ r ∧ Below w.heap.size w w' := by
 have hu25 := Tryd.underlying25
 have HB := Aside0.mk (Below.refl w.heap.size w)
 have H := h; clear h
 unfold insolvencyref1_den.f at H
 obtain ⟨c2, H⟩ | ⟨c2, H⟩ := xO H
 ·have c2b0 := beq_iff_eq.mpr c2
  have c2b1 := bne_eq_false_iff_eq.mpr c2
  clear c2
  generalize hy799 : (([1] : List Int) : List Int) = y799 at H
  have Ny799 := Aside0.mk hy799.symm
  clear hy799
  obtain rfl := Option.some.inj H
  go_enter Tryd.func65, Tryd.ntmps65
  go_wp2_with (first | (refine xF (N := 1) #[.bool a0_0, .string a0_1, .string a0_2] 25 HB ?_; clear HB; intro gb798 hg w3 hb BK798 GW798 HB; clear hb hg; obtain ⟨hcz4_0, hcz4_1, hcz4_2, hfz4_0, hfz4_1, hfz4_2⟩ := x6 BK798) | ((with_reducible refine gate_dst (N := 6) rfl ?_); refine Kd.R_lit (Kd.int .u32) _ 85 ?hg (N := 6) ?hd (xs := ([1] : List Int)) (inner := [.int .u32 1]) (ok := fun _ => True) (okp := fun _ => True) ?hr ?hp (fun _ hk => hk) trivial (Below.refl _ _) (Nat.le_refl _) (by simp) ?_; (case hd => rfl); (case hg => rfl); (case hr => (go_simp; done)); (case hp => exact (Reps.one (show Kd.M (Kd.int .u32) _ _ _ 1 [.int .u32 1] from rfl) (Reps.none _ _))); intro v800 w5 ho6 hb hg_ hnew_; clear hg_ hnew_; (rw [← Ny799.out] at ho6); have HO801 := Aside0.mk (Kd.R_lower ho6 (below_size (xs HB))); replace BK798 := xB BK798 hb; replace HB := xS HB hb; clear hb ho6))
  go_ret
  exact ⟨_, xy, HO801.out, xs HB⟩
 have c2b0 := beq_eq_false_iff_ne.mpr c2
 have c2b1 := bne_iff_ne.mpr c2
 replace H := xH H; obtain ⟨t802, A7, H⟩ := H
 obtain rfl := Option.some.inj H
 go_enter Tryd.func65, Tryd.ntmps65
 go_wp2_with (first | (refine xF (N := 1) #[.bool a0_0, .string a0_1, .string a0_2] 25 HB ?_; clear HB; intro gb798 hg w8 hb BK798 GW798 HB; clear hb hg; obtain ⟨hcz9_0, hcz9_1, hcz9_2, hfz9_0, hfz9_1, hfz9_2⟩ := x6 BK798) | (refine xg Tryd.func67 (some 9) #[.string a0_2] ?_; (with_reducible refine (insolvencyref1_limbs.calls k a0_2 t802 _ A7.out).mono ?_); rintro e w10 ⟨v803, rfl, ho0, hb⟩; refine ⟨_, rfl, ?_⟩; have HO804 := Aside0.mk (Kd.R_lower ho0 (below_size (xs HB))); replace BK798 := xB BK798 hb; replace HB := xS HB hb; clear hb ho0))
 go_ret
 exact ⟨_, xy, HO804.out, xs HB⟩
/-! ### insolvencyref1_times: function 66 -/
mutual
def insolvencyref1_times.l0 : Nat → List Int → List Int → List Int → Int → Option (List Int)
 | 0, _, _, _, _ => none
 | k + 1, x0, x1, x5, x6 => if x6 < (x0.length : Int) then (insolvencyref1_times.l1 k x0 x1 x5 x6 0 0) else ((insolvencyref1_strip.f k x5).bind fun t808 => (some t808))
def insolvencyref1_times.l1 : Nat → List Int → List Int → List Int → Int → Int → Int → Option (List Int)
 | 0, _, _, _, _, _, _ => none
 | k + 1, x0, x1, x5, x6, x7, x8 => if x8 < (x1.length : Int) then (if 0 ≤ x6 then (if x6 < (x0.length : Int) then (if 0 ≤ x8 then (if 0 ≤ (wrap64 (x6 + x8)) then (if (wrap64 (x6 + x8)) < (x5.length : Int) then (insolvencyref1_times.l1 k x0 x1 (x5.set ((wrap64 (x6 + x8)) : Int).toNat ((IntKind.u64.wrap ((IntKind.u64.wrap (x7 + (IntKind.u64.wrap ((IntKind.u64.wrap (rd x0 x6)) * (IntKind.u64.wrap (rd x1 x8)))))) + (IntKind.u64.wrap (rd x5 (wrap64 (x6 + x8)))))) % 4294967296)) x6 ((IntKind.u64.wrap ((IntKind.u64.wrap (x7 + (IntKind.u64.wrap ((IntKind.u64.wrap (rd x0 x6)) * (IntKind.u64.wrap (rd x1 x8)))))) + (IntKind.u64.wrap (rd x5 (wrap64 (x6 + x8)))))) / 4294967296) (wrap64 (x8 + 1))) else (none)) else (none)) else (none)) else (none)) else (none)) else (if 0 ≤ (wrap64 (x6 + (x1.length : Int))) then (if (wrap64 (x6 + (x1.length : Int))) < (x5.length : Int) then (insolvencyref1_times.l0 k x0 x1 (x5.set ((wrap64 (x6 + (x1.length : Int))) : Int).toNat ((x7) % 4294967296)) (wrap64 (x6 + 1))) else (none)) else (none))
end
def insolvencyref1_times.f (k : Nat) (l0 : List Int) (l1 : List Int) : Option (List Int) := if 0 ≤ (wrap64 ((l0.length : Int) + (l1.length : Int))) then (if (wrap64 ((l0.length : Int) + (l1.length : Int)) : Int).toNat ≤ 70368744177664 then (insolvencyref1_times.l0 k l0 l1 (List.replicate (wrap64 ((l0.length : Int) + (l1.length : Int)) : Int).toNat 0) 0) else (none)) else (none)
theorem insolvencyref1_times.mono_l : ∀ k, (∀ y0 y1 y2 y3, LeO (insolvencyref1_times.l0 k y0 y1 y2 y3) (insolvencyref1_times.l0 (k + 1) y0 y1 y2 y3)) ∧ (∀ y0 y1 y2 y3 y4 y5, LeO (insolvencyref1_times.l1 k y0 y1 y2 y3 y4 y5) (insolvencyref1_times.l1 (k + 1) y0 y1 y2 y3 y4 y5))
 | 0 => ⟨fun _ _ _ _ r h => by simp [insolvencyref1_times.l0] at h, fun _ _ _ _ _ _ r h => by simp [insolvencyref1_times.l1] at h⟩
 | k + 1 => by
  obtain ⟨ih0, ih1⟩ := insolvencyref1_times.mono_l k
  refine ⟨?_, ?_⟩
  ·intro y0 y1 y2 y3
   unfold insolvencyref1_times.l0
   have m0 := @ih0; have m1 := @ih1; have m2 := @insolvencyref1_strip.mono; exact xM
  ·intro y0 y1 y2 y3 y4 y5
   unfold insolvencyref1_times.l1
   have m0 := @ih0; have m1 := @ih1; have m2 := @insolvencyref1_strip.mono; exact xM
theorem insolvencyref1_times.mono : ∀ a0 a1 k, LeO (insolvencyref1_times.f k a0 a1) (insolvencyref1_times.f (k + 1) a0 a1) := by
 intro a0 a1 k
 obtain ⟨ih0, ih1⟩ := insolvencyref1_times.mono_l k
 unfold insolvencyref1_times.f
 have m0 := @ih0; have m1 := @ih1; have m2 := @insolvencyref1_strip.mono; exact xM
theorem insolvencyref1_times.calls (k : Nat) (A0 : Option Addr) (c0 : Nat) (l0 : List Int) (A1 : Option Addr) (c1 : Nat) (l1 : List Int) (r : List Int) (w : World) (hr0 : Kd.C (Kd.int .u32) w A0 l0.length l0) (hc0 : l0.length ≤ c0) (hr1 : Kd.C (Kd.int .u32) w A1 l1.length l1) (hc1 : l1.length ≤ c1) (h : insolvencyref1_times.f k l0 l1 = some r) :
  Calls Tryd.prog 66 #[.slice A0 l0.length c0, .slice A1 l1.length c1] w fun e w' => ∃ v0_ : Value, e = .returned (v0_) ∧ Kd.V (Kd.int .u32) 85 w' w.heap.size (fun k_ => (w.heap.size ≤ k_)) v0_ r ∧ Below w.heap.size w w' := by
 have HR0 := Aside0.mk hr0
 have HC0 := Aside0.mk hc0
 clear hr0 hc0
 have HR1 := Aside0.mk hr1
 have HC1 := Aside0.mk hc1
 clear hr1 hc1
 have HB := Aside0.mk (Below.refl w.heap.size w)
 have H := h; clear h
 unfold insolvencyref1_times.f at H
 generalize hji3 : (wrap64 ((l0.length : Int) + (l1.length : Int))) = ji3 at H
 have hji3w : (IntKind.i64.wrap ((l0.length : Int) + (l1.length : Int))) = ji3 := (i64_w _).trans hji3
 obtain ⟨c4b0, c4b1, H⟩ := xQt H
 obtain ⟨c5b0, c5b1, H⟩ := xQt H
 generalize hy805 : (List.replicate (ji3 : Int).toNat 0 : List Int) = y805 at H
 have Ny805 := Aside0.mk hy805.symm
 clear hy805
 have H' := Aside0.mk H
 clear H
 go_enter Tryd.func66, Tryd.ntmps66
 go_wp2_with ((with_reducible refine gate_dst (N := 14) rfl ?_); refine Kd.R_make (Kd.int .u32) _ 85 rfl (N := 14) rfl 73 _ _ rfl ji3 rfl rfl Tryd.underlying73 (.int .u32 0) 4 info85 rfl (by decide) (by omega) 0 (ok := fun _ => True) (okp := fun _ => True) rfl (fun _ hk => hk) trivial (xa) (Nat.le_trans (Nat.mul_le_mul_right _ (xa : ji3.toNat ≤ 70368744177664)) (by omega)) (Below.refl _ _) (Nat.le_refl _) ?_; intro v806 w6 ho7 hb hg_ hnew_; clear hg_ hnew_; (rw [← Ny805.out] at ho7); have HO807 := Aside0.mk (Kd.R_lower (Kd.R_newM (M := fun k_ => (w.heap.size ≤ k_)) ho7 (below_size (xs HB)) (fun k_ h_ => h_)) (below_size (xs HB))); replace HB := xS HB hb; clear hb ho7)
 repeat (go_quiet (((with_reducible refine gate_dst (N := 14) rfl ?_); refine Kd.R_make (Kd.int .u32) _ 85 rfl (N := 14) rfl 73 _ _ rfl ji3 rfl rfl Tryd.underlying73 (.int .u32 0) 4 info85 rfl (by decide) (by omega) 0 (ok := fun _ => True) (okp := fun _ => True) rfl (fun _ hk => hk) trivial (xa) (Nat.le_trans (Nat.mul_le_mul_right _ (xa : ji3.toNat ≤ 70368744177664)) (by omega)) (Below.refl _ _) (Nat.le_refl _) ?_; intro v806 w6 ho7 hb hg_ hnew_; clear hg_ hnew_; (first | rw [← Ny805.out] at ho7 | (simp only [Int.reduceToNat] at ho7; rw [← Ny805.out] at ho7)); have n0_ := Aside0.mk (Kd.R_lower (Kd.R_newM (M := fun k_ => (w.heap.size ≤ k_)) ho7 (below_size (xs HB)) (fun k_ h_ => h_)) (below_size (xs HB))); have n1_ := xS HB hb; clear HB; have HO807 := n0_; have HB := n1_; clear n0_ n1_; clear hb ho7)); try go_wp2_with ((with_reducible refine gate_dst (N := 14) rfl ?_); refine Kd.R_make (Kd.int .u32) _ 85 rfl (N := 14) rfl 73 _ _ rfl ji3 rfl rfl Tryd.underlying73 (.int .u32 0) 4 info85 rfl (by decide) (by omega) 0 (ok := fun _ => True) (okp := fun _ => True) rfl (fun _ hk => hk) trivial (xa) (Nat.le_trans (Nat.mul_le_mul_right _ (xa : ji3.toNat ≤ 70368744177664)) (by omega)) (Below.refl _ _) (Nat.le_refl _) ?_; intro v806 w6 ho7 hb hg_ hnew_; clear hg_ hnew_; (first | rw [← Ny805.out] at ho7 | (simp only [Int.reduceToNat] at ho7; rw [← Ny805.out] at ho7)); have HO807 := Aside0.mk (Kd.R_lower (Kd.R_newM (M := fun k_ => (w.heap.size ≤ k_)) ho7 (below_size (xs HB)) (fun k_ h_ => h_)) (below_size (xs HB))); replace HB := xS HB hb; clear hb ho7))
 go_loopg [6] k (fun kq v6 w' => ∃ (x5_1 : List Int) (x6_1 : Int), v6 = .int .i64 x6_1 ∧ Aside0 (insolvencyref1_times.l0 kq l0 l1 x5_1 x6_1 = some r) ∧ Aside0 (kq ≤ k) ∧ Aside0 (Kd.R (Kd.int .u32) 85 w' w.heap.size (fun k_ => (w.heap.size ≤ k_)) v806 x5_1) ∧ Aside0 (Below w.heap.size w w'))
 case atStart => exact ⟨(y805), (0), xz, H', ⟨Nat.le_refl _⟩, ⟨by exact Kd.R_mono HO807.out (fun _ hk => hk.1)⟩, ⟨xs HB⟩⟩
 case round =>
  clear H'
  clear c4b0 c4b1 c5b0 c5b1
  obtain ⟨x5_1, x6_1, rfl, HA, HK1, HO_5, HB⟩ := hrel
  cases gk with
  | zero => exact absurd HA.out (by simp [insolvencyref1_times.l0])
  | succ k1 =>
   have H := HA.out
   clear HA
   simp only [insolvencyref1_times.l0] at H
   obtain ⟨c8b0, H⟩ | ⟨c8b0, H⟩ := xOd H
   ·have H' := Aside0.mk H
    clear H
    go_wp2
    repeat (go_quiet (fail); try go_wp2)
    go_loopg [7, 8] k1 (fun kq v7 v8 w' => ∃ (x5_2 : List Int) (x7_2 : Int) (x8_2 : Int), v7 = .int .u64 x7_2 ∧ v8 = .int .i64 x8_2 ∧ Aside0 (insolvencyref1_times.l1 kq l0 l1 x5_2 x6_1 x7_2 x8_2 = some r) ∧ Aside0 (kq ≤ k1) ∧ Aside0 (Kd.R (Kd.int .u32) 85 w' w.heap.size (fun k_ => (w.heap.size ≤ k_)) v806 x5_2) ∧ Aside0 (Below w.heap.size w w'))
    case atStart => exact ⟨(x5_1), (0), (0), xz, xz, H', ⟨Nat.le_refl _⟩, ⟨xr HO_5.out⟩, ⟨xs HB⟩⟩
    case round =>
     clear H'
     clear c8b0
     obtain ⟨x5_2, x7_2, x8_2, rfl, rfl, HA, HK2, HO_5, HB⟩ := hrel
     cases gk with
     | zero => exact absurd HA.out (by simp [insolvencyref1_times.l1])
     | succ k2 =>
      have H := HA.out
      clear HA
      simp only [insolvencyref1_times.l1] at H
      obtain ⟨c9b0, H⟩ | ⟨c9b0, H⟩ := xOd H
      ·obtain ⟨c10b0, H⟩ := xQd H
       obtain ⟨c11b0, H⟩ := xQd H
       obtain ⟨c12b0, H⟩ := xQd H
       generalize hji13 : (wrap64 (x6_1 + x8_2)) = ji13 at H
       have hji13w : (IntKind.i64.wrap (x6_1 + x8_2)) = ji13 := (i64_w _).trans hji13
       obtain ⟨c14b0, H⟩ := xQd H
       obtain ⟨c15b0, H⟩ := xQd H
       generalize hy814 : (x5_2.set ((ji13) : Int).toNat ((IntKind.u64.wrap ((IntKind.u64.wrap (x7_2 + (IntKind.u64.wrap ((IntKind.u64.wrap (rd l0 x6_1)) * (IntKind.u64.wrap (rd l1 x8_2)))))) + (IntKind.u64.wrap (rd x5_2 (ji13))))) % 4294967296) : List Int) = y814 at H
       have Ny814 := Aside0.mk hy814.symm
       clear hy814
       have H' := Aside0.mk H
       clear H
       obtain ⟨p811, q811, ad811, e811, hx811_0⟩ := xA (Kd.at_int HR0.out x6_1)
       cases e811
       (try replace hx811_0 := xcl HB hx811_0)
       obtain ⟨p812, q812, ad812, e812, hx812_0⟩ := xA (Kd.at_int HR1.out x8_2)
       cases e812
       (try replace hx812_0 := xcl HB hx812_0)
       obtain ⟨Ao17, co17, eo17⟩ := Kd.R_slice HO_5.out
       subst eo17
       obtain ⟨p813, q813, ad813, e813, hx813_0⟩ := xA (Kd.at_int (Kd.R_reads' HO_5.out).2.2 (ji13))
       cases e813
       have p16 : 0 ≤ ((ji13) : Int) := xa
       have q16 : ((ji13) : Int) < ((x5_2.length : Int) : Int) := xa
       obtain ⟨go16, co16, eo16, gb16, gl16, cl16, HG16⟩ := Kd.R_form HO_5.out (by omega)
       cases eo16
       have GB16 := Aside0.mk gb16
       have GG16 := Aside0.mk HG16
       clear gb16 gl16 HG16
       simp only [add_plain] at hx813_0
       obtain ⟨hx16_0, hf16_0⟩ := Kd.R_celln 0 HO_5.out ((ji13) : Int) p16 q16
       replace p16 := eq_true p16
       replace q16 := eq_true q16
       have HP18 := Kd.R_putg HO_5.out ((ji13) : Int) ((IntKind.u64.wrap ((IntKind.u64.wrap (x7_2 + (IntKind.u64.wrap ((IntKind.u64.wrap (rd l0 x6_1)) * (IntKind.u64.wrap (rd l1 x8_2)))))) + (IntKind.u64.wrap (rd x5_2 (ji13))))) % 4294967296)
       go_wp2_with (refine xst 85 54 (wr.setCell ⟨go16, ((ji13) : Int).toNat, none⟩ (.int .u32 ((IntKind.u64.wrap ((IntKind.u64.wrap (x7_2 + (IntKind.u64.wrap ((IntKind.u64.wrap (rd l0 x6_1)) * (IntKind.u64.wrap (rd l1 x8_2)))))) + (IntKind.u64.wrap (rd x5_2 (ji13))))) % 4294967296))) ?_; intro w19 hw; have hg : wr.grownBy w19 (some go16) := (by rw [hw]; exact HP18.2); have hp_ : Kd.R (Kd.int .u32) 85 w19 w.heap.size (fun k_ => (w.heap.size ≤ k_)) (.slice (some ⟨go16, 0, none⟩) x5_2.length co17) y814 := (by rw [hw, Ny814.out]; exact HP18.1); clear HP18; replace HO_5 := Aside0.mk (hp_); replace HB := Aside0.mk (by rw [hw]; exact below_set (HB.out) GB16.out : Below w.heap.size w w19); clear hg hw hp_)
       repeat (go_quiet ((refine xst 85 54 (wr.setCell ⟨go16, ((ji13) : Int).toNat, none⟩ (.int .u32 ((IntKind.u64.wrap ((IntKind.u64.wrap (x7_2 + (IntKind.u64.wrap ((IntKind.u64.wrap (rd l0 x6_1)) * (IntKind.u64.wrap (rd l1 x8_2)))))) + (IntKind.u64.wrap (rd x5_2 (ji13))))) % 4294967296))) ?_; intro w19 hw; have hg : wr.grownBy w19 (some go16) := (by rw [hw]; exact HP18.2); have hp_ : Kd.R (Kd.int .u32) 85 w19 w.heap.size (fun k_ => (w.heap.size ≤ k_)) (.slice (some ⟨go16, 0, none⟩) x5_2.length co17) y814 := (by rw [hw, Ny814.out]; exact HP18.1); clear HP18; have n0_ := Aside0.mk (hp_); have n1_ := Aside0.mk (by rw [hw]; exact below_set (HB.out) GB16.out : Below w.heap.size w w19); clear HO_5; clear HB; have HO_5 := n0_; have HB := n1_; clear n0_ n1_; clear hg hw hp_)); try go_wp2_with ((with_reducible refine gate_store (t := 85) (p := 54) rfl ?_); (try (rw [drewN_self wr]; generalize hq_ : World.drewN wr _ = wr; have n0_ := Aside0.mk (Kd.R_at hq_ HO_5.out); have n1_ := Aside0.mk (below_at hq_ HB.out); clear hq_ HO_5 HB; have HO_5 := n0_; have HB := n1_; clear n0_ n1_; (try (have hc_ := Kd.R_celln 0 HO_5.out ((ji13) : Int) (of_eq_true p16) (of_eq_true q16); obtain ⟨hcx_, hcf_⟩ := hc_)); (try (have HP18 := Kd.R_putg HO_5.out ((ji13) : Int) ((IntKind.u64.wrap ((IntKind.u64.wrap (x7_2 + (IntKind.u64.wrap ((IntKind.u64.wrap (rd l0 x6_1)) * (IntKind.u64.wrap (rd l1 x8_2)))))) + (IntKind.u64.wrap (rd x5_2 (ji13))))) % 4294967296))))); refine xst 85 54 (wr.setCell ⟨go16, ((ji13) : Int).toNat, none⟩ (.int .u32 ((IntKind.u64.wrap ((IntKind.u64.wrap (x7_2 + (IntKind.u64.wrap ((IntKind.u64.wrap (rd l0 x6_1)) * (IntKind.u64.wrap (rd l1 x8_2)))))) + (IntKind.u64.wrap (rd x5_2 (ji13))))) % 4294967296))) ?_; intro w19 hw; have hg : wr.grownBy w19 (some go16) := (by rw [hw]; exact HP18.2); have hp_ : Kd.R (Kd.int .u32) 85 w19 w.heap.size (fun k_ => (w.heap.size ≤ k_)) (.slice (some ⟨go16, 0, none⟩) x5_2.length co17) y814 := (by rw [hw, Ny814.out]; exact HP18.1); clear HP18; replace HO_5 := Aside0.mk (hp_); replace HB := Aside0.mk (by rw [hw]; exact below_set (HB.out) GB16.out : Below w.heap.size w w19); clear hg hw hp_))
       go_roundg k2
       case measure => have := HK1.out; have := HK2.out; omega
       case rel => exact ⟨(y814), ((IntKind.u64.wrap ((IntKind.u64.wrap (x7_2 + (IntKind.u64.wrap ((IntKind.u64.wrap (rd l0 x6_1)) * (IntKind.u64.wrap (rd l1 x8_2)))))) + (IntKind.u64.wrap (rd x5_2 (ji13))))) / 4294967296), (wrap64 (x8_2 + 1)), (by rfl), xz, H', ⟨by have := HK1.out; have := HK2.out; omega⟩, ⟨xr HO_5.out⟩, ⟨xs HB⟩⟩
      generalize hji20 : (wrap64 (x6_1 + (l1.length : Int))) = ji20 at H
      have hji20w : (IntKind.i64.wrap (x6_1 + (l1.length : Int))) = ji20 := (i64_w _).trans hji20
      obtain ⟨c21b0, H⟩ := xQd H
      obtain ⟨c22b0, H⟩ := xQd H
      generalize hy815 : (x5_2.set ((ji20) : Int).toNat ((x7_2) % 4294967296) : List Int) = y815 at H
      have Ny815 := Aside0.mk hy815.symm
      clear hy815
      have H' := Aside0.mk H
      clear H
      have p23 : 0 ≤ ((ji20) : Int) := xa
      have q23 : ((ji20) : Int) < ((x5_2.length : Int) : Int) := xa
      obtain ⟨go23, co23, eo23, gb23, gl23, cl23, HG23⟩ := Kd.R_form HO_5.out (by omega)
      cases eo23
      have GB23 := Aside0.mk gb23
      have GG23 := Aside0.mk HG23
      clear gb23 gl23 HG23
      obtain ⟨hx23_0, hf23_0⟩ := Kd.R_celln 0 HO_5.out ((ji20) : Int) p23 q23
      replace p23 := eq_true p23
      replace q23 := eq_true q23
      have HP24 := Kd.R_putg HO_5.out ((ji20) : Int) ((x7_2) % 4294967296)
      go_wp2_with (refine xst 85 64 (wr.setCell ⟨go23, ((ji20) : Int).toNat, none⟩ (.int .u32 ((x7_2) % 4294967296))) ?_; intro w25 hw; have hg : wr.grownBy w25 (some go23) := (by rw [hw]; exact HP24.2); have hp_ : Kd.R (Kd.int .u32) 85 w25 w.heap.size (fun k_ => (w.heap.size ≤ k_)) (.slice (some ⟨go23, 0, none⟩) x5_2.length co23) y815 := (by rw [hw, Ny815.out]; exact HP24.1); clear HP24; replace HO_5 := Aside0.mk (hp_); replace HB := Aside0.mk (by rw [hw]; exact below_set (HB.out) GB23.out : Below w.heap.size w w25); clear hg hw hp_)
      repeat (go_quiet ((refine xst 85 64 (wr.setCell ⟨go23, ((ji20) : Int).toNat, none⟩ (.int .u32 ((x7_2) % 4294967296))) ?_; intro w25 hw; have hg : wr.grownBy w25 (some go23) := (by rw [hw]; exact HP24.2); have hp_ : Kd.R (Kd.int .u32) 85 w25 w.heap.size (fun k_ => (w.heap.size ≤ k_)) (.slice (some ⟨go23, 0, none⟩) x5_2.length co23) y815 := (by rw [hw, Ny815.out]; exact HP24.1); clear HP24; have n0_ := Aside0.mk (hp_); have n1_ := Aside0.mk (by rw [hw]; exact below_set (HB.out) GB23.out : Below w.heap.size w w25); clear HO_5; clear HB; have HO_5 := n0_; have HB := n1_; clear n0_ n1_; clear hg hw hp_)); try go_wp2_with (refine xst 85 64 (wr.setCell ⟨go23, ((ji20) : Int).toNat, none⟩ (.int .u32 ((x7_2) % 4294967296))) ?_; intro w25 hw; have hg : wr.grownBy w25 (some go23) := (by rw [hw]; exact HP24.2); have hp_ : Kd.R (Kd.int .u32) 85 w25 w.heap.size (fun k_ => (w.heap.size ≤ k_)) (.slice (some ⟨go23, 0, none⟩) x5_2.length co23) y815 := (by rw [hw, Ny815.out]; exact HP24.1); clear HP24; replace HO_5 := Aside0.mk (hp_); replace HB := Aside0.mk (by rw [hw]; exact below_set (HB.out) GB23.out : Below w.heap.size w w25); clear hg hw hp_))
      go_roundg k2
      case measure => have := HK1.out; have := HK2.out; omega
      case rel => exact ⟨(y815), (wrap64 (x6_1 + 1)), xz, H', ⟨by have := HK1.out; have := HK2.out; omega⟩, ⟨xr HO_5.out⟩, ⟨xs HB⟩⟩
   replace H := xH H; obtain ⟨t808, A26, H⟩ := H
   obtain rfl := Option.some.inj H
   obtain ⟨Ao27, co27, eo27⟩ := Kd.R_slice HO_5.out
   subst eo27
   go_wp2_with (go_at_call 88; (with_reducible refine (insolvencyref1_strip.calls k1 (fun k_ => some k_ = (.slice Ao27 x5_1.length co27 : Value).ownBlock) _ _ x5_1 t808 _ ?side1 A26.out).mono ?_); (case side1 => exact Kd.R_V (Kd.R_tight rfl (HO_5.out))); rintro e w28 ⟨v809, rfl, ho0, hb⟩; have HO810 := xVm w (fun k_ => (w.heap.size ≤ k_)) ho0 (fun k_ hk_ => Or.elim hk_ (fun hs_ => ((HO_5.out).1 k_ hs_.symm)) (fun hn_ => (Nat.le_trans (below_size (xs HB)) hn_))); replace HO_5 := xRb HO_5 hb; replace HB := xS HB hb; clear hb ho0)
   repeat (go_quiet ((go_at_call 88; (with_reducible refine (insolvencyref1_strip.calls k1 (fun k_ => some k_ = (.slice Ao27 x5_1.length co27 : Value).ownBlock) _ _ x5_1 t808 _ ?side1 A26.out).mono ?_); (case side1 => exact Kd.R_V (Kd.R_tight rfl (HO_5.out))); rintro e w28 ⟨v809, rfl, ho0, hb⟩; have n0_ := xRb HO_5 hb; have n1_ := xVm w (fun k_ => (w.heap.size ≤ k_)) ho0 (fun k_ hk_ => Or.elim hk_ (fun hs_ => ((HO_5.out).1 k_ hs_.symm)) (fun hn_ => (Nat.le_trans (below_size (xs HB)) hn_))); have n2_ := xS HB hb; clear HO_5; clear HB; have HO_5 := n0_; have HO810 := n1_; have HB := n2_; clear n0_ n1_ n2_)); try go_wp2_with (go_at_call 88; (with_reducible refine (insolvencyref1_strip.calls k1 (fun k_ => some k_ = (.slice Ao27 x5_1.length co27 : Value).ownBlock) _ _ x5_1 t808 _ ?side1 A26.out).mono ?_); (case side1 => exact Kd.R_V (Kd.R_tight rfl (HO_5.out))); rintro e w28 ⟨v809, rfl, ho0, hb⟩; have HO810 := xVm w (fun k_ => (w.heap.size ≤ k_)) ho0 (fun k_ hk_ => Or.elim hk_ (fun hs_ => ((HO_5.out).1 k_ hs_.symm)) (fun hn_ => (Nat.le_trans (below_size (xs HB)) hn_))); replace HO_5 := xRb HO_5 hb; replace HB := xS HB hb; clear hb ho0))
   go_ret
   exact ⟨_, by rfl, HO810.out, xs HB⟩
/-! ### insolvencyref1_plus: function 69 -/
mutual
def insolvencyref1_plus.l0 : Nat → List Int → List Int → List Int → Int → Int → Option (List Int)
 | 0, _, _, _, _, _ => none
 | k + 1, x0, x1, x5, x6, x7 => if x7 < (x0.length : Int) then (insolvencyref1_plus.j1 k x0 x1 x5 x6 x7 true) else (if x7 < (x1.length : Int) then (insolvencyref1_plus.j1 k x0 x1 x5 x6 x7 true) else (insolvencyref1_plus.j1 k x0 x1 x5 x6 x7 (decide (x6 > 0))))
def insolvencyref1_plus.j1 : Nat → List Int → List Int → List Int → Int → Int → Bool → Option (List Int)
 | 0, _, _, _, _, _, _ => none
 | k + 1, x0, x1, x5, x6, x7, x21 => if x21 = true then (if x7 < (x0.length : Int) then (if 0 ≤ x7 then (if x7 < (x1.length : Int) then (if x5.length < 35184372088832 then (insolvencyref1_plus.l0 k x0 x1 (x5 ++ [(IntKind.u64.wrap ((IntKind.u64.wrap (x6 + (IntKind.u64.wrap (rd x0 x7)))) + (IntKind.u64.wrap (rd x1 x7)))) % 4294967296]) ((IntKind.u64.wrap ((IntKind.u64.wrap (x6 + (IntKind.u64.wrap (rd x0 x7)))) + (IntKind.u64.wrap (rd x1 x7)))) / 4294967296) (wrap64 (x7 + 1))) else (none)) else (if x5.length < 35184372088832 then (insolvencyref1_plus.l0 k x0 x1 (x5 ++ [(IntKind.u64.wrap (x6 + (IntKind.u64.wrap (rd x0 x7)))) % 4294967296]) ((IntKind.u64.wrap (x6 + (IntKind.u64.wrap (rd x0 x7)))) / 4294967296) (wrap64 (x7 + 1))) else (none))) else (none)) else (if x7 < (x1.length : Int) then (if 0 ≤ x7 then (if x5.length < 35184372088832 then (insolvencyref1_plus.l0 k x0 x1 (x5 ++ [(IntKind.u64.wrap (x6 + (IntKind.u64.wrap (rd x1 x7)))) % 4294967296]) ((IntKind.u64.wrap (x6 + (IntKind.u64.wrap (rd x1 x7)))) / 4294967296) (wrap64 (x7 + 1))) else (none)) else (none)) else (if x5.length < 35184372088832 then (insolvencyref1_plus.l0 k x0 x1 (x5 ++ [(x6) % 4294967296]) (x6 / 4294967296) (wrap64 (x7 + 1))) else (none)))) else (some x5)
end
def insolvencyref1_plus.f (k : Nat) (l0 : List Int) (l1 : List Int) : Option (List Int) := insolvencyref1_plus.l0 k l0 l1 ([] : List Int) 0 0
theorem insolvencyref1_plus.mono_l : ∀ k, (∀ y0 y1 y2 y3 y4, LeO (insolvencyref1_plus.l0 k y0 y1 y2 y3 y4) (insolvencyref1_plus.l0 (k + 1) y0 y1 y2 y3 y4)) ∧ (∀ y0 y1 y2 y3 y4 y5, LeO (insolvencyref1_plus.j1 k y0 y1 y2 y3 y4 y5) (insolvencyref1_plus.j1 (k + 1) y0 y1 y2 y3 y4 y5))
 | 0 => ⟨fun _ _ _ _ _ r h => by simp [insolvencyref1_plus.l0] at h, fun _ _ _ _ _ _ r h => by simp [insolvencyref1_plus.j1] at h⟩
 | k + 1 => by
  obtain ⟨ih0, ih1⟩ := insolvencyref1_plus.mono_l k
  refine ⟨?_, ?_⟩
  ·intro y0 y1 y2 y3 y4
   unfold insolvencyref1_plus.l0
   have m0 := @ih0; have m1 := @ih1; exact xM
  ·intro y0 y1 y2 y3 y4 y5
   unfold insolvencyref1_plus.j1
   have m0 := @ih0; have m1 := @ih1; exact xM
theorem insolvencyref1_plus.mono : ∀ a0 a1 k, LeO (insolvencyref1_plus.f k a0 a1) (insolvencyref1_plus.f (k + 1) a0 a1) := by
 intro a0 a1 k
 obtain ⟨ih0, ih1⟩ := insolvencyref1_plus.mono_l k
 unfold insolvencyref1_plus.f
 have m0 := @ih0; have m1 := @ih1; exact xM
theorem insolvencyref1_plus.calls (k : Nat) (A0 : Option Addr) (c0 : Nat) (l0 : List Int) (A1 : Option Addr) (c1 : Nat) (l1 : List Int) (r : List Int) (w : World) (hr0 : Kd.C (Kd.int .u32) w A0 l0.length l0) (hc0 : l0.length ≤ c0) (hr1 : Kd.C (Kd.int .u32) w A1 l1.length l1) (hc1 : l1.length ≤ c1) (h : insolvencyref1_plus.f k l0 l1 = some r) :
  Calls Tryd.prog 69 #[.slice A0 l0.length c0, .slice A1 l1.length c1] w fun e w' => ∃ v0_ : Value, e = .returned (v0_) ∧ Kd.R (Kd.int .u32) 85 w' w.heap.size (fun _ => True) v0_ r ∧ Below w.heap.size w w' := by
 have HR0 := Aside0.mk hr0
 have HC0 := Aside0.mk hc0
 clear hr0 hc0
 have HR1 := Aside0.mk hr1
 have HC1 := Aside0.mk hc1
 clear hr1 hc1
 have HB := Aside0.mk (Below.refl w.heap.size w)
 have H := h; clear h
 unfold insolvencyref1_plus.f at H
 have H' := Aside0.mk H
 clear H
 go_enter Tryd.func69, Tryd.ntmps69
 go_wp2
 go_loopg [5, 6, 7] k (fun kq v5 v6 v7 w' => ∃ (x5_1 : List Int) (x6_1 : Int) (x7_1 : Int), v6 = .int .u64 x6_1 ∧ v7 = .int .i64 x7_1 ∧ Aside0 (insolvencyref1_plus.l0 kq l0 l1 x5_1 x6_1 x7_1 = some r) ∧ Aside0 (kq ≤ k) ∧ Aside0 (Kd.R (Kd.int .u32) 85 w' w.heap.size (fun _ => True) v5 x5_1) ∧ Aside0 (Below w.heap.size w w'))
 case atStart => exact ⟨([] : List Int), (0), (0), xz, xz, H', ⟨Nat.le_refl _⟩, ⟨by exact Kd.R_nil _ _ _ _ _⟩, ⟨xs HB⟩⟩
 case round =>
  clear H'
  obtain ⟨x5_1, x6_1, x7_1, rfl, rfl, HA, HK1, HO_5, HB⟩ := hrel
  cases gk with
  | zero => exact absurd HA.out (by simp [insolvencyref1_plus.l0])
  | succ k1 =>
   have H := HA.out
   clear HA
   simp only [insolvencyref1_plus.l0] at H
   have HC3 := Aside0.mk H
   clear H
   go_upto_region 4 with (fail)
   repeat (go_quiet (fail); go_upto_region 4 with (fail))
   go_cut [21] (fun v21 wc => ∃ (kq : Nat) (x21_2 : Bool), v21 = .bool x21_2 ∧ Aside0 (insolvencyref1_plus.j1 kq l0 l1 x5_1 x6_1 x7_1 x21_2 = some r) ∧ Aside0 (kq ≤ k1) ∧ Aside0 (Kd.R (Kd.int .u32) 85 wc w.heap.size (fun _ => True) u5 x5_1) ∧ Aside0 (Below w.heap.size w wc))
   case first =>
    have H := HC3.out
    clear HC3
    obtain ⟨c4b0, H⟩ | ⟨c4b0, H⟩ := xOd H
    ·skip
     have H' := Aside0.mk H
     clear H
     go_wp2
     go_meet
     case rel => exact ⟨_, (true), xz, H', ⟨by have := HK1.out; omega⟩, ⟨xr HO_5.out⟩, ⟨xs HB⟩⟩
    skip
    obtain ⟨c5b0, H⟩ | ⟨c5b0, H⟩ := xOd H
    ·have H' := Aside0.mk H
     clear H
     go_wp2
     go_meet
     case rel => exact ⟨_, (true), xz, H', ⟨by have := HK1.out; omega⟩, ⟨xr HO_5.out⟩, ⟨xs HB⟩⟩
    have H' := Aside0.mk H
    clear H
    go_wp2
    go_meet
    case rel => exact ⟨_, (decide (x6_1 > 0)), xz, H', ⟨by have := HK1.out; omega⟩, ⟨xr HO_5.out⟩, ⟨xs HB⟩⟩
   case rest =>
    clear HC3
    obtain ⟨kq, x21_2, rfl, HA, HJ2, HO_5, HB⟩ := hcut
    cases kq with
    | zero => exact absurd HA.out (by simp [insolvencyref1_plus.j1])
    | succ kj2 =>
     have H := HA.out
     clear HA
     simp only [insolvencyref1_plus.j1] at H
     by_cases c6 : x21_2 = true
     ·subst c6
      replace H := xI H
      obtain ⟨c7b0, H⟩ | ⟨c7b0, H⟩ := xOd H
      ·obtain ⟨c8b0, H⟩ := xQd H
       obtain ⟨c9b0, H⟩ | ⟨c9b0, H⟩ := xOd H
       ·obtain ⟨c10, H⟩ := xQ H
        have LMc10 := Aside0.mk c10
        clear c10
        generalize hy818 : (x5_1 ++ [(IntKind.u64.wrap ((IntKind.u64.wrap (x6_1 + (IntKind.u64.wrap (rd l0 x7_1)))) + (IntKind.u64.wrap (rd l1 x7_1)))) % 4294967296] : List Int) = y818 at H
        have Ny818 := Aside0.mk hy818.symm
        clear hy818
        have H' := Aside0.mk H
        clear H
        obtain ⟨p816, q816, ad816, e816, hx816_0⟩ := xA (Kd.at_int HR0.out x7_1)
        cases e816
        (try replace hx816_0 := xcl HB hx816_0)
        obtain ⟨p817, q817, ad817, e817, hx817_0⟩ := xA (Kd.at_int HR1.out x7_1)
        cases e817
        (try replace hx817_0 := xcl HB hx817_0)
        go_wp2_with ((with_reducible refine gate_builtin (b := .append) (xs := #[.tmp 46, .tmp 49]) rfl ?_); (try (refine gate_guard (by rfl) ?_; dsimp only)); at_builtin; refine Kd.R_append (Kd.int .u32) (w0 := w) w.heap.size rfl (.tmp 46) (.tmp 49) 73 85 (.int .u32 0) 4 rfl Tryd.underlying73 info85 rfl (by decide) (by omega) u5 x5_1 ((IntKind.u64.wrap ((IntKind.u64.wrap (x6_1 + (IntKind.u64.wrap (rd l0 x7_1)))) + (IntKind.u64.wrap (rd l1 x7_1)))) % 4294967296) [.int .u32 ((IntKind.u64.wrap ((IntKind.u64.wrap (x6_1 + (IntKind.u64.wrap (rd l0 x7_1)))) + (IntKind.u64.wrap (rd l1 x7_1)))) % 4294967296)] (fun _ => True) (fun _ => False) rfl rfl ?aP (fun _ hk => hk.elim) ?aF ?aO ?aB ?aS ?aL ?_; (case aP => exact rfl); (case aB => exact (xs HB)); (case aF => exact (fun _ _ => trivial)); (case aO => exact (xr HO_5.out)); (case aS => exact (below_size (xs HB))); (case aL => have := LMc10.out; omega); intro v819 w11 ho hb hg hat; rw [← Ny818.out] at ho; replace HB := Aside0.mk (hb); have HO820 := Aside0.mk (ho); clear HO_5 ho hb hg hat)
        go_roundg kj2
        case measure => have := HK1.out; have := HJ2.out; omega
        case rel => exact ⟨(y818), ((IntKind.u64.wrap ((IntKind.u64.wrap (x6_1 + (IntKind.u64.wrap (rd l0 x7_1)))) + (IntKind.u64.wrap (rd l1 x7_1)))) / 4294967296), (wrap64 (x7_1 + 1)), xz, xz, H', ⟨by have := HK1.out; have := HJ2.out; omega⟩, ⟨xr HO820.out⟩, ⟨xs HB⟩⟩
       obtain ⟨c12, H⟩ := xQ H
       have LMc12 := Aside0.mk c12
       clear c12
       generalize hy821 : (x5_1 ++ [(IntKind.u64.wrap (x6_1 + (IntKind.u64.wrap (rd l0 x7_1)))) % 4294967296] : List Int) = y821 at H
       have Ny821 := Aside0.mk hy821.symm
       clear hy821
       have H' := Aside0.mk H
       clear H
       obtain ⟨p816, q816, ad816, e816, hx816_0⟩ := xA (Kd.at_int HR0.out x7_1)
       cases e816
       (try replace hx816_0 := xcl HB hx816_0)
       go_wp2_with ((with_reducible refine gate_builtin (b := .append) (xs := #[.tmp 46, .tmp 49]) rfl ?_); (try (refine gate_guard (by rfl) ?_; dsimp only)); at_builtin; refine Kd.R_append (Kd.int .u32) (w0 := w) w.heap.size rfl (.tmp 46) (.tmp 49) 73 85 (.int .u32 0) 4 rfl Tryd.underlying73 info85 rfl (by decide) (by omega) u5 x5_1 ((IntKind.u64.wrap (x6_1 + (IntKind.u64.wrap (rd l0 x7_1)))) % 4294967296) [.int .u32 ((IntKind.u64.wrap (x6_1 + (IntKind.u64.wrap (rd l0 x7_1)))) % 4294967296)] (fun _ => True) (fun _ => False) rfl rfl ?aP (fun _ hk => hk.elim) ?aF ?aO ?aB ?aS ?aL ?_; (case aP => exact rfl); (case aB => exact (xs HB)); (case aF => exact (fun _ _ => trivial)); (case aO => exact (xr HO_5.out)); (case aS => exact (below_size (xs HB))); (case aL => have := LMc12.out; omega); intro v822 w13 ho hb hg hat; rw [← Ny821.out] at ho; replace HB := Aside0.mk (hb); have HO823 := Aside0.mk (ho); clear HO_5 ho hb hg hat)
       go_roundg kj2
       case measure => have := HK1.out; have := HJ2.out; omega
       case rel => exact ⟨(y821), ((IntKind.u64.wrap (x6_1 + (IntKind.u64.wrap (rd l0 x7_1)))) / 4294967296), (wrap64 (x7_1 + 1)), xz, xz, H', ⟨by have := HK1.out; have := HJ2.out; omega⟩, ⟨xr HO823.out⟩, ⟨xs HB⟩⟩
      obtain ⟨c14b0, H⟩ | ⟨c14b0, H⟩ := xOd H
      ·obtain ⟨c15b0, H⟩ := xQd H
       obtain ⟨c16, H⟩ := xQ H
       have LMc16 := Aside0.mk c16
       clear c16
       generalize hy825 : (x5_1 ++ [(IntKind.u64.wrap (x6_1 + (IntKind.u64.wrap (rd l1 x7_1)))) % 4294967296] : List Int) = y825 at H
       have Ny825 := Aside0.mk hy825.symm
       clear hy825
       have H' := Aside0.mk H
       clear H
       obtain ⟨p824, q824, ad824, e824, hx824_0⟩ := xA (Kd.at_int HR1.out x7_1)
       cases e824
       (try replace hx824_0 := xcl HB hx824_0)
       go_wp2_with ((with_reducible refine gate_builtin (b := .append) (xs := #[.tmp 46, .tmp 49]) rfl ?_); (try (refine gate_guard (by rfl) ?_; dsimp only)); at_builtin; refine Kd.R_append (Kd.int .u32) (w0 := w) w.heap.size rfl (.tmp 46) (.tmp 49) 73 85 (.int .u32 0) 4 rfl Tryd.underlying73 info85 rfl (by decide) (by omega) u5 x5_1 ((IntKind.u64.wrap (x6_1 + (IntKind.u64.wrap (rd l1 x7_1)))) % 4294967296) [.int .u32 ((IntKind.u64.wrap (x6_1 + (IntKind.u64.wrap (rd l1 x7_1)))) % 4294967296)] (fun _ => True) (fun _ => False) rfl rfl ?aP (fun _ hk => hk.elim) ?aF ?aO ?aB ?aS ?aL ?_; (case aP => exact rfl); (case aB => exact (xs HB)); (case aF => exact (fun _ _ => trivial)); (case aO => exact (xr HO_5.out)); (case aS => exact (below_size (xs HB))); (case aL => have := LMc16.out; omega); intro v826 w17 ho hb hg hat; rw [← Ny825.out] at ho; replace HB := Aside0.mk (hb); have HO827 := Aside0.mk (ho); clear HO_5 ho hb hg hat)
       go_roundg kj2
       case measure => have := HK1.out; have := HJ2.out; omega
       case rel => exact ⟨(y825), ((IntKind.u64.wrap (x6_1 + (IntKind.u64.wrap (rd l1 x7_1)))) / 4294967296), (wrap64 (x7_1 + 1)), xz, xz, H', ⟨by have := HK1.out; have := HJ2.out; omega⟩, ⟨xr HO827.out⟩, ⟨xs HB⟩⟩
      obtain ⟨c18, H⟩ := xQ H
      have LMc18 := Aside0.mk c18
      clear c18
      generalize hy828 : (x5_1 ++ [(x6_1) % 4294967296] : List Int) = y828 at H
      have Ny828 := Aside0.mk hy828.symm
      clear hy828
      have H' := Aside0.mk H
      clear H
      go_wp2_with ((with_reducible refine gate_builtin (b := .append) (xs := #[.tmp 46, .tmp 49]) rfl ?_); (try (refine gate_guard (by rfl) ?_; dsimp only)); at_builtin; refine Kd.R_append (Kd.int .u32) (w0 := w) w.heap.size rfl (.tmp 46) (.tmp 49) 73 85 (.int .u32 0) 4 rfl Tryd.underlying73 info85 rfl (by decide) (by omega) u5 x5_1 ((x6_1) % 4294967296) [.int .u32 ((x6_1) % 4294967296)] (fun _ => True) (fun _ => False) rfl rfl ?aP (fun _ hk => hk.elim) ?aF ?aO ?aB ?aS ?aL ?_; (case aP => exact rfl); (case aB => exact (xs HB)); (case aF => exact (fun _ _ => trivial)); (case aO => exact (xr HO_5.out)); (case aS => exact (below_size (xs HB))); (case aL => have := LMc18.out; omega); intro v829 w19 ho hb hg hat; rw [← Ny828.out] at ho; replace HB := Aside0.mk (hb); have HO830 := Aside0.mk (ho); clear HO_5 ho hb hg hat)
      go_roundg kj2
      case measure => have := HK1.out; have := HJ2.out; omega
      case rel => exact ⟨(y828), (x6_1 / 4294967296), (wrap64 (x7_1 + 1)), xz, xz, H', ⟨by have := HK1.out; have := HJ2.out; omega⟩, ⟨xr HO830.out⟩, ⟨xs HB⟩⟩
     replace c6 := Bool.eq_false_iff.mpr c6
     subst c6
     have H1 : (some x5_1) = some r := by rw [if_neg (show ¬ (false = true) by decide)] at H; exact H
     clear H
     have H := H1
     clear H1
     obtain rfl := Option.some.inj H
     go_wp2
     go_ret
     exact ⟨_, xy, HO_5.out, xs HB⟩
/-! ### insolvencyref1_minus: function 71 -/
def insolvencyref1_minus.l0 : Nat → List Int → List Int → List Int → Int → Int → Option (List Int)
 | 0, _, _, _, _, _ => none
 | k + 1, x0, x1, x5, x6, x7 => if x7 < (x0.length : Int) then (if x7 < (x1.length : Int) then (if 0 ≤ x7 then (if (IntKind.u64.wrap (rd x0 x7)) < (IntKind.u64.wrap (x6 + (IntKind.u64.wrap (rd x1 x7)))) then (if x7 < (x5.length : Int) then (insolvencyref1_minus.l0 k x0 x1 (x5.set (x7 : Int).toNat ((IntKind.u64.wrap ((IntKind.u64.wrap ((IntKind.u64.wrap (rd x0 x7)) + 4294967296)) - (IntKind.u64.wrap (x6 + (IntKind.u64.wrap (rd x1 x7)))))) % 4294967296)) 1 (wrap64 (x7 + 1))) else (none)) else (if x7 < (x5.length : Int) then (insolvencyref1_minus.l0 k x0 x1 (x5.set (x7 : Int).toNat ((IntKind.u64.wrap ((IntKind.u64.wrap (rd x0 x7)) - (IntKind.u64.wrap (x6 + (IntKind.u64.wrap (rd x1 x7)))))) % 4294967296)) 0 (wrap64 (x7 + 1))) else (none))) else (none)) else (if 0 ≤ x7 then (if (IntKind.u64.wrap (rd x0 x7)) < x6 then (if x7 < (x5.length : Int) then (insolvencyref1_minus.l0 k x0 x1 (x5.set (x7 : Int).toNat ((IntKind.u64.wrap ((IntKind.u64.wrap ((IntKind.u64.wrap (rd x0 x7)) + 4294967296)) - x6)) % 4294967296)) 1 (wrap64 (x7 + 1))) else (none)) else (if x7 < (x5.length : Int) then (insolvencyref1_minus.l0 k x0 x1 (x5.set (x7 : Int).toNat ((IntKind.u64.wrap ((IntKind.u64.wrap (rd x0 x7)) - x6)) % 4294967296)) 0 (wrap64 (x7 + 1))) else (none))) else (none))) else ((insolvencyref1_strip.f k x5).bind fun t834 => (some t834))
def insolvencyref1_minus.f (k : Nat) (l0 : List Int) (l1 : List Int) : Option (List Int) := if 0 ≤ (l0.length : Int) then (if ((l0.length : Int) : Int).toNat ≤ 70368744177664 then (insolvencyref1_minus.l0 k l0 l1 (List.replicate ((l0.length : Int) : Int).toNat 0) 0 0) else (none)) else (none)
theorem insolvencyref1_minus.mono_l : ∀ k, (∀ y0 y1 y2 y3 y4, LeO (insolvencyref1_minus.l0 k y0 y1 y2 y3 y4) (insolvencyref1_minus.l0 (k + 1) y0 y1 y2 y3 y4))
 | 0 => fun _ _ _ _ _ r h => by simp [insolvencyref1_minus.l0] at h
 | k + 1 => by
  have ih0 := insolvencyref1_minus.mono_l k
  ·intro y0 y1 y2 y3 y4
   unfold insolvencyref1_minus.l0
   have m0 := @ih0; have m1 := @insolvencyref1_strip.mono; exact xM
theorem insolvencyref1_minus.mono : ∀ a0 a1 k, LeO (insolvencyref1_minus.f k a0 a1) (insolvencyref1_minus.f (k + 1) a0 a1) := by
 intro a0 a1 k
 have ih0 := insolvencyref1_minus.mono_l k
 unfold insolvencyref1_minus.f
 have m0 := @ih0; have m1 := @insolvencyref1_strip.mono; exact xM
theorem insolvencyref1_minus.calls (k : Nat) (A0 : Option Addr) (c0 : Nat) (l0 : List Int) (A1 : Option Addr) (c1 : Nat) (l1 : List Int) (r : List Int) (w : World) (hr0 : Kd.C (Kd.int .u32) w A0 l0.length l0) (hc0 : l0.length ≤ c0) (hr1 : Kd.C (Kd.int .u32) w A1 l1.length l1) (hc1 : l1.length ≤ c1) (h : insolvencyref1_minus.f k l0 l1 = some r) :
  Calls Tryd.prog 71 #[.slice A0 l0.length c0, .slice A1 l1.length c1] w fun e w' => ∃ v0_ : Value, e = .returned (v0_) ∧ Kd.V (Kd.int .u32) 85 w' w.heap.size (fun k_ => (w.heap.size ≤ k_)) v0_ r ∧ Below w.heap.size w w' := by
 have HR0 := Aside0.mk hr0
 have HC0 := Aside0.mk hc0
 clear hr0 hc0
 have HR1 := Aside0.mk hr1
 have HC1 := Aside0.mk hc1
 clear hr1 hc1
 have HB := Aside0.mk (Below.refl w.heap.size w)
 have H := h; clear h
 unfold insolvencyref1_minus.f at H
 obtain ⟨c3b0, c3b1, H⟩ := xQt H
 obtain ⟨c4b0, c4b1, H⟩ := xQt H
 generalize hy831 : (List.replicate ((l0.length : Int) : Int).toNat 0 : List Int) = y831 at H
 have Ny831 := Aside0.mk hy831.symm
 clear hy831
 have H' := Aside0.mk H
 clear H
 go_enter Tryd.func71, Tryd.ntmps71
 go_wp2_with ((with_reducible refine gate_dst (N := 12) rfl ?_); refine Kd.R_make (Kd.int .u32) _ 85 rfl (N := 12) rfl 73 _ _ rfl (l0.length : Int) rfl rfl Tryd.underlying73 (.int .u32 0) 4 info85 rfl (by decide) (by omega) 0 (ok := fun _ => True) (okp := fun _ => True) rfl (fun _ hk => hk) trivial (xa) (Nat.le_trans (Nat.mul_le_mul_right _ (xa : (l0.length : Int).toNat ≤ 70368744177664)) (by omega)) (Below.refl _ _) (Nat.le_refl _) ?_; intro v832 w5 ho6 hb hg_ hnew_; clear hg_ hnew_; (rw [← Ny831.out] at ho6); have HO833 := Aside0.mk (Kd.R_lower (Kd.R_newM (M := fun k_ => (w.heap.size ≤ k_)) ho6 (below_size (xs HB)) (fun k_ h_ => h_)) (below_size (xs HB))); replace HB := xS HB hb; clear hb ho6)
 go_loopg [6, 7] k (fun kq v6 v7 w' => ∃ (x5_1 : List Int) (x6_1 : Int) (x7_1 : Int), v6 = .int .u64 x6_1 ∧ v7 = .int .i64 x7_1 ∧ Aside0 (insolvencyref1_minus.l0 kq l0 l1 x5_1 x6_1 x7_1 = some r) ∧ Aside0 (kq ≤ k) ∧ Aside0 (Kd.R (Kd.int .u32) 85 w' w.heap.size (fun k_ => (w.heap.size ≤ k_)) v832 x5_1) ∧ Aside0 (Below w.heap.size w w'))
 case atStart => exact ⟨(y831), (0), (0), xz, xz, H', ⟨Nat.le_refl _⟩, ⟨by exact Kd.R_mono HO833.out (fun _ hk => hk.1)⟩, ⟨xs HB⟩⟩
 case round =>
  clear H'
  clear c3b0 c3b1 c4b0 c4b1
  obtain ⟨x5_1, x6_1, x7_1, rfl, rfl, HA, HK1, HO_5, HB⟩ := hrel
  cases gk with
  | zero => exact absurd HA.out (by simp [insolvencyref1_minus.l0])
  | succ k1 =>
   have H := HA.out
   clear HA
   simp only [insolvencyref1_minus.l0] at H
   obtain ⟨c7b0, H⟩ | ⟨c7b0, H⟩ := xOd H
   ·obtain ⟨c8b0, H⟩ | ⟨c8b0, H⟩ := xOd H
    ·obtain ⟨c9b0, H⟩ := xQd H
     obtain ⟨c10b0, H⟩ | ⟨c10b0, H⟩ := xOd H
     ·obtain ⟨c11b0, H⟩ := xQd H
      generalize hy839 : (x5_1.set (x7_1 : Int).toNat ((IntKind.u64.wrap ((IntKind.u64.wrap ((IntKind.u64.wrap (rd l0 x7_1)) + 4294967296)) - (IntKind.u64.wrap (x6_1 + (IntKind.u64.wrap (rd l1 x7_1)))))) % 4294967296) : List Int) = y839 at H
      have Ny839 := Aside0.mk hy839.symm
      clear hy839
      have H' := Aside0.mk H
      clear H
      obtain ⟨p837, q837, ad837, e837, hx837_0⟩ := xA (Kd.at_int HR1.out x7_1)
      cases e837
      (try replace hx837_0 := xcl HB hx837_0)
      obtain ⟨p838, q838, ad838, e838, hx838_0⟩ := xA (Kd.at_int HR0.out x7_1)
      cases e838
      (try replace hx838_0 := xcl HB hx838_0)
      have p12 : 0 ≤ (x7_1 : Int) := xa
      have q12 : (x7_1 : Int) < ((x5_1.length : Int) : Int) := xa
      obtain ⟨go12, co12, eo12, gb12, gl12, cl12, HG12⟩ := Kd.R_form HO_5.out (by omega)
      cases eo12
      have GB12 := Aside0.mk gb12
      have GG12 := Aside0.mk HG12
      clear gb12 gl12 HG12
      obtain ⟨hx12_0, hf12_0⟩ := Kd.R_celln 0 HO_5.out (x7_1 : Int) p12 q12
      replace p12 := eq_true p12
      replace q12 := eq_true q12
      have HP13 := Kd.R_putg HO_5.out (x7_1 : Int) ((IntKind.u64.wrap ((IntKind.u64.wrap ((IntKind.u64.wrap (rd l0 x7_1)) + 4294967296)) - (IntKind.u64.wrap (x6_1 + (IntKind.u64.wrap (rd l1 x7_1)))))) % 4294967296)
      go_wp2_with (refine xst 85 47 (wr.setCell ⟨go12, (x7_1 : Int).toNat, none⟩ (.int .u32 ((IntKind.u64.wrap ((IntKind.u64.wrap ((IntKind.u64.wrap (rd l0 x7_1)) + 4294967296)) - (IntKind.u64.wrap (x6_1 + (IntKind.u64.wrap (rd l1 x7_1)))))) % 4294967296))) ?_; intro w14 hw; have hg : wr.grownBy w14 (some go12) := (by rw [hw]; exact HP13.2); have hp_ : Kd.R (Kd.int .u32) 85 w14 w.heap.size (fun k_ => (w.heap.size ≤ k_)) (.slice (some ⟨go12, 0, none⟩) x5_1.length co12) y839 := (by rw [hw, Ny839.out]; exact HP13.1); clear HP13; replace HO_5 := Aside0.mk (hp_); replace HB := Aside0.mk (by rw [hw]; exact below_set (HB.out) GB12.out : Below w.heap.size w w14); clear hg hw hp_)
      go_roundg k1
      case measure => have := HK1.out; omega
      case rel => exact ⟨(y839), (1), (wrap64 (x7_1 + 1)), xz, xz, H', ⟨by have := HK1.out; omega⟩, ⟨xr HO_5.out⟩, ⟨xs HB⟩⟩
     obtain ⟨c15b0, H⟩ := xQd H
     generalize hy840 : (x5_1.set (x7_1 : Int).toNat ((IntKind.u64.wrap ((IntKind.u64.wrap (rd l0 x7_1)) - (IntKind.u64.wrap (x6_1 + (IntKind.u64.wrap (rd l1 x7_1)))))) % 4294967296) : List Int) = y840 at H
     have Ny840 := Aside0.mk hy840.symm
     clear hy840
     have H' := Aside0.mk H
     clear H
     obtain ⟨p837, q837, ad837, e837, hx837_0⟩ := xA (Kd.at_int HR1.out x7_1)
     cases e837
     (try replace hx837_0 := xcl HB hx837_0)
     obtain ⟨p838, q838, ad838, e838, hx838_0⟩ := xA (Kd.at_int HR0.out x7_1)
     cases e838
     (try replace hx838_0 := xcl HB hx838_0)
     have p16 : 0 ≤ (x7_1 : Int) := xa
     have q16 : (x7_1 : Int) < ((x5_1.length : Int) : Int) := xa
     obtain ⟨go16, co16, eo16, gb16, gl16, cl16, HG16⟩ := Kd.R_form HO_5.out (by omega)
     cases eo16
     have GB16 := Aside0.mk gb16
     have GG16 := Aside0.mk HG16
     clear gb16 gl16 HG16
     obtain ⟨hx16_0, hf16_0⟩ := Kd.R_celln 0 HO_5.out (x7_1 : Int) p16 q16
     replace p16 := eq_true p16
     replace q16 := eq_true q16
     have HP17 := Kd.R_putg HO_5.out (x7_1 : Int) ((IntKind.u64.wrap ((IntKind.u64.wrap (rd l0 x7_1)) - (IntKind.u64.wrap (x6_1 + (IntKind.u64.wrap (rd l1 x7_1)))))) % 4294967296)
     go_wp2_with (refine xst 85 47 (wr.setCell ⟨go16, (x7_1 : Int).toNat, none⟩ (.int .u32 ((IntKind.u64.wrap ((IntKind.u64.wrap (rd l0 x7_1)) - (IntKind.u64.wrap (x6_1 + (IntKind.u64.wrap (rd l1 x7_1)))))) % 4294967296))) ?_; intro w18 hw; have hg : wr.grownBy w18 (some go16) := (by rw [hw]; exact HP17.2); have hp_ : Kd.R (Kd.int .u32) 85 w18 w.heap.size (fun k_ => (w.heap.size ≤ k_)) (.slice (some ⟨go16, 0, none⟩) x5_1.length co16) y840 := (by rw [hw, Ny840.out]; exact HP17.1); clear HP17; replace HO_5 := Aside0.mk (hp_); replace HB := Aside0.mk (by rw [hw]; exact below_set (HB.out) GB16.out : Below w.heap.size w w18); clear hg hw hp_)
     go_roundg k1
     case measure => have := HK1.out; omega
     case rel => exact ⟨(y840), (0), (wrap64 (x7_1 + 1)), xz, xz, H', ⟨by have := HK1.out; omega⟩, ⟨xr HO_5.out⟩, ⟨xs HB⟩⟩
    obtain ⟨c19b0, H⟩ := xQd H
    obtain ⟨c20b0, H⟩ | ⟨c20b0, H⟩ := xOd H
    ·obtain ⟨c21b0, H⟩ := xQd H
     generalize hy842 : (x5_1.set (x7_1 : Int).toNat ((IntKind.u64.wrap ((IntKind.u64.wrap ((IntKind.u64.wrap (rd l0 x7_1)) + 4294967296)) - x6_1)) % 4294967296) : List Int) = y842 at H
     have Ny842 := Aside0.mk hy842.symm
     clear hy842
     have H' := Aside0.mk H
     clear H
     obtain ⟨p841, q841, ad841, e841, hx841_0⟩ := xA (Kd.at_int HR0.out x7_1)
     cases e841
     (try replace hx841_0 := xcl HB hx841_0)
     have p22 : 0 ≤ (x7_1 : Int) := xa
     have q22 : (x7_1 : Int) < ((x5_1.length : Int) : Int) := xa
     obtain ⟨go22, co22, eo22, gb22, gl22, cl22, HG22⟩ := Kd.R_form HO_5.out (by omega)
     cases eo22
     have GB22 := Aside0.mk gb22
     have GG22 := Aside0.mk HG22
     clear gb22 gl22 HG22
     obtain ⟨hx22_0, hf22_0⟩ := Kd.R_celln 0 HO_5.out (x7_1 : Int) p22 q22
     replace p22 := eq_true p22
     replace q22 := eq_true q22
     have HP23 := Kd.R_putg HO_5.out (x7_1 : Int) ((IntKind.u64.wrap ((IntKind.u64.wrap ((IntKind.u64.wrap (rd l0 x7_1)) + 4294967296)) - x6_1)) % 4294967296)
     go_wp2_with (refine xst 85 47 (wr.setCell ⟨go22, (x7_1 : Int).toNat, none⟩ (.int .u32 ((IntKind.u64.wrap ((IntKind.u64.wrap ((IntKind.u64.wrap (rd l0 x7_1)) + 4294967296)) - x6_1)) % 4294967296))) ?_; intro w24 hw; have hg : wr.grownBy w24 (some go22) := (by rw [hw]; exact HP23.2); have hp_ : Kd.R (Kd.int .u32) 85 w24 w.heap.size (fun k_ => (w.heap.size ≤ k_)) (.slice (some ⟨go22, 0, none⟩) x5_1.length co22) y842 := (by rw [hw, Ny842.out]; exact HP23.1); clear HP23; replace HO_5 := Aside0.mk (hp_); replace HB := Aside0.mk (by rw [hw]; exact below_set (HB.out) GB22.out : Below w.heap.size w w24); clear hg hw hp_)
     go_roundg k1
     case measure => have := HK1.out; omega
     case rel => exact ⟨(y842), (1), (wrap64 (x7_1 + 1)), xz, xz, H', ⟨by have := HK1.out; omega⟩, ⟨xr HO_5.out⟩, ⟨xs HB⟩⟩
    obtain ⟨c25b0, H⟩ := xQd H
    generalize hy843 : (x5_1.set (x7_1 : Int).toNat ((IntKind.u64.wrap ((IntKind.u64.wrap (rd l0 x7_1)) - x6_1)) % 4294967296) : List Int) = y843 at H
    have Ny843 := Aside0.mk hy843.symm
    clear hy843
    have H' := Aside0.mk H
    clear H
    obtain ⟨p841, q841, ad841, e841, hx841_0⟩ := xA (Kd.at_int HR0.out x7_1)
    cases e841
    (try replace hx841_0 := xcl HB hx841_0)
    have p26 : 0 ≤ (x7_1 : Int) := xa
    have q26 : (x7_1 : Int) < ((x5_1.length : Int) : Int) := xa
    obtain ⟨go26, co26, eo26, gb26, gl26, cl26, HG26⟩ := Kd.R_form HO_5.out (by omega)
    cases eo26
    have GB26 := Aside0.mk gb26
    have GG26 := Aside0.mk HG26
    clear gb26 gl26 HG26
    obtain ⟨hx26_0, hf26_0⟩ := Kd.R_celln 0 HO_5.out (x7_1 : Int) p26 q26
    replace p26 := eq_true p26
    replace q26 := eq_true q26
    have HP27 := Kd.R_putg HO_5.out (x7_1 : Int) ((IntKind.u64.wrap ((IntKind.u64.wrap (rd l0 x7_1)) - x6_1)) % 4294967296)
    go_wp2_with (refine xst 85 47 (wr.setCell ⟨go26, (x7_1 : Int).toNat, none⟩ (.int .u32 ((IntKind.u64.wrap ((IntKind.u64.wrap (rd l0 x7_1)) - x6_1)) % 4294967296))) ?_; intro w28 hw; have hg : wr.grownBy w28 (some go26) := (by rw [hw]; exact HP27.2); have hp_ : Kd.R (Kd.int .u32) 85 w28 w.heap.size (fun k_ => (w.heap.size ≤ k_)) (.slice (some ⟨go26, 0, none⟩) x5_1.length co26) y843 := (by rw [hw, Ny843.out]; exact HP27.1); clear HP27; replace HO_5 := Aside0.mk (hp_); replace HB := Aside0.mk (by rw [hw]; exact below_set (HB.out) GB26.out : Below w.heap.size w w28); clear hg hw hp_)
    go_roundg k1
    case measure => have := HK1.out; omega
    case rel => exact ⟨(y843), (0), (wrap64 (x7_1 + 1)), xz, xz, H', ⟨by have := HK1.out; omega⟩, ⟨xr HO_5.out⟩, ⟨xs HB⟩⟩
   replace H := xH H; obtain ⟨t834, A29, H⟩ := H
   obtain rfl := Option.some.inj H
   obtain ⟨Ao30, co30, eo30⟩ := Kd.R_slice HO_5.out
   subst eo30
   go_wp2_with (refine xg Tryd.func88 (some 49) #[.slice Ao30 x5_1.length co30] ?_; (with_reducible refine (insolvencyref1_strip.calls k1 (fun k_ => some k_ = (.slice Ao30 x5_1.length co30 : Value).ownBlock) _ _ x5_1 t834 _ ?side1 A29.out).mono ?_); (case side1 => exact Kd.R_V (Kd.R_tight rfl (HO_5.out))); rintro e w31 ⟨v835, rfl, ho0, hb⟩; refine ⟨_, rfl, ?_⟩; have HO836 := xVm w (fun k_ => (w.heap.size ≤ k_)) ho0 (fun k_ hk_ => Or.elim hk_ (fun hs_ => ((HO_5.out).1 k_ hs_.symm)) (fun hn_ => (Nat.le_trans (below_size (xs HB)) hn_))); replace HO_5 := xRb HO_5 hb; replace HB := xS HB hb; clear hb ho0)
   go_ret
   exact ⟨_, xy, HO836.out, xs HB⟩
/-! ### insolvencyref1_Plus: function 43 -/
def insolvencyref1_Plus.f (k : Nat) (a0_0 : Bool) (a0_1 : ByteArray) (a0_2 : ByteArray) (a1_0 : Bool) (a1_1 : ByteArray) (a1_2 : ByteArray) : Option (Bool × ByteArray × ByteArray) := if a0_1.toList = ([] : List UInt8) then (some (a1_0, a1_1, a1_2)) else (if a1_1.toList = ([] : List UInt8) then (some (a0_0, a0_1, a0_2)) else ((insolvencyref1_den.f k a0_0 a0_1 a0_2).bind fun t847 => ((insolvencyref1_den.f k a1_0 a1_1 a1_2).bind fun t850 => ((insolvencyref1_limbs.f k a0_1).bind fun t853 => ((insolvencyref1_times.f k t853 t850).bind fun t856 => ((insolvencyref1_limbs.f k a1_1).bind fun t859 => ((insolvencyref1_times.f k t859 t847).bind fun t862 => ((insolvencyref1_times.f k t847 t850).bind fun t865 => (if (a0_0 == a1_0) = true then ((insolvencyref1_plus.f k t856 t862).bind fun t868 => ((insolvencyref1_reduced.f k a0_0 t868 t865).bind fun bt871 => (some (bt871.1, bt871.2.1, bt871.2.2)))) else ((insolvencyref1_order.f k t856 t862).bind fun t874 => (if t874 < 0 then ((insolvencyref1_minus.f k t862 t856).bind fun t875 => ((insolvencyref1_reduced.f k a1_0 t875 t865).bind fun bt878 => (some (bt878.1, bt878.2.1, bt878.2.2)))) else ((insolvencyref1_minus.f k t856 t862).bind fun t881 => ((insolvencyref1_reduced.f k a0_0 t881 t865).bind fun bt884 => (some (bt884.1, bt884.2.1, bt884.2.2)))))))))))))))
theorem insolvencyref1_Plus.mono : ∀ a0 a1 a2 a3 a4 a5 k, LeO (insolvencyref1_Plus.f k a0 a1 a2 a3 a4 a5) (insolvencyref1_Plus.f (k + 1) a0 a1 a2 a3 a4 a5) := by
 intro a0 a1 a2 a3 a4 a5 k
 unfold insolvencyref1_Plus.f
 have m0 := @insolvencyref1_den.mono; have m1 := @insolvencyref1_limbs.mono; have m2 := @insolvencyref1_minus.mono; have m3 := @insolvencyref1_order.mono; have m4 := @insolvencyref1_plus.mono; have m5 := @insolvencyref1_reduced.mono; have m6 := @insolvencyref1_times.mono; exact xM
def insolvencyref1_Plus.T11 : Bool × List (List Nat × List Nat) := (true, [([], []), ([0], [0]), ([], []), ([], []), ([2, 3], [2, 3]), ([], []), ([1, 4, 5, 4], [1, 4, 5]), ([6, 6, 0, 1, 2, 3, 4, 5, 6], [6])])
def insolvencyref1_Plus.B11 : List Nat := [0, 1, 0, 0, 12, 0, 63, 127]
theorem insolvencyref1_Plus.tab11 : rtab .any (opsOf Tryd.f43 11) = insolvencyref1_Plus.T11 := by kernel_rfl
theorem insolvencyref1_Plus.bits11 : waitsOk insolvencyref1_Plus.T11.2 insolvencyref1_Plus.B11 = true := by kernel_rfl
def insolvencyref1_Plus.T13 : Bool × List (List Nat × List Nat) := (true, [([], []), ([0], [0]), ([], []), ([], []), ([2, 3], [2, 3]), ([], []), ([1, 4, 5, 4], [1, 4, 5]), ([6, 6, 0, 1, 2, 3, 4, 5, 6], [6])])
def insolvencyref1_Plus.B13 : List Nat := [0, 1, 0, 0, 12, 0, 63, 127]
theorem insolvencyref1_Plus.tab13 : rtab .any (opsOf Tryd.f43 13) = insolvencyref1_Plus.T13 := by kernel_rfl
theorem insolvencyref1_Plus.bits13 : waitsOk insolvencyref1_Plus.T13.2 insolvencyref1_Plus.B13 = true := by kernel_rfl
def insolvencyref1_Plus.T14 : Bool × List (List Nat × List Nat) := (true, [([], []), ([0], [0]), ([], []), ([], []), ([2, 3], [2, 3]), ([], []), ([1, 4, 5, 4], [1, 4, 5]), ([6, 6, 0, 1, 2, 3, 4, 5, 6], [6])])
def insolvencyref1_Plus.B14 : List Nat := [0, 1, 0, 0, 12, 0, 63, 127]
theorem insolvencyref1_Plus.tab14 : rtab .any (opsOf Tryd.f43 14) = insolvencyref1_Plus.T14 := by kernel_rfl
theorem insolvencyref1_Plus.bits14 : waitsOk insolvencyref1_Plus.T14.2 insolvencyref1_Plus.B14 = true := by kernel_rfl
theorem insolvencyref1_Plus.calls (k : Nat) (a0_0 : Bool) (a0_1 : ByteArray) (a0_2 : ByteArray) (a1_0 : Bool) (a1_1 : ByteArray) (a1_2 : ByteArray) (r1 : Bool) (r2 : ByteArray) (r3 : ByteArray) (w : World) (h : insolvencyref1_Plus.f k a0_0 a0_1 a0_2 a1_0 a1_1 a1_2 = some (r1, r2, r3)) :
  Calls Tryd.prog 43 #[.agg #[.bool a0_0, .string a0_1, .string a0_2], .agg #[.bool a1_0, .string a1_1, .string a1_2]] w fun e w' => e = .returned (.agg #[.bool r1, .string r2, .string r3]) ∧ Below w.heap.size w w' := by
 have hu25 := Tryd.underlying25
 have HB := Aside0.mk (Below.refl w.heap.size w)
 have H := h; clear h
 unfold insolvencyref1_Plus.f at H
 obtain ⟨c3, H⟩ | ⟨c3, H⟩ := xO H
 ·have c3b0 := beq_iff_eq.mpr c3
  have c3b1 := bne_eq_false_iff_eq.mpr c3
  clear c3
  simp only [Option.some.injEq, Prod.mk.injEq] at H
  obtain ⟨rfl, rfl, rfl⟩ := H
  go_enter Tryd.func43, Tryd.ntmps43
  go_wp2_with (first | (refine xF (N := 2) #[.bool a0_0, .string a0_1, .string a0_2] 25 HB ?_; clear HB; intro gb844 hg w4 hb BK844 GW844 HB; clear hb hg) | (refine xF (N := 3) #[.bool a1_0, .string a1_1, .string a1_2] 25 HB ?_; clear HB; intro gb845 hg w5 hb BK845 GW845 HB; have NB844_845 := xL BK844 hg; have NB845_844 := xR BK844 hg; replace BK844 := xB BK844 hb; clear hb hg) | (refine xF (N := 4) #[.bool false, .string (⟨#[]⟩ : ByteArray), .string (⟨#[]⟩ : ByteArray)] 25 HB ?_; clear HB; intro gb846 hg w6 hb BK846 GW846 HB; have NB844_846 := xL BK844 hg; have NB846_844 := xR BK844 hg; replace BK844 := xB BK844 hb; have NB845_846 := xL BK845 hg; have NB846_845 := xR BK845 hg; replace BK845 := xB BK845 hb; clear hb hg; have hnb7 := NB844_845.out; have hnc7 := NB845_844.out; have hnb8 := NB844_846.out; have hnc8 := NB846_844.out; obtain ⟨hcz9_0, hcz9_1, hcz9_2, hfz9_0, hfz9_1, hfz9_2⟩ := x6 BK844; have hnb10 := NB845_846.out; have hnc10 := NB846_845.out; obtain ⟨hcz11_0, hcz11_1, hcz11_2, hfz11_0, hfz11_1, hfz11_2⟩ := x6 BK845; obtain ⟨hcz12_0, hcz12_1, hcz12_2, hfz12_0, hfz12_1, hfz12_2⟩ := x6 BK846))
  refine bodyPost_ret (results_cell_row rfl _ _ gb846 25 #[.bool a1_0, .string a1_1, .string a1_2] (0, 0) _ rfl (xp BK846) Tryd.underlying25 rfl (by kernel_rfl)) rfl ?_
  exact ⟨xy, xs HB⟩
 have c3b0 := beq_eq_false_iff_ne.mpr c3
 have c3b1 := bne_iff_ne.mpr c3
 obtain ⟨c13, H⟩ | ⟨c13, H⟩ := xO H
 ·have c13b0 := beq_iff_eq.mpr c13
  have c13b1 := bne_eq_false_iff_eq.mpr c13
  clear c13
  simp only [Option.some.injEq, Prod.mk.injEq] at H
  obtain ⟨rfl, rfl, rfl⟩ := H
  go_enter Tryd.func43, Tryd.ntmps43
  go_wp2_with (first | (refine xF (N := 2) #[.bool a0_0, .string a0_1, .string a0_2] 25 HB ?_; clear HB; intro gb844 hg w14 hb BK844 GW844 HB; clear hb hg) | (refine xF (N := 3) #[.bool a1_0, .string a1_1, .string a1_2] 25 HB ?_; clear HB; intro gb845 hg w15 hb BK845 GW845 HB; have NB844_845 := xL BK844 hg; have NB845_844 := xR BK844 hg; replace BK844 := xB BK844 hb; clear hb hg) | (refine xF (N := 4) #[.bool false, .string (⟨#[]⟩ : ByteArray), .string (⟨#[]⟩ : ByteArray)] 25 HB ?_; clear HB; intro gb846 hg w16 hb BK846 GW846 HB; have NB844_846 := xL BK844 hg; have NB846_844 := xR BK844 hg; replace BK844 := xB BK844 hb; have NB845_846 := xL BK845 hg; have NB846_845 := xR BK845 hg; replace BK845 := xB BK845 hb; clear hb hg; have hnb17 := NB844_845.out; have hnc17 := NB845_844.out; have hnb18 := NB844_846.out; have hnc18 := NB846_844.out; obtain ⟨hcz19_0, hcz19_1, hcz19_2, hfz19_0, hfz19_1, hfz19_2⟩ := x6 BK844; have hnb20 := NB845_846.out; have hnc20 := NB846_845.out; obtain ⟨hcz21_0, hcz21_1, hcz21_2, hfz21_0, hfz21_1, hfz21_2⟩ := x6 BK845; obtain ⟨hcz22_0, hcz22_1, hcz22_2, hfz22_0, hfz22_1, hfz22_2⟩ := x6 BK846))
  refine bodyPost_ret (results_cell_row rfl _ _ gb846 25 #[.bool a0_0, .string a0_1, .string a0_2] (0, 0) _ rfl (xp BK846) Tryd.underlying25 rfl (by kernel_rfl)) rfl ?_
  exact ⟨xy, xs HB⟩
 have c13b0 := beq_eq_false_iff_ne.mpr c13
 have c13b1 := bne_iff_ne.mpr c13
 replace H := xH H; obtain ⟨t847, A23, H⟩ := H
 replace H := xH H; obtain ⟨t850, A24, H⟩ := H
 replace H := xH H; obtain ⟨t853, A25, H⟩ := H
 replace H := xH H; obtain ⟨t856, A26, H⟩ := H
 replace H := xH H; obtain ⟨t859, A27, H⟩ := H
 replace H := xH H; obtain ⟨t862, A28, H⟩ := H
 replace H := xH H; obtain ⟨t865, A29, H⟩ := H
 obtain ⟨c30, H⟩ | ⟨c30, H⟩ := xO H
 ·have c30b0 : (a0_0 == a1_0) = true := c30
  (try (have c30b1 : decide (a0_0 = a1_0) = true := by simpa using c30))
  (try (have c30b2 : (a0_0 == a1_0) = true := by simpa using c30))
  clear c30
  replace H := xH H; obtain ⟨t868, A31, H⟩ := H
  replace H := xH H; obtain ⟨⟨t871, t872, t873⟩, A32, H⟩ := H
  dsimp only at H
  simp only [Option.some.injEq, Prod.mk.injEq] at H
  obtain ⟨rfl, rfl, rfl⟩ := H
  go_enter Tryd.func43, Tryd.ntmps43
  try go_wp2_with (first | (refine xF (N := 2) #[.bool a0_0, .string a0_1, .string a0_2] 25 HB ?_; clear HB; intro gb844 hg w33 hb BK844 GW844 HB; clear hb hg) | (refine xF (N := 3) #[.bool a1_0, .string a1_1, .string a1_2] 25 HB ?_; clear HB; intro gb845 hg w34 hb BK845 GW845 HB; have NB844_845 := xL BK844 hg; have NB845_844 := xR BK844 hg; replace BK844 := xB BK844 hb; clear hb hg) | (refine xF (N := 4) #[.bool false, .string (⟨#[]⟩ : ByteArray), .string (⟨#[]⟩ : ByteArray)] 25 HB ?_; clear HB; intro gb846 hg w35 hb BK846 GW846 HB; have NB844_846 := xL BK844 hg; have NB846_844 := xR BK844 hg; replace BK844 := xB BK844 hb; have NB845_846 := xL BK845 hg; have NB846_845 := xR BK845 hg; replace BK845 := xB BK845 hb; clear hb hg; have hnb36 := NB844_845.out; have hnc36 := NB845_844.out; have hnb37 := NB844_846.out; have hnc37 := NB846_844.out; obtain ⟨hcz38_0, hcz38_1, hcz38_2, hfz38_0, hfz38_1, hfz38_2⟩ := x6 BK844; have hnb39 := NB845_846.out; have hnc39 := NB846_845.out; obtain ⟨hcz40_0, hcz40_1, hcz40_2, hfz40_0, hfz40_1, hfz40_2⟩ := x6 BK845) | (refine xg Tryd.func65 (some 19) #[.agg #[.bool a0_0, .string a0_1, .string a0_2]] ?_; (with_reducible refine (insolvencyref1_den.calls k a0_0 a0_1 a0_2 t847 _ A23.out).mono ?_); rintro e w41 ⟨v848, rfl, ho0, hb⟩; refine ⟨_, rfl, ?_⟩; have HO849 := Aside0.mk (Kd.R_lower ho0 (below_size (xs HB))); replace BK844 := xB BK844 hb; replace BK845 := xB BK845 hb; replace BK846 := xB BK846 hb; replace HB := xS HB hb; clear hb ho0; obtain ⟨hcz42_0, hcz42_1, hcz42_2, hfz42_0, hfz42_1, hfz42_2⟩ := x6 BK845) | (refine xg Tryd.func65 (some 21) #[.agg #[.bool a1_0, .string a1_1, .string a1_2]] ?_; (with_reducible refine (insolvencyref1_den.calls k a1_0 a1_1 a1_2 t850 _ A24.out).mono ?_); rintro e w43 ⟨v851, rfl, ho0, hb⟩; refine ⟨_, rfl, ?_⟩; have HO852 := Aside0.mk (Kd.R_lower (Kd.R_new' ho0 (Kd.R_lt (xr HO849.out))) (below_size (xs HB))); replace HO849 := Aside0.mk (Kd.R_elder' (xr HO849.out) (Kd.R_base ho0) hb); replace BK844 := xB BK844 hb; replace BK845 := xB BK845 hb; replace BK846 := xB BK846 hb; replace HB := xS HB hb; clear hb ho0; obtain ⟨hcz44_0, hcz44_1, hcz44_2, hfz44_0, hfz44_1, hfz44_2⟩ := x6 BK844) | (refine xg Tryd.func67 (some 24) #[.string a0_1] ?_; (with_reducible refine (insolvencyref1_limbs.calls k a0_1 t853 _ A25.out).mono ?_); rintro e w45 ⟨v854, rfl, ho0, hb⟩; refine ⟨_, rfl, ?_⟩; have HO855 := Aside0.mk (Kd.R_lower (Kd.R_new' (Kd.R_new' ho0 (Kd.R_lt (xr HO849.out))) (Kd.R_lt (xr HO852.out))) (below_size (xs HB))); replace HO849 := Aside0.mk (Kd.R_elder' (xr HO849.out) (Kd.R_base ho0) hb); replace HO852 := Aside0.mk (Kd.R_elder' (xr HO852.out) (Kd.R_base ho0) hb); replace BK844 := xB BK844 hb; replace BK845 := xB BK845 hb; replace BK846 := xB BK846 hb; replace HB := xS HB hb; clear hb ho0; obtain ⟨Ao46, co46, eo46⟩ := Kd.R_slice HO855.out; subst eo46; obtain ⟨Ao47, co47, eo47⟩ := Kd.R_slice HO852.out; subst eo47) | (refine xg Tryd.func66 (some 26) #[.slice Ao46 t853.length co46, .slice Ao47 t850.length co47] ?_; (with_reducible refine (insolvencyref1_times.calls k _ _ t853 _ _ t850 t856 _ ?side1 ?side2 ?side3 ?side4 A26.out).mono ?_); (case side1 => repeat (exact (Kd.R_reads' HO855.out).2.2)); (case side2 => exact (Kd.R_reads' HO855.out).2.1); (case side3 => repeat (exact (Kd.R_reads' HO852.out).2.2)); (case side4 => exact (Kd.R_reads' HO852.out).2.1); rintro e w48 ⟨v857, rfl, ho0, hb⟩; refine ⟨_, rfl, ?_⟩; have HO858 := xVm w (fun k_ => some k_ ≠ (v848 : Value).ownBlock ∧ some k_ ≠ (.slice Ao47 t850.length co47 : Value).ownBlock ∧ some k_ ≠ (.slice Ao46 t853.length co46 : Value).ownBlock ∧ k_ ≠ gb844 ∧ k_ ≠ gb845 ∧ k_ ≠ gb846) ho0 (fun k_ hk_ => ⟨(Kd.fresh' (Kd.R_lt (xr HO849.out)) k_ hk_), (Kd.fresh' (Kd.R_lt (xr HO852.out)) k_ hk_), (Kd.fresh' (Kd.R_lt (xr HO855.out)) k_ hk_), (Kd.freshB (g := gb844) (o := .cells #[.bool a0_0, .string a0_1, .string a0_2] 25 (0, 0)) (xb BK844) k_ hk_), (Kd.freshB (g := gb845) (o := .cells #[.bool a1_0, .string a1_1, .string a1_2] 25 (0, 0)) (xb BK845) k_ hk_), (Kd.freshB (g := gb846) (o := .cells #[.bool false, .string (⟨#[]⟩ : ByteArray), .string (⟨#[]⟩ : ByteArray)] 25 (0, 0)) (xb BK846) k_ hk_)⟩); replace HO849 := xRb HO849 hb; replace HO852 := xRb HO852 hb; replace HO855 := xRb HO855 hb; replace BK844 := xB BK844 hb; replace BK845 := xB BK845 hb; replace BK846 := xB BK846 hb; replace HB := xS HB hb; clear hb ho0; obtain ⟨hcz49_0, hcz49_1, hcz49_2, hfz49_0, hfz49_1, hfz49_2⟩ := x6 BK845) | (refine xg Tryd.func67 (some 29) #[.string a1_1] ?_; (with_reducible refine (insolvencyref1_limbs.calls k a1_1 t859 _ A27.out).mono ?_); rintro e w50 ⟨v860, rfl, ho0, hb⟩; refine ⟨_, rfl, ?_⟩; replace HO858 := Aside0.mk (Kd.V_elder' (xv HO858.out) (Kd.R_base ho0) hb); have HO861 := Aside0.mk (Kd.R_lower (Kd.R_new' (Kd.R_new' (Kd.R_new' ho0 (Kd.R_lt (xr HO849.out))) (Kd.R_lt (xr HO852.out))) (Kd.R_lt (xr HO855.out))) (below_size (xs HB))); replace HO849 := Aside0.mk (Kd.R_elder' (xr HO849.out) (Kd.R_base ho0) hb); replace HO852 := Aside0.mk (Kd.R_elder' (xr HO852.out) (Kd.R_base ho0) hb); replace HO855 := Aside0.mk (Kd.R_elder' (xr HO855.out) (Kd.R_base ho0) hb); replace BK844 := xB BK844 hb; replace BK845 := xB BK845 hb; replace BK846 := xB BK846 hb; replace HB := xS HB hb; clear hb ho0; obtain ⟨Ao51, co51, eo51⟩ := Kd.R_slice HO861.out; subst eo51; obtain ⟨Ao52, co52, eo52⟩ := Kd.R_slice HO849.out; subst eo52) | (refine xg Tryd.func66 (some 31) #[.slice Ao51 t859.length co51, .slice Ao52 t847.length co52] ?_; (with_reducible refine (insolvencyref1_times.calls k _ _ t859 _ _ t847 t862 _ ?side1 ?side2 ?side3 ?side4 A28.out).mono ?_); (case side1 => repeat (exact (Kd.R_reads' HO861.out).2.2)); (case side2 => exact (Kd.R_reads' HO861.out).2.1); (case side3 => repeat (exact (Kd.R_reads' HO849.out).2.2)); (case side4 => exact (Kd.R_reads' HO849.out).2.1); rintro e w53 ⟨v863, rfl, ho0, hb⟩; refine ⟨_, rfl, ?_⟩; replace HO858 := xVb HO858 hb; have HO864 := xVm w (fun k_ => some k_ ≠ (.slice Ao52 t847.length co52 : Value).ownBlock ∧ some k_ ≠ (.slice Ao47 t850.length co47 : Value).ownBlock ∧ some k_ ≠ (.slice Ao46 t853.length co46 : Value).ownBlock ∧ some k_ ≠ (.slice Ao51 t859.length co51 : Value).ownBlock ∧ k_ ≠ gb844 ∧ k_ ≠ gb845 ∧ k_ ≠ gb846) ho0 (fun k_ hk_ => ⟨(Kd.fresh' (Kd.R_lt (xr HO849.out)) k_ hk_), (Kd.fresh' (Kd.R_lt (xr HO852.out)) k_ hk_), (Kd.fresh' (Kd.R_lt (xr HO855.out)) k_ hk_), (Kd.fresh' (Kd.R_lt (xr HO861.out)) k_ hk_), (Kd.freshB (g := gb844) (o := .cells #[.bool a0_0, .string a0_1, .string a0_2] 25 (0, 0)) (xb BK844) k_ hk_), (Kd.freshB (g := gb845) (o := .cells #[.bool a1_0, .string a1_1, .string a1_2] 25 (0, 0)) (xb BK845) k_ hk_), (Kd.freshB (g := gb846) (o := .cells #[.bool false, .string (⟨#[]⟩ : ByteArray), .string (⟨#[]⟩ : ByteArray)] 25 (0, 0)) (xb BK846) k_ hk_)⟩); replace HO849 := xRb HO849 hb; replace HO852 := xRb HO852 hb; replace HO855 := xRb HO855 hb; replace HO861 := xRb HO861 hb; replace BK844 := xB BK844 hb; replace BK845 := xB BK845 hb; replace BK846 := xB BK846 hb; replace HB := xS HB hb; clear hb ho0) | (refine xg Tryd.func66 (some 34) #[.slice Ao52 t847.length co52, .slice Ao47 t850.length co47] ?_; (with_reducible refine (insolvencyref1_times.calls k _ _ t847 _ _ t850 t865 _ ?side1 ?side2 ?side3 ?side4 A29.out).mono ?_); (case side1 => repeat (exact (Kd.R_reads' HO849.out).2.2)); (case side2 => exact (Kd.R_reads' HO849.out).2.1); (case side3 => repeat (exact (Kd.R_reads' HO852.out).2.2)); (case side4 => exact (Kd.R_reads' HO852.out).2.1); rintro e w54 ⟨v866, rfl, ho0, hb⟩; refine ⟨_, rfl, ?_⟩; replace HO858 := xVb HO858 hb; replace HO864 := xVb HO864 hb; have HO867 := xVm w (fun k_ => some k_ ≠ (.slice Ao52 t847.length co52 : Value).ownBlock ∧ some k_ ≠ (.slice Ao47 t850.length co47 : Value).ownBlock ∧ some k_ ≠ (.slice Ao46 t853.length co46 : Value).ownBlock ∧ some k_ ≠ (.slice Ao51 t859.length co51 : Value).ownBlock ∧ k_ ≠ gb844 ∧ k_ ≠ gb845 ∧ k_ ≠ gb846) ho0 (fun k_ hk_ => ⟨(Kd.fresh' (Kd.R_lt (xr HO849.out)) k_ hk_), (Kd.fresh' (Kd.R_lt (xr HO852.out)) k_ hk_), (Kd.fresh' (Kd.R_lt (xr HO855.out)) k_ hk_), (Kd.fresh' (Kd.R_lt (xr HO861.out)) k_ hk_), (Kd.freshB (g := gb844) (o := .cells #[.bool a0_0, .string a0_1, .string a0_2] 25 (0, 0)) (xb BK844) k_ hk_), (Kd.freshB (g := gb845) (o := .cells #[.bool a1_0, .string a1_1, .string a1_2] 25 (0, 0)) (xb BK845) k_ hk_), (Kd.freshB (g := gb846) (o := .cells #[.bool false, .string (⟨#[]⟩ : ByteArray), .string (⟨#[]⟩ : ByteArray)] 25 (0, 0)) (xb BK846) k_ hk_)⟩); replace HO849 := xRb HO849 hb; replace HO852 := xRb HO852 hb; replace HO855 := xRb HO855 hb; replace HO861 := xRb HO861 hb; replace BK844 := xB BK844 hb; replace BK845 := xB BK845 hb; replace BK846 := xB BK846 hb; replace HB := xS HB hb; clear hb ho0; obtain ⟨hcz55_0, hcz55_1, hcz55_2, hfz55_0, hfz55_1, hfz55_2⟩ := x6 BK844; obtain ⟨hcz56_0, hcz56_1, hcz56_2, hfz56_0, hfz56_1, hfz56_2⟩ := x6 BK845))
  replace HO849 := Aside0.mk (Kd.R_drew HO849.out)
  replace HO852 := Aside0.mk (Kd.R_drew HO852.out)
  replace HO855 := Aside0.mk (Kd.R_drew HO855.out)
  replace HO858 := Aside0.mk (Kd.V_drew HO858.out)
  replace HO861 := Aside0.mk (Kd.R_drew HO861.out)
  replace HO864 := Aside0.mk (Kd.V_drew HO864.out)
  replace HO867 := Aside0.mk (Kd.V_drew HO867.out)
  replace BK844 := xD BK844
  replace BK845 := xD BK845
  replace BK846 := xD BK846
  replace HB := xW HB
  obtain ⟨Ao58, co58, eo58⟩ := Kd.V_slice HO858.out
  subst eo58
  obtain ⟨Ao59, co59, eo59⟩ := Kd.V_slice HO864.out
  subst eo59
  refine start_ (n := 8) (S := fun w' => w'.cell? ⟨gb844, 0, none⟩ = some (.bool a0_0) ∧ w'.cell? ⟨gb844, 1, none⟩ = some (.string a0_1) ∧ w'.cell? ⟨gb844, 2, none⟩ = some (.string a0_2)) (ds := []) (b 8 0) (by kernel_rfl) rfl rfl xV (fun hHeld => ?_); refine with_tabW insolvencyref1_Plus.tab11 insolvencyref1_Plus.bits11 (fun HT_ HW_ => ?_)
  generalize w54.drew = w57 at HO849 HO852 HO855 HO858 HO861 HO864 HO867 BK844 BK845 BK846 HB hHeld ⊢
  refine yP 0 (some 40) (b 8 1) ?_
  refine yP 2 (some 42) (b 8 5) ?_
  refine yP 3 (some 43) (b 8 13) ?_
  refine yP 5 (some 45) (b 8 45) ?_
  refine yT 1 (some 41) (b 8 47) hHeld ?_
  refine yO 4 (some 44) (b 8 63) fun K hK => ?_
  refine goes_ Tryd.func69 (by kernel_rfl) rfl #[.slice Ao58 t856.length co58, .slice Ao59 t862.length co59] (by rfl) rfl rfl (by (try simp only [List.map_toArray, List.map_cons, List.map_nil]); rfl) ?_
  with_reducible refine (insolvencyref1_plus.calls k _ _ t856 _ _ t862 t868 _ ?side1 ?side2 ?side3 ?side4 A31.out).mono ?_
  (case side1 => repeat (exact (Kd.V_reads' HO858.out).2.2))
  (case side2 => exact (Kd.V_reads' HO858.out).2.1)
  (case side3 => repeat (exact (Kd.V_reads' HO864.out).2.2))
  (case side4 => exact (Kd.V_reads' HO864.out).2.1)
  rintro e w60 ⟨v869, rfl, ho0, hb⟩
  refine ⟨_, rfl, ?_⟩
  replace HO858 := Aside0.mk (Kd.V_elder' (xv HO858.out) (Kd.R_base ho0) hb)
  replace HO864 := Aside0.mk (Kd.V_elder' (xv HO864.out) (Kd.R_base ho0) hb)
  replace HO867 := Aside0.mk (Kd.V_elder' (xv HO867.out) (Kd.R_base ho0) hb)
  have HO870 := Aside0.mk (Kd.R_lower (Kd.R_new' (Kd.R_new' (Kd.R_new' (Kd.R_new' ho0 (Kd.R_lt (xr HO849.out))) (Kd.R_lt (xr HO852.out))) (Kd.R_lt (xr HO855.out))) (Kd.R_lt (xr HO861.out))) (below_size (xs HB)))
  replace HO849 := Aside0.mk (Kd.R_elder' (xr HO849.out) (Kd.R_base ho0) hb)
  replace HO852 := Aside0.mk (Kd.R_elder' (xr HO852.out) (Kd.R_base ho0) hb)
  replace HO855 := Aside0.mk (Kd.R_elder' (xr HO855.out) (Kd.R_base ho0) hb)
  replace HO861 := Aside0.mk (Kd.R_elder' (xr HO861.out) (Kd.R_base ho0) hb)
  replace BK844 := xB BK844 hb
  replace BK845 := xB BK845 hb
  replace BK846 := xB BK846 hb
  replace HB := xS HB hb
  clear hb ho0
  obtain ⟨Ao61, co61, eo61⟩ := Kd.R_slice HO870.out
  subst eo61
  obtain ⟨Ao62, co62, eo62⟩ := Kd.V_slice HO867.out
  subst eo62
  refine hK.out _ _ xV (fun hHeld => ?_)
  clear hK K
  refine xN 44 ?_
  refine yO 6 (some 46) (b 8 127) fun K hK => ?_
  refine goes_ Tryd.func68 (by kernel_rfl) rfl #[.bool a0_0, .slice Ao61 t868.length co61, .slice Ao62 t865.length co62] (by rfl) rfl rfl (by (try simp only [List.map_toArray, List.map_cons, List.map_nil]); rfl) ?_
  with_reducible refine (insolvencyref1_reduced.calls k a0_0 _ _ t868 _ _ t865 t871 t872 t873 _ ?side1 ?side2 ?side3 ?side4 A32.out).mono ?_
  (case side1 => repeat (exact (Kd.R_reads' HO870.out).2.2))
  (case side2 => exact (Kd.R_reads' HO870.out).2.1)
  (case side3 => repeat (exact (Kd.V_reads' HO867.out).2.2))
  (case side4 => exact (Kd.V_reads' HO867.out).2.1)
  rintro e w63 ⟨rfl, hb⟩
  refine ⟨_, rfl, ?_⟩
  replace HO849 := xRb HO849 hb
  replace HO852 := xRb HO852 hb
  replace HO855 := xRb HO855 hb
  replace HO858 := xVb HO858 hb
  replace HO861 := xRb HO861 hb
  replace HO864 := xVb HO864 hb
  replace HO867 := xVb HO867 hb
  replace HO870 := xRb HO870 hb
  replace BK844 := xB BK844 hb
  replace BK845 := xB BK845 hb
  replace BK846 := xB BK846 hb
  replace HB := xS HB hb
  clear hb
  refine hK.out _ _ xV (fun hHeld => ?_)
  clear hK K
  refine xN 46 ?_
  refine yO 7 none (b 8 255) fun K hK => ?_
  obtain ⟨hs64, hs65, hs66, hfs64, hfs65, hfs66⟩ := x6 BK846
  have hns64_0 := NB844_846.out
  have hns64_1 := NB845_846.out
  have hms64_0 := NB846_844.out
  have hms64_1 := NB846_845.out
  refine xk ?_
  refine hK.out _ _ ⟨((cell_far (p := ⟨gb846, _, none⟩) NB844_846.out _).trans ((cell_far (p := ⟨gb846, _, none⟩) NB844_846.out _).trans ((cell_far (p := ⟨gb846, _, none⟩) NB844_846.out _).trans (hHeld.1)))), ((cell_far (p := ⟨gb846, _, none⟩) NB844_846.out _).trans ((cell_far (p := ⟨gb846, _, none⟩) NB844_846.out _).trans ((cell_far (p := ⟨gb846, _, none⟩) NB844_846.out _).trans (hHeld.2.1)))), ((cell_far (p := ⟨gb846, _, none⟩) NB844_846.out _).trans ((cell_far (p := ⟨gb846, _, none⟩) NB844_846.out _).trans ((cell_far (p := ⟨gb846, _, none⟩) NB844_846.out _).trans (hHeld.2.2))))⟩ (fun hHeld => ?_)
  clear hK K
  refine done_ (done_of HT_.out (by kernel_rfl)) ?_
  try go_wp2
  refine bodyPost_ret (results_cell_row rfl _ _ gb846 25 #[.bool t871, .string t872, .string t873] (0, 0) _ rfl (xp BK846) Tryd.underlying25 rfl (by kernel_rfl)) rfl ?_
  exact ⟨xy, xs HB⟩
 have c30b0 : (a0_0 == a1_0) = false := by simpa using c30
 (try (have c30b1 : decide (a0_0 = a1_0) = false := by simpa using c30))
 (try (have c30b2 : (a0_0 == a1_0) = false := by simpa using c30))
 (try (have c30b3 : ¬ (a0_0 = a1_0) := by simpa using c30))
 clear c30
 replace H := xH H; obtain ⟨t874, A67, H⟩ := H
 obtain ⟨c68b0, H⟩ | ⟨c68b0, H⟩ := xOd H
 ·replace H := xH H; obtain ⟨t875, A69, H⟩ := H
  replace H := xH H; obtain ⟨⟨t878, t879, t880⟩, A70, H⟩ := H
  dsimp only at H
  simp only [Option.some.injEq, Prod.mk.injEq] at H
  obtain ⟨rfl, rfl, rfl⟩ := H
  go_enter Tryd.func43, Tryd.ntmps43
  try go_wp2_with (first | (refine xF (N := 2) #[.bool a0_0, .string a0_1, .string a0_2] 25 HB ?_; clear HB; intro gb844 hg w71 hb BK844 GW844 HB; clear hb hg) | (refine xF (N := 3) #[.bool a1_0, .string a1_1, .string a1_2] 25 HB ?_; clear HB; intro gb845 hg w72 hb BK845 GW845 HB; have NB844_845 := xL BK844 hg; have NB845_844 := xR BK844 hg; replace BK844 := xB BK844 hb; clear hb hg) | (refine xF (N := 4) #[.bool false, .string (⟨#[]⟩ : ByteArray), .string (⟨#[]⟩ : ByteArray)] 25 HB ?_; clear HB; intro gb846 hg w73 hb BK846 GW846 HB; have NB844_846 := xL BK844 hg; have NB846_844 := xR BK844 hg; replace BK844 := xB BK844 hb; have NB845_846 := xL BK845 hg; have NB846_845 := xR BK845 hg; replace BK845 := xB BK845 hb; clear hb hg; have hnb74 := NB844_845.out; have hnc74 := NB845_844.out; have hnb75 := NB844_846.out; have hnc75 := NB846_844.out; obtain ⟨hcz76_0, hcz76_1, hcz76_2, hfz76_0, hfz76_1, hfz76_2⟩ := x6 BK844; have hnb77 := NB845_846.out; have hnc77 := NB846_845.out; obtain ⟨hcz78_0, hcz78_1, hcz78_2, hfz78_0, hfz78_1, hfz78_2⟩ := x6 BK845) | (refine xg Tryd.func65 (some 19) #[.agg #[.bool a0_0, .string a0_1, .string a0_2]] ?_; (with_reducible refine (insolvencyref1_den.calls k a0_0 a0_1 a0_2 t847 _ A23.out).mono ?_); rintro e w79 ⟨v848, rfl, ho0, hb⟩; refine ⟨_, rfl, ?_⟩; have HO849 := Aside0.mk (Kd.R_lower ho0 (below_size (xs HB))); replace BK844 := xB BK844 hb; replace BK845 := xB BK845 hb; replace BK846 := xB BK846 hb; replace HB := xS HB hb; clear hb ho0; obtain ⟨hcz80_0, hcz80_1, hcz80_2, hfz80_0, hfz80_1, hfz80_2⟩ := x6 BK845) | (refine xg Tryd.func65 (some 21) #[.agg #[.bool a1_0, .string a1_1, .string a1_2]] ?_; (with_reducible refine (insolvencyref1_den.calls k a1_0 a1_1 a1_2 t850 _ A24.out).mono ?_); rintro e w81 ⟨v851, rfl, ho0, hb⟩; refine ⟨_, rfl, ?_⟩; have HO852 := Aside0.mk (Kd.R_lower (Kd.R_new' ho0 (Kd.R_lt (xr HO849.out))) (below_size (xs HB))); replace HO849 := Aside0.mk (Kd.R_elder' (xr HO849.out) (Kd.R_base ho0) hb); replace BK844 := xB BK844 hb; replace BK845 := xB BK845 hb; replace BK846 := xB BK846 hb; replace HB := xS HB hb; clear hb ho0; obtain ⟨hcz82_0, hcz82_1, hcz82_2, hfz82_0, hfz82_1, hfz82_2⟩ := x6 BK844) | (refine xg Tryd.func67 (some 24) #[.string a0_1] ?_; (with_reducible refine (insolvencyref1_limbs.calls k a0_1 t853 _ A25.out).mono ?_); rintro e w83 ⟨v854, rfl, ho0, hb⟩; refine ⟨_, rfl, ?_⟩; have HO855 := Aside0.mk (Kd.R_lower (Kd.R_new' (Kd.R_new' ho0 (Kd.R_lt (xr HO849.out))) (Kd.R_lt (xr HO852.out))) (below_size (xs HB))); replace HO849 := Aside0.mk (Kd.R_elder' (xr HO849.out) (Kd.R_base ho0) hb); replace HO852 := Aside0.mk (Kd.R_elder' (xr HO852.out) (Kd.R_base ho0) hb); replace BK844 := xB BK844 hb; replace BK845 := xB BK845 hb; replace BK846 := xB BK846 hb; replace HB := xS HB hb; clear hb ho0; obtain ⟨Ao84, co84, eo84⟩ := Kd.R_slice HO855.out; subst eo84; obtain ⟨Ao85, co85, eo85⟩ := Kd.R_slice HO852.out; subst eo85) | (refine xg Tryd.func66 (some 26) #[.slice Ao84 t853.length co84, .slice Ao85 t850.length co85] ?_; (with_reducible refine (insolvencyref1_times.calls k _ _ t853 _ _ t850 t856 _ ?side1 ?side2 ?side3 ?side4 A26.out).mono ?_); (case side1 => repeat (exact (Kd.R_reads' HO855.out).2.2)); (case side2 => exact (Kd.R_reads' HO855.out).2.1); (case side3 => repeat (exact (Kd.R_reads' HO852.out).2.2)); (case side4 => exact (Kd.R_reads' HO852.out).2.1); rintro e w86 ⟨v857, rfl, ho0, hb⟩; refine ⟨_, rfl, ?_⟩; have HO858 := xVm w (fun k_ => some k_ ≠ (v848 : Value).ownBlock ∧ some k_ ≠ (.slice Ao85 t850.length co85 : Value).ownBlock ∧ some k_ ≠ (.slice Ao84 t853.length co84 : Value).ownBlock ∧ k_ ≠ gb844 ∧ k_ ≠ gb845 ∧ k_ ≠ gb846) ho0 (fun k_ hk_ => ⟨(Kd.fresh' (Kd.R_lt (xr HO849.out)) k_ hk_), (Kd.fresh' (Kd.R_lt (xr HO852.out)) k_ hk_), (Kd.fresh' (Kd.R_lt (xr HO855.out)) k_ hk_), (Kd.freshB (g := gb844) (o := .cells #[.bool a0_0, .string a0_1, .string a0_2] 25 (0, 0)) (xb BK844) k_ hk_), (Kd.freshB (g := gb845) (o := .cells #[.bool a1_0, .string a1_1, .string a1_2] 25 (0, 0)) (xb BK845) k_ hk_), (Kd.freshB (g := gb846) (o := .cells #[.bool false, .string (⟨#[]⟩ : ByteArray), .string (⟨#[]⟩ : ByteArray)] 25 (0, 0)) (xb BK846) k_ hk_)⟩); replace HO849 := xRb HO849 hb; replace HO852 := xRb HO852 hb; replace HO855 := xRb HO855 hb; replace BK844 := xB BK844 hb; replace BK845 := xB BK845 hb; replace BK846 := xB BK846 hb; replace HB := xS HB hb; clear hb ho0; obtain ⟨hcz87_0, hcz87_1, hcz87_2, hfz87_0, hfz87_1, hfz87_2⟩ := x6 BK845) | (refine xg Tryd.func67 (some 29) #[.string a1_1] ?_; (with_reducible refine (insolvencyref1_limbs.calls k a1_1 t859 _ A27.out).mono ?_); rintro e w88 ⟨v860, rfl, ho0, hb⟩; refine ⟨_, rfl, ?_⟩; replace HO858 := Aside0.mk (Kd.V_elder' (xv HO858.out) (Kd.R_base ho0) hb); have HO861 := Aside0.mk (Kd.R_lower (Kd.R_new' (Kd.R_new' (Kd.R_new' ho0 (Kd.R_lt (xr HO849.out))) (Kd.R_lt (xr HO852.out))) (Kd.R_lt (xr HO855.out))) (below_size (xs HB))); replace HO849 := Aside0.mk (Kd.R_elder' (xr HO849.out) (Kd.R_base ho0) hb); replace HO852 := Aside0.mk (Kd.R_elder' (xr HO852.out) (Kd.R_base ho0) hb); replace HO855 := Aside0.mk (Kd.R_elder' (xr HO855.out) (Kd.R_base ho0) hb); replace BK844 := xB BK844 hb; replace BK845 := xB BK845 hb; replace BK846 := xB BK846 hb; replace HB := xS HB hb; clear hb ho0; obtain ⟨Ao89, co89, eo89⟩ := Kd.R_slice HO861.out; subst eo89; obtain ⟨Ao90, co90, eo90⟩ := Kd.R_slice HO849.out; subst eo90) | (refine xg Tryd.func66 (some 31) #[.slice Ao89 t859.length co89, .slice Ao90 t847.length co90] ?_; (with_reducible refine (insolvencyref1_times.calls k _ _ t859 _ _ t847 t862 _ ?side1 ?side2 ?side3 ?side4 A28.out).mono ?_); (case side1 => repeat (exact (Kd.R_reads' HO861.out).2.2)); (case side2 => exact (Kd.R_reads' HO861.out).2.1); (case side3 => repeat (exact (Kd.R_reads' HO849.out).2.2)); (case side4 => exact (Kd.R_reads' HO849.out).2.1); rintro e w91 ⟨v863, rfl, ho0, hb⟩; refine ⟨_, rfl, ?_⟩; replace HO858 := xVb HO858 hb; have HO864 := xVm w (fun k_ => some k_ ≠ (.slice Ao90 t847.length co90 : Value).ownBlock ∧ some k_ ≠ (.slice Ao85 t850.length co85 : Value).ownBlock ∧ some k_ ≠ (.slice Ao84 t853.length co84 : Value).ownBlock ∧ some k_ ≠ (.slice Ao89 t859.length co89 : Value).ownBlock ∧ k_ ≠ gb844 ∧ k_ ≠ gb845 ∧ k_ ≠ gb846) ho0 (fun k_ hk_ => ⟨(Kd.fresh' (Kd.R_lt (xr HO849.out)) k_ hk_), (Kd.fresh' (Kd.R_lt (xr HO852.out)) k_ hk_), (Kd.fresh' (Kd.R_lt (xr HO855.out)) k_ hk_), (Kd.fresh' (Kd.R_lt (xr HO861.out)) k_ hk_), (Kd.freshB (g := gb844) (o := .cells #[.bool a0_0, .string a0_1, .string a0_2] 25 (0, 0)) (xb BK844) k_ hk_), (Kd.freshB (g := gb845) (o := .cells #[.bool a1_0, .string a1_1, .string a1_2] 25 (0, 0)) (xb BK845) k_ hk_), (Kd.freshB (g := gb846) (o := .cells #[.bool false, .string (⟨#[]⟩ : ByteArray), .string (⟨#[]⟩ : ByteArray)] 25 (0, 0)) (xb BK846) k_ hk_)⟩); replace HO849 := xRb HO849 hb; replace HO852 := xRb HO852 hb; replace HO855 := xRb HO855 hb; replace HO861 := xRb HO861 hb; replace BK844 := xB BK844 hb; replace BK845 := xB BK845 hb; replace BK846 := xB BK846 hb; replace HB := xS HB hb; clear hb ho0) | (refine xg Tryd.func66 (some 34) #[.slice Ao90 t847.length co90, .slice Ao85 t850.length co85] ?_; (with_reducible refine (insolvencyref1_times.calls k _ _ t847 _ _ t850 t865 _ ?side1 ?side2 ?side3 ?side4 A29.out).mono ?_); (case side1 => repeat (exact (Kd.R_reads' HO849.out).2.2)); (case side2 => exact (Kd.R_reads' HO849.out).2.1); (case side3 => repeat (exact (Kd.R_reads' HO852.out).2.2)); (case side4 => exact (Kd.R_reads' HO852.out).2.1); rintro e w92 ⟨v866, rfl, ho0, hb⟩; refine ⟨_, rfl, ?_⟩; replace HO858 := xVb HO858 hb; replace HO864 := xVb HO864 hb; have HO867 := xVm w (fun k_ => some k_ ≠ (.slice Ao90 t847.length co90 : Value).ownBlock ∧ some k_ ≠ (.slice Ao85 t850.length co85 : Value).ownBlock ∧ some k_ ≠ (.slice Ao84 t853.length co84 : Value).ownBlock ∧ some k_ ≠ (.slice Ao89 t859.length co89 : Value).ownBlock ∧ k_ ≠ gb844 ∧ k_ ≠ gb845 ∧ k_ ≠ gb846) ho0 (fun k_ hk_ => ⟨(Kd.fresh' (Kd.R_lt (xr HO849.out)) k_ hk_), (Kd.fresh' (Kd.R_lt (xr HO852.out)) k_ hk_), (Kd.fresh' (Kd.R_lt (xr HO855.out)) k_ hk_), (Kd.fresh' (Kd.R_lt (xr HO861.out)) k_ hk_), (Kd.freshB (g := gb844) (o := .cells #[.bool a0_0, .string a0_1, .string a0_2] 25 (0, 0)) (xb BK844) k_ hk_), (Kd.freshB (g := gb845) (o := .cells #[.bool a1_0, .string a1_1, .string a1_2] 25 (0, 0)) (xb BK845) k_ hk_), (Kd.freshB (g := gb846) (o := .cells #[.bool false, .string (⟨#[]⟩ : ByteArray), .string (⟨#[]⟩ : ByteArray)] 25 (0, 0)) (xb BK846) k_ hk_)⟩); replace HO849 := xRb HO849 hb; replace HO852 := xRb HO852 hb; replace HO855 := xRb HO855 hb; replace HO861 := xRb HO861 hb; replace BK844 := xB BK844 hb; replace BK845 := xB BK845 hb; replace BK846 := xB BK846 hb; replace HB := xS HB hb; clear hb ho0; obtain ⟨hcz93_0, hcz93_1, hcz93_2, hfz93_0, hfz93_1, hfz93_2⟩ := x6 BK844; obtain ⟨hcz94_0, hcz94_1, hcz94_2, hfz94_0, hfz94_1, hfz94_2⟩ := x6 BK845; obtain ⟨Ao95, co95, eo95⟩ := Kd.V_slice HO858.out; subst eo95; obtain ⟨Ao96, co96, eo96⟩ := Kd.V_slice HO864.out; subst eo96) | (refine xg Tryd.func70 (some 49) #[.slice Ao95 t856.length co95, .slice Ao96 t862.length co96] ?_; (with_reducible refine (insolvencyref1_order.calls k _ _ t856 _ _ t862 t874 _ (xf (Kd.V_reads' HO858.out).2.2) (Kd.V_reads' HO858.out).2.1 (xf (Kd.V_reads' HO864.out).2.2) (Kd.V_reads' HO864.out).2.1 A67.out).mono ?_); rintro e w' ⟨rfl, ⟨nd, rfl⟩⟩; refine ⟨_, rfl, ?_⟩; (try (rw [drewN_self w92]; generalize hq_ : World.drewN w92 _ = w92; have n0_ : Aside0 (Kd.R (Kd.int .u32) 85 w92 w.heap.size (fun k_ => some k_ ≠ (.slice Ao85 t850.length co85 : Value).ownBlock ∧ some k_ ≠ (.slice Ao84 t853.length co84 : Value).ownBlock ∧ some k_ ≠ (.slice Ao89 t859.length co89 : Value).ownBlock) (.slice Ao90 t847.length co90) t847) := ⟨by rw [← hq_]; exact (by (with_reducible repeat (apply Kd.R_drewN)); exact Kd.R_mono HO849.out (fun _ hk => by exact ⟨hk.1.1.2, ⟨hk.1.2, hk.2⟩⟩))⟩; have n1_ : Aside0 (Kd.R (Kd.int .u32) 85 w92 w.heap.size (fun k_ => some k_ ≠ (.slice Ao90 t847.length co90 : Value).ownBlock ∧ some k_ ≠ (.slice Ao84 t853.length co84 : Value).ownBlock ∧ some k_ ≠ (.slice Ao89 t859.length co89 : Value).ownBlock) (.slice Ao85 t850.length co85) t850) := ⟨by rw [← hq_]; exact (by (with_reducible repeat (apply Kd.R_drewN)); exact Kd.R_mono HO852.out (fun _ hk => by exact ⟨hk.1.1.2, ⟨hk.1.2, hk.2⟩⟩))⟩; have n2_ : Aside0 (Kd.R (Kd.int .u32) 85 w92 w.heap.size (fun k_ => some k_ ≠ (.slice Ao90 t847.length co90 : Value).ownBlock ∧ some k_ ≠ (.slice Ao85 t850.length co85 : Value).ownBlock ∧ some k_ ≠ (.slice Ao89 t859.length co89 : Value).ownBlock) (.slice Ao84 t853.length co84) t853) := ⟨by rw [← hq_]; exact (by (with_reducible repeat (apply Kd.R_drewN)); exact Kd.R_mono HO855.out (fun _ hk => by exact ⟨hk.1.1.2, ⟨hk.1.2, hk.2⟩⟩))⟩; have n3_ : Aside0 (Kd.V (Kd.int .u32) 85 w92 w.heap.size (fun k_ => some k_ ≠ (.slice Ao90 t847.length co90 : Value).ownBlock ∧ some k_ ≠ (.slice Ao85 t850.length co85 : Value).ownBlock ∧ some k_ ≠ (.slice Ao84 t853.length co84 : Value).ownBlock ∧ some k_ ≠ (.slice Ao89 t859.length co89 : Value).ownBlock ∧ k_ ≠ gb844 ∧ k_ ≠ gb845 ∧ k_ ≠ gb846) (.slice Ao95 t856.length co95) t856) := ⟨by rw [← hq_]; exact (by (with_reducible repeat (apply Kd.V_drewN)); exact Kd.V_mono HO858.out (fun _ hk => by exact ⟨hk.1.1, ⟨hk.1.2.1, ⟨hk.1.2.2.1, ⟨hk.2, ⟨hk.1.2.2.2.1, ⟨hk.1.2.2.2.2.1, hk.1.2.2.2.2.2⟩⟩⟩⟩⟩⟩))⟩; have n4_ : Aside0 (Kd.R (Kd.int .u32) 85 w92 w.heap.size (fun k_ => some k_ ≠ (.slice Ao90 t847.length co90 : Value).ownBlock ∧ some k_ ≠ (.slice Ao85 t850.length co85 : Value).ownBlock ∧ some k_ ≠ (.slice Ao84 t853.length co84 : Value).ownBlock) (.slice Ao89 t859.length co89) t859) := ⟨by rw [← hq_]; exact (by (with_reducible repeat (apply Kd.R_drewN)); exact Kd.R_mono HO861.out (fun _ hk => by exact ⟨hk.1.1.2, ⟨hk.1.2, hk.2⟩⟩))⟩; have n5_ : Aside0 (Kd.V (Kd.int .u32) 85 w92 w.heap.size (fun k_ => some k_ ≠ (.slice Ao90 t847.length co90 : Value).ownBlock ∧ some k_ ≠ (.slice Ao85 t850.length co85 : Value).ownBlock ∧ some k_ ≠ (.slice Ao84 t853.length co84 : Value).ownBlock ∧ some k_ ≠ (.slice Ao89 t859.length co89 : Value).ownBlock ∧ k_ ≠ gb844 ∧ k_ ≠ gb845 ∧ k_ ≠ gb846) (.slice Ao96 t862.length co96) t862) := ⟨by rw [← hq_]; exact (xv HO864.out)⟩; have n6_ : Aside0 (Kd.V (Kd.int .u32) 85 w92 w.heap.size (fun k_ => some k_ ≠ (.slice Ao90 t847.length co90 : Value).ownBlock ∧ some k_ ≠ (.slice Ao85 t850.length co85 : Value).ownBlock ∧ some k_ ≠ (.slice Ao84 t853.length co84 : Value).ownBlock ∧ some k_ ≠ (.slice Ao89 t859.length co89 : Value).ownBlock ∧ k_ ≠ gb844 ∧ k_ ≠ gb845 ∧ k_ ≠ gb846) v866 t865) := ⟨by rw [← hq_]; exact (xv HO867.out)⟩; have n7_ : Aside0 (w92.heap[gb844]? = some (.cells #[.bool a0_0, .string a0_1, .string a0_2] 25 (0, 0))) := ⟨by rw [← hq_]; exact (xb BK844)⟩; have n8_ : Aside0 (w92.heap[gb845]? = some (.cells #[.bool a1_0, .string a1_1, .string a1_2] 25 (0, 0))) := ⟨by rw [← hq_]; exact (xb BK845)⟩; have n9_ : Aside0 (w92.heap[gb846]? = some (.cells #[.bool false, .string (⟨#[]⟩ : ByteArray), .string (⟨#[]⟩ : ByteArray)] 25 (0, 0))) := ⟨by rw [← hq_]; exact (xb BK846)⟩; have n10_ : Aside0 (Below w.heap.size w w92) := ⟨by rw [← hq_]; exact (xs HB)⟩; clear HO849 HO852 HO855 HO858 HO861 HO864 HO867 BK844 BK845 BK846 HB hq_; have HO849 := n0_; have HO852 := n1_; have HO855 := n2_; have HO858 := n3_; have HO861 := n4_; have HO864 := n5_; have HO867 := n6_; have BK844 := n7_; have BK845 := n8_; have BK846 := n9_; have HB := n10_; clear n0_ n1_ n2_ n3_ n4_ n5_ n6_ n7_ n8_ n9_ n10_))))
  replace HO849 := Aside0.mk (Kd.R_drew HO849.out)
  replace HO852 := Aside0.mk (Kd.R_drew HO852.out)
  replace HO855 := Aside0.mk (Kd.R_drew HO855.out)
  replace HO858 := Aside0.mk (Kd.V_drew HO858.out)
  replace HO861 := Aside0.mk (Kd.R_drew HO861.out)
  replace HO864 := Aside0.mk (Kd.V_drew HO864.out)
  replace HO867 := Aside0.mk (Kd.V_drew HO867.out)
  replace BK844 := xD BK844
  replace BK845 := xD BK845
  replace BK846 := xD BK846
  replace HB := xW HB
  refine start_ (n := 8) (S := fun w' => w'.cell? ⟨gb845, 0, none⟩ = some (.bool a1_0) ∧ w'.cell? ⟨gb845, 1, none⟩ = some (.string a1_1) ∧ w'.cell? ⟨gb845, 2, none⟩ = some (.string a1_2)) (ds := []) (b 8 0) (by kernel_rfl) rfl rfl xV (fun hHeld => ?_); refine with_tabW insolvencyref1_Plus.tab13 insolvencyref1_Plus.bits13 (fun HT_ HW_ => ?_)
  generalize w92.drew = w97 at HO849 HO852 HO855 HO858 HO861 HO864 HO867 BK844 BK845 BK846 HB hHeld ⊢
  refine yP 0 (some 51) (b 8 1) ?_
  refine yP 2 (some 53) (b 8 5) ?_
  refine yP 3 (some 54) (b 8 13) ?_
  refine yP 5 (some 56) (b 8 45) ?_
  refine yT 1 (some 52) (b 8 47) hHeld ?_
  refine yO 4 (some 55) (b 8 63) fun K hK => ?_
  refine goes_ Tryd.func71 (by kernel_rfl) rfl #[.slice Ao96 t862.length co96, .slice Ao95 t856.length co95] (by rfl) rfl rfl (by (try simp only [List.map_toArray, List.map_cons, List.map_nil]); rfl) ?_
  with_reducible refine (insolvencyref1_minus.calls k _ _ t862 _ _ t856 t875 _ ?side1 ?side2 ?side3 ?side4 A69.out).mono ?_
  (case side1 => repeat (exact (Kd.V_reads' HO864.out).2.2))
  (case side2 => exact (Kd.V_reads' HO864.out).2.1)
  (case side3 => repeat (exact (Kd.V_reads' HO858.out).2.2))
  (case side4 => exact (Kd.V_reads' HO858.out).2.1)
  rintro e w98 ⟨v876, rfl, ho0, hb⟩
  refine ⟨_, rfl, ?_⟩
  replace HO858 := xVb HO858 hb
  replace HO864 := xVb HO864 hb
  replace HO867 := xVb HO867 hb
  have HO877 := xVm w (fun k_ => some k_ ≠ (.slice Ao90 t847.length co90 : Value).ownBlock ∧ some k_ ≠ (.slice Ao85 t850.length co85 : Value).ownBlock ∧ some k_ ≠ (.slice Ao84 t853.length co84 : Value).ownBlock ∧ some k_ ≠ (.slice Ao89 t859.length co89 : Value).ownBlock ∧ k_ ≠ gb844 ∧ k_ ≠ gb845 ∧ k_ ≠ gb846) ho0 (fun k_ hk_ => ⟨(Kd.fresh' (Kd.R_lt (xr HO849.out)) k_ hk_), (Kd.fresh' (Kd.R_lt (xr HO852.out)) k_ hk_), (Kd.fresh' (Kd.R_lt (xr HO855.out)) k_ hk_), (Kd.fresh' (Kd.R_lt (xr HO861.out)) k_ hk_), (Kd.freshB (g := gb844) (o := .cells #[.bool a0_0, .string a0_1, .string a0_2] 25 (0, 0)) (xb BK844) k_ hk_), (Kd.freshB (g := gb845) (o := .cells #[.bool a1_0, .string a1_1, .string a1_2] 25 (0, 0)) (xb BK845) k_ hk_), (Kd.freshB (g := gb846) (o := .cells #[.bool false, .string (⟨#[]⟩ : ByteArray), .string (⟨#[]⟩ : ByteArray)] 25 (0, 0)) (xb BK846) k_ hk_)⟩)
  replace HO849 := xRb HO849 hb
  replace HO852 := xRb HO852 hb
  replace HO855 := xRb HO855 hb
  replace HO861 := xRb HO861 hb
  replace BK844 := xB BK844 hb
  replace BK845 := xB BK845 hb
  replace BK846 := xB BK846 hb
  replace HB := xS HB hb
  clear hb ho0
  obtain ⟨Ao99, co99, eo99⟩ := Kd.V_slice HO877.out
  subst eo99
  obtain ⟨Ao100, co100, eo100⟩ := Kd.V_slice HO867.out
  subst eo100
  refine hK.out _ _ xV (fun hHeld => ?_)
  clear hK K
  refine xN 55 ?_
  refine yO 6 (some 57) (b 8 127) fun K hK => ?_
  refine goes_ Tryd.func68 (by kernel_rfl) rfl #[.bool a1_0, .slice Ao99 t875.length co99, .slice Ao100 t865.length co100] (by rfl) rfl rfl (by (try simp only [List.map_toArray, List.map_cons, List.map_nil]); rfl) ?_
  with_reducible refine (insolvencyref1_reduced.calls k a1_0 _ _ t875 _ _ t865 t878 t879 t880 _ ?side1 ?side2 ?side3 ?side4 A70.out).mono ?_
  (case side1 => repeat (exact (Kd.V_reads' HO877.out).2.2))
  (case side2 => exact (Kd.V_reads' HO877.out).2.1)
  (case side3 => repeat (exact (Kd.V_reads' HO867.out).2.2))
  (case side4 => exact (Kd.V_reads' HO867.out).2.1)
  rintro e w101 ⟨rfl, hb⟩
  refine ⟨_, rfl, ?_⟩
  replace HO849 := xRb HO849 hb
  replace HO852 := xRb HO852 hb
  replace HO855 := xRb HO855 hb
  replace HO858 := xVb HO858 hb
  replace HO861 := xRb HO861 hb
  replace HO864 := xVb HO864 hb
  replace HO867 := xVb HO867 hb
  replace HO877 := xVb HO877 hb
  replace BK844 := xB BK844 hb
  replace BK845 := xB BK845 hb
  replace BK846 := xB BK846 hb
  replace HB := xS HB hb
  clear hb
  refine hK.out _ _ xV (fun hHeld => ?_)
  clear hK K
  refine xN 57 ?_
  refine yO 7 none (b 8 255) fun K hK => ?_
  obtain ⟨hs102, hs103, hs104, hfs102, hfs103, hfs104⟩ := x6 BK846
  have hns102_0 := NB844_846.out
  have hns102_1 := NB845_846.out
  have hms102_0 := NB846_844.out
  have hms102_1 := NB846_845.out
  refine xk ?_
  refine hK.out _ _ ⟨((cell_far (p := ⟨gb846, _, none⟩) NB845_846.out _).trans ((cell_far (p := ⟨gb846, _, none⟩) NB845_846.out _).trans ((cell_far (p := ⟨gb846, _, none⟩) NB845_846.out _).trans (hHeld.1)))), ((cell_far (p := ⟨gb846, _, none⟩) NB845_846.out _).trans ((cell_far (p := ⟨gb846, _, none⟩) NB845_846.out _).trans ((cell_far (p := ⟨gb846, _, none⟩) NB845_846.out _).trans (hHeld.2.1)))), ((cell_far (p := ⟨gb846, _, none⟩) NB845_846.out _).trans ((cell_far (p := ⟨gb846, _, none⟩) NB845_846.out _).trans ((cell_far (p := ⟨gb846, _, none⟩) NB845_846.out _).trans (hHeld.2.2))))⟩ (fun hHeld => ?_)
  clear hK K
  refine done_ (done_of HT_.out (by kernel_rfl)) ?_
  try go_wp2
  refine bodyPost_ret (results_cell_row rfl _ _ gb846 25 #[.bool t878, .string t879, .string t880] (0, 0) _ rfl (xp BK846) Tryd.underlying25 rfl (by kernel_rfl)) rfl ?_
  exact ⟨xy, xs HB⟩
 replace H := xH H; obtain ⟨t881, A105, H⟩ := H
 replace H := xH H; obtain ⟨⟨t884, t885, t886⟩, A106, H⟩ := H
 dsimp only at H
 simp only [Option.some.injEq, Prod.mk.injEq] at H
 obtain ⟨rfl, rfl, rfl⟩ := H
 go_enter Tryd.func43, Tryd.ntmps43
 try go_wp2_with (first | (refine xF (N := 2) #[.bool a0_0, .string a0_1, .string a0_2] 25 HB ?_; clear HB; intro gb844 hg w107 hb BK844 GW844 HB; clear hb hg) | (refine xF (N := 3) #[.bool a1_0, .string a1_1, .string a1_2] 25 HB ?_; clear HB; intro gb845 hg w108 hb BK845 GW845 HB; have NB844_845 := xL BK844 hg; have NB845_844 := xR BK844 hg; replace BK844 := xB BK844 hb; clear hb hg) | (refine xF (N := 4) #[.bool false, .string (⟨#[]⟩ : ByteArray), .string (⟨#[]⟩ : ByteArray)] 25 HB ?_; clear HB; intro gb846 hg w109 hb BK846 GW846 HB; have NB844_846 := xL BK844 hg; have NB846_844 := xR BK844 hg; replace BK844 := xB BK844 hb; have NB845_846 := xL BK845 hg; have NB846_845 := xR BK845 hg; replace BK845 := xB BK845 hb; clear hb hg; have hnb110 := NB844_845.out; have hnc110 := NB845_844.out; have hnb111 := NB844_846.out; have hnc111 := NB846_844.out; obtain ⟨hcz112_0, hcz112_1, hcz112_2, hfz112_0, hfz112_1, hfz112_2⟩ := x6 BK844; have hnb113 := NB845_846.out; have hnc113 := NB846_845.out; obtain ⟨hcz114_0, hcz114_1, hcz114_2, hfz114_0, hfz114_1, hfz114_2⟩ := x6 BK845) | (refine xg Tryd.func65 (some 19) #[.agg #[.bool a0_0, .string a0_1, .string a0_2]] ?_; (with_reducible refine (insolvencyref1_den.calls k a0_0 a0_1 a0_2 t847 _ A23.out).mono ?_); rintro e w115 ⟨v848, rfl, ho0, hb⟩; refine ⟨_, rfl, ?_⟩; have HO849 := Aside0.mk (Kd.R_lower ho0 (below_size (xs HB))); replace BK844 := xB BK844 hb; replace BK845 := xB BK845 hb; replace BK846 := xB BK846 hb; replace HB := xS HB hb; clear hb ho0; obtain ⟨hcz116_0, hcz116_1, hcz116_2, hfz116_0, hfz116_1, hfz116_2⟩ := x6 BK845) | (refine xg Tryd.func65 (some 21) #[.agg #[.bool a1_0, .string a1_1, .string a1_2]] ?_; (with_reducible refine (insolvencyref1_den.calls k a1_0 a1_1 a1_2 t850 _ A24.out).mono ?_); rintro e w117 ⟨v851, rfl, ho0, hb⟩; refine ⟨_, rfl, ?_⟩; have HO852 := Aside0.mk (Kd.R_lower (Kd.R_new' ho0 (Kd.R_lt (xr HO849.out))) (below_size (xs HB))); replace HO849 := Aside0.mk (Kd.R_elder' (xr HO849.out) (Kd.R_base ho0) hb); replace BK844 := xB BK844 hb; replace BK845 := xB BK845 hb; replace BK846 := xB BK846 hb; replace HB := xS HB hb; clear hb ho0; obtain ⟨hcz118_0, hcz118_1, hcz118_2, hfz118_0, hfz118_1, hfz118_2⟩ := x6 BK844) | (refine xg Tryd.func67 (some 24) #[.string a0_1] ?_; (with_reducible refine (insolvencyref1_limbs.calls k a0_1 t853 _ A25.out).mono ?_); rintro e w119 ⟨v854, rfl, ho0, hb⟩; refine ⟨_, rfl, ?_⟩; have HO855 := Aside0.mk (Kd.R_lower (Kd.R_new' (Kd.R_new' ho0 (Kd.R_lt (xr HO849.out))) (Kd.R_lt (xr HO852.out))) (below_size (xs HB))); replace HO849 := Aside0.mk (Kd.R_elder' (xr HO849.out) (Kd.R_base ho0) hb); replace HO852 := Aside0.mk (Kd.R_elder' (xr HO852.out) (Kd.R_base ho0) hb); replace BK844 := xB BK844 hb; replace BK845 := xB BK845 hb; replace BK846 := xB BK846 hb; replace HB := xS HB hb; clear hb ho0; obtain ⟨Ao120, co120, eo120⟩ := Kd.R_slice HO855.out; subst eo120; obtain ⟨Ao121, co121, eo121⟩ := Kd.R_slice HO852.out; subst eo121) | (refine xg Tryd.func66 (some 26) #[.slice Ao120 t853.length co120, .slice Ao121 t850.length co121] ?_; (with_reducible refine (insolvencyref1_times.calls k _ _ t853 _ _ t850 t856 _ ?side1 ?side2 ?side3 ?side4 A26.out).mono ?_); (case side1 => repeat (exact (Kd.R_reads' HO855.out).2.2)); (case side2 => exact (Kd.R_reads' HO855.out).2.1); (case side3 => repeat (exact (Kd.R_reads' HO852.out).2.2)); (case side4 => exact (Kd.R_reads' HO852.out).2.1); rintro e w122 ⟨v857, rfl, ho0, hb⟩; refine ⟨_, rfl, ?_⟩; have HO858 := xVm w (fun k_ => some k_ ≠ (v848 : Value).ownBlock ∧ some k_ ≠ (.slice Ao121 t850.length co121 : Value).ownBlock ∧ some k_ ≠ (.slice Ao120 t853.length co120 : Value).ownBlock ∧ k_ ≠ gb844 ∧ k_ ≠ gb845 ∧ k_ ≠ gb846) ho0 (fun k_ hk_ => ⟨(Kd.fresh' (Kd.R_lt (xr HO849.out)) k_ hk_), (Kd.fresh' (Kd.R_lt (xr HO852.out)) k_ hk_), (Kd.fresh' (Kd.R_lt (xr HO855.out)) k_ hk_), (Kd.freshB (g := gb844) (o := .cells #[.bool a0_0, .string a0_1, .string a0_2] 25 (0, 0)) (xb BK844) k_ hk_), (Kd.freshB (g := gb845) (o := .cells #[.bool a1_0, .string a1_1, .string a1_2] 25 (0, 0)) (xb BK845) k_ hk_), (Kd.freshB (g := gb846) (o := .cells #[.bool false, .string (⟨#[]⟩ : ByteArray), .string (⟨#[]⟩ : ByteArray)] 25 (0, 0)) (xb BK846) k_ hk_)⟩); replace HO849 := xRb HO849 hb; replace HO852 := xRb HO852 hb; replace HO855 := xRb HO855 hb; replace BK844 := xB BK844 hb; replace BK845 := xB BK845 hb; replace BK846 := xB BK846 hb; replace HB := xS HB hb; clear hb ho0; obtain ⟨hcz123_0, hcz123_1, hcz123_2, hfz123_0, hfz123_1, hfz123_2⟩ := x6 BK845) | (refine xg Tryd.func67 (some 29) #[.string a1_1] ?_; (with_reducible refine (insolvencyref1_limbs.calls k a1_1 t859 _ A27.out).mono ?_); rintro e w124 ⟨v860, rfl, ho0, hb⟩; refine ⟨_, rfl, ?_⟩; replace HO858 := Aside0.mk (Kd.V_elder' (xv HO858.out) (Kd.R_base ho0) hb); have HO861 := Aside0.mk (Kd.R_lower (Kd.R_new' (Kd.R_new' (Kd.R_new' ho0 (Kd.R_lt (xr HO849.out))) (Kd.R_lt (xr HO852.out))) (Kd.R_lt (xr HO855.out))) (below_size (xs HB))); replace HO849 := Aside0.mk (Kd.R_elder' (xr HO849.out) (Kd.R_base ho0) hb); replace HO852 := Aside0.mk (Kd.R_elder' (xr HO852.out) (Kd.R_base ho0) hb); replace HO855 := Aside0.mk (Kd.R_elder' (xr HO855.out) (Kd.R_base ho0) hb); replace BK844 := xB BK844 hb; replace BK845 := xB BK845 hb; replace BK846 := xB BK846 hb; replace HB := xS HB hb; clear hb ho0; obtain ⟨Ao125, co125, eo125⟩ := Kd.R_slice HO861.out; subst eo125; obtain ⟨Ao126, co126, eo126⟩ := Kd.R_slice HO849.out; subst eo126) | (refine xg Tryd.func66 (some 31) #[.slice Ao125 t859.length co125, .slice Ao126 t847.length co126] ?_; (with_reducible refine (insolvencyref1_times.calls k _ _ t859 _ _ t847 t862 _ ?side1 ?side2 ?side3 ?side4 A28.out).mono ?_); (case side1 => repeat (exact (Kd.R_reads' HO861.out).2.2)); (case side2 => exact (Kd.R_reads' HO861.out).2.1); (case side3 => repeat (exact (Kd.R_reads' HO849.out).2.2)); (case side4 => exact (Kd.R_reads' HO849.out).2.1); rintro e w127 ⟨v863, rfl, ho0, hb⟩; refine ⟨_, rfl, ?_⟩; replace HO858 := xVb HO858 hb; have HO864 := xVm w (fun k_ => some k_ ≠ (.slice Ao126 t847.length co126 : Value).ownBlock ∧ some k_ ≠ (.slice Ao121 t850.length co121 : Value).ownBlock ∧ some k_ ≠ (.slice Ao120 t853.length co120 : Value).ownBlock ∧ some k_ ≠ (.slice Ao125 t859.length co125 : Value).ownBlock ∧ k_ ≠ gb844 ∧ k_ ≠ gb845 ∧ k_ ≠ gb846) ho0 (fun k_ hk_ => ⟨(Kd.fresh' (Kd.R_lt (xr HO849.out)) k_ hk_), (Kd.fresh' (Kd.R_lt (xr HO852.out)) k_ hk_), (Kd.fresh' (Kd.R_lt (xr HO855.out)) k_ hk_), (Kd.fresh' (Kd.R_lt (xr HO861.out)) k_ hk_), (Kd.freshB (g := gb844) (o := .cells #[.bool a0_0, .string a0_1, .string a0_2] 25 (0, 0)) (xb BK844) k_ hk_), (Kd.freshB (g := gb845) (o := .cells #[.bool a1_0, .string a1_1, .string a1_2] 25 (0, 0)) (xb BK845) k_ hk_), (Kd.freshB (g := gb846) (o := .cells #[.bool false, .string (⟨#[]⟩ : ByteArray), .string (⟨#[]⟩ : ByteArray)] 25 (0, 0)) (xb BK846) k_ hk_)⟩); replace HO849 := xRb HO849 hb; replace HO852 := xRb HO852 hb; replace HO855 := xRb HO855 hb; replace HO861 := xRb HO861 hb; replace BK844 := xB BK844 hb; replace BK845 := xB BK845 hb; replace BK846 := xB BK846 hb; replace HB := xS HB hb; clear hb ho0) | (refine xg Tryd.func66 (some 34) #[.slice Ao126 t847.length co126, .slice Ao121 t850.length co121] ?_; (with_reducible refine (insolvencyref1_times.calls k _ _ t847 _ _ t850 t865 _ ?side1 ?side2 ?side3 ?side4 A29.out).mono ?_); (case side1 => repeat (exact (Kd.R_reads' HO849.out).2.2)); (case side2 => exact (Kd.R_reads' HO849.out).2.1); (case side3 => repeat (exact (Kd.R_reads' HO852.out).2.2)); (case side4 => exact (Kd.R_reads' HO852.out).2.1); rintro e w128 ⟨v866, rfl, ho0, hb⟩; refine ⟨_, rfl, ?_⟩; replace HO858 := xVb HO858 hb; replace HO864 := xVb HO864 hb; have HO867 := xVm w (fun k_ => some k_ ≠ (.slice Ao126 t847.length co126 : Value).ownBlock ∧ some k_ ≠ (.slice Ao121 t850.length co121 : Value).ownBlock ∧ some k_ ≠ (.slice Ao120 t853.length co120 : Value).ownBlock ∧ some k_ ≠ (.slice Ao125 t859.length co125 : Value).ownBlock ∧ k_ ≠ gb844 ∧ k_ ≠ gb845 ∧ k_ ≠ gb846) ho0 (fun k_ hk_ => ⟨(Kd.fresh' (Kd.R_lt (xr HO849.out)) k_ hk_), (Kd.fresh' (Kd.R_lt (xr HO852.out)) k_ hk_), (Kd.fresh' (Kd.R_lt (xr HO855.out)) k_ hk_), (Kd.fresh' (Kd.R_lt (xr HO861.out)) k_ hk_), (Kd.freshB (g := gb844) (o := .cells #[.bool a0_0, .string a0_1, .string a0_2] 25 (0, 0)) (xb BK844) k_ hk_), (Kd.freshB (g := gb845) (o := .cells #[.bool a1_0, .string a1_1, .string a1_2] 25 (0, 0)) (xb BK845) k_ hk_), (Kd.freshB (g := gb846) (o := .cells #[.bool false, .string (⟨#[]⟩ : ByteArray), .string (⟨#[]⟩ : ByteArray)] 25 (0, 0)) (xb BK846) k_ hk_)⟩); replace HO849 := xRb HO849 hb; replace HO852 := xRb HO852 hb; replace HO855 := xRb HO855 hb; replace HO861 := xRb HO861 hb; replace BK844 := xB BK844 hb; replace BK845 := xB BK845 hb; replace BK846 := xB BK846 hb; replace HB := xS HB hb; clear hb ho0; obtain ⟨hcz129_0, hcz129_1, hcz129_2, hfz129_0, hfz129_1, hfz129_2⟩ := x6 BK844; obtain ⟨hcz130_0, hcz130_1, hcz130_2, hfz130_0, hfz130_1, hfz130_2⟩ := x6 BK845; obtain ⟨Ao131, co131, eo131⟩ := Kd.V_slice HO858.out; subst eo131; obtain ⟨Ao132, co132, eo132⟩ := Kd.V_slice HO864.out; subst eo132) | (refine xg Tryd.func70 (some 49) #[.slice Ao131 t856.length co131, .slice Ao132 t862.length co132] ?_; (with_reducible refine (insolvencyref1_order.calls k _ _ t856 _ _ t862 t874 _ (xf (Kd.V_reads' HO858.out).2.2) (Kd.V_reads' HO858.out).2.1 (xf (Kd.V_reads' HO864.out).2.2) (Kd.V_reads' HO864.out).2.1 A67.out).mono ?_); rintro e w' ⟨rfl, ⟨nd, rfl⟩⟩; refine ⟨_, rfl, ?_⟩; (try (rw [drewN_self w128]; generalize hq_ : World.drewN w128 _ = w128; have n0_ : Aside0 (Kd.R (Kd.int .u32) 85 w128 w.heap.size (fun k_ => some k_ ≠ (.slice Ao121 t850.length co121 : Value).ownBlock ∧ some k_ ≠ (.slice Ao120 t853.length co120 : Value).ownBlock ∧ some k_ ≠ (.slice Ao125 t859.length co125 : Value).ownBlock) (.slice Ao126 t847.length co126) t847) := ⟨by rw [← hq_]; exact (by (with_reducible repeat (apply Kd.R_drewN)); exact Kd.R_mono HO849.out (fun _ hk => by exact ⟨hk.1.1.2, ⟨hk.1.2, hk.2⟩⟩))⟩; have n1_ : Aside0 (Kd.R (Kd.int .u32) 85 w128 w.heap.size (fun k_ => some k_ ≠ (.slice Ao126 t847.length co126 : Value).ownBlock ∧ some k_ ≠ (.slice Ao120 t853.length co120 : Value).ownBlock ∧ some k_ ≠ (.slice Ao125 t859.length co125 : Value).ownBlock) (.slice Ao121 t850.length co121) t850) := ⟨by rw [← hq_]; exact (by (with_reducible repeat (apply Kd.R_drewN)); exact Kd.R_mono HO852.out (fun _ hk => by exact ⟨hk.1.1.2, ⟨hk.1.2, hk.2⟩⟩))⟩; have n2_ : Aside0 (Kd.R (Kd.int .u32) 85 w128 w.heap.size (fun k_ => some k_ ≠ (.slice Ao126 t847.length co126 : Value).ownBlock ∧ some k_ ≠ (.slice Ao121 t850.length co121 : Value).ownBlock ∧ some k_ ≠ (.slice Ao125 t859.length co125 : Value).ownBlock) (.slice Ao120 t853.length co120) t853) := ⟨by rw [← hq_]; exact (by (with_reducible repeat (apply Kd.R_drewN)); exact Kd.R_mono HO855.out (fun _ hk => by exact ⟨hk.1.1.2, ⟨hk.1.2, hk.2⟩⟩))⟩; have n3_ : Aside0 (Kd.V (Kd.int .u32) 85 w128 w.heap.size (fun k_ => some k_ ≠ (.slice Ao126 t847.length co126 : Value).ownBlock ∧ some k_ ≠ (.slice Ao121 t850.length co121 : Value).ownBlock ∧ some k_ ≠ (.slice Ao120 t853.length co120 : Value).ownBlock ∧ some k_ ≠ (.slice Ao125 t859.length co125 : Value).ownBlock ∧ k_ ≠ gb844 ∧ k_ ≠ gb845 ∧ k_ ≠ gb846) (.slice Ao131 t856.length co131) t856) := ⟨by rw [← hq_]; exact (by (with_reducible repeat (apply Kd.V_drewN)); exact Kd.V_mono HO858.out (fun _ hk => by exact ⟨hk.1.1, ⟨hk.1.2.1, ⟨hk.1.2.2.1, ⟨hk.2, ⟨hk.1.2.2.2.1, ⟨hk.1.2.2.2.2.1, hk.1.2.2.2.2.2⟩⟩⟩⟩⟩⟩))⟩; have n4_ : Aside0 (Kd.R (Kd.int .u32) 85 w128 w.heap.size (fun k_ => some k_ ≠ (.slice Ao126 t847.length co126 : Value).ownBlock ∧ some k_ ≠ (.slice Ao121 t850.length co121 : Value).ownBlock ∧ some k_ ≠ (.slice Ao120 t853.length co120 : Value).ownBlock) (.slice Ao125 t859.length co125) t859) := ⟨by rw [← hq_]; exact (by (with_reducible repeat (apply Kd.R_drewN)); exact Kd.R_mono HO861.out (fun _ hk => by exact ⟨hk.1.1.2, ⟨hk.1.2, hk.2⟩⟩))⟩; have n5_ : Aside0 (Kd.V (Kd.int .u32) 85 w128 w.heap.size (fun k_ => some k_ ≠ (.slice Ao126 t847.length co126 : Value).ownBlock ∧ some k_ ≠ (.slice Ao121 t850.length co121 : Value).ownBlock ∧ some k_ ≠ (.slice Ao120 t853.length co120 : Value).ownBlock ∧ some k_ ≠ (.slice Ao125 t859.length co125 : Value).ownBlock ∧ k_ ≠ gb844 ∧ k_ ≠ gb845 ∧ k_ ≠ gb846) (.slice Ao132 t862.length co132) t862) := ⟨by rw [← hq_]; exact (xv HO864.out)⟩; have n6_ : Aside0 (Kd.V (Kd.int .u32) 85 w128 w.heap.size (fun k_ => some k_ ≠ (.slice Ao126 t847.length co126 : Value).ownBlock ∧ some k_ ≠ (.slice Ao121 t850.length co121 : Value).ownBlock ∧ some k_ ≠ (.slice Ao120 t853.length co120 : Value).ownBlock ∧ some k_ ≠ (.slice Ao125 t859.length co125 : Value).ownBlock ∧ k_ ≠ gb844 ∧ k_ ≠ gb845 ∧ k_ ≠ gb846) v866 t865) := ⟨by rw [← hq_]; exact (xv HO867.out)⟩; have n7_ : Aside0 (w128.heap[gb844]? = some (.cells #[.bool a0_0, .string a0_1, .string a0_2] 25 (0, 0))) := ⟨by rw [← hq_]; exact (xb BK844)⟩; have n8_ : Aside0 (w128.heap[gb845]? = some (.cells #[.bool a1_0, .string a1_1, .string a1_2] 25 (0, 0))) := ⟨by rw [← hq_]; exact (xb BK845)⟩; have n9_ : Aside0 (w128.heap[gb846]? = some (.cells #[.bool false, .string (⟨#[]⟩ : ByteArray), .string (⟨#[]⟩ : ByteArray)] 25 (0, 0))) := ⟨by rw [← hq_]; exact (xb BK846)⟩; have n10_ : Aside0 (Below w.heap.size w w128) := ⟨by rw [← hq_]; exact (xs HB)⟩; clear HO849 HO852 HO855 HO858 HO861 HO864 HO867 BK844 BK845 BK846 HB hq_; have HO849 := n0_; have HO852 := n1_; have HO855 := n2_; have HO858 := n3_; have HO861 := n4_; have HO864 := n5_; have HO867 := n6_; have BK844 := n7_; have BK845 := n8_; have BK846 := n9_; have HB := n10_; clear n0_ n1_ n2_ n3_ n4_ n5_ n6_ n7_ n8_ n9_ n10_))))
 replace HO849 := Aside0.mk (Kd.R_drew HO849.out)
 replace HO852 := Aside0.mk (Kd.R_drew HO852.out)
 replace HO855 := Aside0.mk (Kd.R_drew HO855.out)
 replace HO858 := Aside0.mk (Kd.V_drew HO858.out)
 replace HO861 := Aside0.mk (Kd.R_drew HO861.out)
 replace HO864 := Aside0.mk (Kd.V_drew HO864.out)
 replace HO867 := Aside0.mk (Kd.V_drew HO867.out)
 replace BK844 := xD BK844
 replace BK845 := xD BK845
 replace BK846 := xD BK846
 replace HB := xW HB
 refine start_ (n := 8) (S := fun w' => w'.cell? ⟨gb844, 0, none⟩ = some (.bool a0_0) ∧ w'.cell? ⟨gb844, 1, none⟩ = some (.string a0_1) ∧ w'.cell? ⟨gb844, 2, none⟩ = some (.string a0_2)) (ds := []) (b 8 0) (by kernel_rfl) rfl rfl xV (fun hHeld => ?_); refine with_tabW insolvencyref1_Plus.tab14 insolvencyref1_Plus.bits14 (fun HT_ HW_ => ?_)
 generalize w128.drew = w133 at HO849 HO852 HO855 HO858 HO861 HO864 HO867 BK844 BK845 BK846 HB hHeld ⊢
 refine yP 0 (some 58) (b 8 1) ?_
 refine yP 2 (some 60) (b 8 5) ?_
 refine yP 3 (some 61) (b 8 13) ?_
 refine yP 5 (some 63) (b 8 45) ?_
 refine yT 1 (some 59) (b 8 47) hHeld ?_
 refine yO 4 (some 62) (b 8 63) fun K hK => ?_
 refine goes_ Tryd.func71 (by kernel_rfl) rfl #[.slice Ao131 t856.length co131, .slice Ao132 t862.length co132] (by rfl) rfl rfl (by (try simp only [List.map_toArray, List.map_cons, List.map_nil]); rfl) ?_
 with_reducible refine (insolvencyref1_minus.calls k _ _ t856 _ _ t862 t881 _ ?side1 ?side2 ?side3 ?side4 A105.out).mono ?_
 (case side1 => repeat (exact (Kd.V_reads' HO858.out).2.2))
 (case side2 => exact (Kd.V_reads' HO858.out).2.1)
 (case side3 => repeat (exact (Kd.V_reads' HO864.out).2.2))
 (case side4 => exact (Kd.V_reads' HO864.out).2.1)
 rintro e w134 ⟨v882, rfl, ho0, hb⟩
 refine ⟨_, rfl, ?_⟩
 replace HO858 := xVb HO858 hb
 replace HO864 := xVb HO864 hb
 replace HO867 := xVb HO867 hb
 have HO883 := xVm w (fun k_ => some k_ ≠ (.slice Ao126 t847.length co126 : Value).ownBlock ∧ some k_ ≠ (.slice Ao121 t850.length co121 : Value).ownBlock ∧ some k_ ≠ (.slice Ao120 t853.length co120 : Value).ownBlock ∧ some k_ ≠ (.slice Ao125 t859.length co125 : Value).ownBlock ∧ k_ ≠ gb844 ∧ k_ ≠ gb845 ∧ k_ ≠ gb846) ho0 (fun k_ hk_ => ⟨(Kd.fresh' (Kd.R_lt (xr HO849.out)) k_ hk_), (Kd.fresh' (Kd.R_lt (xr HO852.out)) k_ hk_), (Kd.fresh' (Kd.R_lt (xr HO855.out)) k_ hk_), (Kd.fresh' (Kd.R_lt (xr HO861.out)) k_ hk_), (Kd.freshB (g := gb844) (o := .cells #[.bool a0_0, .string a0_1, .string a0_2] 25 (0, 0)) (xb BK844) k_ hk_), (Kd.freshB (g := gb845) (o := .cells #[.bool a1_0, .string a1_1, .string a1_2] 25 (0, 0)) (xb BK845) k_ hk_), (Kd.freshB (g := gb846) (o := .cells #[.bool false, .string (⟨#[]⟩ : ByteArray), .string (⟨#[]⟩ : ByteArray)] 25 (0, 0)) (xb BK846) k_ hk_)⟩)
 replace HO849 := xRb HO849 hb
 replace HO852 := xRb HO852 hb
 replace HO855 := xRb HO855 hb
 replace HO861 := xRb HO861 hb
 replace BK844 := xB BK844 hb
 replace BK845 := xB BK845 hb
 replace BK846 := xB BK846 hb
 replace HB := xS HB hb
 clear hb ho0
 obtain ⟨Ao135, co135, eo135⟩ := Kd.V_slice HO883.out
 subst eo135
 obtain ⟨Ao136, co136, eo136⟩ := Kd.V_slice HO867.out
 subst eo136
 refine hK.out _ _ xV (fun hHeld => ?_)
 clear hK K
 refine xN 62 ?_
 refine yO 6 (some 64) (b 8 127) fun K hK => ?_
 refine goes_ Tryd.func68 (by kernel_rfl) rfl #[.bool a0_0, .slice Ao135 t881.length co135, .slice Ao136 t865.length co136] (by rfl) rfl rfl (by (try simp only [List.map_toArray, List.map_cons, List.map_nil]); rfl) ?_
 with_reducible refine (insolvencyref1_reduced.calls k a0_0 _ _ t881 _ _ t865 t884 t885 t886 _ ?side1 ?side2 ?side3 ?side4 A106.out).mono ?_
 (case side1 => repeat (exact (Kd.V_reads' HO883.out).2.2))
 (case side2 => exact (Kd.V_reads' HO883.out).2.1)
 (case side3 => repeat (exact (Kd.V_reads' HO867.out).2.2))
 (case side4 => exact (Kd.V_reads' HO867.out).2.1)
 rintro e w137 ⟨rfl, hb⟩
 refine ⟨_, rfl, ?_⟩
 replace HO849 := xRb HO849 hb
 replace HO852 := xRb HO852 hb
 replace HO855 := xRb HO855 hb
 replace HO858 := xVb HO858 hb
 replace HO861 := xRb HO861 hb
 replace HO864 := xVb HO864 hb
 replace HO867 := xVb HO867 hb
 replace HO883 := xVb HO883 hb
 replace BK844 := xB BK844 hb
 replace BK845 := xB BK845 hb
 replace BK846 := xB BK846 hb
 replace HB := xS HB hb
 clear hb
 refine hK.out _ _ xV (fun hHeld => ?_)
 clear hK K
 refine xN 64 ?_
 refine yO 7 none (b 8 255) fun K hK => ?_
 obtain ⟨hs138, hs139, hs140, hfs138, hfs139, hfs140⟩ := x6 BK846
 have hns138_0 := NB844_846.out
 have hns138_1 := NB845_846.out
 have hms138_0 := NB846_844.out
 have hms138_1 := NB846_845.out
 refine xk ?_
 refine hK.out _ _ ⟨((cell_far (p := ⟨gb846, _, none⟩) NB844_846.out _).trans ((cell_far (p := ⟨gb846, _, none⟩) NB844_846.out _).trans ((cell_far (p := ⟨gb846, _, none⟩) NB844_846.out _).trans (hHeld.1)))), ((cell_far (p := ⟨gb846, _, none⟩) NB844_846.out _).trans ((cell_far (p := ⟨gb846, _, none⟩) NB844_846.out _).trans ((cell_far (p := ⟨gb846, _, none⟩) NB844_846.out _).trans (hHeld.2.1)))), ((cell_far (p := ⟨gb846, _, none⟩) NB844_846.out _).trans ((cell_far (p := ⟨gb846, _, none⟩) NB844_846.out _).trans ((cell_far (p := ⟨gb846, _, none⟩) NB844_846.out _).trans (hHeld.2.2))))⟩ (fun hHeld => ?_)
 clear hK K
 refine done_ (done_of HT_.out (by kernel_rfl)) ?_
 try go_wp2
 refine bodyPost_ret (results_cell_row rfl _ _ gb846 25 #[.bool t884, .string t885, .string t886] (0, 0) _ rfl (xp BK846) Tryd.underlying25 rfl (by kernel_rfl)) rfl ?_
 exact ⟨xy, xs HB⟩
/-! ### insolvencyref1_Opposite: function 64 -/
def insolvencyref1_Opposite.f (a0_0 : Bool) (a0_1 : ByteArray) (a0_2 : ByteArray) : Option (Bool × ByteArray × ByteArray) := if a0_1.toList = ([] : List UInt8) then (some (a0_0, a0_1, a0_2)) else (some (!a0_0, a0_1, a0_2))
theorem insolvencyref1_Opposite.calls (a0_0 : Bool) (a0_1 : ByteArray) (a0_2 : ByteArray) (r1 : Bool) (r2 : ByteArray) (r3 : ByteArray) (w : World) (h : insolvencyref1_Opposite.f a0_0 a0_1 a0_2 = some (r1, r2, r3)) :
  Calls Tryd.prog 64 #[.agg #[.bool a0_0, .string a0_1, .string a0_2]] w fun e w' => e = .returned (.agg #[.bool r1, .string r2, .string r3]) ∧ Below w.heap.size w w' := by
 have hu25 := Tryd.underlying25
 have HB := Aside0.mk (Below.refl w.heap.size w)
 have H := h; clear h
 unfold insolvencyref1_Opposite.f at H
 obtain ⟨c2, H⟩ | ⟨c2, H⟩ := xO H
 ·have c2b0 := beq_iff_eq.mpr c2
  have c2b1 := bne_eq_false_iff_eq.mpr c2
  clear c2
  simp only [Option.some.injEq, Prod.mk.injEq] at H
  obtain ⟨rfl, rfl, rfl⟩ := H
  go_enter Tryd.func64, Tryd.ntmps64
  go_wp2_with (first | (refine xF (N := 1) #[.bool a0_0, .string a0_1, .string a0_2] 25 HB ?_; clear HB; intro gb887 hg w3 hb BK887 GW887 HB; clear hb hg) | (refine xF (N := 2) #[.bool false, .string (⟨#[]⟩ : ByteArray), .string (⟨#[]⟩ : ByteArray)] 25 HB ?_; clear HB; intro gb888 hg w4 hb BK888 GW888 HB; have NB887_888 := xL BK887 hg; have NB888_887 := xR BK887 hg; replace BK887 := xB BK887 hb; clear hb hg; have hnb5 := NB887_888.out; have hnc5 := NB888_887.out; obtain ⟨hcz6_0, hcz6_1, hcz6_2, hfz6_0, hfz6_1, hfz6_2⟩ := x6 BK887; obtain ⟨hcz7_0, hcz7_1, hcz7_2, hfz7_0, hfz7_1, hfz7_2⟩ := x6 BK888))
  refine bodyPost_ret (results_cell_row rfl _ _ gb888 25 #[.bool a0_0, .string a0_1, .string a0_2] (0, 0) _ rfl (xp BK888) Tryd.underlying25 rfl (by kernel_rfl)) rfl ?_
  exact ⟨xy, xs HB⟩
 have c2b0 := beq_eq_false_iff_ne.mpr c2
 have c2b1 := bne_iff_ne.mpr c2
 simp only [Option.some.injEq, Prod.mk.injEq] at H
 obtain ⟨rfl, rfl, rfl⟩ := H
 go_enter Tryd.func64, Tryd.ntmps64
 go_wp2_with (first | (refine xF (N := 1) #[.bool a0_0, .string a0_1, .string a0_2] 25 HB ?_; clear HB; intro gb887 hg w8 hb BK887 GW887 HB; clear hb hg) | (refine xF (N := 2) #[.bool false, .string (⟨#[]⟩ : ByteArray), .string (⟨#[]⟩ : ByteArray)] 25 HB ?_; clear HB; intro gb888 hg w9 hb BK888 GW888 HB; have NB887_888 := xL BK887 hg; have NB888_887 := xR BK887 hg; replace BK887 := xB BK887 hb; clear hb hg; have hnb10 := NB887_888.out; have hnc10 := NB888_887.out; obtain ⟨hcz11_0, hcz11_1, hcz11_2, hfz11_0, hfz11_1, hfz11_2⟩ := x6 BK887; obtain ⟨hcz12_0, hcz12_1, hcz12_2, hfz12_0, hfz12_1, hfz12_2⟩ := x6 BK888))
 refine bodyPost_ret (results_cell_row rfl _ _ gb888 25 #[.bool (!a0_0), .string a0_1, .string a0_2] (0, 0) _ rfl (xp BK888) Tryd.underlying25 rfl (by kernel_rfl)) rfl ?_
 exact ⟨xy, xs HB⟩
/-! ### insolvencyref1_Minus: function 42 -/
def insolvencyref1_Minus.f (k : Nat) (a0_0 : Bool) (a0_1 : ByteArray) (a0_2 : ByteArray) (a1_0 : Bool) (a1_1 : ByteArray) (a1_2 : ByteArray) : Option (Bool × ByteArray × ByteArray) := (insolvencyref1_Opposite.f a1_0 a1_1 a1_2).bind fun bt892 => ((insolvencyref1_Plus.f k a0_0 a0_1 a0_2 bt892.1 bt892.2.1 bt892.2.2).bind fun bt895 => (some (bt895.1, bt895.2.1, bt895.2.2)))
theorem insolvencyref1_Minus.mono : ∀ a0 a1 a2 a3 a4 a5 k, LeO (insolvencyref1_Minus.f k a0 a1 a2 a3 a4 a5) (insolvencyref1_Minus.f (k + 1) a0 a1 a2 a3 a4 a5) := by
 intro a0 a1 a2 a3 a4 a5 k
 unfold insolvencyref1_Minus.f
 have m0 := @insolvencyref1_Plus.mono; exact xM
theorem insolvencyref1_Minus.calls (k : Nat) (a0_0 : Bool) (a0_1 : ByteArray) (a0_2 : ByteArray) (a1_0 : Bool) (a1_1 : ByteArray) (a1_2 : ByteArray) (r1 : Bool) (r2 : ByteArray) (r3 : ByteArray) (w : World) (h : insolvencyref1_Minus.f k a0_0 a0_1 a0_2 a1_0 a1_1 a1_2 = some (r1, r2, r3)) :
  Calls Tryd.prog 42 #[.agg #[.bool a0_0, .string a0_1, .string a0_2], .agg #[.bool a1_0, .string a1_1, .string a1_2]] w fun e w' => e = .returned (.agg #[.bool r1, .string r2, .string r3]) ∧ Below w.heap.size w w' := by
 have hu25 := Tryd.underlying25
 have HB := Aside0.mk (Below.refl w.heap.size w)
 have H := h; clear h
 unfold insolvencyref1_Minus.f at H
 replace H := xH H; obtain ⟨⟨t892, t893, t894⟩, A3, H⟩ := H
 dsimp only at H
 replace H := xH H; obtain ⟨⟨t895, t896, t897⟩, A4, H⟩ := H
 dsimp only at H
 simp only [Option.some.injEq, Prod.mk.injEq] at H
 obtain ⟨rfl, rfl, rfl⟩ := H
 go_enter Tryd.func42, Tryd.ntmps42
 try go_wp2_with (first | (refine xF (N := 2) #[.bool a0_0, .string a0_1, .string a0_2] 25 HB ?_; clear HB; intro gb889 hg w5 hb BK889 GW889 HB; clear hb hg) | (refine xF (N := 3) #[.bool a1_0, .string a1_1, .string a1_2] 25 HB ?_; clear HB; intro gb890 hg w6 hb BK890 GW890 HB; have NB889_890 := xL BK889 hg; have NB890_889 := xR BK889 hg; replace BK889 := xB BK889 hb; clear hb hg) | (refine xF (N := 4) #[.bool false, .string (⟨#[]⟩ : ByteArray), .string (⟨#[]⟩ : ByteArray)] 25 HB ?_; clear HB; intro gb891 hg w7 hb BK891 GW891 HB; have NB889_891 := xL BK889 hg; have NB891_889 := xR BK889 hg; replace BK889 := xB BK889 hb; have NB890_891 := xL BK890 hg; have NB891_890 := xR BK890 hg; replace BK890 := xB BK890 hb; clear hb hg))
 replace BK889 := xD BK889
 replace BK890 := xD BK890
 replace BK891 := xD BK891
 replace HB := xW HB
 refine start_ (n := 5) (S := fun w' => w'.cell? ⟨gb889, 0, none⟩ = some (.bool a0_0) ∧ w'.cell? ⟨gb889, 1, none⟩ = some (.string a0_1) ∧ w'.cell? ⟨gb889, 2, none⟩ = some (.string a0_2) ∧ w'.cell? ⟨gb890, 0, none⟩ = some (.bool a1_0) ∧ w'.cell? ⟨gb890, 1, none⟩ = some (.string a1_1) ∧ w'.cell? ⟨gb890, 2, none⟩ = some (.string a1_2)) (ds := []) (b 5 0) (by kernel_rfl) rfl rfl xV (fun hHeld => ?_)
 generalize w7.drew = w8 at BK889 BK890 BK891 HB hHeld ⊢
 refine yT 0 (some 5) (b 5 1) hHeld ?_
 refine yT 1 (some 6) (b 5 3) hHeld ?_
 refine yO 2 (some 7) (b 5 7) fun K hK => ?_
 refine xc Tryd.func64 (insolvencyref1_Opposite.calls a1_0 a1_1 a1_2 t892 t893 t894 _ A3.out) ?_
 rintro w9 hb
 replace BK889 := xB BK889 hb
 replace BK890 := xB BK890 hb
 replace BK891 := xB BK891 hb
 replace HB := xS HB hb
 clear hb
 refine hK.out _ _ xV (fun hHeld => ?_)
 clear hK K
 refine xN 7 ?_
 refine yO 3 (some 8) (b 5 15) fun K hK => ?_
 refine xc Tryd.func43 (insolvencyref1_Plus.calls k a0_0 a0_1 a0_2 t892 t893 t894 t895 t896 t897 _ A4.out) ?_
 rintro w10 hb
 replace BK889 := xB BK889 hb
 replace BK890 := xB BK890 hb
 replace BK891 := xB BK891 hb
 replace HB := xS HB hb
 clear hb
 refine hK.out _ _ xV (fun hHeld => ?_)
 clear hK K
 refine xN 8 ?_
 refine yO 4 none (b 5 31) fun K hK => ?_
 obtain ⟨hs11, hs12, hs13, hfs11, hfs12, hfs13⟩ := x6 BK891
 have hns11_0 := NB889_891.out
 have hns11_1 := NB890_891.out
 have hms11_0 := NB891_889.out
 have hms11_1 := NB891_890.out
 refine xk ?_
 refine hK.out _ _ ⟨((cell_far (p := ⟨gb891, _, none⟩) NB889_891.out _).trans ((cell_far (p := ⟨gb891, _, none⟩) NB889_891.out _).trans ((cell_far (p := ⟨gb891, _, none⟩) NB889_891.out _).trans (hHeld.1)))), ((cell_far (p := ⟨gb891, _, none⟩) NB889_891.out _).trans ((cell_far (p := ⟨gb891, _, none⟩) NB889_891.out _).trans ((cell_far (p := ⟨gb891, _, none⟩) NB889_891.out _).trans (hHeld.2.1)))), ((cell_far (p := ⟨gb891, _, none⟩) NB889_891.out _).trans ((cell_far (p := ⟨gb891, _, none⟩) NB889_891.out _).trans ((cell_far (p := ⟨gb891, _, none⟩) NB889_891.out _).trans (hHeld.2.2.1)))), ((cell_far (p := ⟨gb891, _, none⟩) NB890_891.out _).trans ((cell_far (p := ⟨gb891, _, none⟩) NB890_891.out _).trans ((cell_far (p := ⟨gb891, _, none⟩) NB890_891.out _).trans (hHeld.2.2.2.1)))), ((cell_far (p := ⟨gb891, _, none⟩) NB890_891.out _).trans ((cell_far (p := ⟨gb891, _, none⟩) NB890_891.out _).trans ((cell_far (p := ⟨gb891, _, none⟩) NB890_891.out _).trans (hHeld.2.2.2.2.1)))), ((cell_far (p := ⟨gb891, _, none⟩) NB890_891.out _).trans ((cell_far (p := ⟨gb891, _, none⟩) NB890_891.out _).trans ((cell_far (p := ⟨gb891, _, none⟩) NB890_891.out _).trans (hHeld.2.2.2.2.2))))⟩ (fun hHeld => ?_)
 clear hK K
 refine done_ (by kernel_rfl) ?_
 try go_wp2
 refine bodyPost_ret (results_cell_row rfl _ _ gb891 25 #[.bool t895, .string t896, .string t897] (0, 0) _ rfl (xp BK891) Tryd.underlying25 rfl (by kernel_rfl)) rfl ?_
 exact ⟨xy, xs HB⟩
/-! ### insolvencyref1_Signum: function 79 -/
def insolvencyref1_Signum.f (a0_0 : Bool) (a0_1 : ByteArray) (a0_2 : ByteArray) : Option (Int) := if a0_1.toList = ([] : List UInt8) then (some 0) else (if a0_0 = true then (some (-1)) else (some 1))
theorem insolvencyref1_Signum.calls (a0_0 : Bool) (a0_1 : ByteArray) (a0_2 : ByteArray) (r : Int) (w : World) (h : insolvencyref1_Signum.f a0_0 a0_1 a0_2 = some r) :
  Calls Tryd.prog 79 #[.agg #[.bool a0_0, .string a0_1, .string a0_2]] w fun e w' => e = .returned (.int .i64 r) ∧ Below w.heap.size w w' := by
 have hu25 := Tryd.underlying25
 have HB := Aside0.mk (Below.refl w.heap.size w)
 have H := h; clear h
 unfold insolvencyref1_Signum.f at H
 obtain ⟨c2, H⟩ | ⟨c2, H⟩ := xO H
 ·have c2b0 := beq_iff_eq.mpr c2
  have c2b1 := bne_eq_false_iff_eq.mpr c2
  clear c2
  obtain rfl := Option.some.inj H
  go_enter Tryd.func79, Tryd.ntmps79
  go_wp2_with (refine xF (N := 1) #[.bool a0_0, .string a0_1, .string a0_2] 25 HB ?_; clear HB; intro gb957 hg w3 hb BK957 GW957 HB; clear hb hg; obtain ⟨hcz4_0, hcz4_1, hcz4_2, hfz4_0, hfz4_1, hfz4_2⟩ := x6 BK957)
  go_ret
  exact ⟨xy, xs HB⟩
 have c2b0 := beq_eq_false_iff_ne.mpr c2
 have c2b1 := bne_iff_ne.mpr c2
 by_cases c5 : a0_0 = true
 ·subst c5
  replace H := xI H
  obtain rfl := Option.some.inj H
  go_enter Tryd.func79, Tryd.ntmps79
  go_wp2_with (refine xF (N := 1) #[.bool true, .string a0_1, .string a0_2] 25 HB ?_; clear HB; intro gb957 hg w6 hb BK957 GW957 HB; clear hb hg; obtain ⟨hcz7_0, hcz7_1, hcz7_2, hfz7_0, hfz7_1, hfz7_2⟩ := x6 BK957)
  go_ret
  exact ⟨xy, xs HB⟩
 replace c5 := Bool.eq_false_iff.mpr c5
 subst c5
 have H1 : (some 1) = some r := by rw [if_neg (show ¬ (false = true) by decide)] at H; exact H
 clear H
 have H := H1
 clear H1
 obtain rfl := Option.some.inj H
 go_enter Tryd.func79, Tryd.ntmps79
 go_wp2_with (refine xF (N := 1) #[.bool false, .string a0_1, .string a0_2] 25 HB ?_; clear HB; intro gb957 hg w8 hb BK957 GW957 HB; clear hb hg; obtain ⟨hcz9_0, hcz9_1, hcz9_2, hfz9_0, hfz9_1, hfz9_2⟩ := x6 BK957)
 go_ret
 exact ⟨xy, xs HB⟩
/-! ### insolvencyref1_Less: function 50 -/
def insolvencyref1_Less.f (k : Nat) (a0_0 : Bool) (a0_1 : ByteArray) (a0_2 : ByteArray) (a1_0 : Bool) (a1_1 : ByteArray) (a1_2 : ByteArray) : Option (Bool) := (insolvencyref1_Minus.f k a0_0 a0_1 a0_2 a1_0 a1_1 a1_2).bind fun bt960 => ((insolvencyref1_Signum.f bt960.1 bt960.2.1 bt960.2.2).bind fun t963 => (some (decide (t963 < 0))))
theorem insolvencyref1_Less.mono : ∀ a0 a1 a2 a3 a4 a5 k, LeO (insolvencyref1_Less.f k a0 a1 a2 a3 a4 a5) (insolvencyref1_Less.f (k + 1) a0 a1 a2 a3 a4 a5) := by
 intro a0 a1 a2 a3 a4 a5 k
 unfold insolvencyref1_Less.f
 have m0 := @insolvencyref1_Minus.mono; exact xM
theorem insolvencyref1_Less.calls (k : Nat) (a0_0 : Bool) (a0_1 : ByteArray) (a0_2 : ByteArray) (a1_0 : Bool) (a1_1 : ByteArray) (a1_2 : ByteArray) (r : Bool) (w : World) (h : insolvencyref1_Less.f k a0_0 a0_1 a0_2 a1_0 a1_1 a1_2 = some r) :
  Calls Tryd.prog 50 #[.agg #[.bool a0_0, .string a0_1, .string a0_2], .agg #[.bool a1_0, .string a1_1, .string a1_2]] w fun e w' => e = .returned (.bool r) ∧ Below w.heap.size w w' := by
 have hu25 := Tryd.underlying25
 have HB := Aside0.mk (Below.refl w.heap.size w)
 have H := h; clear h
 unfold insolvencyref1_Less.f at H
 replace H := xH H; obtain ⟨⟨t960, t961, t962⟩, A3, H⟩ := H
 dsimp only at H
 replace H := xH H; obtain ⟨t963, A4, H⟩ := H
 obtain rfl := Option.some.inj H
 go_enter Tryd.func50, Tryd.ntmps50
 go_wp2_with (first | (refine xF (N := 2) #[.bool a0_0, .string a0_1, .string a0_2] 25 HB ?_; clear HB; intro gb958 hg w5 hb BK958 GW958 HB; clear hb hg) | (refine xF (N := 3) #[.bool a1_0, .string a1_1, .string a1_2] 25 HB ?_; clear HB; intro gb959 hg w6 hb BK959 GW959 HB; have NB958_959 := xL BK958 hg; have NB959_958 := xR BK958 hg; replace BK958 := xB BK958 hb; clear hb hg; have hnb7 := NB958_959.out; have hnc7 := NB959_958.out; obtain ⟨hcz8_0, hcz8_1, hcz8_2, hfz8_0, hfz8_1, hfz8_2⟩ := x6 BK958; obtain ⟨hcz9_0, hcz9_1, hcz9_2, hfz9_0, hfz9_1, hfz9_2⟩ := x6 BK959) | (refine xC Tryd.func42 (some 7) (insolvencyref1_Minus.calls k a0_0 a0_1 a0_2 a1_0 a1_1 a1_2 t960 t961 t962 _ A3.out) ?_; rintro w10 hb; replace BK958 := xB BK958 hb; replace BK959 := xB BK959 hb; replace HB := xS HB hb; clear hb) | (refine xC Tryd.func79 (some 8) (insolvencyref1_Signum.calls t960 t961 t962 t963 _ A4.out) ?_; rintro w11 hb; replace BK958 := xB BK958 hb; replace BK959 := xB BK959 hb; replace HB := xS HB hb; clear hb))
 go_ret
 exact ⟨xy, xs HB⟩
end Go.Proofs.YtpoogjcgjpkbeaaDoor.XA
