/- Walks of functions of the program: a plain Lean function for each, and a proof that a call answers as it says. Written by a program (the kit's print with changes, then shortened). -/
import Derived.Test.YtpoogjcgjpkbeaaDoorXB4
namespace Go.Proofs.YtpoogjcgjpkbeaaDoor.XB
open Go.RowKit Go.Proofs.YtpoogjcgjpkbeaaDoorW.PrintWords Go.Proofs.YtpoogjcgjpkbeaaDoorW.PrintLast Go.Proofs.YtpoogjcgjpkbeaaDoorW.PrintMore Go.Proofs.YtpoogjcgjpkbeaaDoorW.Sq
attribute [local go_sem] max2_int min2_int max_two min_two max_three min_three max_four min_four   -- for this text's walks alone
set_option linter.unusedVariables false
set_option linter.unusedSimpArgs false
section
attribute [local go_sem high] eqA25
/-! ### insolvencylaw18_GuaranteeBalance: function 8 -/
mutual
def insolvencylaw18_GuaranteeBalance.j0 : Nat → List (S25) → List (S25) → Bool → Bool → ByteArray → ByteArray → Bool → ByteArray → ByteArray → Option (Bool)
 | 0, _, _, _, _, _, _, _, _, _ => none
 | k + 1, x6, x7, x39, x674000, x674001, x674002, x681000, x681001, x681002 => if x39 = true then (some false) else (insolvencylaw18_GuaranteeBalance.l0 k x6 x7 (x6.length : Int) 0 x674000 x674001 x674002 x681000 x681001 x681002)
def insolvencylaw18_GuaranteeBalance.l0 : Nat → List (S25) → List (S25) → Int → Int → Bool → ByteArray → ByteArray → Bool → ByteArray → ByteArray → Option (Bool)
 | 0, _, _, _, _, _, _, _, _, _, _ => none
 | k + 1, x6, x7, x41, x42, x674000, x674001, x674002, x681000, x681001, x681002 => if x42 < x41 then (if 0 ≤ x42 then (if x42 < (x7.length : Int) then ((rational_Sign.f k ((rd_T25 x7 x42).f0) ((rd_T25 x7 x42).f1) ((rd_T25 x7 x42).f2)).bind fun t697 => (if t697 < 0 then (some false) else (if x42 < (x6.length : Int) then ((rational_Compare.f k ((rd_T25 x7 x42).f0) ((rd_T25 x7 x42).f1) ((rd_T25 x7 x42).f2) ((rd_T25 x6 x42).f0) ((rd_T25 x6 x42).f1) ((rd_T25 x6 x42).f2)).bind fun t700 => (if t700 > 0 then (some false) else (insolvencylaw18_GuaranteeBalance.l0 k x6 x7 x41 (wrap64 (x42 + 1)) x674000 x674001 x674002 x681000 x681001 x681002))) else (none)))) else (none)) else (none)) else ((insolvencylaw18_awake.f k).bind fun t691 => (if t691 = true then ((rational_Sum.f k x7).bind fun bt692 => ((rational_Sign.f k bt692.1 bt692.2.1 bt692.2.2).bind fun t695 => (if t695 = 0 then (some true) else (some (x681000 == x674000 && (x681001.toList == x674001.toList && (x681002.toList == x674002.toList))))))) else (some false)))
end
def insolvencylaw18_GuaranteeBalance.f (k : Nat) (a0 : Int) (l1 : List Int) : Option (Bool) := (insolvencylaw0_Amount.f k a0).bind fun bt667 => ((insolvencylaw0_Amounts.f k l1 8).bind fun t670 => ((guarantee_Refunds.f k bt667.1 bt667.2.1 bt667.2.2 t670).bind fun t674 => ((guarantee_Kept.f k bt667.1 bt667.2.1 bt667.2.2 t670).bind fun bt677 => (if (t674.length : Int) = (t670.length : Int) then ((rational_Sum.f k t674).bind fun bt681 => ((rational_Add.f k bt681.1 bt681.2.1 bt681.2.2 bt677.1 bt677.2.1 bt677.2.2).bind fun bt684 => ((rational_Sum.f k t670).bind fun bt687 => (if (!(bt684.1 == bt687.1) || (!(bt684.2.1.toList == bt687.2.1.toList) || (!(bt684.2.2.toList == bt687.2.2.toList)))) = true then (insolvencylaw18_GuaranteeBalance.j0 k t670 t674 true bt667.1 bt667.2.1 bt667.2.2 bt677.1 bt677.2.1 bt677.2.2) else ((rational_Compare.f k bt677.1 bt677.2.1 bt677.2.2 bt667.1 bt667.2.1 bt667.2.2).bind fun t690 => (insolvencylaw18_GuaranteeBalance.j0 k t670 t674 (decide (t690 > 0)) bt667.1 bt667.2.1 bt667.2.2 bt677.1 bt677.2.1 bt677.2.2)))))) else (insolvencylaw18_GuaranteeBalance.j0 k t670 t674 true bt667.1 bt667.2.1 bt667.2.2 bt677.1 bt677.2.1 bt677.2.2)))))
theorem insolvencylaw18_GuaranteeBalance.mono_l : ∀ k, (∀ y0 y1 y2 y3 y4 y5 y6 y7 y8, LeO (insolvencylaw18_GuaranteeBalance.j0 k y0 y1 y2 y3 y4 y5 y6 y7 y8) (insolvencylaw18_GuaranteeBalance.j0 (k + 1) y0 y1 y2 y3 y4 y5 y6 y7 y8)) ∧ (∀ y0 y1 y2 y3 y4 y5 y6 y7 y8 y9, LeO (insolvencylaw18_GuaranteeBalance.l0 k y0 y1 y2 y3 y4 y5 y6 y7 y8 y9) (insolvencylaw18_GuaranteeBalance.l0 (k + 1) y0 y1 y2 y3 y4 y5 y6 y7 y8 y9))
 | 0 => ⟨fun _ _ _ _ _ _ _ _ _ r h => by simp [insolvencylaw18_GuaranteeBalance.j0] at h, fun _ _ _ _ _ _ _ _ _ _ r h => by simp [insolvencylaw18_GuaranteeBalance.l0] at h⟩
 | k + 1 => by
  obtain ⟨ih0, ih1⟩ := insolvencylaw18_GuaranteeBalance.mono_l k
  refine ⟨?_, ?_⟩
  ·intro y0 y1 y2 y3 y4 y5 y6 y7 y8
   unfold insolvencylaw18_GuaranteeBalance.j0
   have m0 := @ih0; have m1 := @ih1; have m2 := @guarantee_Kept.mono; have m3 := @guarantee_Refunds.mono; have m4 := @insolvencylaw0_Amount.mono; have m5 := @insolvencylaw0_Amounts.mono; have m6 := @insolvencylaw18_awake.mono; have m7 := @rational_Add.mono; have m8 := @rational_Compare.mono; have m9 := @rational_Sign.mono; have m10 := @rational_Sum.mono; exact xM
  ·intro y0 y1 y2 y3 y4 y5 y6 y7 y8 y9
   unfold insolvencylaw18_GuaranteeBalance.l0
   have m0 := @ih0; have m1 := @ih1; have m2 := @guarantee_Kept.mono; have m3 := @guarantee_Refunds.mono; have m4 := @insolvencylaw0_Amount.mono; have m5 := @insolvencylaw0_Amounts.mono; have m6 := @insolvencylaw18_awake.mono; have m7 := @rational_Add.mono; have m8 := @rational_Compare.mono; have m9 := @rational_Sign.mono; have m10 := @rational_Sum.mono; exact xM
theorem insolvencylaw18_GuaranteeBalance.mono : ∀ a0 a1 k, LeO (insolvencylaw18_GuaranteeBalance.f k a0 a1) (insolvencylaw18_GuaranteeBalance.f (k + 1) a0 a1) := by
 intro a0 a1 k
 obtain ⟨ih0, ih1⟩ := insolvencylaw18_GuaranteeBalance.mono_l k
 unfold insolvencylaw18_GuaranteeBalance.f
 have m0 := @ih0; have m1 := @ih1; have m2 := @guarantee_Kept.mono; have m3 := @guarantee_Refunds.mono; have m4 := @insolvencylaw0_Amount.mono; have m5 := @insolvencylaw0_Amounts.mono; have m6 := @insolvencylaw18_awake.mono; have m7 := @rational_Add.mono; have m8 := @rational_Compare.mono; have m9 := @rational_Sign.mono; have m10 := @rational_Sum.mono; exact xM
def insolvencylaw18_GuaranteeBalance.T4 : Bool × List (List Nat × List Nat) := (true, [([], []), ([0], [0]), ([], []), ([2], [2]), ([1, 3], [1, 3]), ([4], [4]), ([5], [5]), ([6, 5, 5], [5, 6]), ([5], [5]), ([7, 8, 7, 5], [5, 7, 8]), ([5], [5]), ([10, 9, 5], [5, 10]), ([9, 11, 5], [5, 9, 11]), ([5, 12], [5, 12]), ([13, 11], [13]), ([14], [14]), ([14], [14]), ([15, 16, 14, 14], [14, 15, 16]), ([17, 14], [14, 17]), ([14, 18], [14, 18])])
def insolvencylaw18_GuaranteeBalance.B4 : List Nat := [0, 1, 0, 4, 15, 31, 63, 127, 63, 511, 63, 2047, 4095, 8191, 16383, 32767, 32767, 131071, 262143, 524287]
theorem insolvencylaw18_GuaranteeBalance.tab4 : rtab .any (opsOf Tryd.f8 4) = insolvencylaw18_GuaranteeBalance.T4 := by kernel_rfl
theorem insolvencylaw18_GuaranteeBalance.bits4 : waitsOk insolvencylaw18_GuaranteeBalance.T4.2 insolvencylaw18_GuaranteeBalance.B4 = true := by kernel_rfl
def insolvencylaw18_GuaranteeBalance.T9 : Bool × List (List Nat × List Nat) := (true, [([], []), ([], []), ([0, 1], [0, 1]), ([2], [2]), ([3], [3]), ([4], [4]), ([5, 4], [5]), ([6], [6]), ([6], [6]), ([7, 8, 6], [6, 7, 8]), ([9, 6], [6, 9]), ([6], [6]), ([6], [6]), ([11, 12, 6], [6, 11, 12]), ([13, 6], [6, 13]), ([10, 14, 6, 6], [6, 10, 14]), ([15, 6], [6, 15]), ([6, 16], [6, 16])])
def insolvencylaw18_GuaranteeBalance.B9 : List Nat := [0, 0, 3, 7, 15, 31, 63, 127, 127, 511, 1023, 127, 127, 6271, 14463, 32767, 65535, 131071]
theorem insolvencylaw18_GuaranteeBalance.tab9 : rtab .any (opsOf Tryd.f8 9) = insolvencylaw18_GuaranteeBalance.T9 := by kernel_rfl
theorem insolvencylaw18_GuaranteeBalance.bits9 : waitsOk insolvencylaw18_GuaranteeBalance.T9.2 insolvencylaw18_GuaranteeBalance.B9 = true := by kernel_rfl
set_option maxHeartbeats 8000000 in
set_option maxRecDepth 100000 in
theorem insolvencylaw18_GuaranteeBalance.calls (k : Nat) (a0 : Int) (A1 : Option Addr) (c1 : Nat) (l1 : List Int) (r : Bool) (w : World) (hr1 : Kd.C (Kd.int .u16) w A1 l1.length l1) (hc1 : l1.length ≤ c1) (h : insolvencylaw18_GuaranteeBalance.f k a0 l1 = some r) :
  Calls Tryd.prog 8 #[.int .u16 a0, .slice A1 l1.length c1] w fun e w' => e = .returned (.bool r) ∧ Below w.heap.size w w' := by
 have hu25 := Tryd.underlying25
 have HR1 := Aside0.mk hr1
 have HC1 := Aside0.mk hc1
 clear hr1 hc1
 have HB := Aside0.mk (Below.refl w.heap.size w)
 have H : ((insolvencylaw0_Amount.f k a0).bind fun bt667 => ((insolvencylaw0_Amounts.f k l1 8).bind fun t670 => ((guarantee_Refunds.f k bt667.1 bt667.2.1 bt667.2.2 t670).bind fun t674 => ((guarantee_Kept.f k bt667.1 bt667.2.1 bt667.2.2 t670).bind fun bt677 => (if (t674.length : Int) = (t670.length : Int) then ((rational_Sum.f k t674).bind fun bt681 => ((rational_Add.f k bt681.1 bt681.2.1 bt681.2.2 bt677.1 bt677.2.1 bt677.2.2).bind fun bt684 => ((rational_Sum.f k t670).bind fun bt687 => (if (!(bt684.1 == bt687.1) || (!(bt684.2.1.toList == bt687.2.1.toList) || (!(bt684.2.2.toList == bt687.2.2.toList)))) = true then (insolvencylaw18_GuaranteeBalance.j0 k t670 t674 true bt667.1 bt667.2.1 bt667.2.2 bt677.1 bt677.2.1 bt677.2.2) else ((rational_Compare.f k bt677.1 bt677.2.1 bt677.2.2 bt667.1 bt667.2.1 bt667.2.2).bind fun t690 => (insolvencylaw18_GuaranteeBalance.j0 k t670 t674 (decide (t690 > 0)) bt667.1 bt667.2.1 bt667.2.2 bt677.1 bt677.2.1 bt677.2.2)))))) else (insolvencylaw18_GuaranteeBalance.j0 k t670 t674 true bt667.1 bt667.2.1 bt667.2.2 bt677.1 bt677.2.1 bt677.2.2)))))) = some r := h
 clear h
 replace H := xH H; obtain ⟨⟨t667, t668, t669⟩, A3, H⟩ := H
 dsimp only at H
 replace H := xH H; obtain ⟨t670, A4, H⟩ := H
 replace H := xH H; obtain ⟨t674, A5, H⟩ := H
 replace H := xH H; obtain ⟨⟨t677, t678, t679⟩, A6, H⟩ := H
 dsimp only at H
 have HC7 := Aside0.mk H
 clear H
 go_enter Tryd.func8, Tryd.ntmps8
 go_upto_region 4 with (first | ((with_reducible refine gate_callee (f := 10) rfl ?_); refine xC Tryd.func10 (some 11) (insolvencylaw0_Amount.calls k a0 t667 t668 t669 _ A3.out) ?_; rintro w8 hb; replace HB := xS HB hb; clear hb) | ((with_reducible refine gate_callee (f := 11) rfl ?_); refine xg Tryd.func11 (some 13) #[.slice A1 l1.length c1, .int .i64 8] ?_; (with_reducible refine (insolvencylaw0_Amounts.calls k _ _ l1 8 t670 _ (xf (Kd.C_below HR1.out HB.out)) HC1.out A4.out).mono ?_); rintro e w9 ⟨v671, rfl, ho0, hb⟩; refine ⟨_, rfl, ?_⟩; have HO672 := Aside0.mk (Kd.R_lower ho0 (below_size (xs HB))); replace HB := xS HB hb; clear hb ho0) | ((with_reducible refine gate_dst (N := 5) rfl ?_); refine xE (N := 5) #[.bool false, .string (⟨#[]⟩ : ByteArray), .string (⟨#[]⟩ : ByteArray)] 25 rfl ?_; intro gb673 hg w10 hbox hb; replace HO672 := Aside0.mk (Kd.R_below (Kd.R_elderB (xr HO672.out) gb673 (Nat.le_of_eq hg.symm)) hb); have BK673 := Aside0.mk (hbox); have GW673 := (xG HB hg); have GE673 := (xG HB hg); replace HB := xS HB hb; clear hb hbox hg; have hcz11_0 : w10.cell? ⟨gb673, 0, none⟩ = some (.bool false) := (blk_cell BK673.out 0).trans rfl; have hcz11_1 : w10.cell? ⟨gb673, 1, none⟩ = some (.string (⟨#[]⟩ : ByteArray)) := (blk_cell BK673.out 1).trans rfl; have hcz11_2 : w10.cell? ⟨gb673, 2, none⟩ = some (.string (⟨#[]⟩ : ByteArray)) := (blk_cell BK673.out 2).trans rfl; have hfz11_0 := blk_frozen BK673.out 0; have hfz11_1 := blk_frozen BK673.out 1; have hfz11_2 := blk_frozen BK673.out 2; obtain ⟨Ao12, co12, eo12⟩ := Kd.R_slice HO672.out; subst eo12) | ((with_reducible refine gate_callee (f := 12) rfl ?_); refine xg Tryd.func12 (some 16) #[.agg #[.bool t667, .string t668, .string t669], .slice Ao12 t670.length co12] ?_; (with_reducible refine (guarantee_Refunds.calls k t667 t668 t669 _ _ t670 t674 _ ?side1 ?side2 A5.out).mono ?_); (case side1 => refine (Kd.R_reads' (e := 25) (base := w.heap.size) (ok := fun k_ => (True ∧ k_ ≠ gb673)) (n := t670.length) (c := co12) ?_).2.2; exact (by (with_reducible repeat (first | apply Kd.R_alloc | apply Kd.R_drewN | apply Kd.R_drew)); exact (Kd.R_mono (Kd.R_far (p := ⟨gb673, 2, none⟩) (Kd.R_far (p := ⟨gb673, 1, none⟩) (Kd.R_far (p := ⟨gb673, 0, none⟩) (Kd.R_mono HO672.out (fun k_ hk => (⟨hk, hk.2⟩ : _ ∧ k_ ≠ gb673))) (fun _ hk => hk.2) (.bool t667)) (fun _ hk => hk.2) (.string t668)) (fun _ hk => hk.2) (.string t669)) (fun _ h_ => h_.1)))); (case side2 => exact (Kd.R_reads' HO672.out).2.1); rintro e w13 ⟨v675, rfl, ho0, hb⟩; refine ⟨_, rfl, ?_⟩; have HO676 := Aside0.mk (Kd.R_lower (Kd.R_newB (Kd.R_new' ho0 (Kd.R_lt (by (with_reducible repeat (first | apply Kd.R_alloc | apply Kd.R_drewN | apply Kd.R_drew)); exact (Kd.R_mono (Kd.R_far (p := ⟨gb673, 2, none⟩) (Kd.R_far (p := ⟨gb673, 1, none⟩) (Kd.R_far (p := ⟨gb673, 0, none⟩) (Kd.R_mono HO672.out (fun k_ hk => (⟨hk, hk.2⟩ : _ ∧ k_ ≠ gb673))) (fun _ hk => hk.2) (.bool t667)) (fun _ hk => hk.2) (.string t668)) (fun _ hk => hk.2) (.string t669)) (fun _ h_ => h_.1))))) (g := gb673) (o := .cells #[.bool t667, .string t668, .string t669] 25 (0, 0)) (xp BK673)) (below_size (xs HB))); replace HO672 := Aside0.mk (Kd.R_elder' (by (with_reducible repeat (first | apply Kd.R_alloc | apply Kd.R_drewN | apply Kd.R_drew)); exact (Kd.R_mono (Kd.R_far (p := ⟨gb673, 2, none⟩) (Kd.R_far (p := ⟨gb673, 1, none⟩) (Kd.R_far (p := ⟨gb673, 0, none⟩) (Kd.R_mono HO672.out (fun k_ hk => (⟨hk, hk.2⟩ : _ ∧ k_ ≠ gb673))) (fun _ hk => hk.2) (.bool t667)) (fun _ hk => hk.2) (.string t668)) (fun _ hk => hk.2) (.string t669)) (fun _ h_ => h_.1))) (Kd.R_base ho0) hb); replace BK673 := Aside0.mk (blk_below (g := gb673) (o := .cells #[.bool t667, .string t668, .string t669] 25 (0, 0)) (xp BK673) hb); replace HB := xS HB hb; clear hb ho0; have hcz14_0 : w13.cell? ⟨gb673, 0, none⟩ = some (.bool t667) := (blk_cell BK673.out 0).trans rfl; have hcz14_1 : w13.cell? ⟨gb673, 1, none⟩ = some (.string t668) := (blk_cell BK673.out 1).trans rfl; have hcz14_2 : w13.cell? ⟨gb673, 2, none⟩ = some (.string t669) := (blk_cell BK673.out 2).trans rfl; have hfz14_0 := blk_frozen BK673.out 0; have hfz14_1 := blk_frozen BK673.out 1; have hfz14_2 := blk_frozen BK673.out 2) | ((with_reducible refine gate_callee (f := 19) rfl ?_); refine xg Tryd.func19 (some 19) #[.agg #[.bool t667, .string t668, .string t669], .slice Ao12 t670.length co12] ?_; (with_reducible refine (guarantee_Kept.calls k t667 t668 t669 _ _ t670 t677 t678 t679 _ ?side1 ?side2 A6.out).mono ?_); (case side1 => repeat (first | exact (Kd.R_reads' HO672.out).2.2 | (with_reducible refine Kd.C_alloc ?_ _) | (with_reducible refine Kd.C_drewN ?_ _) | (with_reducible refine Kd.C_drew ?_))); (case side2 => exact (Kd.R_reads' HO672.out).2.1); rintro e w15 ⟨rfl, hb⟩; refine ⟨_, rfl, ?_⟩; replace HO672 := Aside0.mk (Kd.R_below (xr HO672.out) hb); replace HO676 := Aside0.mk (Kd.R_below (xr HO676.out) hb); replace BK673 := xB BK673 hb; replace HB := xS HB hb; clear hb) | ((with_reducible refine gate_dst (N := 8) rfl ?_); refine xE (N := 8) #[.bool false, .string (⟨#[]⟩ : ByteArray), .string (⟨#[]⟩ : ByteArray)] 25 rfl ?_; intro gb680 hg w16 hbox hb; replace HO672 := Aside0.mk (Kd.R_below (Kd.R_elderB (xr HO672.out) gb680 (Nat.le_of_eq hg.symm)) hb); replace HO676 := Aside0.mk (Kd.R_below (Kd.R_elderB (xr HO676.out) gb680 (Nat.le_of_eq hg.symm)) hb); have BK680 := Aside0.mk (hbox); have GW680 := (xG HB hg); have GE680 := (xG HB hg); replace HB := xS HB hb; have NB673_680 := xL BK673 hg; have NB680_673 := xR BK673 hg; replace BK673 := xB BK673 hb; clear hb hbox hg; have hnb17 := NB680_673.out; have hnc17 := NB673_680.out; have hcz18_0 : w16.cell? ⟨gb680, 0, none⟩ = some (.bool false) := (blk_cell BK680.out 0).trans rfl; have hcz18_1 : w16.cell? ⟨gb680, 1, none⟩ = some (.string (⟨#[]⟩ : ByteArray)) := (blk_cell BK680.out 1).trans rfl; have hcz18_2 : w16.cell? ⟨gb680, 2, none⟩ = some (.string (⟨#[]⟩ : ByteArray)) := (blk_cell BK680.out 2).trans rfl; have hfz18_0 := blk_frozen BK680.out 0; have hfz18_1 := blk_frozen BK680.out 1; have hfz18_2 := blk_frozen BK680.out 2))
 (try simp only [Act.put, List.setIfInBounds_toArray, List.set_cons_zero, List.set_cons_succ])
 go_cut [39] (fun v39 wc => ∃ (kq : Nat) (x39_6 : Bool), v39 = .bool x39_6 ∧ Aside0 (insolvencylaw18_GuaranteeBalance.j0 kq t670 t674 x39_6 t667 t668 t669 t677 t678 t679 = some r) ∧ Aside0 (kq ≤ k) ∧ Aside0 (Kd.R k25 25 wc w.heap.size (fun k_ => some k_ ≠ (v675 : Value).ownBlock ∧ k_ ≠ gb673 ∧ k_ ≠ gb680) (.slice Ao12 t670.length co12) t670) ∧ Aside0 (Kd.R k25 25 wc w.heap.size (fun k_ => some k_ ≠ ((.slice Ao12 t670.length co12) : Value).ownBlock ∧ k_ ≠ gb673 ∧ k_ ≠ gb680) v675 t674) ∧ Aside0 (wc.heap[gb673]? = some (.cells #[.bool t667, .string t668, .string t669] 25 (0, 0))) ∧ Aside0 (wc.heap[gb680]? = some (.cells #[.bool t677, .string t678, .string t679] 25 (0, 0))) ∧ Aside0 (Below w.heap.size w wc))
 case first =>
  have H := HC7.out
  clear HC7
  by_cases c19 : (t674.length : Int) = (t670.length : Int)
  ·rw [if_pos c19] at H
   have c19b0 : ((t674.length : Int) == (t670.length : Int)) = true := beq_iff_eq.mpr c19
   have c19b1 : ((t674.length : Int) != (t670.length : Int)) = false := bne_eq_false_iff_eq.mpr c19
   have c19b2 : (t674.length == t670.length) = true := by first | simpa using c19 | (simp at c19 ⊢; omega)
   clear c19
   (first | rw [c19b0] | (simp only [i64_w, i32_w]; rw [c19b0]) | rw [c19b1] | skip)
   replace H := xH H; obtain ⟨⟨t681, t682, t683⟩, A20, H⟩ := H
   dsimp only at H
   replace H := xH H; obtain ⟨⟨t684, t685, t686⟩, A21, H⟩ := H
   dsimp only at H
   replace H := xH H; obtain ⟨⟨t687, t688, t689⟩, A22, H⟩ := H
   dsimp only at H
   by_cases c23 : (!(t684 == t687) || (!(t685.toList == t688.toList) || (!(t686.toList == t689.toList)))) = true
   ·rw [if_pos c23] at H
    have c23b0 : (!(t684 == t687) || (!(t685.toList == t688.toList) || (!(t686.toList == t689.toList)))) = true := c23
    clear c23
    have H' := Aside0.mk H
    clear H
    try go_wp2
    have n0_ : Aside0 (Kd.R k25 25 (((w16.setCell ⟨gb680, 0, none⟩ (.bool t677)).setCell ⟨gb680, 1, none⟩ (.string t678)).setCell ⟨gb680, 2, none⟩ (.string t679)) w.heap.size (fun k_ => some k_ ≠ (v675 : Value).ownBlock ∧ k_ ≠ gb673 ∧ k_ ≠ gb680) (.slice Ao12 t670.length co12) t670) := ⟨by (with_reducible repeat (first | apply Kd.R_alloc | apply Kd.R_drewN | apply Kd.R_drew)); exact Kd.R_mono (Kd.R_far (p := ⟨gb680, 2, none⟩) (Kd.R_far (p := ⟨gb680, 1, none⟩) (Kd.R_far (p := ⟨gb680, 0, none⟩) (Kd.R_mono HO672.out (fun k_ hk => (⟨hk, hk.2⟩ : _ ∧ k_ ≠ gb680))) (fun _ hk => hk.2) (.bool t677)) (fun _ hk => hk.2) (.string t678)) (fun _ hk => hk.2) (.string t679)) (fun _ hk => ⟨hk.1.1.2, ⟨hk.1.1.1.2, hk.1.2⟩⟩)⟩
    have n1_ : Aside0 (Kd.R k25 25 (((w16.setCell ⟨gb680, 0, none⟩ (.bool t677)).setCell ⟨gb680, 1, none⟩ (.string t678)).setCell ⟨gb680, 2, none⟩ (.string t679)) w.heap.size (fun k_ => some k_ ≠ (.slice Ao12 t670.length co12 : Value).ownBlock ∧ k_ ≠ gb673 ∧ k_ ≠ gb680) v675 t674) := ⟨by (with_reducible repeat (first | apply Kd.R_alloc | apply Kd.R_drewN | apply Kd.R_drew)); exact Kd.R_mono (Kd.R_far (p := ⟨gb680, 2, none⟩) (Kd.R_far (p := ⟨gb680, 1, none⟩) (Kd.R_far (p := ⟨gb680, 0, none⟩) (Kd.R_mono HO676.out (fun k_ hk => (⟨hk, hk.2⟩ : _ ∧ k_ ≠ gb680))) (fun _ hk => hk.2) (.bool t677)) (fun _ hk => hk.2) (.string t678)) (fun _ hk => hk.2) (.string t679)) (fun _ hk => ⟨hk.1.1.1.2, ⟨hk.1.1.2, hk.1.2⟩⟩)⟩
    have n2_ : Aside0 ((((w16.setCell ⟨gb680, 0, none⟩ (.bool t677)).setCell ⟨gb680, 1, none⟩ (.string t678)).setCell ⟨gb680, 2, none⟩ (.string t679)).heap[gb673]? = some (.cells #[.bool t667, .string t668, .string t669] 25 (0, 0))) := ⟨xb BK673⟩
    have n3_ : Aside0 ((((w16.setCell ⟨gb680, 0, none⟩ (.bool t677)).setCell ⟨gb680, 1, none⟩ (.string t678)).setCell ⟨gb680, 2, none⟩ (.string t679)).heap[gb680]? = some (.cells #[.bool t677, .string t678, .string t679] 25 (0, 0))) := ⟨xp BK680⟩
    have n4_ : Aside0 (Below w.heap.size w (((w16.setCell ⟨gb680, 0, none⟩ (.bool t677)).setCell ⟨gb680, 1, none⟩ (.string t678)).setCell ⟨gb680, 2, none⟩ (.string t679))) := ⟨xs HB⟩
    (try clear HO672)
    (try clear HO676)
    (try clear BK673)
    (try clear BK680)
    (try clear HB)
    generalize (((w16.setCell ⟨gb680, 0, none⟩ (.bool t677)).setCell ⟨gb680, 1, none⟩ (.string t678)).setCell ⟨gb680, 2, none⟩ (.string t679)) = w24 at n0_ n1_ n2_ n3_ n4_ ⊢
    have HO672 := n0_
    have HO676 := n1_
    have BK673 := n2_
    have BK680 := n3_
    have HB := n4_
    clear n0_ n1_ n2_ n3_ n4_
    replace HO672 := Aside0.mk (Kd.R_drew HO672.out)
    replace HO676 := Aside0.mk (Kd.R_drew HO676.out)
    replace BK673 := xD BK673
    replace BK680 := xD BK680
    replace HB := xW HB
    obtain ⟨Ao26, co26, eo26⟩ := Kd.R_slice HO676.out
    (first | subst eo26 | (injection eo26 with f1_ f2_ f3_; have f4_ := f1_.symm; have f5_ := f3_.symm; clear f1_ f2_ f3_; subst f4_; subst f5_))
    refine start_ (n := 20) (S := fun w' => w'.cell? ⟨gb680, 0, none⟩ = some (.bool t677) ∧ w'.cell? ⟨gb680, 1, none⟩ = some (.string t678) ∧ w'.cell? ⟨gb680, 2, none⟩ = some (.string t679)) (ds := []) #[false, false, false, false, false, false, false, false, false, false, false, false, false, false, false, false, false, false, false, false] (by kernel_rfl) rfl rfl xV (fun hHeld => ?_); refine with_tabW insolvencylaw18_GuaranteeBalance.tab4 insolvencylaw18_GuaranteeBalance.bits4 (fun HT_ HW_ => ?_)
    generalize w24.drew = w25 at HO672 HO676 BK673 BK680 HB hHeld ⊢
    refine xP 0 (some 20) #[true, false, false, false, false, false, false, false, false, false, false, false, false, false, false, false, false, false, false, false] rfl rfl ?_
    refine xP 1 (some 21) #[true, true, false, false, false, false, false, false, false, false, false, false, false, false, false, false, false, false, false, false] rfl rfl ?_
    refine xP 2 (some 22) #[true, true, true, false, false, false, false, false, false, false, false, false, false, false, false, false, false, false, false, false] rfl rfl ?_
    refine xP 3 (some 23) #[true, true, true, true, false, false, false, false, false, false, false, false, false, false, false, false, false, false, false, false] rfl rfl ?_
    refine xP 4 (some 24) #[true, true, true, true, true, false, false, false, false, false, false, false, false, false, false, false, false, false, false, false] rfl rfl ?_
    refine xP 5 (some 25) #[true, true, true, true, true, true, false, false, false, false, false, false, false, false, false, false, false, false, false, false] rfl rfl ?_
    refine xP 6 (some 26) #[true, true, true, true, true, true, true, false, false, false, false, false, false, false, false, false, false, false, false, false] rfl rfl ?_
    refine xP 10 (some 30) #[true, true, true, true, true, true, true, false, false, false, true, false, false, false, false, false, false, false, false, false] rfl rfl ?_
    refine xT 8 (some 28) #[true, true, true, true, true, true, true, false, true, false, true, false, false, false, false, false, false, false, false, false] rfl rfl hHeld ?_
    refine xO 7 (some 27) #[true, true, true, true, true, true, true, true, true, false, true, false, false, false, false, false, false, false, false, false] rfl rfl fun K hK => ?_
    refine goes_ Tryd.func27 (by kernel_rfl) rfl #[.slice Ao26 t674.length co26] (by rfl) rfl rfl (by (try simp only [List.map_toArray, List.map_cons, List.map_nil]); first | done | rfl | (simp only [List.length_drop, List.length_take]; rfl)) ?_
    with_reducible refine (rational_Sum.calls k _ _ t674 t681 t682 t683 _ ?side1 ?side2 A20.out).mono ?_
    (case side1 => repeat (first | exact (Kd.R_reads' HO676.out).2.2 | (with_reducible refine Kd.C_alloc ?_ _) | (with_reducible refine Kd.C_drewN ?_ _) | (with_reducible refine Kd.C_drew ?_)))
    (case side2 => exact (Kd.R_reads' HO676.out).2.1)
    rintro e w27 ⟨rfl, hb⟩
    refine ⟨_, rfl, ?_⟩
    replace HO672 := Aside0.mk (Kd.R_below (xr HO672.out) hb)
    replace HO676 := Aside0.mk (Kd.R_below (xr HO676.out) hb)
    replace BK673 := xB BK673 hb
    replace BK680 := xB BK680 hb
    replace HB := xS HB hb
    (try clear hb)
    (try clear hb2)
    (try clear hk)
    (try clear hi)
    refine hK.out _ _ xV (fun hHeld => ?_)
    clear hK K
    refine xN 27 ?_
    refine xO 9 (some 29) #[true, true, true, true, true, true, true, true, true, true, true, false, false, false, false, false, false, false, false, false] rfl rfl fun K hK => ?_
    refine xc Tryd.func21 (rational_Add.calls k t681 t682 t683 t677 t678 t679 t684 t685 t686 _ A21.out) ?_
    rintro w28 hb
    replace HO672 := Aside0.mk (Kd.R_below (xr HO672.out) hb)
    replace HO676 := Aside0.mk (Kd.R_below (xr HO676.out) hb)
    replace BK673 := xB BK673 hb
    replace BK680 := xB BK680 hb
    replace HB := xS HB hb
    clear hb
    refine hK.out _ _ xV (fun hHeld => ?_)
    clear hK K
    refine xN 29 ?_
    refine xO 11 (some 31) #[true, true, true, true, true, true, true, true, true, true, true, true, false, false, false, false, false, false, false, false] rfl rfl fun K hK => ?_
    refine goes_ Tryd.func27 (by kernel_rfl) rfl #[.slice Ao12 t670.length co12] (by rfl) rfl rfl (by (try simp only [List.map_toArray, List.map_cons, List.map_nil]); first | done | rfl | (simp only [List.length_drop, List.length_take]; rfl)) ?_
    with_reducible refine (rational_Sum.calls k _ _ t670 t687 t688 t689 _ ?side1 ?side2 A22.out).mono ?_
    (case side1 => repeat (first | exact (Kd.R_reads' HO672.out).2.2 | (with_reducible refine Kd.C_alloc ?_ _) | (with_reducible refine Kd.C_drewN ?_ _) | (with_reducible refine Kd.C_drew ?_)))
    (case side2 => exact (Kd.R_reads' HO672.out).2.1)
    rintro e w29 ⟨rfl, hb⟩
    refine ⟨_, rfl, ?_⟩
    replace HO672 := Aside0.mk (Kd.R_below (xr HO672.out) hb)
    replace HO676 := Aside0.mk (Kd.R_below (xr HO676.out) hb)
    replace BK673 := xB BK673 hb
    replace BK680 := xB BK680 hb
    replace HB := xS HB hb
    clear hb
    refine hK.out _ _ xV (fun hHeld => ?_)
    clear hK K
    refine xN 31 ?_
    refine xP 12 (some 32) #[true, true, true, true, true, true, true, true, true, true, true, true, true, false, false, false, false, false, false, false] rfl rfl ?_
    refine xP 13 (some 33) #[true, true, true, true, true, true, true, true, true, true, true, true, true, true, false, false, false, false, false, false] rfl rfl ?_
    refine xP 14 (some 34) #[true, true, true, true, true, true, true, true, true, true, true, true, true, true, true, false, false, false, false, false] rfl rfl ?_
    refine xU 15 (some 35) #[true, true, true, true, true, true, true, true, true, true, true, true, true, true, true, true, false, false, false, false] rfl rfl ?_
    refine xU 16 (some 36) #[true, true, true, true, true, true, true, true, true, true, true, true, true, true, true, true, true, false, false, false] rfl rfl ?_
    refine xU 17 (some 37) #[true, true, true, true, true, true, true, true, true, true, true, true, true, true, true, true, true, true, false, false] rfl rfl ?_
    refine xU 18 (some 38) #[true, true, true, true, true, true, true, true, true, true, true, true, true, true, true, true, true, true, true, false] rfl rfl ?_
    refine xP 19 (some 39) #[true, true, true, true, true, true, true, true, true, true, true, true, true, true, true, true, true, true, true, true] rfl rfl ?_
    refine done_ (done_of HT_.out (by kernel_rfl)) ?_
    try go_wp2
    go_meet
    case rel => exact ⟨_, (true), xz, H', ⟨by first | omega | exact Nat.le_refl _⟩, ⟨xr HO672.out⟩, ⟨xr HO676.out⟩, ⟨xb BK673⟩, ⟨xb BK680⟩, ⟨xs HB⟩⟩
   ·rw [if_neg c23] at H
    have c23b0 : (!(t684 == t687) || (!(t685.toList == t688.toList) || (!(t686.toList == t689.toList)))) = false := by simpa using c23
    clear c23
    replace H := xH H; obtain ⟨t690, A30, H⟩ := H
    have H' := Aside0.mk H
    clear H
    try go_wp2
    have n0_ : Aside0 (Kd.R k25 25 (((w16.setCell ⟨gb680, 0, none⟩ (.bool t677)).setCell ⟨gb680, 1, none⟩ (.string t678)).setCell ⟨gb680, 2, none⟩ (.string t679)) w.heap.size (fun k_ => some k_ ≠ (v675 : Value).ownBlock ∧ k_ ≠ gb673 ∧ k_ ≠ gb680) (.slice Ao12 t670.length co12) t670) := ⟨by (with_reducible repeat (first | apply Kd.R_alloc | apply Kd.R_drewN | apply Kd.R_drew)); exact Kd.R_mono (Kd.R_far (p := ⟨gb680, 2, none⟩) (Kd.R_far (p := ⟨gb680, 1, none⟩) (Kd.R_far (p := ⟨gb680, 0, none⟩) (Kd.R_mono HO672.out (fun k_ hk => (⟨hk, hk.2⟩ : _ ∧ k_ ≠ gb680))) (fun _ hk => hk.2) (.bool t677)) (fun _ hk => hk.2) (.string t678)) (fun _ hk => hk.2) (.string t679)) (fun _ hk => ⟨hk.1.1.2, ⟨hk.1.1.1.2, hk.1.2⟩⟩)⟩
    have n1_ : Aside0 (Kd.R k25 25 (((w16.setCell ⟨gb680, 0, none⟩ (.bool t677)).setCell ⟨gb680, 1, none⟩ (.string t678)).setCell ⟨gb680, 2, none⟩ (.string t679)) w.heap.size (fun k_ => some k_ ≠ (.slice Ao12 t670.length co12 : Value).ownBlock ∧ k_ ≠ gb673 ∧ k_ ≠ gb680) v675 t674) := ⟨by (with_reducible repeat (first | apply Kd.R_alloc | apply Kd.R_drewN | apply Kd.R_drew)); exact Kd.R_mono (Kd.R_far (p := ⟨gb680, 2, none⟩) (Kd.R_far (p := ⟨gb680, 1, none⟩) (Kd.R_far (p := ⟨gb680, 0, none⟩) (Kd.R_mono HO676.out (fun k_ hk => (⟨hk, hk.2⟩ : _ ∧ k_ ≠ gb680))) (fun _ hk => hk.2) (.bool t677)) (fun _ hk => hk.2) (.string t678)) (fun _ hk => hk.2) (.string t679)) (fun _ hk => ⟨hk.1.1.1.2, ⟨hk.1.1.2, hk.1.2⟩⟩)⟩
    have n2_ : Aside0 ((((w16.setCell ⟨gb680, 0, none⟩ (.bool t677)).setCell ⟨gb680, 1, none⟩ (.string t678)).setCell ⟨gb680, 2, none⟩ (.string t679)).heap[gb673]? = some (.cells #[.bool t667, .string t668, .string t669] 25 (0, 0))) := ⟨xb BK673⟩
    have n3_ : Aside0 ((((w16.setCell ⟨gb680, 0, none⟩ (.bool t677)).setCell ⟨gb680, 1, none⟩ (.string t678)).setCell ⟨gb680, 2, none⟩ (.string t679)).heap[gb680]? = some (.cells #[.bool t677, .string t678, .string t679] 25 (0, 0))) := ⟨xp BK680⟩
    have n4_ : Aside0 (Below w.heap.size w (((w16.setCell ⟨gb680, 0, none⟩ (.bool t677)).setCell ⟨gb680, 1, none⟩ (.string t678)).setCell ⟨gb680, 2, none⟩ (.string t679))) := ⟨xs HB⟩
    (try clear HO672)
    (try clear HO676)
    (try clear BK673)
    (try clear BK680)
    (try clear HB)
    generalize (((w16.setCell ⟨gb680, 0, none⟩ (.bool t677)).setCell ⟨gb680, 1, none⟩ (.string t678)).setCell ⟨gb680, 2, none⟩ (.string t679)) = w31 at n0_ n1_ n2_ n3_ n4_ ⊢
    have HO672 := n0_
    have HO676 := n1_
    have BK673 := n2_
    have BK680 := n3_
    have HB := n4_
    clear n0_ n1_ n2_ n3_ n4_
    replace HO672 := Aside0.mk (Kd.R_drew HO672.out)
    replace HO676 := Aside0.mk (Kd.R_drew HO676.out)
    replace BK673 := xD BK673
    replace BK680 := xD BK680
    replace HB := xW HB
    obtain ⟨Ao33, co33, eo33⟩ := Kd.R_slice HO676.out
    (first | subst eo33 | (injection eo33 with f1_ f2_ f3_; have f4_ := f1_.symm; have f5_ := f3_.symm; clear f1_ f2_ f3_; subst f4_; subst f5_))
    refine start_ (n := 20) (S := fun w' => w'.cell? ⟨gb680, 0, none⟩ = some (.bool t677) ∧ w'.cell? ⟨gb680, 1, none⟩ = some (.string t678) ∧ w'.cell? ⟨gb680, 2, none⟩ = some (.string t679) ∧ w'.cell? ⟨gb673, 0, none⟩ = some (.bool t667) ∧ w'.cell? ⟨gb673, 1, none⟩ = some (.string t668) ∧ w'.cell? ⟨gb673, 2, none⟩ = some (.string t669)) (ds := []) #[false, false, false, false, false, false, false, false, false, false, false, false, false, false, false, false, false, false, false, false] (by kernel_rfl) rfl rfl xV (fun hHeld => ?_); refine with_tabW insolvencylaw18_GuaranteeBalance.tab4 insolvencylaw18_GuaranteeBalance.bits4 (fun HT_ HW_ => ?_)
    generalize w31.drew = w32 at HO672 HO676 BK673 BK680 HB hHeld ⊢
    refine xP 0 (some 20) #[true, false, false, false, false, false, false, false, false, false, false, false, false, false, false, false, false, false, false, false] rfl rfl ?_
    refine xP 1 (some 21) #[true, true, false, false, false, false, false, false, false, false, false, false, false, false, false, false, false, false, false, false] rfl rfl ?_
    refine xP 2 (some 22) #[true, true, true, false, false, false, false, false, false, false, false, false, false, false, false, false, false, false, false, false] rfl rfl ?_
    refine xP 3 (some 23) #[true, true, true, true, false, false, false, false, false, false, false, false, false, false, false, false, false, false, false, false] rfl rfl ?_
    refine xP 4 (some 24) #[true, true, true, true, true, false, false, false, false, false, false, false, false, false, false, false, false, false, false, false] rfl rfl ?_
    refine xP 5 (some 25) #[true, true, true, true, true, true, false, false, false, false, false, false, false, false, false, false, false, false, false, false] rfl rfl ?_
    refine xP 6 (some 26) #[true, true, true, true, true, true, true, false, false, false, false, false, false, false, false, false, false, false, false, false] rfl rfl ?_
    refine xP 10 (some 30) #[true, true, true, true, true, true, true, false, false, false, true, false, false, false, false, false, false, false, false, false] rfl rfl ?_
    refine xT 8 (some 28) #[true, true, true, true, true, true, true, false, true, false, true, false, false, false, false, false, false, false, false, false] rfl rfl hHeld ?_
    refine xO 7 (some 27) #[true, true, true, true, true, true, true, true, true, false, true, false, false, false, false, false, false, false, false, false] rfl rfl fun K hK => ?_
    refine goes_ Tryd.func27 (by kernel_rfl) rfl #[.slice Ao33 t674.length co33] (by rfl) rfl rfl (by (try simp only [List.map_toArray, List.map_cons, List.map_nil]); first | done | rfl | (simp only [List.length_drop, List.length_take]; rfl)) ?_
    with_reducible refine (rational_Sum.calls k _ _ t674 t681 t682 t683 _ ?side1 ?side2 A20.out).mono ?_
    (case side1 => repeat (first | exact (Kd.R_reads' HO676.out).2.2 | (with_reducible refine Kd.C_alloc ?_ _) | (with_reducible refine Kd.C_drewN ?_ _) | (with_reducible refine Kd.C_drew ?_)))
    (case side2 => exact (Kd.R_reads' HO676.out).2.1)
    rintro e w34 ⟨rfl, hb⟩
    refine ⟨_, rfl, ?_⟩
    replace HO672 := Aside0.mk (Kd.R_below (xr HO672.out) hb)
    replace HO676 := Aside0.mk (Kd.R_below (xr HO676.out) hb)
    replace BK673 := xB BK673 hb
    replace BK680 := xB BK680 hb
    replace HB := xS HB hb
    clear hb
    refine hK.out _ _ xV (fun hHeld => ?_)
    clear hK K
    refine xN 27 ?_
    refine xO 9 (some 29) #[true, true, true, true, true, true, true, true, true, true, true, false, false, false, false, false, false, false, false, false] rfl rfl fun K hK => ?_
    refine xc Tryd.func21 (rational_Add.calls k t681 t682 t683 t677 t678 t679 t684 t685 t686 _ A21.out) ?_
    rintro w35 hb
    replace HO672 := Aside0.mk (Kd.R_below (xr HO672.out) hb)
    replace HO676 := Aside0.mk (Kd.R_below (xr HO676.out) hb)
    replace BK673 := xB BK673 hb
    replace BK680 := xB BK680 hb
    replace HB := xS HB hb
    clear hb
    refine hK.out _ _ xV (fun hHeld => ?_)
    clear hK K
    refine xN 29 ?_
    refine xO 11 (some 31) #[true, true, true, true, true, true, true, true, true, true, true, true, false, false, false, false, false, false, false, false] rfl rfl fun K hK => ?_
    refine goes_ Tryd.func27 (by kernel_rfl) rfl #[.slice Ao12 t670.length co12] (by rfl) rfl rfl (by (try simp only [List.map_toArray, List.map_cons, List.map_nil]); first | done | rfl | (simp only [List.length_drop, List.length_take]; rfl)) ?_
    with_reducible refine (rational_Sum.calls k _ _ t670 t687 t688 t689 _ ?side1 ?side2 A22.out).mono ?_
    (case side1 => repeat (first | exact (Kd.R_reads' HO672.out).2.2 | (with_reducible refine Kd.C_alloc ?_ _) | (with_reducible refine Kd.C_drewN ?_ _) | (with_reducible refine Kd.C_drew ?_)))
    (case side2 => exact (Kd.R_reads' HO672.out).2.1)
    rintro e w36 ⟨rfl, hb⟩
    refine ⟨_, rfl, ?_⟩
    replace HO672 := Aside0.mk (Kd.R_below (xr HO672.out) hb)
    replace HO676 := Aside0.mk (Kd.R_below (xr HO676.out) hb)
    replace BK673 := xB BK673 hb
    replace BK680 := xB BK680 hb
    replace HB := xS HB hb
    clear hb
    refine hK.out _ _ xV (fun hHeld => ?_)
    clear hK K
    refine xN 31 ?_
    refine xP 12 (some 32) #[true, true, true, true, true, true, true, true, true, true, true, true, true, false, false, false, false, false, false, false] rfl rfl ?_
    refine xP 13 (some 33) #[true, true, true, true, true, true, true, true, true, true, true, true, true, true, false, false, false, false, false, false] rfl rfl ?_
    refine xP 14 (some 34) #[true, true, true, true, true, true, true, true, true, true, true, true, true, true, true, false, false, false, false, false] rfl rfl ?_
    refine xT 15 (some 35) #[true, true, true, true, true, true, true, true, true, true, true, true, true, true, true, true, false, false, false, false] rfl rfl hHeld ?_
    refine xT 16 (some 36) #[true, true, true, true, true, true, true, true, true, true, true, true, true, true, true, true, true, false, false, false] rfl rfl hHeld ?_
    refine xO 17 (some 37) #[true, true, true, true, true, true, true, true, true, true, true, true, true, true, true, true, true, true, false, false] rfl rfl fun K hK => ?_
    refine xc Tryd.func22 (rational_Compare.calls k t677 t678 t679 t667 t668 t669 t690 _ A30.out) ?_
    rintro w37 hb
    replace HO672 := Aside0.mk (Kd.R_below (xr HO672.out) hb)
    replace HO676 := Aside0.mk (Kd.R_below (xr HO676.out) hb)
    replace BK673 := xB BK673 hb
    replace BK680 := xB BK680 hb
    replace HB := xS HB hb
    clear hb
    refine hK.out _ _ xV (fun hHeld => ?_)
    clear hK K
    refine xN 37 ?_
    refine xP 18 (some 38) #[true, true, true, true, true, true, true, true, true, true, true, true, true, true, true, true, true, true, true, false] rfl rfl ?_
    refine xP 19 (some 39) #[true, true, true, true, true, true, true, true, true, true, true, true, true, true, true, true, true, true, true, true] rfl rfl ?_
    refine done_ (done_of HT_.out (by kernel_rfl)) ?_
    try go_wp2
    go_meet
    case rel => exact ⟨_, (decide (t690 > 0)), xz, H', ⟨by first | omega | exact Nat.le_refl _⟩, ⟨xr HO672.out⟩, ⟨xr HO676.out⟩, ⟨xb BK673⟩, ⟨xb BK680⟩, ⟨xs HB⟩⟩
  ·rw [if_neg c19] at H
   have c19b0 : ((t674.length : Int) == (t670.length : Int)) = false := beq_eq_false_iff_ne.mpr c19
   have c19b1 : ((t674.length : Int) != (t670.length : Int)) = true := bne_iff_ne.mpr c19
   have c19b2 : (t674.length == t670.length) = false := by first | simpa using c19 | (simp at c19 ⊢; omega)
   (first | rw [c19b0] | (simp only [i64_w, i32_w]; rw [c19b0]) | rw [c19b1] | skip)
   have H' := Aside0.mk H
   clear H
   try go_wp2
   have n0_ : Aside0 (Kd.R k25 25 (((w16.setCell ⟨gb680, 0, none⟩ (.bool t677)).setCell ⟨gb680, 1, none⟩ (.string t678)).setCell ⟨gb680, 2, none⟩ (.string t679)) w.heap.size (fun k_ => some k_ ≠ (v675 : Value).ownBlock ∧ k_ ≠ gb673 ∧ k_ ≠ gb680) (.slice Ao12 t670.length co12) t670) := ⟨by (with_reducible repeat (first | apply Kd.R_alloc | apply Kd.R_drewN | apply Kd.R_drew)); exact Kd.R_mono (Kd.R_far (p := ⟨gb680, 2, none⟩) (Kd.R_far (p := ⟨gb680, 1, none⟩) (Kd.R_far (p := ⟨gb680, 0, none⟩) (Kd.R_mono HO672.out (fun k_ hk => (⟨hk, hk.2⟩ : _ ∧ k_ ≠ gb680))) (fun _ hk => hk.2) (.bool t677)) (fun _ hk => hk.2) (.string t678)) (fun _ hk => hk.2) (.string t679)) (fun _ hk => ⟨hk.1.1.2, ⟨hk.1.1.1.2, hk.1.2⟩⟩)⟩
   have n1_ : Aside0 (Kd.R k25 25 (((w16.setCell ⟨gb680, 0, none⟩ (.bool t677)).setCell ⟨gb680, 1, none⟩ (.string t678)).setCell ⟨gb680, 2, none⟩ (.string t679)) w.heap.size (fun k_ => some k_ ≠ (.slice Ao12 t670.length co12 : Value).ownBlock ∧ k_ ≠ gb673 ∧ k_ ≠ gb680) v675 t674) := ⟨by (with_reducible repeat (first | apply Kd.R_alloc | apply Kd.R_drewN | apply Kd.R_drew)); exact Kd.R_mono (Kd.R_far (p := ⟨gb680, 2, none⟩) (Kd.R_far (p := ⟨gb680, 1, none⟩) (Kd.R_far (p := ⟨gb680, 0, none⟩) (Kd.R_mono HO676.out (fun k_ hk => (⟨hk, hk.2⟩ : _ ∧ k_ ≠ gb680))) (fun _ hk => hk.2) (.bool t677)) (fun _ hk => hk.2) (.string t678)) (fun _ hk => hk.2) (.string t679)) (fun _ hk => ⟨hk.1.1.1.2, ⟨hk.1.1.2, hk.1.2⟩⟩)⟩
   have n2_ : Aside0 ((((w16.setCell ⟨gb680, 0, none⟩ (.bool t677)).setCell ⟨gb680, 1, none⟩ (.string t678)).setCell ⟨gb680, 2, none⟩ (.string t679)).heap[gb673]? = some (.cells #[.bool t667, .string t668, .string t669] 25 (0, 0))) := ⟨xb BK673⟩
   have n3_ : Aside0 ((((w16.setCell ⟨gb680, 0, none⟩ (.bool t677)).setCell ⟨gb680, 1, none⟩ (.string t678)).setCell ⟨gb680, 2, none⟩ (.string t679)).heap[gb680]? = some (.cells #[.bool t677, .string t678, .string t679] 25 (0, 0))) := ⟨xp BK680⟩
   have n4_ : Aside0 (Below w.heap.size w (((w16.setCell ⟨gb680, 0, none⟩ (.bool t677)).setCell ⟨gb680, 1, none⟩ (.string t678)).setCell ⟨gb680, 2, none⟩ (.string t679))) := ⟨xs HB⟩
   (try clear HO672)
   (try clear HO676)
   (try clear BK673)
   (try clear BK680)
   (try clear HB)
   generalize (((w16.setCell ⟨gb680, 0, none⟩ (.bool t677)).setCell ⟨gb680, 1, none⟩ (.string t678)).setCell ⟨gb680, 2, none⟩ (.string t679)) = w38 at n0_ n1_ n2_ n3_ n4_ ⊢
   have HO672 := n0_
   have HO676 := n1_
   have BK673 := n2_
   have BK680 := n3_
   have HB := n4_
   clear n0_ n1_ n2_ n3_ n4_
   replace HO672 := Aside0.mk (Kd.R_drew HO672.out)
   replace HO676 := Aside0.mk (Kd.R_drew HO676.out)
   replace BK673 := xD BK673
   replace BK680 := xD BK680
   replace HB := xW HB
   obtain ⟨Ao40, co40, eo40⟩ := Kd.R_slice HO676.out
   (first | subst eo40 | (injection eo40 with f1_ f2_ f3_; have f4_ := f1_.symm; have f5_ := f3_.symm; clear f1_ f2_ f3_; subst f4_; subst f5_))
   refine start_ (n := 20) (S := fun w' => True) (ds := []) #[false, false, false, false, false, false, false, false, false, false, false, false, false, false, false, false, false, false, false, false] (by kernel_rfl) rfl rfl trivial (fun hHeld => ?_); refine with_tabW insolvencylaw18_GuaranteeBalance.tab4 insolvencylaw18_GuaranteeBalance.bits4 (fun HT_ HW_ => ?_)
   generalize w38.drew = w39 at HO672 HO676 BK673 BK680 HB hHeld ⊢
   refine xP 0 (some 20) #[true, false, false, false, false, false, false, false, false, false, false, false, false, false, false, false, false, false, false, false] rfl rfl ?_
   refine xP 1 (some 21) #[true, true, false, false, false, false, false, false, false, false, false, false, false, false, false, false, false, false, false, false] rfl rfl ?_
   refine xP 2 (some 22) #[true, true, true, false, false, false, false, false, false, false, false, false, false, false, false, false, false, false, false, false] rfl rfl ?_
   refine xP 3 (some 23) #[true, true, true, true, false, false, false, false, false, false, false, false, false, false, false, false, false, false, false, false] rfl rfl ?_
   refine xP 4 (some 24) #[true, true, true, true, true, false, false, false, false, false, false, false, false, false, false, false, false, false, false, false] rfl rfl ?_
   refine xP 5 (some 25) #[true, true, true, true, true, true, false, false, false, false, false, false, false, false, false, false, false, false, false, false] rfl rfl ?_
   refine xU 6 (some 26) #[true, true, true, true, true, true, true, false, false, false, false, false, false, false, false, false, false, false, false, false] rfl rfl ?_
   refine xU 7 (some 27) #[true, true, true, true, true, true, true, true, false, false, false, false, false, false, false, false, false, false, false, false] rfl rfl ?_
   refine xU 8 (some 28) #[true, true, true, true, true, true, true, true, true, false, false, false, false, false, false, false, false, false, false, false] rfl rfl ?_
   refine xU 9 (some 29) #[true, true, true, true, true, true, true, true, true, true, false, false, false, false, false, false, false, false, false, false] rfl rfl ?_
   refine xU 10 (some 30) #[true, true, true, true, true, true, true, true, true, true, true, false, false, false, false, false, false, false, false, false] rfl rfl ?_
   refine xU 11 (some 31) #[true, true, true, true, true, true, true, true, true, true, true, true, false, false, false, false, false, false, false, false] rfl rfl ?_
   refine xU 12 (some 32) #[true, true, true, true, true, true, true, true, true, true, true, true, true, false, false, false, false, false, false, false] rfl rfl ?_
   refine xP 13 (some 33) #[true, true, true, true, true, true, true, true, true, true, true, true, true, true, false, false, false, false, false, false] rfl rfl ?_
   refine xP 14 (some 34) #[true, true, true, true, true, true, true, true, true, true, true, true, true, true, true, false, false, false, false, false] rfl rfl ?_
   refine xU 15 (some 35) #[true, true, true, true, true, true, true, true, true, true, true, true, true, true, true, true, false, false, false, false] rfl rfl ?_
   refine xU 16 (some 36) #[true, true, true, true, true, true, true, true, true, true, true, true, true, true, true, true, true, false, false, false] rfl rfl ?_
   refine xU 17 (some 37) #[true, true, true, true, true, true, true, true, true, true, true, true, true, true, true, true, true, true, false, false] rfl rfl ?_
   refine xU 18 (some 38) #[true, true, true, true, true, true, true, true, true, true, true, true, true, true, true, true, true, true, true, false] rfl rfl ?_
   refine xP 19 (some 39) #[true, true, true, true, true, true, true, true, true, true, true, true, true, true, true, true, true, true, true, true] rfl rfl ?_
   refine done_ (done_of HT_.out (by kernel_rfl)) ?_
   try go_wp2
   go_meet
   case rel => exact ⟨_, (true), xz, H', ⟨by first | omega | exact Nat.le_refl _⟩, ⟨xr HO672.out⟩, ⟨xr HO676.out⟩, ⟨xb BK673⟩, ⟨xb BK680⟩, ⟨xs HB⟩⟩
 case rest =>
  clear HC7
  try clear c1
  try clear c2
  try clear p2
  try clear c19
  try clear c19b0
  try clear c19b1
  try clear c19b2
  try clear c21
  try clear c22
  try clear c23
  try clear c23b0
  try clear c27
  obtain ⟨kq, x39_6, rfl, HA, HJ6, HO_6, HO_7, BK673, BK680, HB⟩ := hcut
  cases kq with
  | zero => exact absurd HA.out (by simp [insolvencylaw18_GuaranteeBalance.j0])
  | succ kj6 =>
   have H := HA.out
   clear HA
   simp only [insolvencylaw18_GuaranteeBalance.j0] at H
   by_cases c41 : x39_6 = true
   ·subst c41
    replace H := xI H
    obtain rfl := Option.some.inj H
    go_wp2
    go_ret
    exact ⟨xy, xs HB⟩
   ·replace c41 := Bool.eq_false_iff.mpr c41
    subst c41
    have H1 : (insolvencylaw18_GuaranteeBalance.l0 kj6 t670 t674 (t670.length : Int) 0 t667 t668 t669 t677 t678 t679) = some r := by rw [if_neg (show ¬ (false = true) by decide)] at H; exact H
    clear H
    have H := H1
    clear H1
    have H' := Aside0.mk H
    clear H
    go_wp2
    go_loopg [42] kj6 (fun kq v42 w' => ∃ (x42_2 : Int), v42 = .int .i64 x42_2 ∧ Aside0 (insolvencylaw18_GuaranteeBalance.l0 kq t670 t674 (t670.length : Int) x42_2 t667 t668 t669 t677 t678 t679 = some r) ∧ Aside0 (kq ≤ kj6) ∧ Aside0 (Kd.R k25 25 w' w.heap.size (fun k_ => some k_ ≠ (v675 : Value).ownBlock ∧ k_ ≠ gb673 ∧ k_ ≠ gb680) (.slice Ao12 t670.length co12) t670) ∧ Aside0 (Kd.R k25 25 w' w.heap.size (fun k_ => some k_ ≠ ((.slice Ao12 t670.length co12) : Value).ownBlock ∧ k_ ≠ gb673 ∧ k_ ≠ gb680) v675 t674) ∧ Aside0 (w'.heap[gb673]? = some (.cells #[.bool t667, .string t668, .string t669] 25 (0, 0))) ∧ Aside0 (w'.heap[gb680]? = some (.cells #[.bool t677, .string t678, .string t679] 25 (0, 0))) ∧ Aside0 (Below w.heap.size w w'))
    case atStart => exact ⟨(0), xz, H', ⟨Nat.le_refl _⟩, ⟨xr HO_6.out⟩, ⟨xr HO_7.out⟩, ⟨xb BK673⟩, ⟨xb BK680⟩, ⟨xs HB⟩⟩
    case round =>
     clear H'
     try clear c1
     try clear c2
     try clear p2
     try clear c4
     try clear c19
     try clear c19b0
     try clear c19b1
     try clear c19b2
     try clear c21
     try clear c22
     try clear c23
     try clear c23b0
     try clear c27
     try clear c41
     try clear p2
     obtain ⟨x42_2, rfl, HA, HK2, HO_6, HO_7, BK673, BK680, HB⟩ := hrel
     cases gk with
     | zero => exact absurd HA.out (by simp [insolvencylaw18_GuaranteeBalance.l0])
     | succ k2 =>
      have H := HA.out
      clear HA
      simp only [insolvencylaw18_GuaranteeBalance.l0] at H
      by_cases c42 : x42_2 < (t670.length : Int)
      ·rw [if_pos c42] at H
       have c42b0 : decide (x42_2 < (t670.length : Int)) = true := decide_eq_true c42
       clear c42
       by_cases c43 : 0 ≤ x42_2
       ·rw [if_pos c43] at H
        have c43b0 : decide (0 ≤ x42_2) = true := decide_eq_true c43
        clear c43
        by_cases c44 : x42_2 < (t674.length : Int)
        ·rw [if_pos c44] at H
         have c44b0 : decide (x42_2 < (t674.length : Int)) = true := decide_eq_true c44
         clear c44
         replace H := xH H; obtain ⟨t697, A45, H⟩ := H
         by_cases c46 : t697 < 0
         ·rw [if_pos c46] at H
          have c46b0 : decide (t697 < 0) = true := decide_eq_true c46
          clear c46
          obtain rfl := Option.some.inj H
          try go_wp2
          replace HO_6 := Aside0.mk (Kd.R_drew HO_6.out)
          replace HO_7 := Aside0.mk (Kd.R_drew HO_7.out)
          replace BK673 := xD BK673
          replace BK680 := xD BK680
          replace HB := xW HB
          obtain ⟨Ao48, co48, eo48⟩ := Kd.R_slice HO_7.out
          (first | subst eo48 | (injection eo48 with f1_ f2_ f3_; have f4_ := f1_.symm; have f5_ := f3_.symm; clear f1_ f2_ f3_; subst f4_; subst f5_))
          have p696 : 0 ≤ (x42_2 : Int) := xa
          have q696 : x42_2 < (t674.length : Int) := xa
          obtain ⟨ad696, e696, hx696_0, hx696_1, hx696_2⟩ := at_T25 (Kd.R_reads' HO_7.out).2.2 x42_2 p696 q696
          cases e696
          replace p696 := eq_true p696
          replace q696 := eq_true q696
          refine start_ (n := 18) (S := fun w' => w'.cell? (ad696.add ((x42_2).toNat * 3)) = some (.bool ((rd_T25 t674 x42_2).f0)) ∧ w'.cell? ⟨(ad696.add ((x42_2).toNat * 3)).block, (ad696.add ((x42_2).toNat * 3)).off + 1, none⟩ = some (.string ((rd_T25 t674 x42_2).f1)) ∧ w'.cell? ⟨(ad696.add ((x42_2).toNat * 3)).block, (ad696.add ((x42_2).toNat * 3)).off + 2, none⟩ = some (.string ((rd_T25 t674 x42_2).f2))) (ds := []) #[false, false, false, false, false, false, false, false, false, false, false, false, false, false, false, false, false, false] (by kernel_rfl) rfl rfl ⟨hx696_0, hx696_1, hx696_2⟩ (fun hHeld => ?_); refine with_tabW insolvencylaw18_GuaranteeBalance.tab9 insolvencylaw18_GuaranteeBalance.bits9 (fun HT_ HW_ => ?_)
          generalize wr.drew = w47 at HO_6 HO_7 BK673 BK680 HB hx696_0 hx696_1 hx696_2 hHeld ⊢
          refine xP 0 (some 45) #[true, false, false, false, false, false, false, false, false, false, false, false, false, false, false, false, false, false] rfl rfl ?_
          refine xP 1 (some 46) #[true, true, false, false, false, false, false, false, false, false, false, false, false, false, false, false, false, false] rfl rfl ?_
          refine xP 2 (some 47) #[true, true, true, false, false, false, false, false, false, false, false, false, false, false, false, false, false, false] rfl rfl ?_
          refine xT 3 (some 48) #[true, true, true, true, false, false, false, false, false, false, false, false, false, false, false, false, false, false] rfl rfl hHeld ?_
          refine xO 4 (some 49) #[true, true, true, true, true, false, false, false, false, false, false, false, false, false, false, false, false, false] rfl rfl fun K hK => ?_
          refine goes_ Tryd.func13 (by kernel_rfl) rfl #[.agg #[.bool ((rd_T25 t674 x42_2).f0), .string ((rd_T25 t674 x42_2).f1), .string ((rd_T25 t674 x42_2).f2)]] (by rfl) rfl rfl (by (try simp only [List.map_toArray, List.map_cons, List.map_nil]); first | done | rfl | (simp only [List.length_drop, List.length_take]; rfl)) ?_
          with_reducible refine (rational_Sign.calls k2 ((rd_T25 t674 x42_2).f0) ((rd_T25 t674 x42_2).f1) ((rd_T25 t674 x42_2).f2) t697 _ A45.out).mono ?_
          rintro e w49 ⟨rfl, hb⟩
          have HS0_ := (hb.cell (World.block_lt_of_cell? _ _ (hHeld.1))).trans (hHeld.1)
          have HS1_ := (hb.cell (World.block_lt_of_cell? _ _ (hHeld.2.1))).trans (hHeld.2.1)
          have HS2_ := (hb.cell (World.block_lt_of_cell? _ _ (hHeld.2.2))).trans (hHeld.2.2)
          refine ⟨_, rfl, ?_⟩
          replace HO_6 := Aside0.mk (Kd.R_below (xr HO_6.out) hb)
          replace HO_7 := Aside0.mk (Kd.R_below (xr HO_7.out) hb)
          replace BK673 := xB BK673 hb
          replace BK680 := xB BK680 hb
          replace HB := xS HB hb
          clear hb
          refine hK.out _ _ ⟨HS0_, HS1_, HS2_⟩ (fun hHeld => ?_)
          clear hK K
          refine xN 49 ?_
          refine xP 5 (some 50) #[true, true, true, true, true, true, false, false, false, false, false, false, false, false, false, false, false, false] rfl rfl ?_
          refine xP 6 (some 51) #[true, true, true, true, true, true, true, false, false, false, false, false, false, false, false, false, false, false] rfl rfl ?_
          refine xU 7 (some 52) #[true, true, true, true, true, true, true, true, false, false, false, false, false, false, false, false, false, false] rfl rfl ?_
          refine xU 8 (some 53) #[true, true, true, true, true, true, true, true, true, false, false, false, false, false, false, false, false, false] rfl rfl ?_
          refine xU 9 (some 54) #[true, true, true, true, true, true, true, true, true, true, false, false, false, false, false, false, false, false] rfl rfl ?_
          refine xU 10 (some 55) #[true, true, true, true, true, true, true, true, true, true, true, false, false, false, false, false, false, false] rfl rfl ?_
          refine xU 11 (some 56) #[true, true, true, true, true, true, true, true, true, true, true, true, false, false, false, false, false, false] rfl rfl ?_
          refine xU 12 (some 57) #[true, true, true, true, true, true, true, true, true, true, true, true, true, false, false, false, false, false] rfl rfl ?_
          refine xU 13 (some 58) #[true, true, true, true, true, true, true, true, true, true, true, true, true, true, false, false, false, false] rfl rfl ?_
          refine xU 14 (some 59) #[true, true, true, true, true, true, true, true, true, true, true, true, true, true, true, false, false, false] rfl rfl ?_
          refine xU 15 (some 60) #[true, true, true, true, true, true, true, true, true, true, true, true, true, true, true, true, false, false] rfl rfl ?_
          refine xU 16 (some 61) #[true, true, true, true, true, true, true, true, true, true, true, true, true, true, true, true, true, false] rfl rfl ?_
          refine xP 17 (some 62) #[true, true, true, true, true, true, true, true, true, true, true, true, true, true, true, true, true, true] rfl rfl ?_
          refine done_ (done_of HT_.out (by kernel_rfl)) ?_
          try go_wp2
          go_ret
          exact ⟨xy, xs HB⟩
         ·rw [if_neg c46] at H
          have c46b0 : decide (t697 < 0) = false := decide_eq_false c46
          clear c46
          by_cases c50 : x42_2 < (t670.length : Int)
          ·rw [if_pos c50] at H
           have c50b0 : decide (x42_2 < (t670.length : Int)) = true := decide_eq_true c50
           clear c50
           replace H := xH H; obtain ⟨t700, A51, H⟩ := H
           by_cases c52 : t700 > 0
           ·rw [if_pos c52] at H
            have c52b0 : decide (0 < t700) = true := decide_eq_true c52
            clear c52
            obtain rfl := Option.some.inj H
            try go_wp2
            replace HO_6 := Aside0.mk (Kd.R_drew HO_6.out)
            replace HO_7 := Aside0.mk (Kd.R_drew HO_7.out)
            replace BK673 := xD BK673
            replace BK680 := xD BK680
            replace HB := xW HB
            obtain ⟨Ao54, co54, eo54⟩ := Kd.R_slice HO_7.out
            (first | subst eo54 | (injection eo54 with f1_ f2_ f3_; have f4_ := f1_.symm; have f5_ := f3_.symm; clear f1_ f2_ f3_; subst f4_; subst f5_))
            have p696 : 0 ≤ (x42_2 : Int) := xa
            have q696 : x42_2 < (t674.length : Int) := xa
            obtain ⟨ad696, e696, hx696_0, hx696_1, hx696_2⟩ := at_T25 (Kd.R_reads' HO_7.out).2.2 x42_2 p696 q696
            cases e696
            replace p696 := eq_true p696
            replace q696 := eq_true q696
            have p698 : 0 ≤ (x42_2 : Int) := xa
            have q698 : x42_2 < (t674.length : Int) := xa
            obtain ⟨ad698, e698, hx698_0, hx698_1, hx698_2⟩ := at_T25 (Kd.R_reads' HO_7.out).2.2 x42_2 p698 q698
            obtain rfl : ad696 = ad698 := (by injection e698)
            replace p698 := eq_true p698
            replace q698 := eq_true q698
            have p699 : 0 ≤ (x42_2 : Int) := xa
            have q699 : x42_2 < (t670.length : Int) := xa
            obtain ⟨ad699, e699, hx699_0, hx699_1, hx699_2⟩ := at_T25 (Kd.R_reads' HO_6.out).2.2 x42_2 p699 q699
            cases e699
            replace p699 := eq_true p699
            replace q699 := eq_true q699
            refine start_ (n := 18) (S := fun w' => w'.cell? (ad696.add ((x42_2).toNat * 3)) = some (.bool ((rd_T25 t674 x42_2).f0)) ∧ w'.cell? ⟨(ad696.add ((x42_2).toNat * 3)).block, (ad696.add ((x42_2).toNat * 3)).off + 1, none⟩ = some (.string ((rd_T25 t674 x42_2).f1)) ∧ w'.cell? ⟨(ad696.add ((x42_2).toNat * 3)).block, (ad696.add ((x42_2).toNat * 3)).off + 2, none⟩ = some (.string ((rd_T25 t674 x42_2).f2)) ∧ w'.cell? (ad696.add ((x42_2).toNat * 3)) = some (.bool ((rd_T25 t674 x42_2).f0)) ∧ w'.cell? ⟨(ad696.add ((x42_2).toNat * 3)).block, (ad696.add ((x42_2).toNat * 3)).off + 1, none⟩ = some (.string ((rd_T25 t674 x42_2).f1)) ∧ w'.cell? ⟨(ad696.add ((x42_2).toNat * 3)).block, (ad696.add ((x42_2).toNat * 3)).off + 2, none⟩ = some (.string ((rd_T25 t674 x42_2).f2)) ∧ w'.cell? (ad699.add ((x42_2).toNat * 3)) = some (.bool ((rd_T25 t670 x42_2).f0)) ∧ w'.cell? ⟨(ad699.add ((x42_2).toNat * 3)).block, (ad699.add ((x42_2).toNat * 3)).off + 1, none⟩ = some (.string ((rd_T25 t670 x42_2).f1)) ∧ w'.cell? ⟨(ad699.add ((x42_2).toNat * 3)).block, (ad699.add ((x42_2).toNat * 3)).off + 2, none⟩ = some (.string ((rd_T25 t670 x42_2).f2))) (ds := []) #[false, false, false, false, false, false, false, false, false, false, false, false, false, false, false, false, false, false] (by kernel_rfl) rfl rfl ⟨hx696_0, hx696_1, hx696_2, hx698_0, hx698_1, hx698_2, hx699_0, hx699_1, hx699_2⟩ (fun hHeld => ?_); refine with_tabW insolvencylaw18_GuaranteeBalance.tab9 insolvencylaw18_GuaranteeBalance.bits9 (fun HT_ HW_ => ?_)
            generalize wr.drew = w53 at HO_6 HO_7 BK673 BK680 HB hx696_0 hx696_1 hx696_2 hx698_0 hx698_1 hx698_2 hx699_0 hx699_1 hx699_2 hHeld ⊢
            refine xP 0 (some 45) #[true, false, false, false, false, false, false, false, false, false, false, false, false, false, false, false, false, false] rfl rfl ?_
            refine xP 1 (some 46) #[true, true, false, false, false, false, false, false, false, false, false, false, false, false, false, false, false, false] rfl rfl ?_
            refine xP 2 (some 47) #[true, true, true, false, false, false, false, false, false, false, false, false, false, false, false, false, false, false] rfl rfl ?_
            refine xT 3 (some 48) #[true, true, true, true, false, false, false, false, false, false, false, false, false, false, false, false, false, false] rfl rfl hHeld ?_
            refine xO 4 (some 49) #[true, true, true, true, true, false, false, false, false, false, false, false, false, false, false, false, false, false] rfl rfl fun K hK => ?_
            refine goes_ Tryd.func13 (by kernel_rfl) rfl #[.agg #[.bool ((rd_T25 t674 x42_2).f0), .string ((rd_T25 t674 x42_2).f1), .string ((rd_T25 t674 x42_2).f2)]] (by rfl) rfl rfl (by (try simp only [List.map_toArray, List.map_cons, List.map_nil]); first | done | rfl | (simp only [List.length_drop, List.length_take]; rfl)) ?_
            with_reducible refine (rational_Sign.calls k2 ((rd_T25 t674 x42_2).f0) ((rd_T25 t674 x42_2).f1) ((rd_T25 t674 x42_2).f2) t697 _ A45.out).mono ?_
            rintro e w55 ⟨rfl, hb⟩
            have HS0_ := (hb.cell (World.block_lt_of_cell? _ _ (hHeld.1))).trans (hHeld.1)
            have HS1_ := (hb.cell (World.block_lt_of_cell? _ _ (hHeld.2.1))).trans (hHeld.2.1)
            have HS2_ := (hb.cell (World.block_lt_of_cell? _ _ (hHeld.2.2.1))).trans (hHeld.2.2.1)
            have HS3_ := (hb.cell (World.block_lt_of_cell? _ _ (hHeld.2.2.2.1))).trans (hHeld.2.2.2.1)
            have HS4_ := (hb.cell (World.block_lt_of_cell? _ _ (hHeld.2.2.2.2.1))).trans (hHeld.2.2.2.2.1)
            have HS5_ := (hb.cell (World.block_lt_of_cell? _ _ (hHeld.2.2.2.2.2.1))).trans (hHeld.2.2.2.2.2.1)
            have HS6_ := (hb.cell (World.block_lt_of_cell? _ _ (hHeld.2.2.2.2.2.2.1))).trans (hHeld.2.2.2.2.2.2.1)
            have HS7_ := (hb.cell (World.block_lt_of_cell? _ _ (hHeld.2.2.2.2.2.2.2.1))).trans (hHeld.2.2.2.2.2.2.2.1)
            have HS8_ := (hb.cell (World.block_lt_of_cell? _ _ (hHeld.2.2.2.2.2.2.2.2))).trans (hHeld.2.2.2.2.2.2.2.2)
            refine ⟨_, rfl, ?_⟩
            replace HO_6 := Aside0.mk (Kd.R_below (xr HO_6.out) hb)
            replace HO_7 := Aside0.mk (Kd.R_below (xr HO_7.out) hb)
            replace BK673 := xB BK673 hb
            replace BK680 := xB BK680 hb
            replace HB := xS HB hb
            clear hb
            refine hK.out _ _ ⟨HS0_, HS1_, HS2_, HS3_, HS4_, HS5_, HS6_, HS7_, HS8_⟩ (fun hHeld => ?_)
            clear hK K
            refine xN 49 ?_
            refine xP 5 (some 50) #[true, true, true, true, true, true, false, false, false, false, false, false, false, false, false, false, false, false] rfl rfl ?_
            refine xP 6 (some 51) #[true, true, true, true, true, true, true, false, false, false, false, false, false, false, false, false, false, false] rfl rfl ?_
            refine xP 7 (some 52) #[true, true, true, true, true, true, true, true, false, false, false, false, false, false, false, false, false, false] rfl rfl ?_
            refine xP 8 (some 53) #[true, true, true, true, true, true, true, true, true, false, false, false, false, false, false, false, false, false] rfl rfl ?_
            refine xP 9 (some 54) #[true, true, true, true, true, true, true, true, true, true, false, false, false, false, false, false, false, false] rfl rfl ?_
            refine xP 11 (some 56) #[true, true, true, true, true, true, true, true, true, true, false, true, false, false, false, false, false, false] rfl rfl ?_
            refine xP 12 (some 57) #[true, true, true, true, true, true, true, true, true, true, false, true, true, false, false, false, false, false] rfl rfl ?_
            refine xP 13 (some 58) #[true, true, true, true, true, true, true, true, true, true, false, true, true, true, false, false, false, false] rfl rfl ?_
            refine xT 10 (some 55) #[true, true, true, true, true, true, true, true, true, true, true, true, true, true, false, false, false, false] rfl rfl hHeld ?_
            refine xT 14 (some 59) #[true, true, true, true, true, true, true, true, true, true, true, true, true, true, true, false, false, false] rfl rfl hHeld ?_
            refine xO 15 (some 60) #[true, true, true, true, true, true, true, true, true, true, true, true, true, true, true, true, false, false] rfl rfl fun K hK => ?_
            refine goes_ Tryd.func22 (by kernel_rfl) rfl #[.agg #[.bool ((rd_T25 t674 x42_2).f0), .string ((rd_T25 t674 x42_2).f1), .string ((rd_T25 t674 x42_2).f2)], .agg #[.bool ((rd_T25 t670 x42_2).f0), .string ((rd_T25 t670 x42_2).f1), .string ((rd_T25 t670 x42_2).f2)]] (by rfl) rfl rfl (by (try simp only [List.map_toArray, List.map_cons, List.map_nil]); first | done | rfl | (simp only [List.length_drop, List.length_take]; rfl)) ?_
            with_reducible refine (rational_Compare.calls k2 ((rd_T25 t674 x42_2).f0) ((rd_T25 t674 x42_2).f1) ((rd_T25 t674 x42_2).f2) ((rd_T25 t670 x42_2).f0) ((rd_T25 t670 x42_2).f1) ((rd_T25 t670 x42_2).f2) t700 _ A51.out).mono ?_
            rintro e w56 ⟨rfl, hb⟩
            have HS0_ := (hb.cell (World.block_lt_of_cell? _ _ (hHeld.1))).trans (hHeld.1)
            have HS1_ := (hb.cell (World.block_lt_of_cell? _ _ (hHeld.2.1))).trans (hHeld.2.1)
            have HS2_ := (hb.cell (World.block_lt_of_cell? _ _ (hHeld.2.2.1))).trans (hHeld.2.2.1)
            have HS3_ := (hb.cell (World.block_lt_of_cell? _ _ (hHeld.2.2.2.1))).trans (hHeld.2.2.2.1)
            have HS4_ := (hb.cell (World.block_lt_of_cell? _ _ (hHeld.2.2.2.2.1))).trans (hHeld.2.2.2.2.1)
            have HS5_ := (hb.cell (World.block_lt_of_cell? _ _ (hHeld.2.2.2.2.2.1))).trans (hHeld.2.2.2.2.2.1)
            have HS6_ := (hb.cell (World.block_lt_of_cell? _ _ (hHeld.2.2.2.2.2.2.1))).trans (hHeld.2.2.2.2.2.2.1)
            have HS7_ := (hb.cell (World.block_lt_of_cell? _ _ (hHeld.2.2.2.2.2.2.2.1))).trans (hHeld.2.2.2.2.2.2.2.1)
            have HS8_ := (hb.cell (World.block_lt_of_cell? _ _ (hHeld.2.2.2.2.2.2.2.2))).trans (hHeld.2.2.2.2.2.2.2.2)
            refine ⟨_, rfl, ?_⟩
            replace HO_6 := Aside0.mk (Kd.R_below (xr HO_6.out) hb)
            replace HO_7 := Aside0.mk (Kd.R_below (xr HO_7.out) hb)
            replace BK673 := xB BK673 hb
            replace BK680 := xB BK680 hb
            replace HB := xS HB hb
            clear hb
            refine hK.out _ _ ⟨HS0_, HS1_, HS2_, HS3_, HS4_, HS5_, HS6_, HS7_, HS8_⟩ (fun hHeld => ?_)
            clear hK K
            refine xN 60 ?_
            refine xP 16 (some 61) #[true, true, true, true, true, true, true, true, true, true, true, true, true, true, true, true, true, false] rfl rfl ?_
            refine xP 17 (some 62) #[true, true, true, true, true, true, true, true, true, true, true, true, true, true, true, true, true, true] rfl rfl ?_
            refine done_ (done_of HT_.out (by kernel_rfl)) ?_
            try go_wp2
            go_ret
            exact ⟨xy, xs HB⟩
           ·rw [if_neg c52] at H
            have c52b0 : decide (0 < t700) = false := decide_eq_false c52
            clear c52
            have H' := Aside0.mk H
            clear H
            try go_wp2
            replace HO_6 := Aside0.mk (Kd.R_drew HO_6.out)
            replace HO_7 := Aside0.mk (Kd.R_drew HO_7.out)
            replace BK673 := xD BK673
            replace BK680 := xD BK680
            replace HB := xW HB
            obtain ⟨Ao58, co58, eo58⟩ := Kd.R_slice HO_7.out
            (first | subst eo58 | (injection eo58 with f1_ f2_ f3_; have f4_ := f1_.symm; have f5_ := f3_.symm; clear f1_ f2_ f3_; subst f4_; subst f5_))
            have p696 : 0 ≤ (x42_2 : Int) := xa
            have q696 : x42_2 < (t674.length : Int) := xa
            obtain ⟨ad696, e696, hx696_0, hx696_1, hx696_2⟩ := at_T25 (Kd.R_reads' HO_7.out).2.2 x42_2 p696 q696
            cases e696
            replace p696 := eq_true p696
            replace q696 := eq_true q696
            have p698 : 0 ≤ (x42_2 : Int) := xa
            have q698 : x42_2 < (t674.length : Int) := xa
            obtain ⟨ad698, e698, hx698_0, hx698_1, hx698_2⟩ := at_T25 (Kd.R_reads' HO_7.out).2.2 x42_2 p698 q698
            obtain rfl : ad696 = ad698 := (by injection e698)
            replace p698 := eq_true p698
            replace q698 := eq_true q698
            have p699 : 0 ≤ (x42_2 : Int) := xa
            have q699 : x42_2 < (t670.length : Int) := xa
            obtain ⟨ad699, e699, hx699_0, hx699_1, hx699_2⟩ := at_T25 (Kd.R_reads' HO_6.out).2.2 x42_2 p699 q699
            cases e699
            replace p699 := eq_true p699
            replace q699 := eq_true q699
            refine start_ (n := 18) (S := fun w' => w'.cell? (ad696.add ((x42_2).toNat * 3)) = some (.bool ((rd_T25 t674 x42_2).f0)) ∧ w'.cell? ⟨(ad696.add ((x42_2).toNat * 3)).block, (ad696.add ((x42_2).toNat * 3)).off + 1, none⟩ = some (.string ((rd_T25 t674 x42_2).f1)) ∧ w'.cell? ⟨(ad696.add ((x42_2).toNat * 3)).block, (ad696.add ((x42_2).toNat * 3)).off + 2, none⟩ = some (.string ((rd_T25 t674 x42_2).f2)) ∧ w'.cell? (ad696.add ((x42_2).toNat * 3)) = some (.bool ((rd_T25 t674 x42_2).f0)) ∧ w'.cell? ⟨(ad696.add ((x42_2).toNat * 3)).block, (ad696.add ((x42_2).toNat * 3)).off + 1, none⟩ = some (.string ((rd_T25 t674 x42_2).f1)) ∧ w'.cell? ⟨(ad696.add ((x42_2).toNat * 3)).block, (ad696.add ((x42_2).toNat * 3)).off + 2, none⟩ = some (.string ((rd_T25 t674 x42_2).f2)) ∧ w'.cell? (ad699.add ((x42_2).toNat * 3)) = some (.bool ((rd_T25 t670 x42_2).f0)) ∧ w'.cell? ⟨(ad699.add ((x42_2).toNat * 3)).block, (ad699.add ((x42_2).toNat * 3)).off + 1, none⟩ = some (.string ((rd_T25 t670 x42_2).f1)) ∧ w'.cell? ⟨(ad699.add ((x42_2).toNat * 3)).block, (ad699.add ((x42_2).toNat * 3)).off + 2, none⟩ = some (.string ((rd_T25 t670 x42_2).f2))) (ds := []) #[false, false, false, false, false, false, false, false, false, false, false, false, false, false, false, false, false, false] (by kernel_rfl) rfl rfl ⟨hx696_0, hx696_1, hx696_2, hx698_0, hx698_1, hx698_2, hx699_0, hx699_1, hx699_2⟩ (fun hHeld => ?_); refine with_tabW insolvencylaw18_GuaranteeBalance.tab9 insolvencylaw18_GuaranteeBalance.bits9 (fun HT_ HW_ => ?_)
            generalize wr.drew = w57 at HO_6 HO_7 BK673 BK680 HB hx696_0 hx696_1 hx696_2 hx698_0 hx698_1 hx698_2 hx699_0 hx699_1 hx699_2 hHeld ⊢
            refine xP 0 (some 45) #[true, false, false, false, false, false, false, false, false, false, false, false, false, false, false, false, false, false] rfl rfl ?_
            refine xP 1 (some 46) #[true, true, false, false, false, false, false, false, false, false, false, false, false, false, false, false, false, false] rfl rfl ?_
            refine xP 2 (some 47) #[true, true, true, false, false, false, false, false, false, false, false, false, false, false, false, false, false, false] rfl rfl ?_
            refine xT 3 (some 48) #[true, true, true, true, false, false, false, false, false, false, false, false, false, false, false, false, false, false] rfl rfl hHeld ?_
            refine xO 4 (some 49) #[true, true, true, true, true, false, false, false, false, false, false, false, false, false, false, false, false, false] rfl rfl fun K hK => ?_
            refine goes_ Tryd.func13 (by kernel_rfl) rfl #[.agg #[.bool ((rd_T25 t674 x42_2).f0), .string ((rd_T25 t674 x42_2).f1), .string ((rd_T25 t674 x42_2).f2)]] (by rfl) rfl rfl (by (try simp only [List.map_toArray, List.map_cons, List.map_nil]); first | done | rfl | (simp only [List.length_drop, List.length_take]; rfl)) ?_
            with_reducible refine (rational_Sign.calls k2 ((rd_T25 t674 x42_2).f0) ((rd_T25 t674 x42_2).f1) ((rd_T25 t674 x42_2).f2) t697 _ A45.out).mono ?_
            rintro e w59 ⟨rfl, hb⟩
            have HS0_ := (hb.cell (World.block_lt_of_cell? _ _ (hHeld.1))).trans (hHeld.1)
            have HS1_ := (hb.cell (World.block_lt_of_cell? _ _ (hHeld.2.1))).trans (hHeld.2.1)
            have HS2_ := (hb.cell (World.block_lt_of_cell? _ _ (hHeld.2.2.1))).trans (hHeld.2.2.1)
            have HS3_ := (hb.cell (World.block_lt_of_cell? _ _ (hHeld.2.2.2.1))).trans (hHeld.2.2.2.1)
            have HS4_ := (hb.cell (World.block_lt_of_cell? _ _ (hHeld.2.2.2.2.1))).trans (hHeld.2.2.2.2.1)
            have HS5_ := (hb.cell (World.block_lt_of_cell? _ _ (hHeld.2.2.2.2.2.1))).trans (hHeld.2.2.2.2.2.1)
            have HS6_ := (hb.cell (World.block_lt_of_cell? _ _ (hHeld.2.2.2.2.2.2.1))).trans (hHeld.2.2.2.2.2.2.1)
            have HS7_ := (hb.cell (World.block_lt_of_cell? _ _ (hHeld.2.2.2.2.2.2.2.1))).trans (hHeld.2.2.2.2.2.2.2.1)
            have HS8_ := (hb.cell (World.block_lt_of_cell? _ _ (hHeld.2.2.2.2.2.2.2.2))).trans (hHeld.2.2.2.2.2.2.2.2)
            refine ⟨_, rfl, ?_⟩
            replace HO_6 := Aside0.mk (Kd.R_below (xr HO_6.out) hb)
            replace HO_7 := Aside0.mk (Kd.R_below (xr HO_7.out) hb)
            replace BK673 := xB BK673 hb
            replace BK680 := xB BK680 hb
            replace HB := xS HB hb
            clear hb
            refine hK.out _ _ ⟨HS0_, HS1_, HS2_, HS3_, HS4_, HS5_, HS6_, HS7_, HS8_⟩ (fun hHeld => ?_)
            clear hK K
            refine xN 49 ?_
            refine xP 5 (some 50) #[true, true, true, true, true, true, false, false, false, false, false, false, false, false, false, false, false, false] rfl rfl ?_
            refine xP 6 (some 51) #[true, true, true, true, true, true, true, false, false, false, false, false, false, false, false, false, false, false] rfl rfl ?_
            refine xP 7 (some 52) #[true, true, true, true, true, true, true, true, false, false, false, false, false, false, false, false, false, false] rfl rfl ?_
            refine xP 8 (some 53) #[true, true, true, true, true, true, true, true, true, false, false, false, false, false, false, false, false, false] rfl rfl ?_
            refine xP 9 (some 54) #[true, true, true, true, true, true, true, true, true, true, false, false, false, false, false, false, false, false] rfl rfl ?_
            refine xP 11 (some 56) #[true, true, true, true, true, true, true, true, true, true, false, true, false, false, false, false, false, false] rfl rfl ?_
            refine xP 12 (some 57) #[true, true, true, true, true, true, true, true, true, true, false, true, true, false, false, false, false, false] rfl rfl ?_
            refine xP 13 (some 58) #[true, true, true, true, true, true, true, true, true, true, false, true, true, true, false, false, false, false] rfl rfl ?_
            refine xT 10 (some 55) #[true, true, true, true, true, true, true, true, true, true, true, true, true, true, false, false, false, false] rfl rfl hHeld ?_
            refine xT 14 (some 59) #[true, true, true, true, true, true, true, true, true, true, true, true, true, true, true, false, false, false] rfl rfl hHeld ?_
            refine xO 15 (some 60) #[true, true, true, true, true, true, true, true, true, true, true, true, true, true, true, true, false, false] rfl rfl fun K hK => ?_
            refine goes_ Tryd.func22 (by kernel_rfl) rfl #[.agg #[.bool ((rd_T25 t674 x42_2).f0), .string ((rd_T25 t674 x42_2).f1), .string ((rd_T25 t674 x42_2).f2)], .agg #[.bool ((rd_T25 t670 x42_2).f0), .string ((rd_T25 t670 x42_2).f1), .string ((rd_T25 t670 x42_2).f2)]] (by rfl) rfl rfl (by (try simp only [List.map_toArray, List.map_cons, List.map_nil]); first | done | rfl | (simp only [List.length_drop, List.length_take]; rfl)) ?_
            with_reducible refine (rational_Compare.calls k2 ((rd_T25 t674 x42_2).f0) ((rd_T25 t674 x42_2).f1) ((rd_T25 t674 x42_2).f2) ((rd_T25 t670 x42_2).f0) ((rd_T25 t670 x42_2).f1) ((rd_T25 t670 x42_2).f2) t700 _ A51.out).mono ?_
            rintro e w60 ⟨rfl, hb⟩
            have HS0_ := (hb.cell (World.block_lt_of_cell? _ _ (hHeld.1))).trans (hHeld.1)
            have HS1_ := (hb.cell (World.block_lt_of_cell? _ _ (hHeld.2.1))).trans (hHeld.2.1)
            have HS2_ := (hb.cell (World.block_lt_of_cell? _ _ (hHeld.2.2.1))).trans (hHeld.2.2.1)
            have HS3_ := (hb.cell (World.block_lt_of_cell? _ _ (hHeld.2.2.2.1))).trans (hHeld.2.2.2.1)
            have HS4_ := (hb.cell (World.block_lt_of_cell? _ _ (hHeld.2.2.2.2.1))).trans (hHeld.2.2.2.2.1)
            have HS5_ := (hb.cell (World.block_lt_of_cell? _ _ (hHeld.2.2.2.2.2.1))).trans (hHeld.2.2.2.2.2.1)
            have HS6_ := (hb.cell (World.block_lt_of_cell? _ _ (hHeld.2.2.2.2.2.2.1))).trans (hHeld.2.2.2.2.2.2.1)
            have HS7_ := (hb.cell (World.block_lt_of_cell? _ _ (hHeld.2.2.2.2.2.2.2.1))).trans (hHeld.2.2.2.2.2.2.2.1)
            have HS8_ := (hb.cell (World.block_lt_of_cell? _ _ (hHeld.2.2.2.2.2.2.2.2))).trans (hHeld.2.2.2.2.2.2.2.2)
            refine ⟨_, rfl, ?_⟩
            replace HO_6 := Aside0.mk (Kd.R_below (xr HO_6.out) hb)
            replace HO_7 := Aside0.mk (Kd.R_below (xr HO_7.out) hb)
            replace BK673 := xB BK673 hb
            replace BK680 := xB BK680 hb
            replace HB := xS HB hb
            clear hb
            refine hK.out _ _ ⟨HS0_, HS1_, HS2_, HS3_, HS4_, HS5_, HS6_, HS7_, HS8_⟩ (fun hHeld => ?_)
            clear hK K
            refine xN 60 ?_
            refine xP 16 (some 61) #[true, true, true, true, true, true, true, true, true, true, true, true, true, true, true, true, true, false] rfl rfl ?_
            refine xP 17 (some 62) #[true, true, true, true, true, true, true, true, true, true, true, true, true, true, true, true, true, true] rfl rfl ?_
            refine done_ (done_of HT_.out (by kernel_rfl)) ?_
            try go_wp2
            (first | go_roundg k2 | (refine Handed.intro k2 ?measure ?_; rotate_left; go_step; (repeat apply Exists.intro); refine ⟨?rel, (by first | rfl | (simp only [add_plain]; rfl))⟩))
            case measure => have := HJ6.out; have := HK2.out; omega
            case rel => exact ⟨(wrap64 (x42_2 + 1)), xz, H', ⟨by have := HJ6.out; have := HK2.out; omega⟩, ⟨xr HO_6.out⟩, ⟨xr HO_7.out⟩, ⟨xb BK673⟩, ⟨xb BK680⟩, ⟨xs HB⟩⟩
          ·rw [if_neg c50] at H
           exact absurd H (by simp)
        ·rw [if_neg c44] at H
         exact absurd H (by simp)
       ·rw [if_neg c43] at H
        exact absurd H (by simp)
      ·rw [if_neg c42] at H
       have c42b0 : decide (x42_2 < (t670.length : Int)) = false := decide_eq_false c42
       clear c42
       replace H := xH H; obtain ⟨t691, A61, H⟩ := H
       by_cases c62 : t691 = true
       ·subst c62
        replace H := xI H
        replace H := xH H; obtain ⟨⟨t692, t693, t694⟩, A63, H⟩ := H
        dsimp only at H
        replace H := xH H; obtain ⟨t695, A64, H⟩ := H
        by_cases c65 : t695 = 0
        ·rw [if_pos c65] at H
         have c65b0 : (t695 == 0) = true := beq_iff_eq.mpr c65
         have c65b1 : (t695 != 0) = false := bne_eq_false_iff_eq.mpr c65
         clear c65
         obtain rfl := Option.some.inj H
         go_wp2_with (first | ((with_reducible refine gate_callee (f := 14) rfl ?_); refine xC Tryd.func14 (some 64) (insolvencylaw18_awake.calls k2  true _ A61.out) ?_; rintro w66 hb; replace HO_6 := Aside0.mk (Kd.R_below (xr HO_6.out) hb); replace HO_7 := Aside0.mk (Kd.R_below (xr HO_7.out) hb); replace BK673 := xB BK673 hb; replace BK680 := xB BK680 hb; replace HB := xS HB hb; clear hb; obtain ⟨Ao67, co67, eo67⟩ := Kd.R_slice HO_7.out; subst eo67) | (go_at_call 27; (with_reducible refine (rational_Sum.calls k2 _ _ t674 t692 t693 t694 _ ?side1 ?side2 A63.out).mono ?_); (case side1 => repeat (first | exact (Kd.R_reads' HO_7.out).2.2 | (with_reducible refine Kd.C_alloc ?_ _) | (with_reducible refine Kd.C_drewN ?_ _) | (with_reducible refine Kd.C_drew ?_))); (case side2 => exact (Kd.R_reads' HO_7.out).2.1); rintro e w68 ⟨rfl, hb⟩; replace HO_6 := Aside0.mk (Kd.R_below (xr HO_6.out) hb); replace HO_7 := Aside0.mk (Kd.R_below (xr HO_7.out) hb); replace BK673 := xB BK673 hb; replace BK680 := xB BK680 hb; replace HB := xS HB hb; clear hb) | (go_at_call 13; (with_reducible refine (rational_Sign.calls k2 t692 t693 t694 t695 _ A64.out).mono ?_); rintro e w69 ⟨rfl, hb⟩; replace HO_6 := Aside0.mk (Kd.R_below (xr HO_6.out) hb); replace HO_7 := Aside0.mk (Kd.R_below (xr HO_7.out) hb); replace BK673 := xB BK673 hb; replace BK680 := xB BK680 hb; replace HB := xS HB hb; clear hb))
         go_ret
         exact ⟨xy, xs HB⟩
        ·rw [if_neg c65] at H
         have c65b0 : (t695 == 0) = false := beq_eq_false_iff_ne.mpr c65
         have c65b1 : (t695 != 0) = true := bne_iff_ne.mpr c65
         obtain rfl := Option.some.inj H
         go_wp2_with (first | ((with_reducible refine gate_callee (f := 14) rfl ?_); refine xC Tryd.func14 (some 64) (insolvencylaw18_awake.calls k2  true _ A61.out) ?_; rintro w70 hb; replace HO_6 := Aside0.mk (Kd.R_below (xr HO_6.out) hb); replace HO_7 := Aside0.mk (Kd.R_below (xr HO_7.out) hb); replace BK673 := xB BK673 hb; replace BK680 := xB BK680 hb; replace HB := xS HB hb; clear hb; obtain ⟨Ao71, co71, eo71⟩ := Kd.R_slice HO_7.out; subst eo71) | (go_at_call 27; (with_reducible refine (rational_Sum.calls k2 _ _ t674 t692 t693 t694 _ ?side1 ?side2 A63.out).mono ?_); (case side1 => repeat (first | exact (Kd.R_reads' HO_7.out).2.2 | (with_reducible refine Kd.C_alloc ?_ _) | (with_reducible refine Kd.C_drewN ?_ _) | (with_reducible refine Kd.C_drew ?_))); (case side2 => exact (Kd.R_reads' HO_7.out).2.1); rintro e w72 ⟨rfl, hb⟩; replace HO_6 := Aside0.mk (Kd.R_below (xr HO_6.out) hb); replace HO_7 := Aside0.mk (Kd.R_below (xr HO_7.out) hb); replace BK673 := xB BK673 hb; replace BK680 := xB BK680 hb; replace HB := xS HB hb; clear hb) | (go_at_call 13; (with_reducible refine (rational_Sign.calls k2 t692 t693 t694 t695 _ A64.out).mono ?_); rintro e w73 ⟨rfl, hb⟩; replace HO_6 := Aside0.mk (Kd.R_below (xr HO_6.out) hb); replace HO_7 := Aside0.mk (Kd.R_below (xr HO_7.out) hb); replace BK673 := xB BK673 hb; replace BK680 := xB BK680 hb; replace HB := xS HB hb; clear hb; have hnb74 := NB680_673.out; have hnc74 := NB673_680.out; have hcz75_0 : w73.cell? ⟨gb680, 0, none⟩ = some (.bool t677) := (blk_cell BK680.out 0).trans rfl; have hcz75_1 : w73.cell? ⟨gb680, 1, none⟩ = some (.string t678) := (blk_cell BK680.out 1).trans rfl; have hcz75_2 : w73.cell? ⟨gb680, 2, none⟩ = some (.string t679) := (blk_cell BK680.out 2).trans rfl; have hfz75_0 := blk_frozen BK680.out 0; have hfz75_1 := blk_frozen BK680.out 1; have hfz75_2 := blk_frozen BK680.out 2; have hcz76_0 : w73.cell? ⟨gb673, 0, none⟩ = some (.bool t667) := (blk_cell BK673.out 0).trans rfl; have hcz76_1 : w73.cell? ⟨gb673, 1, none⟩ = some (.string t668) := (blk_cell BK673.out 1).trans rfl; have hcz76_2 : w73.cell? ⟨gb673, 2, none⟩ = some (.string t669) := (blk_cell BK673.out 2).trans rfl; have hfz76_0 := blk_frozen BK673.out 0; have hfz76_1 := blk_frozen BK673.out 1; have hfz76_2 := blk_frozen BK673.out 2))
         go_ret
         exact ⟨xy, xs HB⟩
       ·replace c62 := Bool.eq_false_iff.mpr c62
        subst c62
        have H1 : (some false) = some r := by rw [if_neg (show ¬ (false = true) by decide)] at H; exact H
        clear H
        have H := H1
        clear H1
        obtain rfl := Option.some.inj H
        go_wp2_with (first | ((with_reducible refine gate_callee (f := 14) rfl ?_); refine xC Tryd.func14 (some 64) (insolvencylaw18_awake.calls k2  false _ A61.out) ?_; rintro w77 hb; replace HO_6 := Aside0.mk (Kd.R_below (xr HO_6.out) hb); replace HO_7 := Aside0.mk (Kd.R_below (xr HO_7.out) hb); replace BK673 := xB BK673 hb; replace BK680 := xB BK680 hb; replace HB := xS HB hb; clear hb))
        go_ret
        exact ⟨xy, xs HB⟩
/-- THE ONE PURE STATEMENT of insolvencylaw18_GuaranteeBalance: yours. -/
def insolvencylaw18_GuaranteeBalance.Pure : Prop := ∀ (a0 : Int) (l1 : List Int), (Lit.int .u16 a0).wf = true → l1.length ≤ maxLen → l1.length * 2 ≤ 140737488351232 → (∀ x ∈ l1, (Lit.int .u16 x).wf = true) → ∃ k, insolvencylaw18_GuaranteeBalance.f k a0 l1 = some true
theorem insolvencylaw18_GuaranteeBalance.walk (P : insolvencylaw18_GuaranteeBalance.Pure) (a0 : Int) (a1 : Option Addr) (len1 cap1 : Nat) (z1 : List Int) (w : World) (w0 : (Lit.int .u16 a0).wf = true) (w1 : (a1 = none ∧ len1 = 0 ∧ cap1 = 0 ∧ z1 = []) ∨ ∃ x, a1 = some x ∧ len1 ≤ cap1 ∧ cap1 ≤ maxLen ∧ z1.length = cap1 ∧ (∀ i, i < z1.length → w.cell? (x.add i) = some (.int .u16 (z1.getD i 0))) ∧ ∀ n ∈ z1, (Lit.int .u16 n).wf = true) (y1 : len1 * 2 ≤ 140737488351232) :
  Calls Tryd.prog 8 #[.int .u16 a0, .slice a1 len1 cap1] w fun e w' => e = .returned (.bool true) ∧ Below w.heap.size w w' := by
 obtain ⟨l1, rfl, hr1, hm1, hw1, hc1⟩ := ReadsInt.ofRowC w1
 obtain ⟨k, h⟩ := P a0 l1 w0 hm1 y1 hw1
 refine (insolvencylaw18_GuaranteeBalance.calls k a0 _ _ l1 true w (Kd.C_of_reads (d := (0 : Int)) (h1 := fun _ => rfl) hr1) hc1 h).mono ?_
 rintro e w' ⟨rfl, hd⟩
 exact ⟨rfl, hd⟩
end
end Go.Proofs.YtpoogjcgjpkbeaaDoor.XB
