/- Walks of functions of the program: a plain Lean function for each, and a proof that a call answers as it says. Written by a program (the kit's print with changes, then shortened). -/
import Derived.Test.YtpoogjcgjpkbeaaDoorXD6
namespace Go.Proofs.YtpoogjcgjpkbeaaDoor.XC
open Go.RowKit Go.Proofs.YtpoogjcgjpkbeaaDoorW.PrintWords Go.Proofs.YtpoogjcgjpkbeaaDoorW.PrintLast Go.Proofs.YtpoogjcgjpkbeaaDoorW.PrintMore Go.Proofs.YtpoogjcgjpkbeaaDoorW.Sq
attribute [local go_sem] max2_int min2_int max_two min_two max_three min_three max_four min_four   -- for this text's walks alone
set_option linter.unusedVariables false
set_option linter.unusedSimpArgs false
section
attribute [local go_sem high] eqA25
/-! ### insolvencylaw18_GuaranteeDerivative: function 7 -/
mutual
def insolvencylaw18_GuaranteeDerivative.j0 : Nat → List (S25) → List (S25) → List (S25) → List (S25) → Bool → Bool → ByteArray → ByteArray → Option (Bool)
 | 0, _, _, _, _, _, _, _, _ => none
 | k + 1, x8, x9, x10, x11, x42, x748000, x748001, x748002 => if x42 = true then (some false) else ((insolvencylaw0_Ratio.f k 1 1048576).bind fun bt754 => (insolvencylaw18_GuaranteeDerivative.l0 k x8 x9 x10 x11 ([] : List (S25)) (x8.length : Int) 0 x748000 x748001 x748002 bt754.1 bt754.2.1 bt754.2.2))
def insolvencylaw18_GuaranteeDerivative.l0 : Nat → List (S25) → List (S25) → List (S25) → List (S25) → List (S25) → Int → Int → Bool → ByteArray → ByteArray → Bool → ByteArray → ByteArray → Option (Bool)
 | 0, _, _, _, _, _, _, _, _, _, _, _, _, _ => none
 | k + 1, x8, x9, x10, x11, x13, x45, x46, x748000, x748001, x748002, x758000, x758001, x758002 => if x46 < x45 then (if 0 ≤ x46 then (if x46 < (x8.length : Int) then (if x46 < (x9.length : Int) then ((rational_Multiply.f k x758000 x758001 x758002 ((rd_T25 x9 x46).f0) ((rd_T25 x9 x46).f1) ((rd_T25 x9 x46).f2)).bind fun bt761 => ((rational_Add.f k ((rd_T25 x8 x46).f0) ((rd_T25 x8 x46).f1) ((rd_T25 x8 x46).f2) bt761.1 bt761.2.1 bt761.2.2).bind fun bt764 => (if x13.length < 3518437208883 then (insolvencylaw18_GuaranteeDerivative.l0 k x8 x9 x10 x11 (x13 ++ [(⟨bt764.1, bt764.2.1, bt764.2.2⟩ : S25)]) x45 (wrap64 (x46 + 1)) x748000 x748001 x748002 x758000 x758001 x758002) else (none)))) else (if x13.length < 3518437208883 then (insolvencylaw18_GuaranteeDerivative.l0 k x8 x9 x10 x11 (x13 ++ [(⟨(rd_T25 x8 x46).f0, (rd_T25 x8 x46).f1, (rd_T25 x8 x46).f2⟩ : S25)]) x45 (wrap64 (x46 + 1)) x748000 x748001 x748002 x758000 x758001 x758002) else (none))) else (none)) else (none)) else ((guarantee_Refunds.f k x748000 x748001 x748002 x13).bind fun t773 => (if (t773.length : Int) = (x8.length : Int) then (insolvencylaw18_GuaranteeDerivative.l1 k x10 x11 t773 (x8.length : Int) 0 x758000 x758001 x758002) else (some false)))
def insolvencylaw18_GuaranteeDerivative.l1 : Nat → List (S25) → List (S25) → List (S25) → Int → Int → Bool → ByteArray → ByteArray → Option (Bool)
 | 0, _, _, _, _, _, _, _, _ => none
 | k + 1, x10, x11, x16, x79, x80, x758000, x758001, x758002 => if x80 < x79 then (if 0 ≤ x80 then (if x80 < (x10.length : Int) then (if x80 < (x11.length : Int) then ((rational_Multiply.f k x758000 x758001 x758002 ((rd_T25 x11 x80).f0) ((rd_T25 x11 x80).f1) ((rd_T25 x11 x80).f2)).bind fun bt779 => ((rational_Add.f k ((rd_T25 x10 x80).f0) ((rd_T25 x10 x80).f1) ((rd_T25 x10 x80).f2) bt779.1 bt779.2.1 bt779.2.2).bind fun bt782 => (if x80 < (x16.length : Int) then (if (!(bt782.1 == ((rd_T25 x16 x80).f0)) || (!(bt782.2.1.toList == (((rd_T25 x16 x80).f1).toList)) || (!(bt782.2.2.toList == (((rd_T25 x16 x80).f2).toList))))) = true then (some false) else (insolvencylaw18_GuaranteeDerivative.l1 k x10 x11 x16 x79 (wrap64 (x80 + 1)) x758000 x758001 x758002)) else (none)))) else (none)) else (none)) else (none)) else ((insolvencylaw18_awake.f k).bind fun t776 => (some t776))
end
def insolvencylaw18_GuaranteeDerivative.f (k : Nat) (a0 : Int) (l1 : List Int) (l2 : List Int) : Option (Bool) := (insolvencylaw0_Amount.f k a0).bind fun bt738 => ((insolvencylaw0_Amounts.f k l1 6).bind fun t741 => ((insolvencylaw0_Amounts.f k l2 6).bind fun t744 => ((guarantee_Refunds.f k bt738.1 bt738.2.1 bt738.2.2 t741).bind fun t748 => ((guarantee_Rates.f k bt738.1 bt738.2.1 bt738.2.2 t741 t744).bind fun t751 => (if (t748.length : Int) = (t741.length : Int) then (insolvencylaw18_GuaranteeDerivative.j0 k t741 t744 t748 t751 ((t751.length : Int) != (t741.length : Int)) bt738.1 bt738.2.1 bt738.2.2) else (insolvencylaw18_GuaranteeDerivative.j0 k t741 t744 t748 t751 true bt738.1 bt738.2.1 bt738.2.2))))))
theorem insolvencylaw18_GuaranteeDerivative.mono_l : ∀ k, (∀ y0 y1 y2 y3 y4 y5 y6 y7, LeO (insolvencylaw18_GuaranteeDerivative.j0 k y0 y1 y2 y3 y4 y5 y6 y7) (insolvencylaw18_GuaranteeDerivative.j0 (k + 1) y0 y1 y2 y3 y4 y5 y6 y7)) ∧ (∀ y0 y1 y2 y3 y4 y5 y6 y7 y8 y9 y10 y11 y12, LeO (insolvencylaw18_GuaranteeDerivative.l0 k y0 y1 y2 y3 y4 y5 y6 y7 y8 y9 y10 y11 y12) (insolvencylaw18_GuaranteeDerivative.l0 (k + 1) y0 y1 y2 y3 y4 y5 y6 y7 y8 y9 y10 y11 y12)) ∧ (∀ y0 y1 y2 y3 y4 y5 y6 y7, LeO (insolvencylaw18_GuaranteeDerivative.l1 k y0 y1 y2 y3 y4 y5 y6 y7) (insolvencylaw18_GuaranteeDerivative.l1 (k + 1) y0 y1 y2 y3 y4 y5 y6 y7))
 | 0 => ⟨fun _ _ _ _ _ _ _ _ r h => by simp [insolvencylaw18_GuaranteeDerivative.j0] at h, fun _ _ _ _ _ _ _ _ _ _ _ _ _ r h => by simp [insolvencylaw18_GuaranteeDerivative.l0] at h, fun _ _ _ _ _ _ _ _ r h => by simp [insolvencylaw18_GuaranteeDerivative.l1] at h⟩
 | k + 1 => by
  obtain ⟨ih0, ih1, ih2⟩ := insolvencylaw18_GuaranteeDerivative.mono_l k
  refine ⟨?_, ?_, ?_⟩
  ·intro y0 y1 y2 y3 y4 y5 y6 y7
   unfold insolvencylaw18_GuaranteeDerivative.j0
   have m0 := @ih0; have m1 := @ih1; have m2 := @ih2; have m3 := @guarantee_Rates.mono; have m4 := @guarantee_Refunds.mono; have m5 := @insolvencylaw0_Amount.mono; have m6 := @insolvencylaw0_Amounts.mono; have m7 := @insolvencylaw0_Ratio.mono; have m8 := @insolvencylaw18_awake.mono; have m9 := @rational_Add.mono; have m10 := @rational_Multiply.mono; exact xM
  ·intro y0 y1 y2 y3 y4 y5 y6 y7 y8 y9 y10 y11 y12
   unfold insolvencylaw18_GuaranteeDerivative.l0
   have m0 := @ih0; have m1 := @ih1; have m2 := @ih2; have m3 := @guarantee_Rates.mono; have m4 := @guarantee_Refunds.mono; have m5 := @insolvencylaw0_Amount.mono; have m6 := @insolvencylaw0_Amounts.mono; have m7 := @insolvencylaw0_Ratio.mono; have m8 := @insolvencylaw18_awake.mono; have m9 := @rational_Add.mono; have m10 := @rational_Multiply.mono; exact xM
  ·intro y0 y1 y2 y3 y4 y5 y6 y7
   unfold insolvencylaw18_GuaranteeDerivative.l1
   have m0 := @ih0; have m1 := @ih1; have m2 := @ih2; have m3 := @guarantee_Rates.mono; have m4 := @guarantee_Refunds.mono; have m5 := @insolvencylaw0_Amount.mono; have m6 := @insolvencylaw0_Amounts.mono; have m7 := @insolvencylaw0_Ratio.mono; have m8 := @insolvencylaw18_awake.mono; have m9 := @rational_Add.mono; have m10 := @rational_Multiply.mono; exact xM
theorem insolvencylaw18_GuaranteeDerivative.mono : ∀ a0 a1 a2 k, LeO (insolvencylaw18_GuaranteeDerivative.f k a0 a1 a2) (insolvencylaw18_GuaranteeDerivative.f (k + 1) a0 a1 a2) := by
 intro a0 a1 a2 k
 obtain ⟨ih0, ih1, ih2⟩ := insolvencylaw18_GuaranteeDerivative.mono_l k
 unfold insolvencylaw18_GuaranteeDerivative.f
 have m0 := @ih0; have m1 := @ih1; have m2 := @ih2; have m3 := @guarantee_Rates.mono; have m4 := @guarantee_Refunds.mono; have m5 := @insolvencylaw0_Amount.mono; have m6 := @insolvencylaw0_Amounts.mono; have m7 := @insolvencylaw0_Ratio.mono; have m8 := @insolvencylaw18_awake.mono; have m9 := @rational_Add.mono; have m10 := @rational_Multiply.mono; exact xM
def insolvencylaw18_GuaranteeDerivative.T2 : Bool × List (List Nat × List Nat) := (true, [([], []), ([], []), ([0, 1], [0, 1]), ([], []), ([], []), ([], []), ([3, 4, 5, 2], [3, 4, 5]), ([2, 6, 0, 1, 2], [2]), ([6, 7, 0, 1, 2, 3, 4, 5, 6, 7], [6])])
def insolvencylaw18_GuaranteeDerivative.B2 : List Nat := [0, 0, 3, 0, 0, 0, 63, 127, 255]
theorem insolvencylaw18_GuaranteeDerivative.tab2 : rtab .any (opsOf Tryd.f7 2) = insolvencylaw18_GuaranteeDerivative.T2 := by kernel_rfl
theorem insolvencylaw18_GuaranteeDerivative.bits2 : waitsOk insolvencylaw18_GuaranteeDerivative.T2.2 insolvencylaw18_GuaranteeDerivative.B2 = true := by kernel_rfl
def insolvencylaw18_GuaranteeDerivative.T12 : Bool × List (List Nat × List Nat) := (true, [([], []), ([], []), ([], []), ([], []), ([2, 3], [2, 3]), ([4], [4]), ([1, 5], [1, 5]), ([0, 6, 6], [0, 6]), ([7, 7, 0, 1, 2, 3, 4, 5, 6, 7], [7])])
def insolvencylaw18_GuaranteeDerivative.B12 : List Nat := [0, 0, 0, 0, 12, 28, 62, 127, 255]
theorem insolvencylaw18_GuaranteeDerivative.tab12 : rtab .any (opsOf Tryd.f7 12) = insolvencylaw18_GuaranteeDerivative.T12 := by kernel_rfl
theorem insolvencylaw18_GuaranteeDerivative.bits12 : waitsOk insolvencylaw18_GuaranteeDerivative.T12.2 insolvencylaw18_GuaranteeDerivative.B12 = true := by kernel_rfl
def insolvencylaw18_GuaranteeDerivative.T21 : Bool × List (List Nat × List Nat) := (true, [([], []), ([], []), ([0, 1], [0, 1]), ([2], [2]), ([], []), ([], []), ([], []), ([5, 6], [5, 6]), ([7], [7]), ([4, 8], [4, 8]), ([3, 9, 9], [3, 9]), ([], []), ([], []), ([11, 12], [11, 12]), ([13], [13]), ([10, 14], [10, 14])])
def insolvencylaw18_GuaranteeDerivative.B21 : List Nat := [0, 0, 3, 7, 0, 0, 0, 96, 224, 496, 1023, 0, 0, 6144, 14336, 32767]
theorem insolvencylaw18_GuaranteeDerivative.tab21 : rtab .any (opsOf Tryd.f7 21) = insolvencylaw18_GuaranteeDerivative.T21 := by kernel_rfl
theorem insolvencylaw18_GuaranteeDerivative.bits21 : waitsOk insolvencylaw18_GuaranteeDerivative.T21.2 insolvencylaw18_GuaranteeDerivative.B21 = true := by kernel_rfl
set_option maxHeartbeats 8000000 in
set_option maxRecDepth 100000 in
theorem insolvencylaw18_GuaranteeDerivative.calls (k : Nat) (a0 : Int) (A1 : Option Addr) (c1 : Nat) (l1 : List Int) (A2 : Option Addr) (c2 : Nat) (l2 : List Int) (r : Bool) (w : World) (hr1 : Kd.C (Kd.int .u16) w A1 l1.length l1) (hc1 : l1.length ≤ c1) (hr2 : Kd.C (Kd.int .u16) w A2 l2.length l2) (hc2 : l2.length ≤ c2) (h : insolvencylaw18_GuaranteeDerivative.f k a0 l1 l2 = some r) :
  Calls Tryd.prog 7 #[.int .u16 a0, .slice A1 l1.length c1, .slice A2 l2.length c2] w fun e w' => e = .returned (.bool r) ∧ Below w.heap.size w w' := by
 have hu25 := Tryd.underlying25
 have HR1 := Aside0.mk hr1
 have HC1 := Aside0.mk hc1
 clear hr1 hc1
 have HR2 := Aside0.mk hr2
 have HC2 := Aside0.mk hc2
 clear hr2 hc2
 have HB := Aside0.mk (Below.refl w.heap.size w)
 have H : ((insolvencylaw0_Amount.f k a0).bind fun bt738 => ((insolvencylaw0_Amounts.f k l1 6).bind fun t741 => ((insolvencylaw0_Amounts.f k l2 6).bind fun t744 => ((guarantee_Refunds.f k bt738.1 bt738.2.1 bt738.2.2 t741).bind fun t748 => ((guarantee_Rates.f k bt738.1 bt738.2.1 bt738.2.2 t741 t744).bind fun t751 => (if (t748.length : Int) = (t741.length : Int) then (insolvencylaw18_GuaranteeDerivative.j0 k t741 t744 t748 t751 ((t751.length : Int) != (t741.length : Int)) bt738.1 bt738.2.1 bt738.2.2) else (insolvencylaw18_GuaranteeDerivative.j0 k t741 t744 t748 t751 true bt738.1 bt738.2.1 bt738.2.2))))))) = some r := h
 clear h
 replace H := xH H; obtain ⟨⟨t738, t739, t740⟩, A4, H⟩ := H
 dsimp only at H
 replace H := xH H; obtain ⟨t741, A5, H⟩ := H
 replace H := xH H; obtain ⟨t744, A6, H⟩ := H
 replace H := xH H; obtain ⟨t748, A7, H⟩ := H
 replace H := xH H; obtain ⟨t751, A8, H⟩ := H
 have HC9 := Aside0.mk H
 clear H
 go_enter Tryd.func7, Tryd.ntmps7
 try go_wp2_with (first | (refine xC Tryd.func10 (some 19) (insolvencylaw0_Amount.calls k a0 t738 t739 t740 _ A4.out) ?_; rintro w10 hb; replace HB := xS HB hb; clear hb) | (refine xg Tryd.func11 (some 21) #[.slice A1 l1.length c1, .int .i64 6] ?_; (with_reducible refine (insolvencylaw0_Amounts.calls k _ _ l1 6 t741 _ (xf (Kd.C_below HR1.out HB.out)) HC1.out A5.out).mono ?_); rintro e w11 ⟨v742, rfl, ho0, hb⟩; refine ⟨_, rfl, ?_⟩; have HO743 := Aside0.mk (Kd.R_lower ho0 (below_size (xs HB))); replace HB := xS HB hb; clear hb ho0) | (refine xg Tryd.func11 (some 23) #[.slice A2 l2.length c2, .int .i64 6] ?_; (with_reducible refine (insolvencylaw0_Amounts.calls k _ _ l2 6 t744 _ (xf (Kd.C_below HR2.out HB.out)) HC2.out A6.out).mono ?_); rintro e w12 ⟨v745, rfl, ho0, hb⟩; refine ⟨_, rfl, ?_⟩; have HO746 := Aside0.mk (Kd.R_lower (Kd.R_new' ho0 (Kd.R_lt (xr HO743.out))) (below_size (xs HB))); replace HO743 := Aside0.mk (Kd.R_elder' (xr HO743.out) (Kd.R_base ho0) hb); replace HB := xS HB hb; clear hb ho0) | ((with_reducible refine gate_dst (N := 7) rfl ?_); (try (refine gate_guard (by rfl) ?_; dsimp only)); refine xE (N := 7) #[.bool false, .string (⟨#[]⟩ : ByteArray), .string (⟨#[]⟩ : ByteArray)] 25 rfl ?_; intro gb747 hg w13 hbox hb; replace HO743 := Aside0.mk (Kd.R_below (Kd.R_elderB (xr HO743.out) gb747 (Nat.le_of_eq hg.symm)) hb); replace HO746 := Aside0.mk (Kd.R_below (Kd.R_elderB (xr HO746.out) gb747 (Nat.le_of_eq hg.symm)) hb); have BK747 := Aside0.mk (hbox); have GW747 := (xG HB hg); have GE747 := (xG HB hg); replace HB := xS HB hb; clear hb hbox hg; obtain ⟨hcz14_0, hcz14_1, hcz14_2, hfz14_0, hfz14_1, hfz14_2⟩ := x6 BK747))
 have n0_ : Aside0 (Kd.R k25 25 (((w13.setCell ⟨gb747, 0, none⟩ (.bool t738)).setCell ⟨gb747, 1, none⟩ (.string t739)).setCell ⟨gb747, 2, none⟩ (.string t740)) w.heap.size (fun k_ => some k_ ≠ (v745 : Value).ownBlock ∧ k_ ≠ gb747) v742 t741) := ⟨by (with_reducible repeat (first | apply Kd.R_alloc | apply Kd.R_drewN | apply Kd.R_drew)); exact Kd.R_mono (Kd.R_far (p := ⟨gb747, 2, none⟩) (Kd.R_far (p := ⟨gb747, 1, none⟩) (Kd.R_far (p := ⟨gb747, 0, none⟩) (Kd.R_mono HO743.out (fun k_ hk => (⟨hk, hk.2⟩ : _ ∧ k_ ≠ gb747))) (fun _ hk => hk.2) (.bool t738)) (fun _ hk => hk.2) (.string t739)) (fun _ hk => hk.2) (.string t740)) (fun _ hk => ⟨hk.1.1.2, hk.1.2⟩)⟩
 have n1_ : Aside0 (Kd.R k25 25 (((w13.setCell ⟨gb747, 0, none⟩ (.bool t738)).setCell ⟨gb747, 1, none⟩ (.string t739)).setCell ⟨gb747, 2, none⟩ (.string t740)) w.heap.size (fun k_ => some k_ ≠ (v742 : Value).ownBlock ∧ k_ ≠ gb747) v745 t744) := ⟨by (with_reducible repeat (first | apply Kd.R_alloc | apply Kd.R_drewN | apply Kd.R_drew)); exact Kd.R_mono (Kd.R_far (p := ⟨gb747, 2, none⟩) (Kd.R_far (p := ⟨gb747, 1, none⟩) (Kd.R_far (p := ⟨gb747, 0, none⟩) (Kd.R_mono HO746.out (fun k_ hk => (⟨hk, hk.2⟩ : _ ∧ k_ ≠ gb747))) (fun _ hk => hk.2) (.bool t738)) (fun _ hk => hk.2) (.string t739)) (fun _ hk => hk.2) (.string t740)) (fun _ hk => ⟨hk.1.1.2, hk.1.2⟩)⟩
 have n2_ : Aside0 ((((w13.setCell ⟨gb747, 0, none⟩ (.bool t738)).setCell ⟨gb747, 1, none⟩ (.string t739)).setCell ⟨gb747, 2, none⟩ (.string t740)).heap[gb747]? = some (.cells #[.bool t738, .string t739, .string t740] 25 (0, 0))) := ⟨xp BK747⟩
 have n3_ : Aside0 (Below w.heap.size w (((w13.setCell ⟨gb747, 0, none⟩ (.bool t738)).setCell ⟨gb747, 1, none⟩ (.string t739)).setCell ⟨gb747, 2, none⟩ (.string t740))) := ⟨xs HB⟩
 (try clear HO743)
 (try clear HO746)
 (try clear BK747)
 (try clear HB)
 generalize (((w13.setCell ⟨gb747, 0, none⟩ (.bool t738)).setCell ⟨gb747, 1, none⟩ (.string t739)).setCell ⟨gb747, 2, none⟩ (.string t740)) = w15 at n0_ n1_ n2_ n3_ ⊢
 have HO743 := n0_
 have HO746 := n1_
 have BK747 := n2_
 have HB := n3_
 clear n0_ n1_ n2_ n3_
 replace HO743 := Aside0.mk (Kd.R_drew HO743.out)
 replace HO746 := Aside0.mk (Kd.R_drew HO746.out)
 replace BK747 := xD BK747
 replace HB := xW HB
 obtain ⟨Ao17, co17, eo17⟩ := Kd.R_slice HO743.out
 (first | subst eo17 | (injection eo17 with f1_ f2_ f3_; have f4_ := f1_.symm; have f5_ := f3_.symm; clear f1_ f2_ f3_; subst f4_; subst f5_))
 refine start_ (n := 9) (S := fun w' => w'.cell? ⟨gb747, 0, none⟩ = some (.bool t738) ∧ w'.cell? ⟨gb747, 1, none⟩ = some (.string t739) ∧ w'.cell? ⟨gb747, 2, none⟩ = some (.string t740)) (ds := []) #[false, false, false, false, false, false, false, false, false] (by kernel_rfl) rfl rfl xV (fun hHeld => ?_); refine with_tabW insolvencylaw18_GuaranteeDerivative.tab2 insolvencylaw18_GuaranteeDerivative.bits2 (fun HT_ HW_ => ?_)
 generalize w15.drew = w16 at HO743 HO746 BK747 HB hHeld ⊢
 refine xP 1 (some 25) (b 9 2) rfl rfl ?_
 refine xP 4 (some 28) (b 9 18) rfl rfl ?_
 refine xP 5 (some 29) (b 9 50) rfl rfl ?_
 refine xT 0 (some 24) (b 9 51) rfl rfl hHeld ?_
 refine xT 3 (some 27) (b 9 59) rfl rfl hHeld ?_
 refine xO 2 (some 26) (b 9 63) rfl rfl fun K hK => ?_
 refine goes_ Tryd.func12 (by kernel_rfl) rfl #[.agg #[.bool t738, .string t739, .string t740], .slice Ao17 t741.length co17] (by rfl) rfl rfl (by (try simp only [List.map_toArray, List.map_cons, List.map_nil]); first | done | rfl | (simp only [List.length_drop, List.length_take]; rfl)) ?_
 with_reducible refine (guarantee_Refunds.calls k t738 t739 t740 _ _ t741 t748 _ ?side1 ?side2 A7.out).mono ?_
 (case side1 => repeat (first | exact (Kd.R_reads' HO743.out).2.2 | (with_reducible refine Kd.C_alloc ?_ _) | (with_reducible refine Kd.C_drewN ?_ _) | (with_reducible refine Kd.C_drew ?_)))
 (case side2 => exact (Kd.R_reads' HO743.out).2.1)
 rintro e w18 ⟨v749, rfl, ho0, hb⟩
 refine ⟨_, rfl, ?_⟩
 have HO750 := Aside0.mk (Kd.R_lower (Kd.R_newB (Kd.R_new' (Kd.R_new' ho0 (Kd.R_lt (xr HO743.out))) (Kd.R_lt (xr HO746.out))) (g := gb747) (o := .cells #[.bool t738, .string t739, .string t740] 25 (0, 0)) (xb BK747)) (below_size (xs HB)))
 replace HO743 := Aside0.mk (Kd.R_elder' (xr HO743.out) (Kd.R_base ho0) hb)
 replace HO746 := Aside0.mk (Kd.R_elder' (xr HO746.out) (Kd.R_base ho0) hb)
 replace BK747 := xB BK747 hb
 replace HB := xS HB hb
 (try clear hb)
 (try clear hb2)
 (try clear hk)
 (try clear hi)
 (try clear ho0)
 obtain ⟨Ao19, co19, eo19⟩ := Kd.R_slice HO746.out
 (first | subst eo19 | (injection eo19 with f1_ f2_ f3_; have f4_ := f1_.symm; have f5_ := f3_.symm; clear f1_ f2_ f3_; subst f4_; subst f5_))
 refine hK.out _ _ xV (fun hHeld => ?_)
 clear hK K
 refine xN 26 ?_
 refine xO 6 (some 30) (b 9 127) rfl rfl fun K hK => ?_
 refine goes_ Tryd.func23 (by kernel_rfl) rfl #[.agg #[.bool t738, .string t739, .string t740], .slice Ao17 t741.length co17, .slice Ao19 t744.length co19] (by rfl) rfl rfl (by (try simp only [List.map_toArray, List.map_cons, List.map_nil]); first | done | rfl | (simp only [List.length_drop, List.length_take]; rfl)) ?_
 with_reducible refine (guarantee_Rates.calls k t738 t739 t740 _ _ t741 _ _ t744 t751 _ ?side1 ?side2 ?side3 ?side4 A8.out).mono ?_
 (case side1 => repeat (first | exact (Kd.R_reads' HO743.out).2.2 | (with_reducible refine Kd.C_alloc ?_ _) | (with_reducible refine Kd.C_drewN ?_ _) | (with_reducible refine Kd.C_drew ?_)))
 (case side2 => exact (Kd.R_reads' HO743.out).2.1)
 (case side3 => repeat (first | exact (Kd.R_reads' HO746.out).2.2 | (with_reducible refine Kd.C_alloc ?_ _) | (with_reducible refine Kd.C_drewN ?_ _) | (with_reducible refine Kd.C_drew ?_)))
 (case side4 => exact (Kd.R_reads' HO746.out).2.1)
 rintro e w20 ⟨v752, rfl, ho0, hb⟩
 refine ⟨_, rfl, ?_⟩
 have HO753 := Aside0.mk (Kd.R_lower (Kd.R_newB (Kd.R_new' (Kd.R_new' (Kd.R_new' ho0 (Kd.R_lt (xr HO743.out))) (Kd.R_lt (xr HO746.out))) (Kd.R_lt (xr HO750.out))) (g := gb747) (o := .cells #[.bool t738, .string t739, .string t740] 25 (0, 0)) (xb BK747)) (below_size (xs HB)))
 replace HO743 := Aside0.mk (Kd.R_elder' (xr HO743.out) (Kd.R_base ho0) hb)
 replace HO746 := Aside0.mk (Kd.R_elder' (xr HO746.out) (Kd.R_base ho0) hb)
 replace HO750 := Aside0.mk (Kd.R_elder' (xr HO750.out) (Kd.R_base ho0) hb)
 replace BK747 := xB BK747 hb
 replace HB := xS HB hb
 (try clear hb)
 (try clear hb2)
 (try clear hk)
 (try clear hi)
 (try clear ho0)
 refine hK.out _ _ xV (fun hHeld => ?_)
 clear hK K
 refine xN 30 ?_
 refine xP 7 (some 10) (b 9 255) rfl rfl ?_
 refine xP 8 (some 11) (b 9 511) rfl rfl ?_
 refine done_ (done_of HT_.out (by kernel_rfl)) ?_
 go_upto_region 3 with (fail)
 repeat (go_quiet (fail); go_upto_region 3 with (fail))
 go_cut [42] (fun v42 wc => ∃ (kq : Nat) (x42_8 : Bool), v42 = .bool x42_8 ∧ Aside0 (insolvencylaw18_GuaranteeDerivative.j0 kq t741 t744 t748 t751 x42_8 t738 t739 t740 = some r) ∧ Aside0 (kq ≤ k) ∧ Aside0 (Kd.R k25 25 wc w.heap.size (fun k_ => some k_ ≠ ((.slice Ao19 t744.length co19) : Value).ownBlock ∧ some k_ ≠ (v749 : Value).ownBlock ∧ some k_ ≠ (v752 : Value).ownBlock ∧ k_ ≠ gb747) (.slice Ao17 t741.length co17) t741) ∧ Aside0 (Kd.R k25 25 wc w.heap.size (fun k_ => some k_ ≠ ((.slice Ao17 t741.length co17) : Value).ownBlock ∧ some k_ ≠ (v749 : Value).ownBlock ∧ some k_ ≠ (v752 : Value).ownBlock ∧ k_ ≠ gb747) (.slice Ao19 t744.length co19) t744) ∧ Aside0 (Kd.R k25 25 wc w.heap.size (fun k_ => some k_ ≠ ((.slice Ao17 t741.length co17) : Value).ownBlock ∧ some k_ ≠ ((.slice Ao19 t744.length co19) : Value).ownBlock ∧ some k_ ≠ (v752 : Value).ownBlock ∧ k_ ≠ gb747) v749 t748) ∧ Aside0 (Kd.R k25 25 wc w.heap.size (fun k_ => some k_ ≠ ((.slice Ao17 t741.length co17) : Value).ownBlock ∧ some k_ ≠ ((.slice Ao19 t744.length co19) : Value).ownBlock ∧ some k_ ≠ (v749 : Value).ownBlock ∧ k_ ≠ gb747) v752 t751) ∧ Aside0 (wc.heap[gb747]? = some (.cells #[.bool t738, .string t739, .string t740] 25 (0, 0))) ∧ Aside0 (Below w.heap.size w wc))
 case first =>
  have H := HC9.out
  clear HC9
  by_cases c21 : (t748.length : Int) = (t741.length : Int)
  ·rw [if_pos c21] at H
   have c21b0 : ((t748.length : Int) == (t741.length : Int)) = true := beq_iff_eq.mpr c21
   have c21b1 : ((t748.length : Int) != (t741.length : Int)) = false := bne_eq_false_iff_eq.mpr c21
   have c21b2 : (t748.length == t741.length) = true := by first | simpa using c21 | (simp at c21 ⊢; omega)
   clear c21
   (first | rw [c21b0] | (simp only [i64_w, i32_w]; rw [c21b0]) | rw [c21b1] | skip)
   have H' := Aside0.mk H
   clear H
   obtain ⟨Ao22, co22, eo22⟩ := Kd.R_slice HO750.out
   subst eo22
   obtain ⟨Ao23, co23, eo23⟩ := Kd.R_slice HO753.out
   subst eo23
   go_wp2
   go_meet
   case rel => exact ⟨_, (((t751.length : Int) != (t741.length : Int))), xz, H', ⟨by first | omega | exact Nat.le_refl _⟩, ⟨by (with_reducible repeat (first | apply Kd.R_alloc | apply Kd.R_drewN | apply Kd.R_drew)); exact Kd.R_mono HO743.out (fun _ hk => by first | exact ⟨hk.1.1.1, ⟨hk.1.2, ⟨hk.2, hk.1.1.2⟩⟩⟩ | (simp only [ob_map] at hk ⊢; first | exact ⟨hk.1.1.1, ⟨hk.1.2, ⟨hk.2, hk.1.1.2⟩⟩⟩ | grind) | grind)⟩, ⟨by (with_reducible repeat (first | apply Kd.R_alloc | apply Kd.R_drewN | apply Kd.R_drew)); exact Kd.R_mono HO746.out (fun _ hk => by first | exact ⟨hk.1.1.1, ⟨hk.1.2, ⟨hk.2, hk.1.1.2⟩⟩⟩ | (simp only [ob_map] at hk ⊢; first | exact ⟨hk.1.1.1, ⟨hk.1.2, ⟨hk.2, hk.1.1.2⟩⟩⟩ | grind) | grind)⟩, ⟨by (with_reducible repeat (first | apply Kd.R_alloc | apply Kd.R_drewN | apply Kd.R_drew)); exact Kd.R_mono HO750.out (fun _ hk => by first | exact ⟨hk.1.1.1.2, ⟨hk.1.1.2, ⟨hk.2, hk.1.2⟩⟩⟩ | (simp only [ob_map] at hk ⊢; first | exact ⟨hk.1.1.1.2, ⟨hk.1.1.2, ⟨hk.2, hk.1.2⟩⟩⟩ | grind) | grind)⟩, ⟨by (with_reducible repeat (first | apply Kd.R_alloc | apply Kd.R_drewN | apply Kd.R_drew)); exact Kd.R_mono HO753.out (fun _ hk => by first | exact ⟨hk.1.1.1.2, ⟨hk.1.1.2, ⟨hk.1.2, hk.2⟩⟩⟩ | (simp only [ob_map] at hk ⊢; first | exact ⟨hk.1.1.1.2, ⟨hk.1.1.2, ⟨hk.1.2, hk.2⟩⟩⟩ | grind) | grind)⟩, ⟨xb BK747⟩, ⟨xs HB⟩⟩
  ·rw [if_neg c21] at H
   have c21b0 : ((t748.length : Int) == (t741.length : Int)) = false := beq_eq_false_iff_ne.mpr c21
   have c21b1 : ((t748.length : Int) != (t741.length : Int)) = true := bne_iff_ne.mpr c21
   have c21b2 : (t748.length == t741.length) = false := by first | simpa using c21 | (simp at c21 ⊢; omega)
   (first | rw [c21b0] | (simp only [i64_w, i32_w]; rw [c21b0]) | rw [c21b1] | skip)
   have H' := Aside0.mk H
   clear H
   obtain ⟨Ao24, co24, eo24⟩ := Kd.R_slice HO750.out
   subst eo24
   go_wp2
   go_meet
   case rel => exact ⟨_, (true), xz, H', ⟨by first | omega | exact Nat.le_refl _⟩, ⟨by (with_reducible repeat (first | apply Kd.R_alloc | apply Kd.R_drewN | apply Kd.R_drew)); exact Kd.R_mono HO743.out (fun _ hk => by first | exact ⟨hk.1.1.1, ⟨hk.1.2, ⟨hk.2, hk.1.1.2⟩⟩⟩ | (simp only [ob_map] at hk ⊢; first | exact ⟨hk.1.1.1, ⟨hk.1.2, ⟨hk.2, hk.1.1.2⟩⟩⟩ | grind) | grind)⟩, ⟨by (with_reducible repeat (first | apply Kd.R_alloc | apply Kd.R_drewN | apply Kd.R_drew)); exact Kd.R_mono HO746.out (fun _ hk => by first | exact ⟨hk.1.1.1, ⟨hk.1.2, ⟨hk.2, hk.1.1.2⟩⟩⟩ | (simp only [ob_map] at hk ⊢; first | exact ⟨hk.1.1.1, ⟨hk.1.2, ⟨hk.2, hk.1.1.2⟩⟩⟩ | grind) | grind)⟩, ⟨by (with_reducible repeat (first | apply Kd.R_alloc | apply Kd.R_drewN | apply Kd.R_drew)); exact Kd.R_mono HO750.out (fun _ hk => by first | exact ⟨hk.1.1.1.2, ⟨hk.1.1.2, ⟨hk.2, hk.1.2⟩⟩⟩ | (simp only [ob_map] at hk ⊢; first | exact ⟨hk.1.1.1.2, ⟨hk.1.1.2, ⟨hk.2, hk.1.2⟩⟩⟩ | grind) | grind)⟩, ⟨by (with_reducible repeat (first | apply Kd.R_alloc | apply Kd.R_drewN | apply Kd.R_drew)); exact Kd.R_mono HO753.out (fun _ hk => by first | exact ⟨hk.1.1.1.2, ⟨hk.1.1.2, ⟨hk.1.2, hk.2⟩⟩⟩ | (simp only [ob_map] at hk ⊢; first | exact ⟨hk.1.1.1.2, ⟨hk.1.1.2, ⟨hk.1.2, hk.2⟩⟩⟩ | grind) | grind)⟩, ⟨xb BK747⟩, ⟨xs HB⟩⟩
 case rest =>
  clear HC9
  try clear c1
  try clear c2
  try clear p2
  try clear c7
  try clear c10
  try clear c11
  try clear c12
  try clear c21
  try clear c21b0
  try clear c21b1
  try clear c21b2
  try clear c23
  try clear hcz14_0
  try clear hcz14_1
  try clear hcz14_2
  try clear hfz14_0
  try clear hfz14_1
  try clear hfz14_2
  obtain ⟨kq, x42_8, rfl, HA, HJ8, HO_8, HO_9, HO_10, HO_11, BK747, HB⟩ := hcut
  cases kq with
  | zero => exact absurd HA.out (by simp [insolvencylaw18_GuaranteeDerivative.j0])
  | succ kj8 =>
   have H := HA.out
   clear HA
   simp only [insolvencylaw18_GuaranteeDerivative.j0] at H
   by_cases c25 : x42_8 = true
   ·subst c25
    replace H := xI H
    obtain rfl := Option.some.inj H
    go_wp2
    go_ret
    exact ⟨xy, xs HB⟩
   ·replace c25 := Bool.eq_false_iff.mpr c25
    subst c25
    have H1 : ((insolvencylaw0_Ratio.f kj8 1 1048576).bind fun bt754 => (insolvencylaw18_GuaranteeDerivative.l0 kj8 t741 t744 t748 t751 ([] : List (S25)) (t741.length : Int) 0 t738 t739 t740 bt754.1 bt754.2.1 bt754.2.2)) = some r := by rw [if_neg (show ¬ (false = true) by decide)] at H; exact H
    clear H
    have H := H1
    clear H1
    replace H := xH H; obtain ⟨⟨t754, t755, t756⟩, A26, H⟩ := H
    dsimp only at H
    have H' := Aside0.mk H
    clear H
    go_wp2_with (first | (refine xC Tryd.func25 (some 43) (insolvencylaw0_Ratio.calls kj8 1 1048576 t754 t755 t756 _ A26.out) ?_; rintro w27 hb; replace HO_8 := Aside0.mk (Kd.R_below (xr HO_8.out) hb); replace HO_9 := Aside0.mk (Kd.R_below (xr HO_9.out) hb); replace HO_10 := Aside0.mk (Kd.R_below (xr HO_10.out) hb); replace HO_11 := Aside0.mk (Kd.R_below (xr HO_11.out) hb); replace BK747 := xB BK747 hb; replace HB := xS HB hb; clear hb) | ((with_reducible refine gate_dst (N := 12) rfl ?_); (try (refine gate_guard (by rfl) ?_; dsimp only)); refine xE (N := 12) #[.bool false, .string (⟨#[]⟩ : ByteArray), .string (⟨#[]⟩ : ByteArray)] 25 rfl ?_; intro gb757 hg w28 hbox hb; replace HO_8 := Aside0.mk (Kd.R_below (Kd.R_elderB (xr HO_8.out) gb757 (Nat.le_of_eq hg.symm)) hb); replace HO_9 := Aside0.mk (Kd.R_below (Kd.R_elderB (xr HO_9.out) gb757 (Nat.le_of_eq hg.symm)) hb); replace HO_10 := Aside0.mk (Kd.R_below (Kd.R_elderB (xr HO_10.out) gb757 (Nat.le_of_eq hg.symm)) hb); replace HO_11 := Aside0.mk (Kd.R_below (Kd.R_elderB (xr HO_11.out) gb757 (Nat.le_of_eq hg.symm)) hb); have BK757 := Aside0.mk (hbox); have GW757 := (xG HB hg); have GE757 := (xG HB hg); replace HB := xS HB hb; have NB747_757 := xL BK747 hg; have NB757_747 := xR BK747 hg; replace BK747 := xB BK747 hb; clear hb hbox hg; have hnb29 := NB757_747.out; have hnc29 := NB747_757.out; obtain ⟨hcz30_0, hcz30_1, hcz30_2, hfz30_0, hfz30_1, hfz30_2⟩ := x6 BK757))
    go_loopg [13, 46] kj8 (fun kq v13 v46 w' => ∃ (x13_2 : List (S25)) (x46_2 : Int), v46 = .int .i64 x46_2 ∧ Aside0 (insolvencylaw18_GuaranteeDerivative.l0 kq t741 t744 t748 t751 x13_2 (t741.length : Int) x46_2 t738 t739 t740 t754 t755 t756 = some r) ∧ Aside0 (kq ≤ kj8) ∧ Aside0 (Kd.R k25 25 w' w.heap.size (fun k_ => some k_ ≠ ((.slice Ao19 t744.length co19) : Value).ownBlock ∧ some k_ ≠ (v749 : Value).ownBlock ∧ some k_ ≠ (v752 : Value).ownBlock ∧ some k_ ≠ (v13 : Value).ownBlock ∧ k_ ≠ gb747 ∧ k_ ≠ gb757) (.slice Ao17 t741.length co17) t741) ∧ Aside0 (Kd.R k25 25 w' w.heap.size (fun k_ => some k_ ≠ ((.slice Ao17 t741.length co17) : Value).ownBlock ∧ some k_ ≠ (v749 : Value).ownBlock ∧ some k_ ≠ (v752 : Value).ownBlock ∧ some k_ ≠ (v13 : Value).ownBlock ∧ k_ ≠ gb747 ∧ k_ ≠ gb757) (.slice Ao19 t744.length co19) t744) ∧ Aside0 (Kd.R k25 25 w' w.heap.size (fun k_ => some k_ ≠ ((.slice Ao17 t741.length co17) : Value).ownBlock ∧ some k_ ≠ ((.slice Ao19 t744.length co19) : Value).ownBlock ∧ some k_ ≠ (v752 : Value).ownBlock ∧ some k_ ≠ (v13 : Value).ownBlock ∧ k_ ≠ gb747 ∧ k_ ≠ gb757) v749 t748) ∧ Aside0 (Kd.R k25 25 w' w.heap.size (fun k_ => some k_ ≠ ((.slice Ao17 t741.length co17) : Value).ownBlock ∧ some k_ ≠ ((.slice Ao19 t744.length co19) : Value).ownBlock ∧ some k_ ≠ (v749 : Value).ownBlock ∧ some k_ ≠ (v13 : Value).ownBlock ∧ k_ ≠ gb747 ∧ k_ ≠ gb757) v752 t751) ∧ Aside0 (Kd.R k25 25 w' w.heap.size (fun k_ => some k_ ≠ ((.slice Ao17 t741.length co17) : Value).ownBlock ∧ some k_ ≠ ((.slice Ao19 t744.length co19) : Value).ownBlock ∧ some k_ ≠ (v749 : Value).ownBlock ∧ some k_ ≠ (v752 : Value).ownBlock ∧ k_ ≠ gb747 ∧ k_ ≠ gb757) v13 x13_2) ∧ Aside0 (w'.heap[gb747]? = some (.cells #[.bool t738, .string t739, .string t740] 25 (0, 0))) ∧ Aside0 (w'.heap[gb757]? = some (.cells #[.bool t754, .string t755, .string t756] 25 (0, 0))) ∧ Aside0 (Below w.heap.size w w'))
    case atStart => exact ⟨(([] : List (S25))), (0), xz, H', ⟨Nat.le_refl _⟩, ⟨by (with_reducible repeat (first | apply Kd.R_alloc | apply Kd.R_drewN | apply Kd.R_drew)); exact Kd.R_mono (Kd.R_far (p := ⟨gb757, 2, none⟩) (Kd.R_far (p := ⟨gb757, 1, none⟩) (Kd.R_far (p := ⟨gb757, 0, none⟩) (Kd.R_mono HO_8.out (fun k_ hk => (⟨hk, hk.2⟩ : _ ∧ k_ ≠ gb757))) (fun _ hk => hk.2) (.bool t754)) (fun _ hk => hk.2) (.string t755)) (fun _ hk => hk.2) (.string t756)) (fun _ hk => ⟨hk.1.1.1, ⟨hk.1.1.2.1, ⟨hk.1.1.2.2.1, ⟨(by simp [Value.ownBlock]), ⟨hk.1.1.2.2.2, hk.1.2⟩⟩⟩⟩⟩)⟩, ⟨by (with_reducible repeat (first | apply Kd.R_alloc | apply Kd.R_drewN | apply Kd.R_drew)); exact Kd.R_mono (Kd.R_far (p := ⟨gb757, 2, none⟩) (Kd.R_far (p := ⟨gb757, 1, none⟩) (Kd.R_far (p := ⟨gb757, 0, none⟩) (Kd.R_mono HO_9.out (fun k_ hk => (⟨hk, hk.2⟩ : _ ∧ k_ ≠ gb757))) (fun _ hk => hk.2) (.bool t754)) (fun _ hk => hk.2) (.string t755)) (fun _ hk => hk.2) (.string t756)) (fun _ hk => ⟨hk.1.1.1, ⟨hk.1.1.2.1, ⟨hk.1.1.2.2.1, ⟨(by simp [Value.ownBlock]), ⟨hk.1.1.2.2.2, hk.1.2⟩⟩⟩⟩⟩)⟩, ⟨by (with_reducible repeat (first | apply Kd.R_alloc | apply Kd.R_drewN | apply Kd.R_drew)); exact Kd.R_mono (Kd.R_far (p := ⟨gb757, 2, none⟩) (Kd.R_far (p := ⟨gb757, 1, none⟩) (Kd.R_far (p := ⟨gb757, 0, none⟩) (Kd.R_mono HO_10.out (fun k_ hk => (⟨hk, hk.2⟩ : _ ∧ k_ ≠ gb757))) (fun _ hk => hk.2) (.bool t754)) (fun _ hk => hk.2) (.string t755)) (fun _ hk => hk.2) (.string t756)) (fun _ hk => ⟨hk.1.1.1, ⟨hk.1.1.2.1, ⟨hk.1.1.2.2.1, ⟨(by simp [Value.ownBlock]), ⟨hk.1.1.2.2.2, hk.1.2⟩⟩⟩⟩⟩)⟩, ⟨by (with_reducible repeat (first | apply Kd.R_alloc | apply Kd.R_drewN | apply Kd.R_drew)); exact Kd.R_mono (Kd.R_far (p := ⟨gb757, 2, none⟩) (Kd.R_far (p := ⟨gb757, 1, none⟩) (Kd.R_far (p := ⟨gb757, 0, none⟩) (Kd.R_mono HO_11.out (fun k_ hk => (⟨hk, hk.2⟩ : _ ∧ k_ ≠ gb757))) (fun _ hk => hk.2) (.bool t754)) (fun _ hk => hk.2) (.string t755)) (fun _ hk => hk.2) (.string t756)) (fun _ hk => ⟨hk.1.1.1, ⟨hk.1.1.2.1, ⟨hk.1.1.2.2.1, ⟨(by simp [Value.ownBlock]), ⟨hk.1.1.2.2.2, hk.1.2⟩⟩⟩⟩⟩)⟩, ⟨by first | exact Kd.R_nil _ _ _ _ _ | exact Kd.N_nil _ _ _ _ _ | exact Kd.V_nil _ _ _ _ _ | exact Kd.Q_nil _ _ _ _ _ | exact Kd.S_nil _ _ _ _ _⟩, ⟨xb BK747⟩, ⟨by (with_reducible repeat (first | refine blk_drewN ?_ _ | refine blk_drew ?_ | refine blk_alloc ?_ _)); refine blk_put (cs := #[.bool t754, .string t755, .string (⟨#[]⟩ : ByteArray)]) ?_ 2 _ (by first | rfl | simp [ne_nil_b]); (with_reducible repeat (first | refine blk_drewN ?_ _ | refine blk_drew ?_ | refine blk_alloc ?_ _)); refine blk_put (cs := #[.bool t754, .string (⟨#[]⟩ : ByteArray), .string (⟨#[]⟩ : ByteArray)]) ?_ 1 _ (by first | rfl | simp [ne_nil_b]); (with_reducible repeat (first | refine blk_drewN ?_ _ | refine blk_drew ?_ | refine blk_alloc ?_ _)); refine blk_put (cs := #[.bool false, .string (⟨#[]⟩ : ByteArray), .string (⟨#[]⟩ : ByteArray)]) ?_ 0 _ (by first | rfl | simp [ne_nil_b]); (with_reducible repeat (first | refine blk_drewN ?_ _ | refine blk_drew ?_ | refine blk_alloc ?_ _)); exact BK757.out⟩, ⟨xs HB⟩⟩
    case round =>
     clear H'
     try clear c1
     try clear c2
     try clear p2
     try clear c7
     try clear c10
     try clear c11
     try clear c12
     try clear c21
     try clear c21b0
     try clear c21b1
     try clear c21b2
     try clear c23
     try clear c25
     try clear c29
     try clear hcz14_0
     try clear hcz14_1
     try clear hcz14_2
     try clear hcz30_0
     try clear hcz30_1
     try clear hcz30_2
     try clear hfz14_0
     try clear hfz14_1
     try clear hfz14_2
     try clear hfz30_0
     try clear hfz30_1
     try clear hfz30_2
     try clear p2
     obtain ⟨x13_2, x46_2, rfl, HA, HK2, HO_8, HO_9, HO_10, HO_11, HO_13, BK747, BK757, HB⟩ := hrel
     cases gk with
     | zero => exact absurd HA.out (by simp [insolvencylaw18_GuaranteeDerivative.l0])
     | succ k2 =>
      have H := HA.out
      clear HA
      simp only [insolvencylaw18_GuaranteeDerivative.l0] at H
      by_cases c31 : x46_2 < (t741.length : Int)
      ·rw [if_pos c31] at H
       have c31b0 : decide (x46_2 < (t741.length : Int)) = true := decide_eq_true c31
       clear c31
       by_cases c32 : 0 ≤ x46_2
       rotate_left
       ·rw [if_neg c32] at H
        exact absurd H (by simp)
       rw [if_pos c32] at H
       have c32b0 : decide (0 ≤ x46_2) = true := decide_eq_true c32
       clear c32
       by_cases c33 : x46_2 < (t741.length : Int)
       rotate_left
       ·rw [if_neg c33] at H
        exact absurd H (by simp)
       rw [if_pos c33] at H
       have c33b0 : decide (x46_2 < (t741.length : Int)) = true := decide_eq_true c33
       clear c33
       by_cases c34 : x46_2 < (t744.length : Int)
       ·rw [if_pos c34] at H
        have c34b0 : decide (x46_2 < (t744.length : Int)) = true := decide_eq_true c34
        clear c34
        replace H := xH H; obtain ⟨⟨t761, t762, t763⟩, A35, H⟩ := H
        dsimp only at H
        replace H := xH H; obtain ⟨⟨t764, t765, t766⟩, A36, H⟩ := H
        dsimp only at H
        by_cases c37 : x13_2.length < 3518437208883
        rotate_left
        ·rw [if_neg c37] at H
         exact absurd H (by simp)
        rw [if_pos c37] at H
        have LMc37 := Aside0.mk c37
        clear c37
        obtain ⟨y767, hy767⟩ : ∃ y_ : List (S25), y_ = (x13_2 ++ [(⟨t764, t765, t766⟩ : S25)]) := ⟨_, rfl⟩
        replace H : (insolvencylaw18_GuaranteeDerivative.l0 k2 t741 t744 t748 t751 y767 (t741.length : Int) (wrap64 (x46_2 + 1)) t738 t739 t740 t754 t755 t756) = some r := by first | (rw [hy767]; with_reducible exact H) | (have H2_ := (Option.bind_some _ _).symm.trans H; rw [hy767]; with_reducible exact H2_) | (have H2_ := (Option.bind_some _ _).symm.trans H; with_reducible exact H2_) | with_reducible exact H | (rw [hy767]; exact H) | exact H
        have Ny767 := Aside0.mk hy767
        clear hy767
        have H' := Aside0.mk H
        clear H
        have p758 : 0 ≤ (x46_2 : Int) := xa
        have q758 : x46_2 < (t741.length : Int) := xa
        obtain ⟨ad758, e758, hx758_0, hx758_1, hx758_2⟩ := at_T25 (Kd.R_reads' HO_8.out).2.2 x46_2 p758 q758
        cases e758
        replace p758 := eq_true p758
        replace q758 := eq_true q758
        try go_wp2_with (first | ((with_reducible refine gate_dst (N := 15) rfl ?_); (try (refine gate_guard (by rfl) ?_; dsimp only)); refine xE (N := 15) #[.bool false, .string (⟨#[]⟩ : ByteArray), .string (⟨#[]⟩ : ByteArray)] 25 rfl ?_; intro gb759 hg w38 hbox hb; replace HO_8 := Aside0.mk (Kd.R_below (Kd.R_elderB (xr HO_8.out) gb759 (Nat.le_of_eq hg.symm)) hb); replace HO_9 := Aside0.mk (Kd.R_below (Kd.R_elderB (xr HO_9.out) gb759 (Nat.le_of_eq hg.symm)) hb); replace HO_10 := Aside0.mk (Kd.R_below (Kd.R_elderB (xr HO_10.out) gb759 (Nat.le_of_eq hg.symm)) hb); replace HO_11 := Aside0.mk (Kd.R_below (Kd.R_elderB (xr HO_11.out) gb759 (Nat.le_of_eq hg.symm)) hb); replace HO_13 := Aside0.mk (Kd.R_below (Kd.R_elderB (xr HO_13.out) gb759 (Nat.le_of_eq hg.symm)) hb); have BK759 := Aside0.mk (hbox); have GW759 := (xG HB hg); have GE759 := (xG HB hg); replace HB := xS HB hb; have NB747_759 := xL BK747 hg; have NB759_747 := xR BK747 hg; replace BK747 := xB BK747 hb; have NB757_759 := xL BK757 hg; have NB759_757 := xR BK757 hg; replace BK757 := xB BK757 hb; clear hb hbox hg; have hnb39 := NB759_747.out; have hnc39 := NB747_759.out; have hnb40 := NB759_757.out; have hnc40 := NB757_759.out; obtain ⟨hcz41_0, hcz41_1, hcz41_2, hfz41_0, hfz41_1, hfz41_2⟩ := x6 BK759))
        have n0_ : Aside0 (Kd.R k25 25 (((w38.setCell ⟨gb759, 0, none⟩ (.bool ((rd_T25 t741 x46_2).f0))).setCell ⟨gb759, 1, none⟩ (.string ((rd_T25 t741 x46_2).f1))).setCell ⟨gb759, 2, none⟩ (.string ((rd_T25 t741 x46_2).f2))) w.heap.size (fun k_ => some k_ ≠ (.slice Ao19 t744.length co19 : Value).ownBlock ∧ some k_ ≠ (v749 : Value).ownBlock ∧ some k_ ≠ (v752 : Value).ownBlock ∧ some k_ ≠ (u13 : Value).ownBlock ∧ k_ ≠ gb747 ∧ k_ ≠ gb757 ∧ k_ ≠ gb759) (.slice (some ad758) t741.length co17) t741) := ⟨by (with_reducible repeat (first | apply Kd.R_alloc | apply Kd.R_drewN | apply Kd.R_drew)); exact Kd.R_mono (Kd.R_far (p := ⟨gb759, 2, none⟩) (Kd.R_far (p := ⟨gb759, 1, none⟩) (Kd.R_far (p := ⟨gb759, 0, none⟩) (Kd.R_mono HO_8.out (fun k_ hk => (⟨hk, hk.2⟩ : _ ∧ k_ ≠ gb759))) (fun _ hk => hk.2) (.bool ((rd_T25 t741 x46_2).f0))) (fun _ hk => hk.2) (.string ((rd_T25 t741 x46_2).f1))) (fun _ hk => hk.2) (.string ((rd_T25 t741 x46_2).f2))) (fun _ hk => ⟨hk.1.1.1, ⟨hk.1.1.2.1, ⟨hk.1.1.2.2.1, ⟨hk.1.1.2.2.2.1, ⟨hk.1.1.2.2.2.2.1, ⟨hk.1.1.2.2.2.2.2, hk.1.2⟩⟩⟩⟩⟩⟩)⟩
        have n1_ : Aside0 (Kd.R k25 25 (((w38.setCell ⟨gb759, 0, none⟩ (.bool ((rd_T25 t741 x46_2).f0))).setCell ⟨gb759, 1, none⟩ (.string ((rd_T25 t741 x46_2).f1))).setCell ⟨gb759, 2, none⟩ (.string ((rd_T25 t741 x46_2).f2))) w.heap.size (fun k_ => some k_ ≠ (.slice (some ad758) t741.length co17 : Value).ownBlock ∧ some k_ ≠ (v749 : Value).ownBlock ∧ some k_ ≠ (v752 : Value).ownBlock ∧ some k_ ≠ (u13 : Value).ownBlock ∧ k_ ≠ gb747 ∧ k_ ≠ gb757 ∧ k_ ≠ gb759) (.slice Ao19 t744.length co19) t744) := ⟨by (with_reducible repeat (first | apply Kd.R_alloc | apply Kd.R_drewN | apply Kd.R_drew)); exact Kd.R_mono (Kd.R_far (p := ⟨gb759, 2, none⟩) (Kd.R_far (p := ⟨gb759, 1, none⟩) (Kd.R_far (p := ⟨gb759, 0, none⟩) (Kd.R_mono HO_9.out (fun k_ hk => (⟨hk, hk.2⟩ : _ ∧ k_ ≠ gb759))) (fun _ hk => hk.2) (.bool ((rd_T25 t741 x46_2).f0))) (fun _ hk => hk.2) (.string ((rd_T25 t741 x46_2).f1))) (fun _ hk => hk.2) (.string ((rd_T25 t741 x46_2).f2))) (fun _ hk => ⟨hk.1.1.1, ⟨hk.1.1.2.1, ⟨hk.1.1.2.2.1, ⟨hk.1.1.2.2.2.1, ⟨hk.1.1.2.2.2.2.1, ⟨hk.1.1.2.2.2.2.2, hk.1.2⟩⟩⟩⟩⟩⟩)⟩
        have n2_ : Aside0 (Kd.R k25 25 (((w38.setCell ⟨gb759, 0, none⟩ (.bool ((rd_T25 t741 x46_2).f0))).setCell ⟨gb759, 1, none⟩ (.string ((rd_T25 t741 x46_2).f1))).setCell ⟨gb759, 2, none⟩ (.string ((rd_T25 t741 x46_2).f2))) w.heap.size (fun k_ => some k_ ≠ (.slice (some ad758) t741.length co17 : Value).ownBlock ∧ some k_ ≠ (.slice Ao19 t744.length co19 : Value).ownBlock ∧ some k_ ≠ (v752 : Value).ownBlock ∧ some k_ ≠ (u13 : Value).ownBlock ∧ k_ ≠ gb747 ∧ k_ ≠ gb757 ∧ k_ ≠ gb759) v749 t748) := ⟨by (with_reducible repeat (first | apply Kd.R_alloc | apply Kd.R_drewN | apply Kd.R_drew)); exact Kd.R_mono (Kd.R_far (p := ⟨gb759, 2, none⟩) (Kd.R_far (p := ⟨gb759, 1, none⟩) (Kd.R_far (p := ⟨gb759, 0, none⟩) (Kd.R_mono HO_10.out (fun k_ hk => (⟨hk, hk.2⟩ : _ ∧ k_ ≠ gb759))) (fun _ hk => hk.2) (.bool ((rd_T25 t741 x46_2).f0))) (fun _ hk => hk.2) (.string ((rd_T25 t741 x46_2).f1))) (fun _ hk => hk.2) (.string ((rd_T25 t741 x46_2).f2))) (fun _ hk => ⟨hk.1.1.1, ⟨hk.1.1.2.1, ⟨hk.1.1.2.2.1, ⟨hk.1.1.2.2.2.1, ⟨hk.1.1.2.2.2.2.1, ⟨hk.1.1.2.2.2.2.2, hk.1.2⟩⟩⟩⟩⟩⟩)⟩
        have n3_ : Aside0 (Kd.R k25 25 (((w38.setCell ⟨gb759, 0, none⟩ (.bool ((rd_T25 t741 x46_2).f0))).setCell ⟨gb759, 1, none⟩ (.string ((rd_T25 t741 x46_2).f1))).setCell ⟨gb759, 2, none⟩ (.string ((rd_T25 t741 x46_2).f2))) w.heap.size (fun k_ => some k_ ≠ (.slice (some ad758) t741.length co17 : Value).ownBlock ∧ some k_ ≠ (.slice Ao19 t744.length co19 : Value).ownBlock ∧ some k_ ≠ (v749 : Value).ownBlock ∧ some k_ ≠ (u13 : Value).ownBlock ∧ k_ ≠ gb747 ∧ k_ ≠ gb757 ∧ k_ ≠ gb759) v752 t751) := ⟨by (with_reducible repeat (first | apply Kd.R_alloc | apply Kd.R_drewN | apply Kd.R_drew)); exact Kd.R_mono (Kd.R_far (p := ⟨gb759, 2, none⟩) (Kd.R_far (p := ⟨gb759, 1, none⟩) (Kd.R_far (p := ⟨gb759, 0, none⟩) (Kd.R_mono HO_11.out (fun k_ hk => (⟨hk, hk.2⟩ : _ ∧ k_ ≠ gb759))) (fun _ hk => hk.2) (.bool ((rd_T25 t741 x46_2).f0))) (fun _ hk => hk.2) (.string ((rd_T25 t741 x46_2).f1))) (fun _ hk => hk.2) (.string ((rd_T25 t741 x46_2).f2))) (fun _ hk => ⟨hk.1.1.1, ⟨hk.1.1.2.1, ⟨hk.1.1.2.2.1, ⟨hk.1.1.2.2.2.1, ⟨hk.1.1.2.2.2.2.1, ⟨hk.1.1.2.2.2.2.2, hk.1.2⟩⟩⟩⟩⟩⟩)⟩
        have n4_ : Aside0 (Kd.R k25 25 (((w38.setCell ⟨gb759, 0, none⟩ (.bool ((rd_T25 t741 x46_2).f0))).setCell ⟨gb759, 1, none⟩ (.string ((rd_T25 t741 x46_2).f1))).setCell ⟨gb759, 2, none⟩ (.string ((rd_T25 t741 x46_2).f2))) w.heap.size (fun k_ => some k_ ≠ (.slice (some ad758) t741.length co17 : Value).ownBlock ∧ some k_ ≠ (.slice Ao19 t744.length co19 : Value).ownBlock ∧ some k_ ≠ (v749 : Value).ownBlock ∧ some k_ ≠ (v752 : Value).ownBlock ∧ k_ ≠ gb747 ∧ k_ ≠ gb757 ∧ k_ ≠ gb759) u13 x13_2) := ⟨by (with_reducible repeat (first | apply Kd.R_alloc | apply Kd.R_drewN | apply Kd.R_drew)); exact Kd.R_mono (Kd.R_far (p := ⟨gb759, 2, none⟩) (Kd.R_far (p := ⟨gb759, 1, none⟩) (Kd.R_far (p := ⟨gb759, 0, none⟩) (Kd.R_mono HO_13.out (fun k_ hk => (⟨hk, hk.2⟩ : _ ∧ k_ ≠ gb759))) (fun _ hk => hk.2) (.bool ((rd_T25 t741 x46_2).f0))) (fun _ hk => hk.2) (.string ((rd_T25 t741 x46_2).f1))) (fun _ hk => hk.2) (.string ((rd_T25 t741 x46_2).f2))) (fun _ hk => ⟨hk.1.1.1, ⟨hk.1.1.2.1, ⟨hk.1.1.2.2.1, ⟨hk.1.1.2.2.2.1, ⟨hk.1.1.2.2.2.2.1, ⟨hk.1.1.2.2.2.2.2, hk.1.2⟩⟩⟩⟩⟩⟩)⟩
        have n5_ : Aside0 ((((w38.setCell ⟨gb759, 0, none⟩ (.bool ((rd_T25 t741 x46_2).f0))).setCell ⟨gb759, 1, none⟩ (.string ((rd_T25 t741 x46_2).f1))).setCell ⟨gb759, 2, none⟩ (.string ((rd_T25 t741 x46_2).f2))).heap[gb747]? = some (.cells #[.bool t738, .string t739, .string t740] 25 (0, 0))) := ⟨xb BK747⟩
        have n6_ : Aside0 ((((w38.setCell ⟨gb759, 0, none⟩ (.bool ((rd_T25 t741 x46_2).f0))).setCell ⟨gb759, 1, none⟩ (.string ((rd_T25 t741 x46_2).f1))).setCell ⟨gb759, 2, none⟩ (.string ((rd_T25 t741 x46_2).f2))).heap[gb757]? = some (.cells #[.bool t754, .string t755, .string t756] 25 (0, 0))) := ⟨xb BK757⟩
        have n7_ : Aside0 ((((w38.setCell ⟨gb759, 0, none⟩ (.bool ((rd_T25 t741 x46_2).f0))).setCell ⟨gb759, 1, none⟩ (.string ((rd_T25 t741 x46_2).f1))).setCell ⟨gb759, 2, none⟩ (.string ((rd_T25 t741 x46_2).f2))).heap[gb759]? = some (.cells #[.bool ((rd_T25 t741 x46_2).f0), .string ((rd_T25 t741 x46_2).f1), .string ((rd_T25 t741 x46_2).f2)] 25 (0, 0))) := ⟨xp BK759⟩
        have n8_ : Aside0 (Below w.heap.size w (((w38.setCell ⟨gb759, 0, none⟩ (.bool ((rd_T25 t741 x46_2).f0))).setCell ⟨gb759, 1, none⟩ (.string ((rd_T25 t741 x46_2).f1))).setCell ⟨gb759, 2, none⟩ (.string ((rd_T25 t741 x46_2).f2)))) := ⟨xs HB⟩
        (try clear HO_8)
        (try clear HO_9)
        (try clear HO_10)
        (try clear HO_11)
        (try clear HO_13)
        (try clear BK747)
        (try clear BK757)
        (try clear BK759)
        (try clear HB)
        generalize (((w38.setCell ⟨gb759, 0, none⟩ (.bool ((rd_T25 t741 x46_2).f0))).setCell ⟨gb759, 1, none⟩ (.string ((rd_T25 t741 x46_2).f1))).setCell ⟨gb759, 2, none⟩ (.string ((rd_T25 t741 x46_2).f2))) = w42 at n0_ n1_ n2_ n3_ n4_ n5_ n6_ n7_ n8_ ⊢
        have HO_8 := n0_
        have HO_9 := n1_
        have HO_10 := n2_
        have HO_11 := n3_
        have HO_13 := n4_
        have BK747 := n5_
        have BK757 := n6_
        have BK759 := n7_
        have HB := n8_
        clear n0_ n1_ n2_ n3_ n4_ n5_ n6_ n7_ n8_
        replace HO_8 := Aside0.mk (Kd.R_drew HO_8.out)
        replace HO_9 := Aside0.mk (Kd.R_drew HO_9.out)
        replace HO_10 := Aside0.mk (Kd.R_drew HO_10.out)
        replace HO_11 := Aside0.mk (Kd.R_drew HO_11.out)
        replace HO_13 := Aside0.mk (Kd.R_drew HO_13.out)
        replace BK747 := xD BK747
        replace BK757 := xD BK757
        replace BK759 := xD BK759
        replace HB := xW HB
        have p760 : 0 ≤ (x46_2 : Int) := xa
        have q760 : x46_2 < (t744.length : Int) := xa
        obtain ⟨ad760, e760, hx760_0, hx760_1, hx760_2⟩ := at_T25 (Kd.R_reads' HO_9.out).2.2 x46_2 p760 q760
        cases e760
        replace p760 := eq_true p760
        replace q760 := eq_true q760
        refine start_ (n := 9) (S := fun w' => w'.cell? ⟨gb759, 0, none⟩ = some (.bool ((rd_T25 t741 x46_2).f0)) ∧ w'.cell? ⟨gb759, 1, none⟩ = some (.string ((rd_T25 t741 x46_2).f1)) ∧ w'.cell? ⟨gb759, 2, none⟩ = some (.string ((rd_T25 t741 x46_2).f2)) ∧ w'.cell? ⟨gb757, 0, none⟩ = some (.bool t754) ∧ w'.cell? ⟨gb757, 1, none⟩ = some (.string t755) ∧ w'.cell? ⟨gb757, 2, none⟩ = some (.string t756) ∧ w'.cell? (ad760.add ((x46_2).toNat * 3)) = some (.bool ((rd_T25 t744 x46_2).f0)) ∧ w'.cell? ⟨(ad760.add ((x46_2).toNat * 3)).block, (ad760.add ((x46_2).toNat * 3)).off + 1, none⟩ = some (.string ((rd_T25 t744 x46_2).f1)) ∧ w'.cell? ⟨(ad760.add ((x46_2).toNat * 3)).block, (ad760.add ((x46_2).toNat * 3)).off + 2, none⟩ = some (.string ((rd_T25 t744 x46_2).f2))) (ds := [8]) #[false, false, false, false, false, false, false, false, false] (by kernel_rfl) rfl rfl ⟨(blk_cell BK759.out 0).trans rfl, (blk_cell BK759.out 1).trans rfl, (blk_cell BK759.out 2).trans rfl, (blk_cell BK757.out 0).trans rfl, (blk_cell BK757.out 1).trans rfl, (blk_cell BK757.out 2).trans rfl, hx760_0, hx760_1, hx760_2⟩ (fun hHeld => ?_); refine with_tabW insolvencylaw18_GuaranteeDerivative.tab12 insolvencylaw18_GuaranteeDerivative.bits12 (fun HT_ HW_ => ?_)
        generalize w42.drew = w43 at HO_8 HO_9 HO_10 HO_11 HO_13 BK747 BK757 BK759 HB hx760_0 hx760_1 hx760_2 hHeld ⊢
        refine xP 2 (some 59) (b 9 4) rfl rfl ?_
        refine xP 3 (some 60) (b 9 12) rfl rfl ?_
        refine xP 4 (some 61) (b 9 28) rfl rfl ?_
        refine xT 0 (some 57) (b 9 29) rfl rfl hHeld ?_
        refine xT 1 (some 58) (b 9 31) rfl rfl hHeld ?_
        refine xT 5 (some 62) (b 9 63) rfl rfl hHeld ?_
        refine xO 6 (some 63) (b 9 127) rfl rfl fun K hK => ?_
        refine goes_ Tryd.func26 (by kernel_rfl) rfl #[.agg #[.bool t754, .string t755, .string t756], .agg #[.bool ((rd_T25 t744 x46_2).f0), .string ((rd_T25 t744 x46_2).f1), .string ((rd_T25 t744 x46_2).f2)]] (by rfl) rfl rfl (by (try simp only [List.map_toArray, List.map_cons, List.map_nil]); first | done | rfl | (simp only [List.length_drop, List.length_take]; rfl)) ?_
        with_reducible refine (rational_Multiply.calls k2 t754 t755 t756 ((rd_T25 t744 x46_2).f0) ((rd_T25 t744 x46_2).f1) ((rd_T25 t744 x46_2).f2) t761 t762 t763 _ A35.out).mono ?_
        rintro e w44 ⟨rfl, hb⟩
        have HS6_ := (hb.cell (World.block_lt_of_cell? _ _ (hHeld.2.2.2.2.2.2.1))).trans (hHeld.2.2.2.2.2.2.1)
        have HS7_ := (hb.cell (World.block_lt_of_cell? _ _ (hHeld.2.2.2.2.2.2.2.1))).trans (hHeld.2.2.2.2.2.2.2.1)
        have HS8_ := (hb.cell (World.block_lt_of_cell? _ _ (hHeld.2.2.2.2.2.2.2.2))).trans (hHeld.2.2.2.2.2.2.2.2)
        refine ⟨_, rfl, ?_⟩
        replace HO_8 := Aside0.mk (Kd.R_below (xr HO_8.out) hb)
        replace HO_9 := Aside0.mk (Kd.R_below (xr HO_9.out) hb)
        replace HO_10 := Aside0.mk (Kd.R_below (xr HO_10.out) hb)
        replace HO_11 := Aside0.mk (Kd.R_below (xr HO_11.out) hb)
        replace HO_13 := Aside0.mk (Kd.R_below (xr HO_13.out) hb)
        replace BK747 := xB BK747 hb
        replace BK757 := xB BK757 hb
        replace BK759 := xB BK759 hb
        replace HB := xS HB hb
        (try clear hb)
        (try clear hb2)
        (try clear hk)
        (try clear hi)
        refine hK.out _ _ ⟨(blk_cell BK759.out 0).trans rfl, (blk_cell BK759.out 1).trans rfl, (blk_cell BK759.out 2).trans rfl, (blk_cell BK757.out 0).trans rfl, (blk_cell BK757.out 1).trans rfl, (blk_cell BK757.out 2).trans rfl, HS6_, HS7_, HS8_⟩ (fun hHeld => ?_)
        clear hK K
        refine xN 63 ?_
        refine xO 7 (some 64) (b 9 255) rfl rfl fun K hK => ?_
        refine goes_ Tryd.func21 (by kernel_rfl) rfl #[.agg #[.bool ((rd_T25 t741 x46_2).f0), .string ((rd_T25 t741 x46_2).f1), .string ((rd_T25 t741 x46_2).f2)], .agg #[.bool t761, .string t762, .string t763]] (by rfl) rfl rfl (by (try simp only [List.map_toArray, List.map_cons, List.map_nil]); first | done | rfl | (simp only [List.length_drop, List.length_take]; rfl)) ?_
        with_reducible refine (rational_Add.calls k2 ((rd_T25 t741 x46_2).f0) ((rd_T25 t741 x46_2).f1) ((rd_T25 t741 x46_2).f2) t761 t762 t763 t764 t765 t766 _ A36.out).mono ?_
        rintro e w45 ⟨rfl, hb⟩
        have HS6_ := (hb.cell (World.block_lt_of_cell? _ _ (hHeld.2.2.2.2.2.2.1))).trans (hHeld.2.2.2.2.2.2.1)
        have HS7_ := (hb.cell (World.block_lt_of_cell? _ _ (hHeld.2.2.2.2.2.2.2.1))).trans (hHeld.2.2.2.2.2.2.2.1)
        have HS8_ := (hb.cell (World.block_lt_of_cell? _ _ (hHeld.2.2.2.2.2.2.2.2))).trans (hHeld.2.2.2.2.2.2.2.2)
        refine ⟨_, rfl, ?_⟩
        replace HO_8 := Aside0.mk (Kd.R_below (xr HO_8.out) hb)
        replace HO_9 := Aside0.mk (Kd.R_below (xr HO_9.out) hb)
        replace HO_10 := Aside0.mk (Kd.R_below (xr HO_10.out) hb)
        replace HO_11 := Aside0.mk (Kd.R_below (xr HO_11.out) hb)
        replace HO_13 := Aside0.mk (Kd.R_below (xr HO_13.out) hb)
        replace BK747 := xB BK747 hb
        replace BK757 := xB BK757 hb
        replace BK759 := xB BK759 hb
        replace HB := xS HB hb
        (try clear hb)
        (try clear hb2)
        (try clear hk)
        (try clear hi)
        refine hK.out _ _ ⟨(blk_cell BK759.out 0).trans rfl, (blk_cell BK759.out 1).trans rfl, (blk_cell BK759.out 2).trans rfl, (blk_cell BK757.out 0).trans rfl, (blk_cell BK757.out 1).trans rfl, (blk_cell BK757.out 2).trans rfl, HS6_, HS7_, HS8_⟩ (fun hHeld => ?_)
        clear hK K
        refine xN 64 ?_
        refine xZ 8 none (b 9 511) rfl rfl fun K hK => ?_
        obtain ⟨hs46, hs47, hs48, hfs46, hfs47, hfs48⟩ := x6 BK759
        have hns46_0 := NB747_759.out
        have hns46_1 := NB757_759.out
        have hms46_0 := NB759_747.out
        have hms46_1 := NB759_757.out
        refine xk ?_
        refine hK.out _ _ ?_
        clear hK K
        refine done_ (done_of HT_.out (by kernel_rfl)) ?_
        obtain ⟨hcz49_0, hcz49_1, hcz49_2, hfz49_0, hfz49_1, hfz49_2⟩ := x6 BK759
        try go_wp2_with (first | ((with_reducible refine gate_builtin (b := .append) (xs := #[.tmp 65, .tmp 67]) rfl ?_); (try (refine gate_guard (by rfl) ?_; dsimp only)); at_builtin; refine Kd.R_append k25 (w0 := w) w.heap.size rfl (.tmp 65) (.tmp 67) 27 25 (.agg #[(.bool false), (.string ⟨#[]⟩), (.string ⟨#[]⟩)]) 40 rfl Tryd.underlying27 info25 rfl (by decide) (by omega) u13 x13_2 (⟨t764, t765, t766⟩ : S25) [.bool t764, .string t765, .string t766] (fun k_ => some k_ ≠ (.slice (some ad758) t741.length co17 : Value).ownBlock ∧ some k_ ≠ (.slice (some ad760) t744.length co19 : Value).ownBlock ∧ some k_ ≠ (v749 : Value).ownBlock ∧ some k_ ≠ (v752 : Value).ownBlock ∧ k_ ≠ gb747 ∧ k_ ≠ gb757 ∧ k_ ≠ gb759) (fun _ => False) rfl (by first | (go_simp; done) | (go_simp; rfl)) ?aP (fun _ hk => hk.elim) ?aF ?aO ?aB ?aS ?aL ?_; (case aP => exact k25_mkM _ _ _ (⟨t764, t765, t766⟩ : S25)); (case aB => exact (xs HB)); (case aF => exact (fun k_ hk => ⟨Kd.fresh' (Kd.R_lt (by (with_reducible repeat (first | apply Kd.R_alloc | apply Kd.R_drewN | apply Kd.R_drew)); exact (Kd.R_mono (Kd.R_far (p := ⟨gb759, 2, none⟩) (Kd.R_far (p := ⟨gb759, 1, none⟩) (Kd.R_far (p := ⟨gb759, 0, none⟩) (Kd.R_mono HO_8.out (fun k_ hk => (⟨hk, hk.2.2.2.2.2.2⟩ : _ ∧ k_ ≠ gb759))) (fun _ hk => hk.2) (.bool t764)) (fun _ hk => hk.2) (.string t765)) (fun _ hk => hk.2) (.string t766)) (fun _ h_ => h_.1)))) k_ hk, Kd.fresh' (Kd.R_lt (by (with_reducible repeat (first | apply Kd.R_alloc | apply Kd.R_drewN | apply Kd.R_drew)); exact (Kd.R_mono (Kd.R_far (p := ⟨gb759, 2, none⟩) (Kd.R_far (p := ⟨gb759, 1, none⟩) (Kd.R_far (p := ⟨gb759, 0, none⟩) (Kd.R_mono HO_9.out (fun k_ hk => (⟨hk, hk.2.2.2.2.2.2⟩ : _ ∧ k_ ≠ gb759))) (fun _ hk => hk.2) (.bool t764)) (fun _ hk => hk.2) (.string t765)) (fun _ hk => hk.2) (.string t766)) (fun _ h_ => h_.1)))) k_ hk, Kd.fresh' (Kd.R_lt (by (with_reducible repeat (first | apply Kd.R_alloc | apply Kd.R_drewN | apply Kd.R_drew)); exact (Kd.R_mono (Kd.R_far (p := ⟨gb759, 2, none⟩) (Kd.R_far (p := ⟨gb759, 1, none⟩) (Kd.R_far (p := ⟨gb759, 0, none⟩) (Kd.R_mono HO_10.out (fun k_ hk => (⟨hk, hk.2.2.2.2.2.2⟩ : _ ∧ k_ ≠ gb759))) (fun _ hk => hk.2) (.bool t764)) (fun _ hk => hk.2) (.string t765)) (fun _ hk => hk.2) (.string t766)) (fun _ h_ => h_.1)))) k_ hk, Kd.fresh' (Kd.R_lt (by (with_reducible repeat (first | apply Kd.R_alloc | apply Kd.R_drewN | apply Kd.R_drew)); exact (Kd.R_mono (Kd.R_far (p := ⟨gb759, 2, none⟩) (Kd.R_far (p := ⟨gb759, 1, none⟩) (Kd.R_far (p := ⟨gb759, 0, none⟩) (Kd.R_mono HO_11.out (fun k_ hk => (⟨hk, hk.2.2.2.2.2.2⟩ : _ ∧ k_ ≠ gb759))) (fun _ hk => hk.2) (.bool t764)) (fun _ hk => hk.2) (.string t765)) (fun _ hk => hk.2) (.string t766)) (fun _ h_ => h_.1)))) k_ hk, Kd.freshB (g := gb747) (o := .cells #[.bool t738, .string t739, .string t740] 25 (0, 0)) (xb BK747) k_ hk, Kd.freshB (g := gb757) (o := .cells #[.bool t754, .string t755, .string t756] 25 (0, 0)) (xb BK757) k_ hk, Kd.freshB (g := gb759) (o := .cells #[.bool t764, .string t765, .string t766] 25 (0, 0)) (xp BK759) k_ hk⟩)); (case aO => exact (by (with_reducible repeat (first | apply Kd.R_alloc | apply Kd.R_drewN | apply Kd.R_drew)); exact Kd.R_mono (Kd.R_far (p := ⟨gb759, 2, none⟩) (Kd.R_far (p := ⟨gb759, 1, none⟩) (Kd.R_far (p := ⟨gb759, 0, none⟩) (Kd.R_mono HO_13.out (fun k_ hk => (⟨hk, hk.2.2.2.2.2.2⟩ : _ ∧ k_ ≠ gb759))) (fun _ hk => hk.2) (.bool t764)) (fun _ hk => hk.2) (.string t765)) (fun _ hk => hk.2) (.string t766)) (fun _ hk => ⟨hk.1.1, ⟨hk.1.2.1, ⟨hk.1.2.2.1, ⟨hk.1.2.2.2.1, ⟨hk.1.2.2.2.2.1, ⟨hk.1.2.2.2.2.2.1, hk.1.2.2.2.2.2.2⟩⟩⟩⟩⟩⟩))); (case aS => exact (below_size (xs HB))); (case aL => have := LMc37.out; omega); intro v768 w50 ho hb hg hat; rw [← Ny767.out] at ho; replace HO_8 := Aside0.mk (Kd.R_after (ok := (fun k_ => some k_ ≠ (.slice (some ad760) t744.length co19 : Value).ownBlock ∧ some k_ ≠ (v749 : Value).ownBlock ∧ some k_ ≠ (v752 : Value).ownBlock ∧ k_ ≠ gb747 ∧ k_ ≠ gb757 ∧ k_ ≠ gb759)) (by (with_reducible repeat (first | apply Kd.R_alloc | apply Kd.R_drewN | apply Kd.R_drew)); exact Kd.R_mono (Kd.R_far (p := ⟨gb759, 2, none⟩) (Kd.R_far (p := ⟨gb759, 1, none⟩) (Kd.R_far (p := ⟨gb759, 0, none⟩) (Kd.R_mono HO_8.out (fun k_ hk => (⟨hk, hk.2.2.2.2.2.2⟩ : _ ∧ k_ ≠ gb759))) (fun _ hk => hk.2) (.bool t764)) (fun _ hk => hk.2) (.string t765)) (fun _ hk => hk.2) (.string t766)) (fun _ hk => ⟨⟨hk.1.1, ⟨hk.1.2.1, ⟨hk.1.2.2.1, ⟨hk.1.2.2.2.2.1, ⟨hk.1.2.2.2.2.2.1, hk.1.2.2.2.2.2.2⟩⟩⟩⟩⟩, hk.1.2.2.2.1⟩)) hg hat); replace HO_9 := Aside0.mk (Kd.R_after (ok := (fun k_ => some k_ ≠ (.slice (some ad758) t741.length co17 : Value).ownBlock ∧ some k_ ≠ (v749 : Value).ownBlock ∧ some k_ ≠ (v752 : Value).ownBlock ∧ k_ ≠ gb747 ∧ k_ ≠ gb757 ∧ k_ ≠ gb759)) (by (with_reducible repeat (first | apply Kd.R_alloc | apply Kd.R_drewN | apply Kd.R_drew)); exact Kd.R_mono (Kd.R_far (p := ⟨gb759, 2, none⟩) (Kd.R_far (p := ⟨gb759, 1, none⟩) (Kd.R_far (p := ⟨gb759, 0, none⟩) (Kd.R_mono HO_9.out (fun k_ hk => (⟨hk, hk.2.2.2.2.2.2⟩ : _ ∧ k_ ≠ gb759))) (fun _ hk => hk.2) (.bool t764)) (fun _ hk => hk.2) (.string t765)) (fun _ hk => hk.2) (.string t766)) (fun _ hk => ⟨⟨hk.1.1, ⟨hk.1.2.1, ⟨hk.1.2.2.1, ⟨hk.1.2.2.2.2.1, ⟨hk.1.2.2.2.2.2.1, hk.1.2.2.2.2.2.2⟩⟩⟩⟩⟩, hk.1.2.2.2.1⟩)) hg hat); replace HO_10 := Aside0.mk (Kd.R_after (ok := (fun k_ => some k_ ≠ (.slice (some ad758) t741.length co17 : Value).ownBlock ∧ some k_ ≠ (.slice (some ad760) t744.length co19 : Value).ownBlock ∧ some k_ ≠ (v752 : Value).ownBlock ∧ k_ ≠ gb747 ∧ k_ ≠ gb757 ∧ k_ ≠ gb759)) (by (with_reducible repeat (first | apply Kd.R_alloc | apply Kd.R_drewN | apply Kd.R_drew)); exact Kd.R_mono (Kd.R_far (p := ⟨gb759, 2, none⟩) (Kd.R_far (p := ⟨gb759, 1, none⟩) (Kd.R_far (p := ⟨gb759, 0, none⟩) (Kd.R_mono HO_10.out (fun k_ hk => (⟨hk, hk.2.2.2.2.2.2⟩ : _ ∧ k_ ≠ gb759))) (fun _ hk => hk.2) (.bool t764)) (fun _ hk => hk.2) (.string t765)) (fun _ hk => hk.2) (.string t766)) (fun _ hk => ⟨⟨hk.1.1, ⟨hk.1.2.1, ⟨hk.1.2.2.1, ⟨hk.1.2.2.2.2.1, ⟨hk.1.2.2.2.2.2.1, hk.1.2.2.2.2.2.2⟩⟩⟩⟩⟩, hk.1.2.2.2.1⟩)) hg hat); replace HO_11 := Aside0.mk (Kd.R_after (ok := (fun k_ => some k_ ≠ (.slice (some ad758) t741.length co17 : Value).ownBlock ∧ some k_ ≠ (.slice (some ad760) t744.length co19 : Value).ownBlock ∧ some k_ ≠ (v749 : Value).ownBlock ∧ k_ ≠ gb747 ∧ k_ ≠ gb757 ∧ k_ ≠ gb759)) (by (with_reducible repeat (first | apply Kd.R_alloc | apply Kd.R_drewN | apply Kd.R_drew)); exact Kd.R_mono (Kd.R_far (p := ⟨gb759, 2, none⟩) (Kd.R_far (p := ⟨gb759, 1, none⟩) (Kd.R_far (p := ⟨gb759, 0, none⟩) (Kd.R_mono HO_11.out (fun k_ hk => (⟨hk, hk.2.2.2.2.2.2⟩ : _ ∧ k_ ≠ gb759))) (fun _ hk => hk.2) (.bool t764)) (fun _ hk => hk.2) (.string t765)) (fun _ hk => hk.2) (.string t766)) (fun _ hk => ⟨⟨hk.1.1, ⟨hk.1.2.1, ⟨hk.1.2.2.1, ⟨hk.1.2.2.2.2.1, ⟨hk.1.2.2.2.2.2.1, hk.1.2.2.2.2.2.2⟩⟩⟩⟩⟩, hk.1.2.2.2.1⟩)) hg hat); replace BK747 := xK BK747 hg (Kd.R_away HO_13.out (fun _ hk => hk.2.2.2.2.1)); replace BK757 := xK BK757 hg (Kd.R_away HO_13.out (fun _ hk => hk.2.2.2.2.2.1)); replace BK759 := Aside0.mk (blk_grown (g := gb759) (o := .cells #[.bool t764, .string t765, .string t766] 25 (0, 0)) (xp BK759) hg (Kd.R_away HO_13.out (fun _ hk => hk.2.2.2.2.2.2))); replace HB := Aside0.mk (hb); have HO769 := Aside0.mk (ho); clear HO_13 ho hb hg hat))
        (first | go_roundg k2 | (refine Handed.intro k2 ?measure ?_; rotate_left; go_step; (repeat apply Exists.intro); refine ⟨?rel, (by first | rfl | (simp only [add_plain]; rfl))⟩))
        case measure => have := HJ8.out; have := HK2.out; omega
        case rel => exact ⟨(y767), (wrap64 (x46_2 + 1)), xz, H', ⟨by have := HJ8.out; have := HK2.out; omega⟩, ⟨by (with_reducible repeat (first | apply Kd.R_alloc | apply Kd.R_drewN | apply Kd.R_drew)); exact Kd.R_mono HO_8.out (fun _ hk => by first | exact ⟨hk.1.1, ⟨hk.1.2.1, ⟨hk.1.2.2.1, ⟨hk.2, ⟨hk.1.2.2.2.1, hk.1.2.2.2.2.1⟩⟩⟩⟩⟩ | (simp only [ob_map] at hk ⊢; first | exact ⟨hk.1.1, ⟨hk.1.2.1, ⟨hk.1.2.2.1, ⟨hk.2, ⟨hk.1.2.2.2.1, hk.1.2.2.2.2.1⟩⟩⟩⟩⟩ | grind) | grind)⟩, ⟨by (with_reducible repeat (first | apply Kd.R_alloc | apply Kd.R_drewN | apply Kd.R_drew)); exact Kd.R_mono HO_9.out (fun _ hk => by first | exact ⟨hk.1.1, ⟨hk.1.2.1, ⟨hk.1.2.2.1, ⟨hk.2, ⟨hk.1.2.2.2.1, hk.1.2.2.2.2.1⟩⟩⟩⟩⟩ | (simp only [ob_map] at hk ⊢; first | exact ⟨hk.1.1, ⟨hk.1.2.1, ⟨hk.1.2.2.1, ⟨hk.2, ⟨hk.1.2.2.2.1, hk.1.2.2.2.2.1⟩⟩⟩⟩⟩ | grind) | grind)⟩, ⟨by (with_reducible repeat (first | apply Kd.R_alloc | apply Kd.R_drewN | apply Kd.R_drew)); exact Kd.R_mono HO_10.out (fun _ hk => by first | exact ⟨hk.1.1, ⟨hk.1.2.1, ⟨hk.1.2.2.1, ⟨hk.2, ⟨hk.1.2.2.2.1, hk.1.2.2.2.2.1⟩⟩⟩⟩⟩ | (simp only [ob_map] at hk ⊢; first | exact ⟨hk.1.1, ⟨hk.1.2.1, ⟨hk.1.2.2.1, ⟨hk.2, ⟨hk.1.2.2.2.1, hk.1.2.2.2.2.1⟩⟩⟩⟩⟩ | grind) | grind)⟩, ⟨by (with_reducible repeat (first | apply Kd.R_alloc | apply Kd.R_drewN | apply Kd.R_drew)); exact Kd.R_mono HO_11.out (fun _ hk => by first | exact ⟨hk.1.1, ⟨hk.1.2.1, ⟨hk.1.2.2.1, ⟨hk.2, ⟨hk.1.2.2.2.1, hk.1.2.2.2.2.1⟩⟩⟩⟩⟩ | (simp only [ob_map] at hk ⊢; first | exact ⟨hk.1.1, ⟨hk.1.2.1, ⟨hk.1.2.2.1, ⟨hk.2, ⟨hk.1.2.2.2.1, hk.1.2.2.2.2.1⟩⟩⟩⟩⟩ | grind) | grind)⟩, ⟨by (with_reducible repeat (first | apply Kd.R_alloc | apply Kd.R_drewN | apply Kd.R_drew)); exact Kd.R_mono HO769.out (fun _ hk => by first | exact ⟨hk.1, ⟨hk.2.1, ⟨hk.2.2.1, ⟨hk.2.2.2.1, ⟨hk.2.2.2.2.1, hk.2.2.2.2.2.1⟩⟩⟩⟩⟩ | (simp only [ob_map] at hk ⊢; first | exact ⟨hk.1, ⟨hk.2.1, ⟨hk.2.2.1, ⟨hk.2.2.2.1, ⟨hk.2.2.2.2.1, hk.2.2.2.2.2.1⟩⟩⟩⟩⟩ | grind) | grind)⟩, ⟨xb BK747⟩, ⟨xb BK757⟩, ⟨xs HB⟩⟩
       ·rw [if_neg c34] at H
        have c34b0 : decide (x46_2 < (t744.length : Int)) = false := decide_eq_false c34
        clear c34
        by_cases c51 : x13_2.length < 3518437208883
        rotate_left
        ·rw [if_neg c51] at H
         exact absurd H (by simp)
        rw [if_pos c51] at H
        have LMc51 := Aside0.mk c51
        clear c51
        obtain ⟨y770, hy770⟩ : ∃ y_ : List (S25), y_ = (x13_2 ++ [(⟨(rd_T25 t741 x46_2).f0, (rd_T25 t741 x46_2).f1, (rd_T25 t741 x46_2).f2⟩ : S25)]) := ⟨_, rfl⟩
        replace H : (insolvencylaw18_GuaranteeDerivative.l0 k2 t741 t744 t748 t751 y770 (t741.length : Int) (wrap64 (x46_2 + 1)) t738 t739 t740 t754 t755 t756) = some r := by first | (rw [hy770]; with_reducible exact H) | (have H2_ := (Option.bind_some _ _).symm.trans H; rw [hy770]; with_reducible exact H2_) | (have H2_ := (Option.bind_some _ _).symm.trans H; with_reducible exact H2_) | with_reducible exact H | (rw [hy770]; exact H) | exact H
        have Ny770 := Aside0.mk hy770
        clear hy770
        have H' := Aside0.mk H
        clear H
        have p758 : 0 ≤ (x46_2 : Int) := xa
        have q758 : x46_2 < (t741.length : Int) := xa
        obtain ⟨ad758, e758, hx758_0, hx758_1, hx758_2⟩ := at_T25 (Kd.R_reads' HO_8.out).2.2 x46_2 p758 q758
        cases e758
        replace p758 := eq_true p758
        replace q758 := eq_true q758
        go_wp2_with (first | ((with_reducible refine gate_dst (N := 15) rfl ?_); (try (refine gate_guard (by rfl) ?_; dsimp only)); refine xE (N := 15) #[.bool false, .string (⟨#[]⟩ : ByteArray), .string (⟨#[]⟩ : ByteArray)] 25 rfl ?_; intro gb759 hg w52 hbox hb; replace HO_8 := Aside0.mk (Kd.R_below (Kd.R_elderB (xr HO_8.out) gb759 (Nat.le_of_eq hg.symm)) hb); replace HO_9 := Aside0.mk (Kd.R_below (Kd.R_elderB (xr HO_9.out) gb759 (Nat.le_of_eq hg.symm)) hb); replace HO_10 := Aside0.mk (Kd.R_below (Kd.R_elderB (xr HO_10.out) gb759 (Nat.le_of_eq hg.symm)) hb); replace HO_11 := Aside0.mk (Kd.R_below (Kd.R_elderB (xr HO_11.out) gb759 (Nat.le_of_eq hg.symm)) hb); replace HO_13 := Aside0.mk (Kd.R_below (Kd.R_elderB (xr HO_13.out) gb759 (Nat.le_of_eq hg.symm)) hb); have BK759 := Aside0.mk (hbox); have GW759 := (xG HB hg); have GE759 := (xG HB hg); replace HB := xS HB hb; have NB747_759 := xL BK747 hg; have NB759_747 := xR BK747 hg; replace BK747 := xB BK747 hb; have NB757_759 := xL BK757 hg; have NB759_757 := xR BK757 hg; replace BK757 := xB BK757 hb; clear hb hbox hg; have hnb53 := NB759_747.out; have hnc53 := NB747_759.out; have hnb54 := NB759_757.out; have hnc54 := NB757_759.out; obtain ⟨hcz55_0, hcz55_1, hcz55_2, hfz55_0, hfz55_1, hfz55_2⟩ := x6 BK759) | ((with_reducible refine gate_builtin (b := .append) (xs := #[.tmp 65, .tmp 67]) rfl ?_); (try (refine gate_guard (by rfl) ?_; dsimp only)); at_builtin; refine Kd.R_append k25 (w0 := w) w.heap.size rfl (.tmp 65) (.tmp 67) 27 25 (.agg #[(.bool false), (.string ⟨#[]⟩), (.string ⟨#[]⟩)]) 40 rfl Tryd.underlying27 info25 rfl (by decide) (by omega) u13 x13_2 (⟨(rd_T25 t741 x46_2).f0, (rd_T25 t741 x46_2).f1, (rd_T25 t741 x46_2).f2⟩ : S25) [.bool ((rd_T25 t741 x46_2).f0), .string ((rd_T25 t741 x46_2).f1), .string ((rd_T25 t741 x46_2).f2)] (fun k_ => some k_ ≠ (.slice (some ad758) t741.length co17 : Value).ownBlock ∧ some k_ ≠ (.slice Ao19 t744.length co19 : Value).ownBlock ∧ some k_ ≠ (v749 : Value).ownBlock ∧ some k_ ≠ (v752 : Value).ownBlock ∧ k_ ≠ gb747 ∧ k_ ≠ gb757 ∧ k_ ≠ gb759) (fun _ => False) rfl (by first | (go_simp; done) | (go_simp; rfl)) ?aP (fun _ hk => hk.elim) ?aF ?aO ?aB ?aS ?aL ?_; (case aP => exact k25_mkM _ _ _ (⟨(rd_T25 t741 x46_2).f0, (rd_T25 t741 x46_2).f1, (rd_T25 t741 x46_2).f2⟩ : S25)); (case aB => exact (xs HB)); (case aF => exact (fun k_ hk => ⟨Kd.fresh' (Kd.R_lt (by (with_reducible repeat (first | apply Kd.R_alloc | apply Kd.R_drewN | apply Kd.R_drew)); exact (Kd.R_mono (Kd.R_far (p := ⟨gb759, 2, none⟩) (Kd.R_far (p := ⟨gb759, 1, none⟩) (Kd.R_far (p := ⟨gb759, 0, none⟩) (Kd.R_mono HO_8.out (fun k_ hk => (⟨hk, hk.2⟩ : _ ∧ k_ ≠ gb759))) (fun _ hk => hk.2) (.bool ((rd_T25 t741 x46_2).f0))) (fun _ hk => hk.2) (.string ((rd_T25 t741 x46_2).f1))) (fun _ hk => hk.2) (.string ((rd_T25 t741 x46_2).f2))) (fun _ h_ => h_.1)))) k_ hk, Kd.fresh' (Kd.R_lt (by (with_reducible repeat (first | apply Kd.R_alloc | apply Kd.R_drewN | apply Kd.R_drew)); exact (Kd.R_mono (Kd.R_far (p := ⟨gb759, 2, none⟩) (Kd.R_far (p := ⟨gb759, 1, none⟩) (Kd.R_far (p := ⟨gb759, 0, none⟩) (Kd.R_mono HO_9.out (fun k_ hk => (⟨hk, hk.2⟩ : _ ∧ k_ ≠ gb759))) (fun _ hk => hk.2) (.bool ((rd_T25 t741 x46_2).f0))) (fun _ hk => hk.2) (.string ((rd_T25 t741 x46_2).f1))) (fun _ hk => hk.2) (.string ((rd_T25 t741 x46_2).f2))) (fun _ h_ => h_.1)))) k_ hk, Kd.fresh' (Kd.R_lt (by (with_reducible repeat (first | apply Kd.R_alloc | apply Kd.R_drewN | apply Kd.R_drew)); exact (Kd.R_mono (Kd.R_far (p := ⟨gb759, 2, none⟩) (Kd.R_far (p := ⟨gb759, 1, none⟩) (Kd.R_far (p := ⟨gb759, 0, none⟩) (Kd.R_mono HO_10.out (fun k_ hk => (⟨hk, hk.2⟩ : _ ∧ k_ ≠ gb759))) (fun _ hk => hk.2) (.bool ((rd_T25 t741 x46_2).f0))) (fun _ hk => hk.2) (.string ((rd_T25 t741 x46_2).f1))) (fun _ hk => hk.2) (.string ((rd_T25 t741 x46_2).f2))) (fun _ h_ => h_.1)))) k_ hk, Kd.fresh' (Kd.R_lt (by (with_reducible repeat (first | apply Kd.R_alloc | apply Kd.R_drewN | apply Kd.R_drew)); exact (Kd.R_mono (Kd.R_far (p := ⟨gb759, 2, none⟩) (Kd.R_far (p := ⟨gb759, 1, none⟩) (Kd.R_far (p := ⟨gb759, 0, none⟩) (Kd.R_mono HO_11.out (fun k_ hk => (⟨hk, hk.2⟩ : _ ∧ k_ ≠ gb759))) (fun _ hk => hk.2) (.bool ((rd_T25 t741 x46_2).f0))) (fun _ hk => hk.2) (.string ((rd_T25 t741 x46_2).f1))) (fun _ hk => hk.2) (.string ((rd_T25 t741 x46_2).f2))) (fun _ h_ => h_.1)))) k_ hk, Kd.freshB (g := gb747) (o := .cells #[.bool t738, .string t739, .string t740] 25 (0, 0)) (xb BK747) k_ hk, Kd.freshB (g := gb757) (o := .cells #[.bool t754, .string t755, .string t756] 25 (0, 0)) (xb BK757) k_ hk, Kd.freshB (g := gb759) (o := .cells #[.bool ((rd_T25 t741 x46_2).f0), .string ((rd_T25 t741 x46_2).f1), .string ((rd_T25 t741 x46_2).f2)] 25 (0, 0)) (xp BK759) k_ hk⟩)); (case aO => exact (by (with_reducible repeat (first | apply Kd.R_alloc | apply Kd.R_drewN | apply Kd.R_drew)); exact Kd.R_mono (Kd.R_far (p := ⟨gb759, 2, none⟩) (Kd.R_far (p := ⟨gb759, 1, none⟩) (Kd.R_far (p := ⟨gb759, 0, none⟩) (Kd.R_mono HO_13.out (fun k_ hk => (⟨hk, hk.2⟩ : _ ∧ k_ ≠ gb759))) (fun _ hk => hk.2) (.bool ((rd_T25 t741 x46_2).f0))) (fun _ hk => hk.2) (.string ((rd_T25 t741 x46_2).f1))) (fun _ hk => hk.2) (.string ((rd_T25 t741 x46_2).f2))) (fun _ hk => ⟨hk.1.1.1, ⟨hk.1.1.2.1, ⟨hk.1.1.2.2.1, ⟨hk.1.1.2.2.2.1, ⟨hk.1.1.2.2.2.2.1, ⟨hk.1.1.2.2.2.2.2, hk.1.2⟩⟩⟩⟩⟩⟩))); (case aS => exact (below_size (xs HB))); (case aL => have := LMc51.out; omega); intro v771 w56 ho hb hg hat; rw [← Ny770.out] at ho; replace HO_8 := Aside0.mk (Kd.R_after (ok := (fun k_ => some k_ ≠ (.slice Ao19 t744.length co19 : Value).ownBlock ∧ some k_ ≠ (v749 : Value).ownBlock ∧ some k_ ≠ (v752 : Value).ownBlock ∧ k_ ≠ gb747 ∧ k_ ≠ gb757 ∧ k_ ≠ gb759)) (by (with_reducible repeat (first | apply Kd.R_alloc | apply Kd.R_drewN | apply Kd.R_drew)); exact Kd.R_mono (Kd.R_far (p := ⟨gb759, 2, none⟩) (Kd.R_far (p := ⟨gb759, 1, none⟩) (Kd.R_far (p := ⟨gb759, 0, none⟩) (Kd.R_mono HO_8.out (fun k_ hk => (⟨hk, hk.2⟩ : _ ∧ k_ ≠ gb759))) (fun _ hk => hk.2) (.bool ((rd_T25 t741 x46_2).f0))) (fun _ hk => hk.2) (.string ((rd_T25 t741 x46_2).f1))) (fun _ hk => hk.2) (.string ((rd_T25 t741 x46_2).f2))) (fun _ hk => ⟨⟨hk.1.1.1, ⟨hk.1.1.2.1, ⟨hk.1.1.2.2.1, ⟨hk.1.1.2.2.2.2.1, ⟨hk.1.1.2.2.2.2.2, hk.1.2⟩⟩⟩⟩⟩, hk.1.1.2.2.2.1⟩)) hg hat); replace HO_9 := Aside0.mk (Kd.R_after (ok := (fun k_ => some k_ ≠ (.slice (some ad758) t741.length co17 : Value).ownBlock ∧ some k_ ≠ (v749 : Value).ownBlock ∧ some k_ ≠ (v752 : Value).ownBlock ∧ k_ ≠ gb747 ∧ k_ ≠ gb757 ∧ k_ ≠ gb759)) (by (with_reducible repeat (first | apply Kd.R_alloc | apply Kd.R_drewN | apply Kd.R_drew)); exact Kd.R_mono (Kd.R_far (p := ⟨gb759, 2, none⟩) (Kd.R_far (p := ⟨gb759, 1, none⟩) (Kd.R_far (p := ⟨gb759, 0, none⟩) (Kd.R_mono HO_9.out (fun k_ hk => (⟨hk, hk.2⟩ : _ ∧ k_ ≠ gb759))) (fun _ hk => hk.2) (.bool ((rd_T25 t741 x46_2).f0))) (fun _ hk => hk.2) (.string ((rd_T25 t741 x46_2).f1))) (fun _ hk => hk.2) (.string ((rd_T25 t741 x46_2).f2))) (fun _ hk => ⟨⟨hk.1.1.1, ⟨hk.1.1.2.1, ⟨hk.1.1.2.2.1, ⟨hk.1.1.2.2.2.2.1, ⟨hk.1.1.2.2.2.2.2, hk.1.2⟩⟩⟩⟩⟩, hk.1.1.2.2.2.1⟩)) hg hat); replace HO_10 := Aside0.mk (Kd.R_after (ok := (fun k_ => some k_ ≠ (.slice (some ad758) t741.length co17 : Value).ownBlock ∧ some k_ ≠ (.slice Ao19 t744.length co19 : Value).ownBlock ∧ some k_ ≠ (v752 : Value).ownBlock ∧ k_ ≠ gb747 ∧ k_ ≠ gb757 ∧ k_ ≠ gb759)) (by (with_reducible repeat (first | apply Kd.R_alloc | apply Kd.R_drewN | apply Kd.R_drew)); exact Kd.R_mono (Kd.R_far (p := ⟨gb759, 2, none⟩) (Kd.R_far (p := ⟨gb759, 1, none⟩) (Kd.R_far (p := ⟨gb759, 0, none⟩) (Kd.R_mono HO_10.out (fun k_ hk => (⟨hk, hk.2⟩ : _ ∧ k_ ≠ gb759))) (fun _ hk => hk.2) (.bool ((rd_T25 t741 x46_2).f0))) (fun _ hk => hk.2) (.string ((rd_T25 t741 x46_2).f1))) (fun _ hk => hk.2) (.string ((rd_T25 t741 x46_2).f2))) (fun _ hk => ⟨⟨hk.1.1.1, ⟨hk.1.1.2.1, ⟨hk.1.1.2.2.1, ⟨hk.1.1.2.2.2.2.1, ⟨hk.1.1.2.2.2.2.2, hk.1.2⟩⟩⟩⟩⟩, hk.1.1.2.2.2.1⟩)) hg hat); replace HO_11 := Aside0.mk (Kd.R_after (ok := (fun k_ => some k_ ≠ (.slice (some ad758) t741.length co17 : Value).ownBlock ∧ some k_ ≠ (.slice Ao19 t744.length co19 : Value).ownBlock ∧ some k_ ≠ (v749 : Value).ownBlock ∧ k_ ≠ gb747 ∧ k_ ≠ gb757 ∧ k_ ≠ gb759)) (by (with_reducible repeat (first | apply Kd.R_alloc | apply Kd.R_drewN | apply Kd.R_drew)); exact Kd.R_mono (Kd.R_far (p := ⟨gb759, 2, none⟩) (Kd.R_far (p := ⟨gb759, 1, none⟩) (Kd.R_far (p := ⟨gb759, 0, none⟩) (Kd.R_mono HO_11.out (fun k_ hk => (⟨hk, hk.2⟩ : _ ∧ k_ ≠ gb759))) (fun _ hk => hk.2) (.bool ((rd_T25 t741 x46_2).f0))) (fun _ hk => hk.2) (.string ((rd_T25 t741 x46_2).f1))) (fun _ hk => hk.2) (.string ((rd_T25 t741 x46_2).f2))) (fun _ hk => ⟨⟨hk.1.1.1, ⟨hk.1.1.2.1, ⟨hk.1.1.2.2.1, ⟨hk.1.1.2.2.2.2.1, ⟨hk.1.1.2.2.2.2.2, hk.1.2⟩⟩⟩⟩⟩, hk.1.1.2.2.2.1⟩)) hg hat); replace BK747 := xK BK747 hg (Kd.R_away HO_13.out (fun _ hk => hk.1.2.2.2.2.1)); replace BK757 := xK BK757 hg (Kd.R_away HO_13.out (fun _ hk => hk.1.2.2.2.2.2)); replace BK759 := Aside0.mk (blk_grown (g := gb759) (o := .cells #[.bool ((rd_T25 t741 x46_2).f0), .string ((rd_T25 t741 x46_2).f1), .string ((rd_T25 t741 x46_2).f2)] 25 (0, 0)) (xp BK759) hg (Kd.R_away HO_13.out (fun _ hk => hk.2))); replace HB := Aside0.mk (hb); have HO772 := Aside0.mk (ho); clear HO_13 ho hb hg hat))
        (first | go_roundg k2 | (refine Handed.intro k2 ?measure ?_; rotate_left; go_step; (repeat apply Exists.intro); refine ⟨?rel, (by first | rfl | (simp only [add_plain]; rfl))⟩))
        case measure => have := HJ8.out; have := HK2.out; omega
        case rel => exact ⟨(y770), (wrap64 (x46_2 + 1)), xz, H', ⟨by have := HJ8.out; have := HK2.out; omega⟩, ⟨by (with_reducible repeat (first | apply Kd.R_alloc | apply Kd.R_drewN | apply Kd.R_drew)); exact Kd.R_mono HO_8.out (fun _ hk => by first | exact ⟨hk.1.1, ⟨hk.1.2.1, ⟨hk.1.2.2.1, ⟨hk.2, ⟨hk.1.2.2.2.1, hk.1.2.2.2.2.1⟩⟩⟩⟩⟩ | (simp only [ob_map] at hk ⊢; first | exact ⟨hk.1.1, ⟨hk.1.2.1, ⟨hk.1.2.2.1, ⟨hk.2, ⟨hk.1.2.2.2.1, hk.1.2.2.2.2.1⟩⟩⟩⟩⟩ | grind) | grind)⟩, ⟨by (with_reducible repeat (first | apply Kd.R_alloc | apply Kd.R_drewN | apply Kd.R_drew)); exact Kd.R_mono HO_9.out (fun _ hk => by first | exact ⟨hk.1.1, ⟨hk.1.2.1, ⟨hk.1.2.2.1, ⟨hk.2, ⟨hk.1.2.2.2.1, hk.1.2.2.2.2.1⟩⟩⟩⟩⟩ | (simp only [ob_map] at hk ⊢; first | exact ⟨hk.1.1, ⟨hk.1.2.1, ⟨hk.1.2.2.1, ⟨hk.2, ⟨hk.1.2.2.2.1, hk.1.2.2.2.2.1⟩⟩⟩⟩⟩ | grind) | grind)⟩, ⟨by (with_reducible repeat (first | apply Kd.R_alloc | apply Kd.R_drewN | apply Kd.R_drew)); exact Kd.R_mono HO_10.out (fun _ hk => by first | exact ⟨hk.1.1, ⟨hk.1.2.1, ⟨hk.1.2.2.1, ⟨hk.2, ⟨hk.1.2.2.2.1, hk.1.2.2.2.2.1⟩⟩⟩⟩⟩ | (simp only [ob_map] at hk ⊢; first | exact ⟨hk.1.1, ⟨hk.1.2.1, ⟨hk.1.2.2.1, ⟨hk.2, ⟨hk.1.2.2.2.1, hk.1.2.2.2.2.1⟩⟩⟩⟩⟩ | grind) | grind)⟩, ⟨by (with_reducible repeat (first | apply Kd.R_alloc | apply Kd.R_drewN | apply Kd.R_drew)); exact Kd.R_mono HO_11.out (fun _ hk => by first | exact ⟨hk.1.1, ⟨hk.1.2.1, ⟨hk.1.2.2.1, ⟨hk.2, ⟨hk.1.2.2.2.1, hk.1.2.2.2.2.1⟩⟩⟩⟩⟩ | (simp only [ob_map] at hk ⊢; first | exact ⟨hk.1.1, ⟨hk.1.2.1, ⟨hk.1.2.2.1, ⟨hk.2, ⟨hk.1.2.2.2.1, hk.1.2.2.2.2.1⟩⟩⟩⟩⟩ | grind) | grind)⟩, ⟨by (with_reducible repeat (first | apply Kd.R_alloc | apply Kd.R_drewN | apply Kd.R_drew)); exact Kd.R_mono HO772.out (fun _ hk => by first | exact ⟨hk.1, ⟨hk.2.1, ⟨hk.2.2.1, ⟨hk.2.2.2.1, ⟨hk.2.2.2.2.1, hk.2.2.2.2.2.1⟩⟩⟩⟩⟩ | (simp only [ob_map] at hk ⊢; first | exact ⟨hk.1, ⟨hk.2.1, ⟨hk.2.2.1, ⟨hk.2.2.2.1, ⟨hk.2.2.2.2.1, hk.2.2.2.2.2.1⟩⟩⟩⟩⟩ | grind) | grind)⟩, ⟨xb BK747⟩, ⟨xb BK757⟩, ⟨xs HB⟩⟩
      ·rw [if_neg c31] at H
       have c31b0 : decide (x46_2 < (t741.length : Int)) = false := decide_eq_false c31
       clear c31
       replace H := xH H; obtain ⟨t773, A57, H⟩ := H
       by_cases c58 : (t773.length : Int) = (t741.length : Int)
       ·rw [if_pos c58] at H
        have c58b0 : ((t773.length : Int) == (t741.length : Int)) = true := beq_iff_eq.mpr c58
        have c58b1 : ((t773.length : Int) != (t741.length : Int)) = false := bne_eq_false_iff_eq.mpr c58
        have c58b2 : (t773.length == t741.length) = true := by first | simpa using c58 | (simp at c58 ⊢; omega)
        clear c58
        have H' := Aside0.mk H
        clear H
        have hnb59 := NB747_757.out
        have hnc59 := NB757_747.out
        obtain ⟨hcz60_0, hcz60_1, hcz60_2, hfz60_0, hfz60_1, hfz60_2⟩ := x6 BK747
        obtain ⟨Ao61, co61, eo61⟩ := Kd.R_slice HO_13.out
        subst eo61
        go_wp2_with (first | (refine xg Tryd.func12 (some 72) #[.agg #[.bool t738, .string t739, .string t740], .slice Ao61 x13_2.length co61] ?_; (with_reducible refine (guarantee_Refunds.calls k2 t738 t739 t740 _ _ x13_2 t773 _ ?side1 ?side2 A57.out).mono ?_); (case side1 => repeat (first | exact (Kd.R_reads' HO_13.out).2.2 | (with_reducible refine Kd.C_alloc ?_ _) | (with_reducible refine Kd.C_drewN ?_ _) | (with_reducible refine Kd.C_drew ?_))); (case side2 => exact (Kd.R_reads' HO_13.out).2.1); rintro e w62 ⟨v774, rfl, ho0, hb⟩; refine ⟨_, rfl, ?_⟩; have HO775 := Aside0.mk (Kd.R_lower (Kd.R_newB (Kd.R_newB (Kd.R_new' (Kd.R_new' (Kd.R_new' (Kd.R_new' (Kd.R_new' ho0 (Kd.R_lt (xr HO_8.out))) (Kd.R_lt (xr HO_9.out))) (Kd.R_lt (xr HO_10.out))) (Kd.R_lt (xr HO_11.out))) (Kd.R_lt (xr HO_13.out))) (g := gb747) (o := .cells #[.bool t738, .string t739, .string t740] 25 (0, 0)) (xb BK747)) (g := gb757) (o := .cells #[.bool t754, .string t755, .string t756] 25 (0, 0)) (xb BK757)) (below_size (xs HB))); replace HO_8 := Aside0.mk (Kd.R_elder' (xr HO_8.out) (Kd.R_base ho0) hb); replace HO_9 := Aside0.mk (Kd.R_elder' (xr HO_9.out) (Kd.R_base ho0) hb); replace HO_10 := Aside0.mk (Kd.R_elder' (xr HO_10.out) (Kd.R_base ho0) hb); replace HO_11 := Aside0.mk (Kd.R_elder' (xr HO_11.out) (Kd.R_base ho0) hb); replace HO_13 := Aside0.mk (Kd.R_elder' (xr HO_13.out) (Kd.R_base ho0) hb); replace BK747 := xB BK747 hb; replace BK757 := xB BK757 hb; replace HB := xS HB hb; clear hb ho0; obtain ⟨Ao63, co63, eo63⟩ := Kd.R_slice HO775.out; subst eo63))
        go_loopg [80] k2 (fun kq v80 w' => ∃ (x80_3 : Int), v80 = .int .i64 x80_3 ∧ Aside0 (insolvencylaw18_GuaranteeDerivative.l1 kq t748 t751 t773 (t741.length : Int) x80_3 t754 t755 t756 = some r) ∧ Aside0 (kq ≤ k2) ∧ Aside0 (Kd.R k25 25 w' w.heap.size (fun k_ => some k_ ≠ (v752 : Value).ownBlock ∧ some k_ ≠ ((.slice Ao63 t773.length co63) : Value).ownBlock ∧ k_ ≠ gb747 ∧ k_ ≠ gb757) v749 t748) ∧ Aside0 (Kd.R k25 25 w' w.heap.size (fun k_ => some k_ ≠ (v749 : Value).ownBlock ∧ some k_ ≠ ((.slice Ao63 t773.length co63) : Value).ownBlock ∧ k_ ≠ gb747 ∧ k_ ≠ gb757) v752 t751) ∧ Aside0 (Kd.R k25 25 w' w.heap.size (fun k_ => some k_ ≠ (v749 : Value).ownBlock ∧ some k_ ≠ (v752 : Value).ownBlock ∧ k_ ≠ gb747 ∧ k_ ≠ gb757) (.slice Ao63 t773.length co63) t773) ∧ Aside0 (w'.heap[gb747]? = some (.cells #[.bool t738, .string t739, .string t740] 25 (0, 0))) ∧ Aside0 (w'.heap[gb757]? = some (.cells #[.bool t754, .string t755, .string t756] 25 (0, 0))) ∧ Aside0 (Below w.heap.size w w'))
        case atStart => exact ⟨(0), xz, H', ⟨Nat.le_refl _⟩, ⟨by (with_reducible repeat (first | apply Kd.R_alloc | apply Kd.R_drewN | apply Kd.R_drew)); exact Kd.R_mono HO_10.out (fun _ hk => by first | exact ⟨hk.1.2.2.1, ⟨hk.2, ⟨hk.1.2.2.2.2.1, hk.1.2.2.2.2.2⟩⟩⟩ | (simp only [ob_map] at hk ⊢; first | exact ⟨hk.1.2.2.1, ⟨hk.2, ⟨hk.1.2.2.2.2.1, hk.1.2.2.2.2.2⟩⟩⟩ | grind) | grind)⟩, ⟨by (with_reducible repeat (first | apply Kd.R_alloc | apply Kd.R_drewN | apply Kd.R_drew)); exact Kd.R_mono HO_11.out (fun _ hk => by first | exact ⟨hk.1.2.2.1, ⟨hk.2, ⟨hk.1.2.2.2.2.1, hk.1.2.2.2.2.2⟩⟩⟩ | (simp only [ob_map] at hk ⊢; first | exact ⟨hk.1.2.2.1, ⟨hk.2, ⟨hk.1.2.2.2.2.1, hk.1.2.2.2.2.2⟩⟩⟩ | grind) | grind)⟩, ⟨by (with_reducible repeat (first | apply Kd.R_alloc | apply Kd.R_drewN | apply Kd.R_drew)); exact Kd.R_mono HO775.out (fun _ hk => by first | exact ⟨hk.1.1.1.1.2, ⟨hk.1.1.1.2, ⟨hk.1.2, hk.2⟩⟩⟩ | (simp only [ob_map] at hk ⊢; first | exact ⟨hk.1.1.1.1.2, ⟨hk.1.1.1.2, ⟨hk.1.2, hk.2⟩⟩⟩ | grind) | grind)⟩, ⟨xb BK747⟩, ⟨xb BK757⟩, ⟨xs HB⟩⟩
        case round =>
         clear H'
         try clear c1
         try clear c2
         try clear p2
         try clear c3
         try clear c4
         try clear c5
         try clear p6
         try clear c7
         try clear p7
         try clear q7
         try clear hx7
         try clear c10
         try clear c11
         try clear c12
         try clear c21
         try clear c21b0
         try clear c21b1
         try clear c21b2
         try clear c23
         try clear c25
         try clear c26
         try clear c29
         try clear c31
         try clear c31b0
         try clear c32
         try clear c32b0
         try clear c33
         try clear c33b0
         try clear c34
         try clear c34b0
         try clear c37
         try clear c39
         try clear c40
         try clear c51
         try clear c53
         try clear c54
         try clear c58
         try clear c58b0
         try clear c58b1
         try clear c58b2
         try clear c59
         try clear hcz14_0
         try clear hcz14_1
         try clear hcz14_2
         try clear hcz30_0
         try clear hcz30_1
         try clear hcz30_2
         try clear hcz41_0
         try clear hcz41_1
         try clear hcz41_2
         try clear hcz49_0
         try clear hcz49_1
         try clear hcz49_2
         try clear hcz55_0
         try clear hcz55_1
         try clear hcz55_2
         try clear hcz60_0
         try clear hcz60_1
         try clear hcz60_2
         try clear hfz14_0
         try clear hfz14_1
         try clear hfz14_2
         try clear hfz30_0
         try clear hfz30_1
         try clear hfz30_2
         try clear hfz41_0
         try clear hfz41_1
         try clear hfz41_2
         try clear hfz49_0
         try clear hfz49_1
         try clear hfz49_2
         try clear hfz55_0
         try clear hfz55_1
         try clear hfz55_2
         try clear hfz60_0
         try clear hfz60_1
         try clear hfz60_2
         try clear hx758_0
         try clear hx758_1
         try clear hx758_2
         try clear hx760_0
         try clear hx760_1
         try clear hx760_2
         try clear p2
         try clear p758
         try clear p760
         try clear q758
         try clear q760
         obtain ⟨x80_3, rfl, HA, HK3, HO_10, HO_11, HO_16, BK747, BK757, HB⟩ := hrel
         cases gk with
         | zero => exact absurd HA.out (by simp [insolvencylaw18_GuaranteeDerivative.l1])
         | succ k3 =>
          have H := HA.out
          clear HA
          simp only [insolvencylaw18_GuaranteeDerivative.l1] at H
          by_cases c64 : x80_3 < (t741.length : Int)
          ·rw [if_pos c64] at H
           have c64b0 : decide (x80_3 < (t741.length : Int)) = true := decide_eq_true c64
           clear c64
           by_cases c65 : 0 ≤ x80_3
           rotate_left
           ·rw [if_neg c65] at H
            exact absurd H (by simp)
           rw [if_pos c65] at H
           have c65b0 : decide (0 ≤ x80_3) = true := decide_eq_true c65
           clear c65
           by_cases c66 : x80_3 < (t748.length : Int)
           rotate_left
           ·rw [if_neg c66] at H
            exact absurd H (by simp)
           rw [if_pos c66] at H
           have c66b0 : decide (x80_3 < (t748.length : Int)) = true := decide_eq_true c66
           clear c66
           by_cases c67 : x80_3 < (t751.length : Int)
           rotate_left
           ·rw [if_neg c67] at H
            exact absurd H (by simp)
           rw [if_pos c67] at H
           have c67b0 : decide (x80_3 < (t751.length : Int)) = true := decide_eq_true c67
           clear c67
           replace H := xH H; obtain ⟨⟨t779, t780, t781⟩, A68, H⟩ := H
           dsimp only at H
           replace H := xH H; obtain ⟨⟨t782, t783, t784⟩, A69, H⟩ := H
           dsimp only at H
           by_cases c70 : x80_3 < (t773.length : Int)
           rotate_left
           ·rw [if_neg c70] at H
            exact absurd H (by simp)
           rw [if_pos c70] at H
           have c70b0 : decide (x80_3 < (t773.length : Int)) = true := decide_eq_true c70
           clear c70
           by_cases c71 : (!(t782 == ((rd_T25 t773 x80_3).f0)) || (!(t783.toList == (((rd_T25 t773 x80_3).f1).toList)) || (!(t784.toList == (((rd_T25 t773 x80_3).f2).toList))))) = true
           ·rw [if_pos c71] at H
            have c71b0 : (!(t782 == ((rd_T25 t773 x80_3).f0)) || (!(t783.toList == (((rd_T25 t773 x80_3).f1).toList)) || (!(t784.toList == (((rd_T25 t773 x80_3).f2).toList))))) = true := c71
            clear c71
            obtain rfl := Option.some.inj H
            try go_wp2
            replace HO_10 := Aside0.mk (Kd.R_drew HO_10.out)
            replace HO_11 := Aside0.mk (Kd.R_drew HO_11.out)
            replace HO_16 := Aside0.mk (Kd.R_drew HO_16.out)
            replace BK747 := xD BK747
            replace BK757 := xD BK757
            replace HB := xW HB
            obtain ⟨Ao73, co73, eo73⟩ := Kd.R_slice HO_10.out
            (first | subst eo73 | (injection eo73 with f1_ f2_ f3_; have f4_ := f1_.symm; have f5_ := f3_.symm; clear f1_ f2_ f3_; subst f4_; subst f5_))
            have p777 : 0 ≤ (x80_3 : Int) := xa
            have q777 : x80_3 < (t748.length : Int) := xa
            obtain ⟨ad777, e777, hx777_0, hx777_1, hx777_2⟩ := at_T25 (Kd.R_reads' HO_10.out).2.2 x80_3 p777 q777
            cases e777
            replace p777 := eq_true p777
            replace q777 := eq_true q777
            obtain ⟨Ao74, co74, eo74⟩ := Kd.R_slice HO_11.out
            (first | subst eo74 | (injection eo74 with f1_ f2_ f3_; have f4_ := f1_.symm; have f5_ := f3_.symm; clear f1_ f2_ f3_; subst f4_; subst f5_))
            have p778 : 0 ≤ (x80_3 : Int) := xa
            have q778 : x80_3 < (t751.length : Int) := xa
            obtain ⟨ad778, e778, hx778_0, hx778_1, hx778_2⟩ := at_T25 (Kd.R_reads' HO_11.out).2.2 x80_3 p778 q778
            cases e778
            replace p778 := eq_true p778
            replace q778 := eq_true q778
            have p785 : 0 ≤ (x80_3 : Int) := xa
            have q785 : x80_3 < (t773.length : Int) := xa
            obtain ⟨ad785, e785, hx785_0, hx785_1, hx785_2⟩ := at_T25 (Kd.R_reads' HO_16.out).2.2 x80_3 p785 q785
            cases e785
            replace p785 := eq_true p785
            replace q785 := eq_true q785
            refine start_ (n := 16) (S := fun w' => w'.cell? ⟨gb757, 0, none⟩ = some (.bool t754) ∧ w'.cell? ⟨gb757, 1, none⟩ = some (.string t755) ∧ w'.cell? ⟨gb757, 2, none⟩ = some (.string t756) ∧ w'.cell? (ad777.add ((x80_3).toNat * 3)) = some (.bool ((rd_T25 t748 x80_3).f0)) ∧ w'.cell? ⟨(ad777.add ((x80_3).toNat * 3)).block, (ad777.add ((x80_3).toNat * 3)).off + 1, none⟩ = some (.string ((rd_T25 t748 x80_3).f1)) ∧ w'.cell? ⟨(ad777.add ((x80_3).toNat * 3)).block, (ad777.add ((x80_3).toNat * 3)).off + 2, none⟩ = some (.string ((rd_T25 t748 x80_3).f2)) ∧ w'.cell? (ad778.add ((x80_3).toNat * 3)) = some (.bool ((rd_T25 t751 x80_3).f0)) ∧ w'.cell? ⟨(ad778.add ((x80_3).toNat * 3)).block, (ad778.add ((x80_3).toNat * 3)).off + 1, none⟩ = some (.string ((rd_T25 t751 x80_3).f1)) ∧ w'.cell? ⟨(ad778.add ((x80_3).toNat * 3)).block, (ad778.add ((x80_3).toNat * 3)).off + 2, none⟩ = some (.string ((rd_T25 t751 x80_3).f2)) ∧ w'.cell? (ad785.add ((x80_3).toNat * 3)) = some (.bool ((rd_T25 t773 x80_3).f0)) ∧ w'.cell? ⟨(ad785.add ((x80_3).toNat * 3)).block, (ad785.add ((x80_3).toNat * 3)).off + 1, none⟩ = some (.string ((rd_T25 t773 x80_3).f1)) ∧ w'.cell? ⟨(ad785.add ((x80_3).toNat * 3)).block, (ad785.add ((x80_3).toNat * 3)).off + 2, none⟩ = some (.string ((rd_T25 t773 x80_3).f2))) (ds := []) #[false, false, false, false, false, false, false, false, false, false, false, false, false, false, false, false] (by kernel_rfl) rfl rfl ⟨(blk_cell BK757.out 0).trans rfl, (blk_cell BK757.out 1).trans rfl, (blk_cell BK757.out 2).trans rfl, hx777_0, hx777_1, hx777_2, hx778_0, hx778_1, hx778_2, hx785_0, hx785_1, hx785_2⟩ (fun hHeld => ?_); refine with_tabW insolvencylaw18_GuaranteeDerivative.tab21 insolvencylaw18_GuaranteeDerivative.bits21 (fun HT_ HW_ => ?_)
            generalize wr.drew = w72 at HO_10 HO_11 HO_16 BK747 BK757 HB hx777_0 hx777_1 hx777_2 hx778_0 hx778_1 hx778_2 hx785_0 hx785_1 hx785_2 hHeld ⊢
            refine xP 0 (some 83) (b 16 1) rfl rfl ?_
            refine xP 1 (some 84) (b 16 3) rfl rfl ?_
            refine xP 2 (some 85) (b 16 7) rfl rfl ?_
            refine xP 5 (some 88) (b 16 39) rfl rfl ?_
            refine xP 6 (some 89) (b 16 103) rfl rfl ?_
            refine xP 7 (some 90) (b 16 231) rfl rfl ?_
            refine xP 11 (some 94) (b 16 2279) rfl rfl ?_
            refine xP 12 (some 95) (b 16 6375) rfl rfl ?_
            refine xP 13 (some 96) (b 16 14567) rfl rfl ?_
            refine xT 3 (some 86) (b 16 14575) rfl rfl hHeld ?_
            refine xT 4 (some 87) (b 16 14591) rfl rfl hHeld ?_
            refine xT 8 (some 91) (b 16 14847) rfl rfl hHeld ?_
            refine xT 14 (some 97) (b 16 31231) rfl rfl hHeld ?_
            refine xO 9 (some 92) (b 16 31743) rfl rfl fun K hK => ?_
            refine goes_ Tryd.func26 (by kernel_rfl) rfl #[.agg #[.bool t754, .string t755, .string t756], .agg #[.bool ((rd_T25 t751 x80_3).f0), .string ((rd_T25 t751 x80_3).f1), .string ((rd_T25 t751 x80_3).f2)]] (by rfl) rfl rfl (by (try simp only [List.map_toArray, List.map_cons, List.map_nil]); first | done | rfl | (simp only [List.length_drop, List.length_take]; rfl)) ?_
            with_reducible refine (rational_Multiply.calls k3 t754 t755 t756 ((rd_T25 t751 x80_3).f0) ((rd_T25 t751 x80_3).f1) ((rd_T25 t751 x80_3).f2) t779 t780 t781 _ A68.out).mono ?_
            rintro e w75 ⟨rfl, hb⟩
            have HS3_ := (hb.cell (World.block_lt_of_cell? _ _ (hHeld.2.2.2.1))).trans (hHeld.2.2.2.1)
            have HS4_ := (hb.cell (World.block_lt_of_cell? _ _ (hHeld.2.2.2.2.1))).trans (hHeld.2.2.2.2.1)
            have HS5_ := (hb.cell (World.block_lt_of_cell? _ _ (hHeld.2.2.2.2.2.1))).trans (hHeld.2.2.2.2.2.1)
            have HS6_ := (hb.cell (World.block_lt_of_cell? _ _ (hHeld.2.2.2.2.2.2.1))).trans (hHeld.2.2.2.2.2.2.1)
            have HS7_ := (hb.cell (World.block_lt_of_cell? _ _ (hHeld.2.2.2.2.2.2.2.1))).trans (hHeld.2.2.2.2.2.2.2.1)
            have HS8_ := (hb.cell (World.block_lt_of_cell? _ _ (hHeld.2.2.2.2.2.2.2.2.1))).trans (hHeld.2.2.2.2.2.2.2.2.1)
            have HS9_ := (hb.cell (World.block_lt_of_cell? _ _ (hHeld.2.2.2.2.2.2.2.2.2.1))).trans (hHeld.2.2.2.2.2.2.2.2.2.1)
            have HS10_ := (hb.cell (World.block_lt_of_cell? _ _ (hHeld.2.2.2.2.2.2.2.2.2.2.1))).trans (hHeld.2.2.2.2.2.2.2.2.2.2.1)
            have HS11_ := (hb.cell (World.block_lt_of_cell? _ _ (hHeld.2.2.2.2.2.2.2.2.2.2.2))).trans (hHeld.2.2.2.2.2.2.2.2.2.2.2)
            refine ⟨_, rfl, ?_⟩
            replace HO_10 := Aside0.mk (Kd.R_below (xr HO_10.out) hb)
            replace HO_11 := Aside0.mk (Kd.R_below (xr HO_11.out) hb)
            replace HO_16 := Aside0.mk (Kd.R_below (xr HO_16.out) hb)
            replace BK747 := xB BK747 hb
            replace BK757 := xB BK757 hb
            replace HB := xS HB hb
            (try clear hb)
            (try clear hb2)
            (try clear hk)
            (try clear hi)
            refine hK.out _ _ ⟨(blk_cell BK757.out 0).trans rfl, (blk_cell BK757.out 1).trans rfl, (blk_cell BK757.out 2).trans rfl, HS3_, HS4_, HS5_, HS6_, HS7_, HS8_, HS9_, HS10_, HS11_⟩ (fun hHeld => ?_)
            clear hK K
            refine xN 92 ?_
            refine xO 10 (some 93) (b 16 32767) rfl rfl fun K hK => ?_
            refine goes_ Tryd.func21 (by kernel_rfl) rfl #[.agg #[.bool ((rd_T25 t748 x80_3).f0), .string ((rd_T25 t748 x80_3).f1), .string ((rd_T25 t748 x80_3).f2)], .agg #[.bool t779, .string t780, .string t781]] (by rfl) rfl rfl (by (try simp only [List.map_toArray, List.map_cons, List.map_nil]); first | done | rfl | (simp only [List.length_drop, List.length_take]; rfl)) ?_
            with_reducible refine (rational_Add.calls k3 ((rd_T25 t748 x80_3).f0) ((rd_T25 t748 x80_3).f1) ((rd_T25 t748 x80_3).f2) t779 t780 t781 t782 t783 t784 _ A69.out).mono ?_
            rintro e w76 ⟨rfl, hb⟩
            have HS3_ := (hb.cell (World.block_lt_of_cell? _ _ (hHeld.2.2.2.1))).trans (hHeld.2.2.2.1)
            have HS4_ := (hb.cell (World.block_lt_of_cell? _ _ (hHeld.2.2.2.2.1))).trans (hHeld.2.2.2.2.1)
            have HS5_ := (hb.cell (World.block_lt_of_cell? _ _ (hHeld.2.2.2.2.2.1))).trans (hHeld.2.2.2.2.2.1)
            have HS6_ := (hb.cell (World.block_lt_of_cell? _ _ (hHeld.2.2.2.2.2.2.1))).trans (hHeld.2.2.2.2.2.2.1)
            have HS7_ := (hb.cell (World.block_lt_of_cell? _ _ (hHeld.2.2.2.2.2.2.2.1))).trans (hHeld.2.2.2.2.2.2.2.1)
            have HS8_ := (hb.cell (World.block_lt_of_cell? _ _ (hHeld.2.2.2.2.2.2.2.2.1))).trans (hHeld.2.2.2.2.2.2.2.2.1)
            have HS9_ := (hb.cell (World.block_lt_of_cell? _ _ (hHeld.2.2.2.2.2.2.2.2.2.1))).trans (hHeld.2.2.2.2.2.2.2.2.2.1)
            have HS10_ := (hb.cell (World.block_lt_of_cell? _ _ (hHeld.2.2.2.2.2.2.2.2.2.2.1))).trans (hHeld.2.2.2.2.2.2.2.2.2.2.1)
            have HS11_ := (hb.cell (World.block_lt_of_cell? _ _ (hHeld.2.2.2.2.2.2.2.2.2.2.2))).trans (hHeld.2.2.2.2.2.2.2.2.2.2.2)
            refine ⟨_, rfl, ?_⟩
            replace HO_10 := Aside0.mk (Kd.R_below (xr HO_10.out) hb)
            replace HO_11 := Aside0.mk (Kd.R_below (xr HO_11.out) hb)
            replace HO_16 := Aside0.mk (Kd.R_below (xr HO_16.out) hb)
            replace BK747 := xB BK747 hb
            replace BK757 := xB BK757 hb
            replace HB := xS HB hb
            (try clear hb)
            (try clear hb2)
            (try clear hk)
            (try clear hi)
            refine hK.out _ _ ⟨(blk_cell BK757.out 0).trans rfl, (blk_cell BK757.out 1).trans rfl, (blk_cell BK757.out 2).trans rfl, HS3_, HS4_, HS5_, HS6_, HS7_, HS8_, HS9_, HS10_, HS11_⟩ (fun hHeld => ?_)
            clear hK K
            refine xN 93 ?_
            refine xP 15 (some 98) (b 16 65535) rfl rfl ?_
            refine done_ (done_of HT_.out (by kernel_rfl)) ?_
            try go_wp2
            go_ret
            exact ⟨xy, xs HB⟩
           ·rw [if_neg c71] at H
            have c71b0 : (!(t782 == ((rd_T25 t773 x80_3).f0)) || (!(t783.toList == (((rd_T25 t773 x80_3).f1).toList)) || (!(t784.toList == (((rd_T25 t773 x80_3).f2).toList))))) = false := by simpa using c71
            clear c71
            have H' := Aside0.mk H
            clear H
            try go_wp2
            replace HO_10 := Aside0.mk (Kd.R_drew HO_10.out)
            replace HO_11 := Aside0.mk (Kd.R_drew HO_11.out)
            replace HO_16 := Aside0.mk (Kd.R_drew HO_16.out)
            replace BK747 := xD BK747
            replace BK757 := xD BK757
            replace HB := xW HB
            obtain ⟨Ao78, co78, eo78⟩ := Kd.R_slice HO_10.out
            (first | subst eo78 | (injection eo78 with f1_ f2_ f3_; have f4_ := f1_.symm; have f5_ := f3_.symm; clear f1_ f2_ f3_; subst f4_; subst f5_))
            have p777 : 0 ≤ (x80_3 : Int) := xa
            have q777 : x80_3 < (t748.length : Int) := xa
            obtain ⟨ad777, e777, hx777_0, hx777_1, hx777_2⟩ := at_T25 (Kd.R_reads' HO_10.out).2.2 x80_3 p777 q777
            cases e777
            replace p777 := eq_true p777
            replace q777 := eq_true q777
            obtain ⟨Ao79, co79, eo79⟩ := Kd.R_slice HO_11.out
            (first | subst eo79 | (injection eo79 with f1_ f2_ f3_; have f4_ := f1_.symm; have f5_ := f3_.symm; clear f1_ f2_ f3_; subst f4_; subst f5_))
            have p778 : 0 ≤ (x80_3 : Int) := xa
            have q778 : x80_3 < (t751.length : Int) := xa
            obtain ⟨ad778, e778, hx778_0, hx778_1, hx778_2⟩ := at_T25 (Kd.R_reads' HO_11.out).2.2 x80_3 p778 q778
            cases e778
            replace p778 := eq_true p778
            replace q778 := eq_true q778
            have p785 : 0 ≤ (x80_3 : Int) := xa
            have q785 : x80_3 < (t773.length : Int) := xa
            obtain ⟨ad785, e785, hx785_0, hx785_1, hx785_2⟩ := at_T25 (Kd.R_reads' HO_16.out).2.2 x80_3 p785 q785
            cases e785
            replace p785 := eq_true p785
            replace q785 := eq_true q785
            refine start_ (n := 16) (S := fun w' => w'.cell? ⟨gb757, 0, none⟩ = some (.bool t754) ∧ w'.cell? ⟨gb757, 1, none⟩ = some (.string t755) ∧ w'.cell? ⟨gb757, 2, none⟩ = some (.string t756) ∧ w'.cell? (ad777.add ((x80_3).toNat * 3)) = some (.bool ((rd_T25 t748 x80_3).f0)) ∧ w'.cell? ⟨(ad777.add ((x80_3).toNat * 3)).block, (ad777.add ((x80_3).toNat * 3)).off + 1, none⟩ = some (.string ((rd_T25 t748 x80_3).f1)) ∧ w'.cell? ⟨(ad777.add ((x80_3).toNat * 3)).block, (ad777.add ((x80_3).toNat * 3)).off + 2, none⟩ = some (.string ((rd_T25 t748 x80_3).f2)) ∧ w'.cell? (ad778.add ((x80_3).toNat * 3)) = some (.bool ((rd_T25 t751 x80_3).f0)) ∧ w'.cell? ⟨(ad778.add ((x80_3).toNat * 3)).block, (ad778.add ((x80_3).toNat * 3)).off + 1, none⟩ = some (.string ((rd_T25 t751 x80_3).f1)) ∧ w'.cell? ⟨(ad778.add ((x80_3).toNat * 3)).block, (ad778.add ((x80_3).toNat * 3)).off + 2, none⟩ = some (.string ((rd_T25 t751 x80_3).f2)) ∧ w'.cell? (ad785.add ((x80_3).toNat * 3)) = some (.bool ((rd_T25 t773 x80_3).f0)) ∧ w'.cell? ⟨(ad785.add ((x80_3).toNat * 3)).block, (ad785.add ((x80_3).toNat * 3)).off + 1, none⟩ = some (.string ((rd_T25 t773 x80_3).f1)) ∧ w'.cell? ⟨(ad785.add ((x80_3).toNat * 3)).block, (ad785.add ((x80_3).toNat * 3)).off + 2, none⟩ = some (.string ((rd_T25 t773 x80_3).f2))) (ds := []) #[false, false, false, false, false, false, false, false, false, false, false, false, false, false, false, false] (by kernel_rfl) rfl rfl ⟨(blk_cell BK757.out 0).trans rfl, (blk_cell BK757.out 1).trans rfl, (blk_cell BK757.out 2).trans rfl, hx777_0, hx777_1, hx777_2, hx778_0, hx778_1, hx778_2, hx785_0, hx785_1, hx785_2⟩ (fun hHeld => ?_); refine with_tabW insolvencylaw18_GuaranteeDerivative.tab21 insolvencylaw18_GuaranteeDerivative.bits21 (fun HT_ HW_ => ?_)
            generalize wr.drew = w77 at HO_10 HO_11 HO_16 BK747 BK757 HB hx777_0 hx777_1 hx777_2 hx778_0 hx778_1 hx778_2 hx785_0 hx785_1 hx785_2 hHeld ⊢
            refine xP 0 (some 83) (b 16 1) rfl rfl ?_
            refine xP 1 (some 84) (b 16 3) rfl rfl ?_
            refine xP 2 (some 85) (b 16 7) rfl rfl ?_
            refine xP 5 (some 88) (b 16 39) rfl rfl ?_
            refine xP 6 (some 89) (b 16 103) rfl rfl ?_
            refine xP 7 (some 90) (b 16 231) rfl rfl ?_
            refine xP 11 (some 94) (b 16 2279) rfl rfl ?_
            refine xP 12 (some 95) (b 16 6375) rfl rfl ?_
            refine xP 13 (some 96) (b 16 14567) rfl rfl ?_
            refine xT 3 (some 86) (b 16 14575) rfl rfl hHeld ?_
            refine xT 4 (some 87) (b 16 14591) rfl rfl hHeld ?_
            refine xT 8 (some 91) (b 16 14847) rfl rfl hHeld ?_
            refine xT 14 (some 97) (b 16 31231) rfl rfl hHeld ?_
            refine xO 9 (some 92) (b 16 31743) rfl rfl fun K hK => ?_
            refine goes_ Tryd.func26 (by kernel_rfl) rfl #[.agg #[.bool t754, .string t755, .string t756], .agg #[.bool ((rd_T25 t751 x80_3).f0), .string ((rd_T25 t751 x80_3).f1), .string ((rd_T25 t751 x80_3).f2)]] (by rfl) rfl rfl (by (try simp only [List.map_toArray, List.map_cons, List.map_nil]); first | done | rfl | (simp only [List.length_drop, List.length_take]; rfl)) ?_
            with_reducible refine (rational_Multiply.calls k3 t754 t755 t756 ((rd_T25 t751 x80_3).f0) ((rd_T25 t751 x80_3).f1) ((rd_T25 t751 x80_3).f2) t779 t780 t781 _ A68.out).mono ?_
            rintro e w80 ⟨rfl, hb⟩
            have HS3_ := (hb.cell (World.block_lt_of_cell? _ _ (hHeld.2.2.2.1))).trans (hHeld.2.2.2.1)
            have HS4_ := (hb.cell (World.block_lt_of_cell? _ _ (hHeld.2.2.2.2.1))).trans (hHeld.2.2.2.2.1)
            have HS5_ := (hb.cell (World.block_lt_of_cell? _ _ (hHeld.2.2.2.2.2.1))).trans (hHeld.2.2.2.2.2.1)
            have HS6_ := (hb.cell (World.block_lt_of_cell? _ _ (hHeld.2.2.2.2.2.2.1))).trans (hHeld.2.2.2.2.2.2.1)
            have HS7_ := (hb.cell (World.block_lt_of_cell? _ _ (hHeld.2.2.2.2.2.2.2.1))).trans (hHeld.2.2.2.2.2.2.2.1)
            have HS8_ := (hb.cell (World.block_lt_of_cell? _ _ (hHeld.2.2.2.2.2.2.2.2.1))).trans (hHeld.2.2.2.2.2.2.2.2.1)
            have HS9_ := (hb.cell (World.block_lt_of_cell? _ _ (hHeld.2.2.2.2.2.2.2.2.2.1))).trans (hHeld.2.2.2.2.2.2.2.2.2.1)
            have HS10_ := (hb.cell (World.block_lt_of_cell? _ _ (hHeld.2.2.2.2.2.2.2.2.2.2.1))).trans (hHeld.2.2.2.2.2.2.2.2.2.2.1)
            have HS11_ := (hb.cell (World.block_lt_of_cell? _ _ (hHeld.2.2.2.2.2.2.2.2.2.2.2))).trans (hHeld.2.2.2.2.2.2.2.2.2.2.2)
            refine ⟨_, rfl, ?_⟩
            replace HO_10 := Aside0.mk (Kd.R_below (xr HO_10.out) hb)
            replace HO_11 := Aside0.mk (Kd.R_below (xr HO_11.out) hb)
            replace HO_16 := Aside0.mk (Kd.R_below (xr HO_16.out) hb)
            replace BK747 := xB BK747 hb
            replace BK757 := xB BK757 hb
            replace HB := xS HB hb
            (try clear hb)
            (try clear hb2)
            (try clear hk)
            (try clear hi)
            refine hK.out _ _ ⟨(blk_cell BK757.out 0).trans rfl, (blk_cell BK757.out 1).trans rfl, (blk_cell BK757.out 2).trans rfl, HS3_, HS4_, HS5_, HS6_, HS7_, HS8_, HS9_, HS10_, HS11_⟩ (fun hHeld => ?_)
            clear hK K
            refine xN 92 ?_
            refine xO 10 (some 93) (b 16 32767) rfl rfl fun K hK => ?_
            refine goes_ Tryd.func21 (by kernel_rfl) rfl #[.agg #[.bool ((rd_T25 t748 x80_3).f0), .string ((rd_T25 t748 x80_3).f1), .string ((rd_T25 t748 x80_3).f2)], .agg #[.bool t779, .string t780, .string t781]] (by rfl) rfl rfl (by (try simp only [List.map_toArray, List.map_cons, List.map_nil]); first | done | rfl | (simp only [List.length_drop, List.length_take]; rfl)) ?_
            with_reducible refine (rational_Add.calls k3 ((rd_T25 t748 x80_3).f0) ((rd_T25 t748 x80_3).f1) ((rd_T25 t748 x80_3).f2) t779 t780 t781 t782 t783 t784 _ A69.out).mono ?_
            rintro e w81 ⟨rfl, hb⟩
            have HS3_ := (hb.cell (World.block_lt_of_cell? _ _ (hHeld.2.2.2.1))).trans (hHeld.2.2.2.1)
            have HS4_ := (hb.cell (World.block_lt_of_cell? _ _ (hHeld.2.2.2.2.1))).trans (hHeld.2.2.2.2.1)
            have HS5_ := (hb.cell (World.block_lt_of_cell? _ _ (hHeld.2.2.2.2.2.1))).trans (hHeld.2.2.2.2.2.1)
            have HS6_ := (hb.cell (World.block_lt_of_cell? _ _ (hHeld.2.2.2.2.2.2.1))).trans (hHeld.2.2.2.2.2.2.1)
            have HS7_ := (hb.cell (World.block_lt_of_cell? _ _ (hHeld.2.2.2.2.2.2.2.1))).trans (hHeld.2.2.2.2.2.2.2.1)
            have HS8_ := (hb.cell (World.block_lt_of_cell? _ _ (hHeld.2.2.2.2.2.2.2.2.1))).trans (hHeld.2.2.2.2.2.2.2.2.1)
            have HS9_ := (hb.cell (World.block_lt_of_cell? _ _ (hHeld.2.2.2.2.2.2.2.2.2.1))).trans (hHeld.2.2.2.2.2.2.2.2.2.1)
            have HS10_ := (hb.cell (World.block_lt_of_cell? _ _ (hHeld.2.2.2.2.2.2.2.2.2.2.1))).trans (hHeld.2.2.2.2.2.2.2.2.2.2.1)
            have HS11_ := (hb.cell (World.block_lt_of_cell? _ _ (hHeld.2.2.2.2.2.2.2.2.2.2.2))).trans (hHeld.2.2.2.2.2.2.2.2.2.2.2)
            refine ⟨_, rfl, ?_⟩
            replace HO_10 := Aside0.mk (Kd.R_below (xr HO_10.out) hb)
            replace HO_11 := Aside0.mk (Kd.R_below (xr HO_11.out) hb)
            replace HO_16 := Aside0.mk (Kd.R_below (xr HO_16.out) hb)
            replace BK747 := xB BK747 hb
            replace BK757 := xB BK757 hb
            replace HB := xS HB hb
            (try clear hb)
            (try clear hb2)
            (try clear hk)
            (try clear hi)
            refine hK.out _ _ ⟨(blk_cell BK757.out 0).trans rfl, (blk_cell BK757.out 1).trans rfl, (blk_cell BK757.out 2).trans rfl, HS3_, HS4_, HS5_, HS6_, HS7_, HS8_, HS9_, HS10_, HS11_⟩ (fun hHeld => ?_)
            clear hK K
            refine xN 93 ?_
            refine xP 15 (some 98) (b 16 65535) rfl rfl ?_
            refine done_ (done_of HT_.out (by kernel_rfl)) ?_
            try go_wp2
            (first | go_roundg k3 | (refine Handed.intro k3 ?measure ?_; rotate_left; go_step; (repeat apply Exists.intro); refine ⟨?rel, (by first | rfl | (simp only [add_plain]; rfl))⟩))
            case measure => have := HJ8.out; have := HK2.out; have := HK3.out; omega
            case rel => exact ⟨(wrap64 (x80_3 + 1)), xz, H', ⟨by have := HJ8.out; have := HK2.out; have := HK3.out; omega⟩, ⟨xr HO_10.out⟩, ⟨xr HO_11.out⟩, ⟨xr HO_16.out⟩, ⟨xb BK747⟩, ⟨xb BK757⟩, ⟨xs HB⟩⟩
          ·rw [if_neg c64] at H
           have c64b0 : decide (x80_3 < (t741.length : Int)) = false := decide_eq_false c64
           clear c64
           replace H := xH H; obtain ⟨t776, A82, H⟩ := H
           obtain rfl := Option.some.inj H
           go_wp2_with (first | (refine xC Tryd.func14 (some 100) (insolvencylaw18_awake.calls k3  t776 _ A82.out) ?_; rintro w83 hb; replace HO_10 := Aside0.mk (Kd.R_below (xr HO_10.out) hb); replace HO_11 := Aside0.mk (Kd.R_below (xr HO_11.out) hb); replace HO_16 := Aside0.mk (Kd.R_below (xr HO_16.out) hb); replace BK747 := xB BK747 hb; replace BK757 := xB BK757 hb; replace HB := xS HB hb; clear hb))
           go_ret
           exact ⟨xy, xs HB⟩
       ·rw [if_neg c58] at H
        have c58b0 : ((t773.length : Int) == (t741.length : Int)) = false := beq_eq_false_iff_ne.mpr c58
        have c58b1 : ((t773.length : Int) != (t741.length : Int)) = true := bne_iff_ne.mpr c58
        have c58b2 : (t773.length == t741.length) = false := by first | simpa using c58 | (simp at c58 ⊢; omega)
        obtain rfl := Option.some.inj H
        have hnb84 := NB747_757.out
        have hnc84 := NB757_747.out
        obtain ⟨hcz85_0, hcz85_1, hcz85_2, hfz85_0, hfz85_1, hfz85_2⟩ := x6 BK747
        obtain ⟨Ao86, co86, eo86⟩ := Kd.R_slice HO_13.out
        subst eo86
        go_wp2_with (first | (refine xg Tryd.func12 (some 72) #[.agg #[.bool t738, .string t739, .string t740], .slice Ao86 x13_2.length co86] ?_; (with_reducible refine (guarantee_Refunds.calls k2 t738 t739 t740 _ _ x13_2 t773 _ ?side1 ?side2 A57.out).mono ?_); (case side1 => repeat (first | exact (Kd.R_reads' HO_13.out).2.2 | (with_reducible refine Kd.C_alloc ?_ _) | (with_reducible refine Kd.C_drewN ?_ _) | (with_reducible refine Kd.C_drew ?_))); (case side2 => exact (Kd.R_reads' HO_13.out).2.1); rintro e w87 ⟨v774, rfl, ho0, hb⟩; refine ⟨_, rfl, ?_⟩; have HO775 := Aside0.mk (Kd.R_lower (Kd.R_newB (Kd.R_newB (Kd.R_new' (Kd.R_new' (Kd.R_new' (Kd.R_new' (Kd.R_new' ho0 (Kd.R_lt (xr HO_8.out))) (Kd.R_lt (xr HO_9.out))) (Kd.R_lt (xr HO_10.out))) (Kd.R_lt (xr HO_11.out))) (Kd.R_lt (xr HO_13.out))) (g := gb747) (o := .cells #[.bool t738, .string t739, .string t740] 25 (0, 0)) (xb BK747)) (g := gb757) (o := .cells #[.bool t754, .string t755, .string t756] 25 (0, 0)) (xb BK757)) (below_size (xs HB))); replace HO_8 := Aside0.mk (Kd.R_elder' (xr HO_8.out) (Kd.R_base ho0) hb); replace HO_9 := Aside0.mk (Kd.R_elder' (xr HO_9.out) (Kd.R_base ho0) hb); replace HO_10 := Aside0.mk (Kd.R_elder' (xr HO_10.out) (Kd.R_base ho0) hb); replace HO_11 := Aside0.mk (Kd.R_elder' (xr HO_11.out) (Kd.R_base ho0) hb); replace HO_13 := Aside0.mk (Kd.R_elder' (xr HO_13.out) (Kd.R_base ho0) hb); replace BK747 := xB BK747 hb; replace BK757 := xB BK757 hb; replace HB := xS HB hb; clear hb ho0; obtain ⟨Ao88, co88, eo88⟩ := Kd.R_slice HO775.out; subst eo88))
        go_ret
        exact ⟨xy, xs HB⟩
/-- THE ONE PURE STATEMENT of insolvencylaw18_GuaranteeDerivative: yours. -/
def insolvencylaw18_GuaranteeDerivative.Pure : Prop := ∀ (a0 : Int) (l1 : List Int) (l2 : List Int), (Lit.int .u16 a0).wf = true → l1.length ≤ maxLen → l1.length * 2 ≤ 140737488351232 → (∀ x ∈ l1, (Lit.int .u16 x).wf = true) → l2.length ≤ maxLen → l2.length * 2 ≤ 140737488351232 → (∀ x ∈ l2, (Lit.int .u16 x).wf = true) → ∃ k, insolvencylaw18_GuaranteeDerivative.f k a0 l1 l2 = some true
theorem insolvencylaw18_GuaranteeDerivative.walk (P : insolvencylaw18_GuaranteeDerivative.Pure) (a0 : Int) (a1 : Option Addr) (len1 cap1 : Nat) (z1 : List Int) (a2 : Option Addr) (len2 cap2 : Nat) (z2 : List Int) (w : World) (w0 : (Lit.int .u16 a0).wf = true) (w1 : (a1 = none ∧ len1 = 0 ∧ cap1 = 0 ∧ z1 = []) ∨ ∃ x, a1 = some x ∧ len1 ≤ cap1 ∧ cap1 ≤ maxLen ∧ z1.length = cap1 ∧ (∀ i, i < z1.length → w.cell? (x.add i) = some (.int .u16 (z1.getD i 0))) ∧ ∀ n ∈ z1, (Lit.int .u16 n).wf = true) (y1 : len1 * 2 ≤ 140737488351232) (w2 : (a2 = none ∧ len2 = 0 ∧ cap2 = 0 ∧ z2 = []) ∨ ∃ x, a2 = some x ∧ len2 ≤ cap2 ∧ cap2 ≤ maxLen ∧ z2.length = cap2 ∧ (∀ i, i < z2.length → w.cell? (x.add i) = some (.int .u16 (z2.getD i 0))) ∧ ∀ n ∈ z2, (Lit.int .u16 n).wf = true) (y2 : len2 * 2 ≤ 140737488351232) :
  Calls Tryd.prog 7 #[.int .u16 a0, .slice a1 len1 cap1, .slice a2 len2 cap2] w fun e w' => e = .returned (.bool true) ∧ Below w.heap.size w w' := by
 obtain ⟨l1, rfl, hr1, hm1, hw1, hc1⟩ := ReadsInt.ofRowC w1
 obtain ⟨l2, rfl, hr2, hm2, hw2, hc2⟩ := ReadsInt.ofRowC w2
 obtain ⟨k, h⟩ := P a0 l1 l2 w0 hm1 y1 hw1 hm2 y2 hw2
 refine (insolvencylaw18_GuaranteeDerivative.calls k a0 _ _ l1 _ _ l2 true w (Kd.C_of_reads (d := (0 : Int)) (h1 := fun _ => rfl) hr1) hc1 (Kd.C_of_reads (d := (0 : Int)) (h1 := fun _ => rfl) hr2) hc2 h).mono ?_
 rintro e w' ⟨rfl, hd⟩
 exact ⟨rfl, hd⟩
end
end Go.Proofs.YtpoogjcgjpkbeaaDoor.XC
