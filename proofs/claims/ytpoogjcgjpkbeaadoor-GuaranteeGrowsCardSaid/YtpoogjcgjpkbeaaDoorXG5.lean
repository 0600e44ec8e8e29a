/- Walks of functions of the program: a plain Lean function for each, and a proof that a call answers as it says. Written by a program (the kit's print with changes, then shortened). -/
import Derived.Test.YtpoogjcgjpkbeaaDoorXG4
namespace Go.Proofs.YtpoogjcgjpkbeaaDoor.XB
open Go.RowKit Go.Proofs.YtpoogjcgjpkbeaaDoorW.PrintWords Go.Proofs.YtpoogjcgjpkbeaaDoorW.PrintLast Go.Proofs.YtpoogjcgjpkbeaaDoorW.PrintMore Go.Proofs.YtpoogjcgjpkbeaaDoorW.Sq
attribute [local go_sem] max2_int min2_int max_two min_two max_three min_three max_four min_four   -- for this text's walks alone
set_option linter.unusedVariables false
set_option linter.unusedSimpArgs false
/-! ### insolvencylaw18_GuaranteeGrows: function 5 -/
mutual
def insolvencylaw18_GuaranteeGrows.j0 : Nat → List (S25) → List (S25) → List (S25) → Bool → Bool → ByteArray → ByteArray → Bool → ByteArray → ByteArray → Option (Bool)
 | 0, _, _, _, _, _, _, _, _, _, _ => none
 | k + 1, x10, x11, x14, x59, x630000, x630001, x630002, x638000, x638001, x638002 => if x59 = true then (some false) else (insolvencylaw18_GuaranteeGrows.l0 k x10 x11 x14 (x11.length : Int) 0 x630000 x630001 x630002 x638000 x638001 x638002)
def insolvencylaw18_GuaranteeGrows.l0 : Nat → List (S25) → List (S25) → List (S25) → Int → Int → Bool → ByteArray → ByteArray → Bool → ByteArray → ByteArray → Option (Bool)
 | 0, _, _, _, _, _, _, _, _, _, _, _ => none
 | k + 1, x10, x11, x14, x61, x62, x630000, x630001, x630002, x638000, x638001, x638002 => if x62 < x61 then (if 0 ≤ x62 then (if x62 < (x11.length : Int) then (if x62 < (x14.length : Int) then ((rational_Compare.f k ((rd_T25 x11 x62).f0) ((rd_T25 x11 x62).f1) ((rd_T25 x11 x62).f2) ((rd_T25 x14 x62).f0) ((rd_T25 x14 x62).f1) ((rd_T25 x14 x62).f2)).bind fun t651 => (if t651 > 0 then (some false) else (insolvencylaw18_GuaranteeGrows.l0 k x10 x11 x14 x61 (wrap64 (x62 + 1)) x630000 x630001 x630002 x638000 x638001 x638002))) else (none)) else (none)) else (none)) else ((insolvencylaw18_awake.f k).bind fun t652 => (if t652 = true then ((guarantee_Kept.f k x630000 x630001 x630002 x10).bind fun bt653 => ((rational_Compare.f k x638000 x638001 x638002 bt653.1 bt653.2.1 bt653.2.2).bind fun t656 => (some (decide (t656 ≤ 0))))) else (some false)))
end
def insolvencylaw18_GuaranteeGrows.f (k : Nat) (a0 : Int) (l1 : List Int) (a2 : Int) (a3 : Int) : Option (Bool) := (insolvencylaw0_Amount.f k a0).bind fun bt623 => ((insolvencylaw0_Amounts.f k l1 8).bind fun t626 => (if (t626.length : Int) = 0 then ((insolvencylaw18_awake.f k).bind fun t630 => (some t630)) else ((guarantee_Refunds.f k bt623.1 bt623.2.1 bt623.2.2 t626).bind fun t631 => ((guarantee_Kept.f k bt623.1 bt623.2.1 bt623.2.2 t626).bind fun bt634 => (if 0 ≤ (Int.tmod (wrap64 (a2)) (t626.length : Int)) then (if (Int.tmod (wrap64 (a2)) (t626.length : Int)) < (t626.length : Int) then ((insolvencylaw0_Amount.f k a3).bind fun bt639 => ((rational_Add.f k ((rd_T25 t626 (Int.tmod (wrap64 (a2)) (t626.length : Int))).f0) ((rd_T25 t626 (Int.tmod (wrap64 (a2)) (t626.length : Int))).f1) ((rd_T25 t626 (Int.tmod (wrap64 (a2)) (t626.length : Int))).f2) bt639.1 bt639.2.1 bt639.2.2).bind fun bt642 => ((some (t626.set ((Int.tmod (wrap64 (a2)) (t626.length : Int)) : Int).toNat (⟨bt642.1, bt642.2.1, bt642.2.2⟩ : S25) : List (S25))).bind fun y645 => ((guarantee_Refunds.f k bt623.1 bt623.2.1 bt623.2.2 y645).bind fun t646 => (if (t631.length : Int) = (t626.length : Int) then (insolvencylaw18_GuaranteeGrows.j0 k y645 t631 t646 ((t646.length : Int) != (t626.length : Int)) bt623.1 bt623.2.1 bt623.2.2 bt634.1 bt634.2.1 bt634.2.2) else (insolvencylaw18_GuaranteeGrows.j0 k y645 t631 t646 true bt623.1 bt623.2.1 bt623.2.2 bt634.1 bt634.2.1 bt634.2.2)))))) else (none)) else (none))))))
theorem insolvencylaw18_GuaranteeGrows.mono_l : ∀ k, (∀ y0 y1 y2 y3 y4 y5 y6 y7 y8 y9, LeO (insolvencylaw18_GuaranteeGrows.j0 k y0 y1 y2 y3 y4 y5 y6 y7 y8 y9) (insolvencylaw18_GuaranteeGrows.j0 (k + 1) y0 y1 y2 y3 y4 y5 y6 y7 y8 y9)) ∧ (∀ y0 y1 y2 y3 y4 y5 y6 y7 y8 y9 y10, LeO (insolvencylaw18_GuaranteeGrows.l0 k y0 y1 y2 y3 y4 y5 y6 y7 y8 y9 y10) (insolvencylaw18_GuaranteeGrows.l0 (k + 1) y0 y1 y2 y3 y4 y5 y6 y7 y8 y9 y10))
 | 0 => ⟨fun _ _ _ _ _ _ _ _ _ _ r h => by simp [insolvencylaw18_GuaranteeGrows.j0] at h, fun _ _ _ _ _ _ _ _ _ _ _ r h => by simp [insolvencylaw18_GuaranteeGrows.l0] at h⟩
 | k + 1 => by
  obtain ⟨ih0, ih1⟩ := insolvencylaw18_GuaranteeGrows.mono_l k
  refine ⟨?_, ?_⟩
  ·intro y0 y1 y2 y3 y4 y5 y6 y7 y8 y9
   unfold insolvencylaw18_GuaranteeGrows.j0
   have m0 := @ih0; have m1 := @ih1; have m2 := @guarantee_Kept.mono; have m3 := @guarantee_Refunds.mono; have m4 := @insolvencylaw0_Amount.mono; have m5 := @insolvencylaw0_Amounts.mono; have m6 := @insolvencylaw18_awake.mono; have m7 := @rational_Add.mono; have m8 := @rational_Compare.mono; exact xM
  ·intro y0 y1 y2 y3 y4 y5 y6 y7 y8 y9 y10
   unfold insolvencylaw18_GuaranteeGrows.l0
   have m0 := @ih0; have m1 := @ih1; have m2 := @guarantee_Kept.mono; have m3 := @guarantee_Refunds.mono; have m4 := @insolvencylaw0_Amount.mono; have m5 := @insolvencylaw0_Amounts.mono; have m6 := @insolvencylaw18_awake.mono; have m7 := @rational_Add.mono; have m8 := @rational_Compare.mono; exact xM
theorem insolvencylaw18_GuaranteeGrows.mono : ∀ a0 a1 a2 a3 k, LeO (insolvencylaw18_GuaranteeGrows.f k a0 a1 a2 a3) (insolvencylaw18_GuaranteeGrows.f (k + 1) a0 a1 a2 a3) := by
 intro a0 a1 a2 a3 k
 obtain ⟨ih0, ih1⟩ := insolvencylaw18_GuaranteeGrows.mono_l k
 unfold insolvencylaw18_GuaranteeGrows.f
 have m0 := @ih0; have m1 := @ih1; have m2 := @guarantee_Kept.mono; have m3 := @guarantee_Refunds.mono; have m4 := @insolvencylaw0_Amount.mono; have m5 := @insolvencylaw0_Amounts.mono; have m6 := @insolvencylaw18_awake.mono; have m7 := @rational_Add.mono; have m8 := @rational_Compare.mono; exact xM
def insolvencylaw18_GuaranteeGrows.T7 : Bool × List (List Nat × List Nat) := (true, [([], []), ([], []), ([], []), ([], []), ([2, 3], [2, 3]), ([4], [4]), ([], []), ([6], [6]), ([5, 7, 7], [5, 7]), ([0, 1, 0, 1, 2, 3, 4, 5, 6, 7, 8], [0, 1]), ([9, 8, 8, 0, 1, 2, 3, 4, 5, 6, 7, 8], [8, 9])])
def insolvencylaw18_GuaranteeGrows.B7 : List Nat := [0, 0, 0, 0, 12, 28, 0, 64, 252, 511, 1023]
theorem insolvencylaw18_GuaranteeGrows.tab7 : rtab .any (opsOf Tryd.f5 7) = insolvencylaw18_GuaranteeGrows.T7 := by kernel_rfl
theorem insolvencylaw18_GuaranteeGrows.bits7 : waitsOk insolvencylaw18_GuaranteeGrows.T7.2 insolvencylaw18_GuaranteeGrows.B7 = true := by kernel_rfl
def insolvencylaw18_GuaranteeGrows.T14 : Bool × List (List Nat × List Nat) := (true, [([], []), ([], []), ([0, 1], [0, 1]), ([2], [2]), ([], []), ([], []), ([4, 5], [4, 5]), ([6], [6]), ([3, 7], [3, 7]), ([8], [8])])
def insolvencylaw18_GuaranteeGrows.B14 : List Nat := [0, 0, 3, 7, 0, 0, 48, 112, 255, 511]
theorem insolvencylaw18_GuaranteeGrows.tab14 : rtab .any (opsOf Tryd.f5 14) = insolvencylaw18_GuaranteeGrows.T14 := by kernel_rfl
theorem insolvencylaw18_GuaranteeGrows.bits14 : waitsOk insolvencylaw18_GuaranteeGrows.T14.2 insolvencylaw18_GuaranteeGrows.B14 = true := by kernel_rfl
def insolvencylaw18_GuaranteeGrows.T17 : Bool × List (List Nat × List Nat) := (true, [([], []), ([0, 0], [0]), ([1], [1]), ([1], [1]), ([1], [1]), ([3, 4, 1, 1], [1, 3, 4]), ([2, 5, 5, 1], [1, 2, 5]), ([6, 1], [1, 6]), ([1, 7], [1, 7]), ([8, 6, 0, 1, 2, 3, 4, 5, 6, 7, 8], [8])])
def insolvencylaw18_GuaranteeGrows.B17 : List Nat := [0, 1, 3, 3, 3, 27, 63, 127, 255, 511]
theorem insolvencylaw18_GuaranteeGrows.tab17 : rtab .any (opsOf Tryd.f5 17) = insolvencylaw18_GuaranteeGrows.T17 := by kernel_rfl
theorem insolvencylaw18_GuaranteeGrows.bits17 : waitsOk insolvencylaw18_GuaranteeGrows.T17.2 insolvencylaw18_GuaranteeGrows.B17 = true := by kernel_rfl
set_option maxHeartbeats 8000000 in
set_option maxRecDepth 100000 in
theorem insolvencylaw18_GuaranteeGrows.calls (k : Nat) (a0 : Int) (A1 : Option Addr) (c1 : Nat) (l1 : List Int) (a2 : Int) (a3 : Int) (r : Bool) (w : World) (hr1 : Kd.C (Kd.int .u16) w A1 l1.length l1) (hc1 : l1.length ≤ c1) (h : insolvencylaw18_GuaranteeGrows.f k a0 l1 a2 a3 = some r) :
  Calls Tryd.prog 5 #[.int .u16 a0, .slice A1 l1.length c1, .int .u8 a2, .int .u16 a3] w fun e w' => e = .returned (.bool r) ∧ Below w.heap.size w w' := by
 have hu25 := Tryd.underlying25
 have HR1 := Aside0.mk hr1
 have HC1 := Aside0.mk hc1
 clear hr1 hc1
 have HB := Aside0.mk (Below.refl w.heap.size w)
 have H : ((insolvencylaw0_Amount.f k a0).bind fun bt623 => ((insolvencylaw0_Amounts.f k l1 8).bind fun t626 => (if (t626.length : Int) = 0 then ((insolvencylaw18_awake.f k).bind fun t630 => (some t630)) else ((guarantee_Refunds.f k bt623.1 bt623.2.1 bt623.2.2 t626).bind fun t631 => ((guarantee_Kept.f k bt623.1 bt623.2.1 bt623.2.2 t626).bind fun bt634 => (if 0 ≤ (Int.tmod (wrap64 (a2)) (t626.length : Int)) then (if (Int.tmod (wrap64 (a2)) (t626.length : Int)) < (t626.length : Int) then ((insolvencylaw0_Amount.f k a3).bind fun bt639 => ((rational_Add.f k ((rd_T25 t626 (Int.tmod (wrap64 (a2)) (t626.length : Int))).f0) ((rd_T25 t626 (Int.tmod (wrap64 (a2)) (t626.length : Int))).f1) ((rd_T25 t626 (Int.tmod (wrap64 (a2)) (t626.length : Int))).f2) bt639.1 bt639.2.1 bt639.2.2).bind fun bt642 => ((some (t626.set ((Int.tmod (wrap64 (a2)) (t626.length : Int)) : Int).toNat (⟨bt642.1, bt642.2.1, bt642.2.2⟩ : S25) : List (S25))).bind fun y645 => ((guarantee_Refunds.f k bt623.1 bt623.2.1 bt623.2.2 y645).bind fun t646 => (if (t631.length : Int) = (t626.length : Int) then (insolvencylaw18_GuaranteeGrows.j0 k y645 t631 t646 ((t646.length : Int) != (t626.length : Int)) bt623.1 bt623.2.1 bt623.2.2 bt634.1 bt634.2.1 bt634.2.2) else (insolvencylaw18_GuaranteeGrows.j0 k y645 t631 t646 true bt623.1 bt623.2.1 bt623.2.2 bt634.1 bt634.2.1 bt634.2.2)))))) else (none)) else (none))))))) = some r := h
 clear h
 replace H := xH H; obtain ⟨⟨t623, t624, t625⟩, A5, H⟩ := H
 dsimp only at H
 replace H := xH H; obtain ⟨t626, A6, H⟩ := H
 by_cases c7 : (t626.length : Int) = 0
 ·rw [if_pos c7] at H
  have c7b0 : ((t626.length : Int) == 0) = true := beq_iff_eq.mpr c7
  have c7b1 : ((t626.length : Int) != 0) = false := bne_eq_false_iff_eq.mpr c7
  clear c7
  replace H := xH H; obtain ⟨t630, A8, H⟩ := H
  obtain rfl := Option.some.inj H
  go_enter Tryd.func5, Tryd.ntmps5
  go_wp2_with (first | ((with_reducible refine gate_callee (f := 10) rfl ?_); refine xC Tryd.func10 (some 17) (insolvencylaw0_Amount.calls k a0 t623 t624 t625 _ A5.out) ?_; rintro w9 hb; replace HB := xS HB hb; clear hb) | ((with_reducible refine gate_callee (f := 11) rfl ?_); refine xg Tryd.func11 (some 19) #[.slice A1 l1.length c1, .int .i64 8] ?_; (with_reducible refine (insolvencylaw0_Amounts.calls k _ _ l1 8 t626 _ (xf (Kd.C_below HR1.out HB.out)) HC1.out A6.out).mono ?_); rintro e w10 ⟨v627, rfl, ho0, hb⟩; refine ⟨_, rfl, ?_⟩; have HO628 := Aside0.mk (Kd.R_lower ho0 (below_size (xs HB))); replace HB := xS HB hb; clear hb ho0) | ((with_reducible refine gate_dst (N := 9) rfl ?_); (try (refine gate_guard (by rfl) ?_; dsimp only)); refine xE (N := 9) #[.bool false, .string (⟨#[]⟩ : ByteArray), .string (⟨#[]⟩ : ByteArray)] 25 rfl ?_; intro gb629 hg w11 hbox hb; replace HO628 := Aside0.mk (Kd.R_below (Kd.R_elderB (xr HO628.out) gb629 (Nat.le_of_eq hg.symm)) hb); have BK629 := Aside0.mk (hbox); have GW629 := (xG HB hg); have GE629 := (xG HB hg); replace HB := xS HB hb; clear hb hbox hg; have hcz12_0 : w11.cell? ⟨gb629, 0, none⟩ = some (.bool false) := (blk_cell BK629.out 0).trans rfl; have hcz12_1 : w11.cell? ⟨gb629, 1, none⟩ = some (.string (⟨#[]⟩ : ByteArray)) := (blk_cell BK629.out 1).trans rfl; have hcz12_2 : w11.cell? ⟨gb629, 2, none⟩ = some (.string (⟨#[]⟩ : ByteArray)) := (blk_cell BK629.out 2).trans rfl; have hfz12_0 := blk_frozen BK629.out 0; have hfz12_1 := blk_frozen BK629.out 1; have hfz12_2 := blk_frozen BK629.out 2; obtain ⟨Ao13, co13, eo13⟩ := Kd.R_slice HO628.out; subst eo13) | ((with_reducible refine gate_callee (f := 14) rfl ?_); refine xC Tryd.func14 (some 23) (insolvencylaw18_awake.calls k  t630 _ A8.out) ?_; rintro w14 hb; replace HO628 := Aside0.mk (Kd.R_below (by (with_reducible repeat (first | apply Kd.R_alloc | apply Kd.R_drewN | apply Kd.R_drew)); exact (Kd.R_mono (Kd.R_far (p := ⟨gb629, 2, none⟩) (Kd.R_far (p := ⟨gb629, 1, none⟩) (Kd.R_far (p := ⟨gb629, 0, none⟩) (Kd.R_mono HO628.out (fun k_ hk => (⟨hk, hk.2⟩ : _ ∧ k_ ≠ gb629))) (fun _ hk => hk.2) (.bool t623)) (fun _ hk => hk.2) (.string t624)) (fun _ hk => hk.2) (.string t625)) (fun _ h_ => h_.1))) hb); replace BK629 := Aside0.mk (blk_below (g := gb629) (o := .cells #[.bool t623, .string t624, .string t625] 25 (0, 0)) (xp BK629) hb); replace HB := xS HB hb; clear hb))
  go_ret
  exact ⟨xy, xs HB⟩
 ·rw [if_neg c7] at H
  have c7b0 : ((t626.length : Int) == 0) = false := beq_eq_false_iff_ne.mpr c7
  have c7b1 : ((t626.length : Int) != 0) = true := bne_iff_ne.mpr c7
  have c7b2 : ¬ (t626 = []) := fun h_ => c7 (by rw [h_]; rfl)
  replace H := xH H; obtain ⟨t631, A15, H⟩ := H
  replace H := xH H; obtain ⟨⟨t634, t635, t636⟩, A16, H⟩ := H
  dsimp only at H
  obtain ⟨ji17, hji17⟩ : ∃ j_ : Int, (Int.tmod (wrap64 (a2)) (t626.length : Int)) = j_ := ⟨_, rfl⟩
  replace H : (if 0 ≤ (ji17) then (if (ji17) < (t626.length : Int) then ((insolvencylaw0_Amount.f k a3).bind fun bt639 => ((rational_Add.f k ((rd_T25 t626 (ji17)).f0) ((rd_T25 t626 (ji17)).f1) ((rd_T25 t626 (ji17)).f2) bt639.1 bt639.2.1 bt639.2.2).bind fun bt642 => ((some (t626.set ((ji17) : Int).toNat (⟨bt642.1, bt642.2.1, bt642.2.2⟩ : S25) : List (S25))).bind fun y645 => ((guarantee_Refunds.f k t623 t624 t625 y645).bind fun t646 => (if (t631.length : Int) = (t626.length : Int) then (insolvencylaw18_GuaranteeGrows.j0 k y645 t631 t646 ((t646.length : Int) != (t626.length : Int)) t623 t624 t625 t634 t635 t636) else (insolvencylaw18_GuaranteeGrows.j0 k y645 t631 t646 true t623 t624 t625 t634 t635 t636)))))) else (none)) else (none)) = some r := by first | (rw [hji17] at H; exact H) | (simp only [hji17] at H ⊢; exact H)
  (try rw [hji17] at A5)
  (try rw [hji17] at A6)
  (try rw [hji17] at A15)
  (try rw [hji17] at A16)
  by_cases c18 : 0 ≤ (ji17)
  ·rw [if_pos c18] at H
   have c18b0 : decide (0 ≤ (ji17)) = true := decide_eq_true c18
   clear c18
   by_cases c19 : (ji17) < (t626.length : Int)
   ·rw [if_pos c19] at H
    have c19b0 : decide ((ji17) < (t626.length : Int)) = true := decide_eq_true c19
    clear c19
    replace H := xH H; obtain ⟨⟨t639, t640, t641⟩, A20, H⟩ := H
    dsimp only at H
    replace H := xH H; obtain ⟨⟨t642, t643, t644⟩, A21, H⟩ := H
    dsimp only at H
    obtain ⟨y645, hy645⟩ : ∃ y_ : List (S25), y_ = (t626.set ((ji17) : Int).toNat (⟨t642, t643, t644⟩ : S25)) := ⟨_, rfl⟩
    replace H : ((guarantee_Refunds.f k t623 t624 t625 y645).bind fun t646 => (if (t631.length : Int) = (t626.length : Int) then (insolvencylaw18_GuaranteeGrows.j0 k y645 t631 t646 ((t646.length : Int) != (t626.length : Int)) t623 t624 t625 t634 t635 t636) else (insolvencylaw18_GuaranteeGrows.j0 k y645 t631 t646 true t623 t624 t625 t634 t635 t636))) = some r := by first | (rw [hy645]; with_reducible exact H) | (have H2_ := (Option.bind_some _ _).symm.trans H; rw [hy645]; with_reducible exact H2_) | (have H2_ := (Option.bind_some _ _).symm.trans H; with_reducible exact H2_) | with_reducible exact H | (rw [hy645]; exact H) | exact H
    have Ny645 := Aside0.mk hy645
    clear hy645
    replace H := xH H; obtain ⟨t646, A23, H⟩ := H
    have HC24 := Aside0.mk H
    clear H
    go_enter Tryd.func5, Tryd.ntmps5
    try go_wp2_with (first | ((with_reducible refine gate_callee (f := 10) rfl ?_); refine xC Tryd.func10 (some 17) (insolvencylaw0_Amount.calls k a0 t623 t624 t625 _ A5.out) ?_; rintro w25 hb; replace HB := xS HB hb; clear hb) | ((with_reducible refine gate_callee (f := 11) rfl ?_); refine xg Tryd.func11 (some 19) #[.slice A1 l1.length c1, .int .i64 8] ?_; (with_reducible refine (insolvencylaw0_Amounts.calls k _ _ l1 8 t626 _ (xf (Kd.C_below HR1.out HB.out)) HC1.out A6.out).mono ?_); rintro e w26 ⟨v627, rfl, ho0, hb⟩; refine ⟨_, rfl, ?_⟩; have HO628 := Aside0.mk (Kd.R_lower ho0 (below_size (xs HB))); replace HB := xS HB hb; clear hb ho0) | ((with_reducible refine gate_dst (N := 9) rfl ?_); (try (refine gate_guard (by rfl) ?_; dsimp only)); refine xE (N := 9) #[.bool false, .string (⟨#[]⟩ : ByteArray), .string (⟨#[]⟩ : ByteArray)] 25 rfl ?_; intro gb629 hg w27 hbox hb; replace HO628 := Aside0.mk (Kd.R_below (Kd.R_elderB (xr HO628.out) gb629 (Nat.le_of_eq hg.symm)) hb); have BK629 := Aside0.mk (hbox); have GW629 := (xG HB hg); have GE629 := (xG HB hg); replace HB := xS HB hb; clear hb hbox hg; have hcz28_0 : w27.cell? ⟨gb629, 0, none⟩ = some (.bool false) := (blk_cell BK629.out 0).trans rfl; have hcz28_1 : w27.cell? ⟨gb629, 1, none⟩ = some (.string (⟨#[]⟩ : ByteArray)) := (blk_cell BK629.out 1).trans rfl; have hcz28_2 : w27.cell? ⟨gb629, 2, none⟩ = some (.string (⟨#[]⟩ : ByteArray)) := (blk_cell BK629.out 2).trans rfl; have hfz28_0 := blk_frozen BK629.out 0; have hfz28_1 := blk_frozen BK629.out 1; have hfz28_2 := blk_frozen BK629.out 2; obtain ⟨Ao29, co29, eo29⟩ := Kd.R_slice HO628.out; subst eo29) | ((with_reducible refine gate_callee (f := 12) rfl ?_); refine xg Tryd.func12 (some 26) #[.agg #[.bool t623, .string t624, .string t625], .slice Ao29 t626.length co29] ?_; (with_reducible refine (guarantee_Refunds.calls k t623 t624 t625 _ _ t626 t631 _ ?side1 ?side2 A15.out).mono ?_); (case side1 => refine (Kd.R_reads' (e := 25) (base := w.heap.size) (ok := fun k_ => (True ∧ k_ ≠ gb629)) (n := t626.length) (c := co29) ?_).2.2; exact (by (with_reducible repeat (first | apply Kd.R_alloc | apply Kd.R_drewN | apply Kd.R_drew)); exact (Kd.R_mono (Kd.R_far (p := ⟨gb629, 2, none⟩) (Kd.R_far (p := ⟨gb629, 1, none⟩) (Kd.R_far (p := ⟨gb629, 0, none⟩) (Kd.R_mono HO628.out (fun k_ hk => (⟨hk, hk.2⟩ : _ ∧ k_ ≠ gb629))) (fun _ hk => hk.2) (.bool t623)) (fun _ hk => hk.2) (.string t624)) (fun _ hk => hk.2) (.string t625)) (fun _ h_ => h_.1)))); (case side2 => exact (Kd.R_reads' HO628.out).2.1); rintro e w30 ⟨v632, rfl, ho0, hb⟩; refine ⟨_, rfl, ?_⟩; have HO633 := Aside0.mk (Kd.R_lower (Kd.R_newB (Kd.R_new' ho0 (Kd.R_lt (by (with_reducible repeat (first | apply Kd.R_alloc | apply Kd.R_drewN | apply Kd.R_drew)); exact (Kd.R_mono (Kd.R_far (p := ⟨gb629, 2, none⟩) (Kd.R_far (p := ⟨gb629, 1, none⟩) (Kd.R_far (p := ⟨gb629, 0, none⟩) (Kd.R_mono HO628.out (fun k_ hk => (⟨hk, hk.2⟩ : _ ∧ k_ ≠ gb629))) (fun _ hk => hk.2) (.bool t623)) (fun _ hk => hk.2) (.string t624)) (fun _ hk => hk.2) (.string t625)) (fun _ h_ => h_.1))))) (g := gb629) (o := .cells #[.bool t623, .string t624, .string t625] 25 (0, 0)) (xp BK629)) (below_size (xs HB))); replace HO628 := Aside0.mk (Kd.R_elder' (by (with_reducible repeat (first | apply Kd.R_alloc | apply Kd.R_drewN | apply Kd.R_drew)); exact (Kd.R_mono (Kd.R_far (p := ⟨gb629, 2, none⟩) (Kd.R_far (p := ⟨gb629, 1, none⟩) (Kd.R_far (p := ⟨gb629, 0, none⟩) (Kd.R_mono HO628.out (fun k_ hk => (⟨hk, hk.2⟩ : _ ∧ k_ ≠ gb629))) (fun _ hk => hk.2) (.bool t623)) (fun _ hk => hk.2) (.string t624)) (fun _ hk => hk.2) (.string t625)) (fun _ h_ => h_.1))) (Kd.R_base ho0) hb); replace BK629 := Aside0.mk (blk_below (g := gb629) (o := .cells #[.bool t623, .string t624, .string t625] 25 (0, 0)) (xp BK629) hb); replace HB := xS HB hb; clear hb ho0; have hcz31_0 : w30.cell? ⟨gb629, 0, none⟩ = some (.bool t623) := (blk_cell BK629.out 0).trans rfl; have hcz31_1 : w30.cell? ⟨gb629, 1, none⟩ = some (.string t624) := (blk_cell BK629.out 1).trans rfl; have hcz31_2 : w30.cell? ⟨gb629, 2, none⟩ = some (.string t625) := (blk_cell BK629.out 2).trans rfl; have hfz31_0 := blk_frozen BK629.out 0; have hfz31_1 := blk_frozen BK629.out 1; have hfz31_2 := blk_frozen BK629.out 2) | ((with_reducible refine gate_callee (f := 19) rfl ?_); refine xg Tryd.func19 (some 29) #[.agg #[.bool t623, .string t624, .string t625], .slice Ao29 t626.length co29] ?_; (with_reducible refine (guarantee_Kept.calls k t623 t624 t625 _ _ t626 t634 t635 t636 _ ?side1 ?side2 A16.out).mono ?_); (case side1 => repeat (first | exact (Kd.R_reads' HO628.out).2.2 | (with_reducible refine Kd.C_alloc ?_ _) | (with_reducible refine Kd.C_drewN ?_ _) | (with_reducible refine Kd.C_drew ?_))); (case side2 => exact (Kd.R_reads' HO628.out).2.1); rintro e w32 ⟨rfl, hb⟩; refine ⟨_, rfl, ?_⟩; replace HO628 := Aside0.mk (Kd.R_below (xr HO628.out) hb); replace HO633 := Aside0.mk (Kd.R_below (xr HO633.out) hb); replace BK629 := xB BK629 hb; replace HB := xS HB hb; clear hb) | ((with_reducible refine gate_dst (N := 12) rfl ?_); (try (refine gate_guard (by rfl) ?_; dsimp only)); refine xE (N := 12) #[.bool false, .string (⟨#[]⟩ : ByteArray), .string (⟨#[]⟩ : ByteArray)] 25 rfl ?_; intro gb637 hg w33 hbox hb; replace HO628 := Aside0.mk (Kd.R_below (Kd.R_elderB (xr HO628.out) gb637 (Nat.le_of_eq hg.symm)) hb); replace HO633 := Aside0.mk (Kd.R_below (Kd.R_elderB (xr HO633.out) gb637 (Nat.le_of_eq hg.symm)) hb); have BK637 := Aside0.mk (hbox); have GW637 := (xG HB hg); have GE637 := (xG HB hg); replace HB := xS HB hb; have NB629_637 := xL BK629 hg; have NB637_629 := xR BK629 hg; replace BK629 := xB BK629 hb; clear hb hbox hg; have hnb34 := NB637_629.out; have hnc34 := NB629_637.out; have hcz35_0 : w33.cell? ⟨gb637, 0, none⟩ = some (.bool false) := (blk_cell BK637.out 0).trans rfl; have hcz35_1 : w33.cell? ⟨gb637, 1, none⟩ = some (.string (⟨#[]⟩ : ByteArray)) := (blk_cell BK637.out 1).trans rfl; have hcz35_2 : w33.cell? ⟨gb637, 2, none⟩ = some (.string (⟨#[]⟩ : ByteArray)) := (blk_cell BK637.out 2).trans rfl; have hfz35_0 := blk_frozen BK637.out 0; have hfz35_1 := blk_frozen BK637.out 1; have hfz35_2 := blk_frozen BK637.out 2))
    have n0_ : Aside0 (Kd.R k25 25 (((w33.setCell ⟨gb637, 0, none⟩ (.bool t634)).setCell ⟨gb637, 1, none⟩ (.string t635)).setCell ⟨gb637, 2, none⟩ (.string t636)) w.heap.size (fun k_ => some k_ ≠ (v632 : Value).ownBlock ∧ k_ ≠ gb629 ∧ k_ ≠ gb637) (.slice Ao29 t626.length co29) t626) := ⟨by (with_reducible repeat (first | apply Kd.R_alloc | apply Kd.R_drewN | apply Kd.R_drew)); exact Kd.R_mono (Kd.R_far (p := ⟨gb637, 2, none⟩) (Kd.R_far (p := ⟨gb637, 1, none⟩) (Kd.R_far (p := ⟨gb637, 0, none⟩) (Kd.R_mono HO628.out (fun k_ hk => (⟨hk, hk.2⟩ : _ ∧ k_ ≠ gb637))) (fun _ hk => hk.2) (.bool t634)) (fun _ hk => hk.2) (.string t635)) (fun _ hk => hk.2) (.string t636)) (fun _ hk => ⟨hk.1.1.2, ⟨hk.1.1.1.2, hk.1.2⟩⟩)⟩
    have n1_ : Aside0 (Kd.R k25 25 (((w33.setCell ⟨gb637, 0, none⟩ (.bool t634)).setCell ⟨gb637, 1, none⟩ (.string t635)).setCell ⟨gb637, 2, none⟩ (.string t636)) w.heap.size (fun k_ => some k_ ≠ (.slice Ao29 t626.length co29 : Value).ownBlock ∧ k_ ≠ gb629 ∧ k_ ≠ gb637) v632 t631) := ⟨by (with_reducible repeat (first | apply Kd.R_alloc | apply Kd.R_drewN | apply Kd.R_drew)); exact Kd.R_mono (Kd.R_far (p := ⟨gb637, 2, none⟩) (Kd.R_far (p := ⟨gb637, 1, none⟩) (Kd.R_far (p := ⟨gb637, 0, none⟩) (Kd.R_mono HO633.out (fun k_ hk => (⟨hk, hk.2⟩ : _ ∧ k_ ≠ gb637))) (fun _ hk => hk.2) (.bool t634)) (fun _ hk => hk.2) (.string t635)) (fun _ hk => hk.2) (.string t636)) (fun _ hk => ⟨hk.1.1.1.2, ⟨hk.1.1.2, hk.1.2⟩⟩)⟩
    have n2_ : Aside0 ((((w33.setCell ⟨gb637, 0, none⟩ (.bool t634)).setCell ⟨gb637, 1, none⟩ (.string t635)).setCell ⟨gb637, 2, none⟩ (.string t636)).heap[gb629]? = some (.cells #[.bool t623, .string t624, .string t625] 25 (0, 0))) := ⟨xb BK629⟩
    have n3_ : Aside0 ((((w33.setCell ⟨gb637, 0, none⟩ (.bool t634)).setCell ⟨gb637, 1, none⟩ (.string t635)).setCell ⟨gb637, 2, none⟩ (.string t636)).heap[gb637]? = some (.cells #[.bool t634, .string t635, .string t636] 25 (0, 0))) := ⟨xp BK637⟩
    have n4_ : Aside0 (Below w.heap.size w (((w33.setCell ⟨gb637, 0, none⟩ (.bool t634)).setCell ⟨gb637, 1, none⟩ (.string t635)).setCell ⟨gb637, 2, none⟩ (.string t636))) := ⟨xs HB⟩
    (try clear HO628)
    (try clear HO633)
    (try clear BK629)
    (try clear BK637)
    (try clear HB)
    generalize (((w33.setCell ⟨gb637, 0, none⟩ (.bool t634)).setCell ⟨gb637, 1, none⟩ (.string t635)).setCell ⟨gb637, 2, none⟩ (.string t636)) = w36 at n0_ n1_ n2_ n3_ n4_ ⊢
    have HO628 := n0_
    have HO633 := n1_
    have BK629 := n2_
    have BK637 := n3_
    have HB := n4_
    clear n0_ n1_ n2_ n3_ n4_
    replace HO628 := Aside0.mk (Kd.R_drew HO628.out)
    replace HO633 := Aside0.mk (Kd.R_drew HO633.out)
    replace BK629 := xD BK629
    replace BK637 := xD BK637
    replace HB := xW HB
    have p638 : 0 ≤ ((ji17) : Int) := xa
    have q638 : (ji17) < (t626.length : Int) := xa
    obtain ⟨ad638, e638, hx638_0, hx638_1, hx638_2⟩ := at_T25 (Kd.R_reads' HO628.out).2.2 (ji17) p638 q638
    cases e638
    replace p638 := eq_true p638
    replace q638 := eq_true q638
    refine start_ (n := 11) (S := fun w' => w'.cell? (ad638.add (((ji17)).toNat * 3)) = some (.bool ((rd_T25 t626 (ji17)).f0)) ∧ w'.cell? ⟨(ad638.add (((ji17)).toNat * 3)).block, (ad638.add (((ji17)).toNat * 3)).off + 1, none⟩ = some (.string ((rd_T25 t626 (ji17)).f1)) ∧ w'.cell? ⟨(ad638.add (((ji17)).toNat * 3)).block, (ad638.add (((ji17)).toNat * 3)).off + 2, none⟩ = some (.string ((rd_T25 t626 (ji17)).f2))) (ds := [10]) #[false, false, false, false, false, false, false, false, false, false, false] (by kernel_rfl) rfl rfl ⟨hx638_0, hx638_1, hx638_2⟩ (fun hHeld => ?_); refine with_tabW insolvencylaw18_GuaranteeGrows.tab7 insolvencylaw18_GuaranteeGrows.bits7 (fun HT_ HW_ => ?_)
    generalize w36.drew = w37 at HO628 HO633 BK629 BK637 HB hx638_0 hx638_1 hx638_2 hHeld ⊢
    refine xP 0 (some 35) #[true, false, false, false, false, false, false, false, false, false, false] rfl rfl ?_
    refine xP 1 (some 36) #[true, true, false, false, false, false, false, false, false, false, false] rfl rfl ?_
    refine xP 2 (some 37) #[true, true, true, false, false, false, false, false, false, false, false] rfl rfl ?_
    refine xP 3 (some 38) #[true, true, true, true, false, false, false, false, false, false, false] rfl rfl ?_
    refine xP 4 (some 39) #[true, true, true, true, true, false, false, false, false, false, false] rfl rfl ?_
    refine xP 6 (some 41) #[true, true, true, true, true, false, true, false, false, false, false] rfl rfl ?_
    refine xT 5 (some 40) #[true, true, true, true, true, true, true, false, false, false, false] rfl rfl hHeld ?_
    refine xO 7 (some 42) #[true, true, true, true, true, true, true, true, false, false, false] rfl rfl fun K hK => ?_
    refine goes_ Tryd.func10 (by kernel_rfl) rfl #[.int .u16 a3] (by rfl) rfl rfl (by (try simp only [List.map_toArray, List.map_cons, List.map_nil]); first | done | rfl | (simp only [List.length_drop, List.length_take]; rfl)) ?_
    with_reducible refine (insolvencylaw0_Amount.calls k a3 t639 t640 t641 _ A20.out).mono ?_
    rintro e w38 ⟨rfl, hb⟩
    have HS0_ := (hb.cell (World.block_lt_of_cell? _ _ (hHeld.1))).trans (hHeld.1)
    have HS1_ := (hb.cell (World.block_lt_of_cell? _ _ (hHeld.2.1))).trans (hHeld.2.1)
    have HS2_ := (hb.cell (World.block_lt_of_cell? _ _ (hHeld.2.2))).trans (hHeld.2.2)
    refine ⟨_, rfl, ?_⟩
    replace HO628 := Aside0.mk (Kd.R_below (xr HO628.out) hb)
    replace HO633 := Aside0.mk (Kd.R_below (xr HO633.out) hb)
    replace BK629 := xB BK629 hb
    replace BK637 := xB BK637 hb
    replace HB := xS HB hb
    (try clear hb)
    (try clear hb2)
    (try clear hk)
    (try clear hi)
    refine hK.out _ _ ⟨HS0_, HS1_, HS2_⟩ (fun hHeld => ?_)
    clear hK K
    refine xN 42 ?_
    refine xO 8 (some 43) #[true, true, true, true, true, true, true, true, true, false, false] rfl rfl fun K hK => ?_
    refine goes_ Tryd.func21 (by kernel_rfl) rfl #[.agg #[.bool ((rd_T25 t626 (ji17)).f0), .string ((rd_T25 t626 (ji17)).f1), .string ((rd_T25 t626 (ji17)).f2)], .agg #[.bool t639, .string t640, .string t641]] (by rfl) rfl rfl (by (try simp only [List.map_toArray, List.map_cons, List.map_nil]); first | done | (simp only [hji17]; rfl) | rfl | (simp only [List.length_drop, List.length_take]; rfl)) ?_
    with_reducible refine (rational_Add.calls k ((rd_T25 t626 (ji17)).f0) ((rd_T25 t626 (ji17)).f1) ((rd_T25 t626 (ji17)).f2) t639 t640 t641 t642 t643 t644 _ A21.out).mono ?_
    rintro e w39 ⟨rfl, hb⟩
    have HS0_ := (hb.cell (World.block_lt_of_cell? _ _ (hHeld.1))).trans (hHeld.1)
    have HS1_ := (hb.cell (World.block_lt_of_cell? _ _ (hHeld.2.1))).trans (hHeld.2.1)
    have HS2_ := (hb.cell (World.block_lt_of_cell? _ _ (hHeld.2.2))).trans (hHeld.2.2)
    refine ⟨_, rfl, ?_⟩
    replace HO628 := Aside0.mk (Kd.R_below (xr HO628.out) hb)
    replace HO633 := Aside0.mk (Kd.R_below (xr HO633.out) hb)
    replace BK629 := xB BK629 hb
    replace BK637 := xB BK637 hb
    replace HB := xS HB hb
    (try clear hb)
    (try clear hb2)
    (try clear hk)
    (try clear hi)
    have p22 : 0 ≤ ((ji17) : Int) := xa
    have q22 : ((ji17) : Int) < ((t626.length : Int) : Int) := xa
    obtain ⟨go22, co22, eo22, gb22, gl22, cl22, HG22⟩ := Kd.R_form HO628.out (by omega)
    (first | cases eo22 | (injection eo22 with ea_ en_ ec_; (first | subst ea_ | (injection ea_ with ea_; subst ea_)); subst ec_; clear en_))
    have GB22 := Aside0.mk gb22
    have GG22 := Aside0.mk HG22
    clear gb22 gl22 HG22
    (first | simp only [add_plain] at hx638_0 | skip)
    (first | simp only [add_plain] at hx638_1 | skip)
    (first | simp only [add_plain] at hx638_2 | skip)
    obtain ⟨ce22, hcl22, hM22, hcc22, hfr22⟩ := Kd.R_elem HO628.out z25 ((ji17) : Int) p22 q22
    obtain rfl := k25_openM hM22
    have hx22_0 : World.cell? _ ⟨go22, ((ji17) : Int).toNat * 3, none⟩ = some (.bool ((rd_T25 t626 (ji17)).f0)) := hcc22 0 _ rfl
    have hx22_1 : World.cell? _ ⟨go22, ((ji17) : Int).toNat * 3 + 1, none⟩ = some (.string ((rd_T25 t626 (ji17)).f1)) := hcc22 1 _ rfl
    have hx22_2 : World.cell? _ ⟨go22, ((ji17) : Int).toNat * 3 + 2, none⟩ = some (.string ((rd_T25 t626 (ji17)).f2)) := hcc22 2 _ rfl
    have hf22_0 : World.frozen? _ ⟨go22, ((ji17) : Int).toNat * 3, none⟩ = false := hfr22 0
    have hf22_1 : World.frozen? _ ⟨go22, ((ji17) : Int).toNat * 3 + 1, none⟩ = false := hfr22 1
    have hf22_2 : World.frozen? _ ⟨go22, ((ji17) : Int).toNat * 3 + 2, none⟩ = false := hfr22 2
    clear hcl22 hcc22 hfr22 hM22
    replace p22 := eq_true p22
    replace q22 := eq_true q22
    obtain ⟨ce40, hcl40, hM40, hcc40, hfr40⟩ := Kd.R_elem HO628.out z25 ((ji17) : Int) (xa) (by have h_ : ((ji17) : Int) < ((t626.length : Int) : Int) := xa; first | exact h_ | (have e_ := (Kd.R_reads' HO628.out).1; omega) | simpa using h_)
    obtain rfl := k25_openM hM40
    have HP40 := (Kd.R_seg HO628.out ((ji17) : Int) (xa) (by have h_ : ((ji17) : Int) < ((t626.length : Int) : Int) := xa; first | exact h_ | (have e_ := (Kd.R_reads' HO628.out).1; omega) | simpa using h_) (seg := [.bool t642, .string t643, .string t644]) (j := 0) hcl40 hcc40 (show 3 ≤ 3 from by decide) (x' := (⟨t642, t643, t644⟩ : S25)) (k25_mkM _ _ _ (⟨t642, t643, t644⟩ : S25) ) (fun _ hk => hk)).1
    rw [← Ny645.out] at HP40
    have HQ40 := Aside0.mk HP40
    clear hcl40 hcc40 hfr40 hM40 HP40
    refine hK.out _ _ ⟨HS0_, HS1_, HS2_⟩ (fun hHeld => ?_)
    clear hK K
    refine xN 43 ?_
    refine xP 9 (some 44) #[true, true, true, true, true, true, true, true, true, true, false] rfl rfl ?_
    refine xZ 10 none #[true, true, true, true, true, true, true, true, true, true, true] rfl rfl fun K hK => ?_
    refine xk ?_
    refine hK.out _ _ ?_
    clear hK K
    refine done_ (done_of HT_.out (by kernel_rfl)) ?_
    have hcz41_0 : w39.cell? ⟨gb629, 0, none⟩ = some (.bool t623) := (blk_cell BK629.out 0).trans rfl
    have hcz41_1 : w39.cell? ⟨gb629, 1, none⟩ = some (.string t624) := (blk_cell BK629.out 1).trans rfl
    have hcz41_2 : w39.cell? ⟨gb629, 2, none⟩ = some (.string t625) := (blk_cell BK629.out 2).trans rfl
    have hfz41_0 := blk_frozen BK629.out 0
    have hfz41_1 := blk_frozen BK629.out 1
    have hfz41_2 := blk_frozen BK629.out 2
    (try have hnz629_ : gb629 ≠ go22 := by have h_ := Kd.R_away HO628.out (fun _ hk => hk.2.1); intro e_; exact h_ (by rw [e_]; rfl))
    (try have hmz629_ := Ne.symm hnz629_)
    (try have hnz637_ : gb637 ≠ go22 := by have h_ := Kd.R_away HO628.out (fun _ hk => hk.2.2); intro e_; exact h_ (by rw [e_]; rfl))
    (try have hmz637_ := Ne.symm hnz637_)
    go_upto_region 9 with (first | ((with_reducible refine gate_callee (f := 12) rfl ?_); refine xg Tryd.func12 (some 47) #[.agg #[.bool t623, .string t624, .string t625], .slice (some ⟨go22, 0, none⟩) y645.length co29] ?_ (hargs := (by (try simp only [List.map_toArray, List.map_cons, List.map_nil]); first | done | (rw [show y645.length = t626.length from (Kd.R_reads' HQ40.out).1.symm] <;> rfl) | rfl | (simp only [List.length_drop, List.length_take]; rfl))); (with_reducible refine (guarantee_Refunds.calls k t623 t624 t625 _ _ y645 t646 _ ?side1 ?side2 A23.out).mono ?_); (case side1 => refine (Kd.R_reads' (e := 25) (base := w.heap.size) (ok := fun k_ => (some k_ ≠ (v632 : Value).ownBlock ∧ (k_ ≠ gb629 ∧ k_ ≠ gb637))) (n := t626.length) (c := co29) ?_).2.2; exact (xr HQ40.out)); (case side2 => rw [show y645.length = t626.length from (Kd.R_reads' HQ40.out).1.symm]; exact (Kd.R_reads' HO628.out).2.1); rintro e w42 ⟨v647, rfl, ho0, hb⟩; refine ⟨_, rfl, ?_⟩; have HO648 := Aside0.mk (Kd.R_lower (Kd.R_newB (Kd.R_newB (Kd.R_new' (Kd.R_new' ho0 (Kd.R_lt (xr HQ40.out))) (Kd.R_lt (by (with_reducible repeat (first | apply Kd.R_alloc | apply Kd.R_drewN | apply Kd.R_drew)); exact (Kd.R_mono (Kd.R_far (p := ⟨go22, ((ji17) : Int).toNat * 3 + 2, none⟩) (Kd.R_far (p := ⟨go22, ((ji17) : Int).toNat * 3 + 1, none⟩) (Kd.R_far (p := ⟨go22, ((ji17) : Int).toNat * 3, none⟩) (Kd.R_mono HO633.out (fun k_ hk => (⟨hk, fun e_ => hk.1 (by rw [e_]; rfl)⟩ : _ ∧ k_ ≠ go22))) (fun _ hk => hk.2) (.bool t642)) (fun _ hk => hk.2) (.string t643)) (fun _ hk => hk.2) (.string t644)) (fun _ h_ => h_.1))))) (g := gb629) (o := .cells #[.bool t623, .string t624, .string t625] 25 (0, 0)) (by (with_reducible repeat (first | refine blk_drewN ?_ _ | refine blk_drew ?_ | refine blk_alloc ?_ _)); refine blk_far ?_ (by have h_ := Kd.R_away HO628.out (fun _ hk => hk.2.1); intro e_; exact h_ (by rw [e_]; rfl)) _; (with_reducible repeat (first | refine blk_drewN ?_ _ | refine blk_drew ?_ | refine blk_alloc ?_ _)); refine blk_far ?_ (by have h_ := Kd.R_away HO628.out (fun _ hk => hk.2.1); intro e_; exact h_ (by rw [e_]; rfl)) _; (with_reducible repeat (first | refine blk_drewN ?_ _ | refine blk_drew ?_ | refine blk_alloc ?_ _)); refine blk_far ?_ (by have h_ := Kd.R_away HO628.out (fun _ hk => hk.2.1); intro e_; exact h_ (by rw [e_]; rfl)) _; (with_reducible repeat (first | refine blk_drewN ?_ _ | refine blk_drew ?_ | refine blk_alloc ?_ _)); exact BK629.out)) (g := gb637) (o := .cells #[.bool t634, .string t635, .string t636] 25 (0, 0)) (by (with_reducible repeat (first | refine blk_drewN ?_ _ | refine blk_drew ?_ | refine blk_alloc ?_ _)); refine blk_far ?_ (by have h_ := Kd.R_away HO628.out (fun _ hk => hk.2.2); intro e_; exact h_ (by rw [e_]; rfl)) _; (with_reducible repeat (first | refine blk_drewN ?_ _ | refine blk_drew ?_ | refine blk_alloc ?_ _)); refine blk_far ?_ (by have h_ := Kd.R_away HO628.out (fun _ hk => hk.2.2); intro e_; exact h_ (by rw [e_]; rfl)) _; (with_reducible repeat (first | refine blk_drewN ?_ _ | refine blk_drew ?_ | refine blk_alloc ?_ _)); refine blk_far ?_ (by have h_ := Kd.R_away HO628.out (fun _ hk => hk.2.2); intro e_; exact h_ (by rw [e_]; rfl)) _; (with_reducible repeat (first | refine blk_drewN ?_ _ | refine blk_drew ?_ | refine blk_alloc ?_ _)); exact BK637.out)) (below_size (xs HB))); replace HO633 := Aside0.mk (Kd.R_elder' (by (with_reducible repeat (first | apply Kd.R_alloc | apply Kd.R_drewN | apply Kd.R_drew)); exact (Kd.R_mono (Kd.R_far (p := ⟨go22, ((ji17) : Int).toNat * 3 + 2, none⟩) (Kd.R_far (p := ⟨go22, ((ji17) : Int).toNat * 3 + 1, none⟩) (Kd.R_far (p := ⟨go22, ((ji17) : Int).toNat * 3, none⟩) (Kd.R_mono HO633.out (fun k_ hk => (⟨hk, fun e_ => hk.1 (by rw [e_]; rfl)⟩ : _ ∧ k_ ≠ go22))) (fun _ hk => hk.2) (.bool t642)) (fun _ hk => hk.2) (.string t643)) (fun _ hk => hk.2) (.string t644)) (fun _ h_ => h_.1))) (Kd.R_base ho0) hb); replace BK629 := Aside0.mk (blk_below (g := gb629) (o := .cells #[.bool t623, .string t624, .string t625] 25 (0, 0)) (by (with_reducible repeat (first | refine blk_drewN ?_ _ | refine blk_drew ?_ | refine blk_alloc ?_ _)); refine blk_far ?_ (by have h_ := Kd.R_away HO628.out (fun _ hk => hk.2.1); intro e_; exact h_ (by rw [e_]; rfl)) _; (with_reducible repeat (first | refine blk_drewN ?_ _ | refine blk_drew ?_ | refine blk_alloc ?_ _)); refine blk_far ?_ (by have h_ := Kd.R_away HO628.out (fun _ hk => hk.2.1); intro e_; exact h_ (by rw [e_]; rfl)) _; (with_reducible repeat (first | refine blk_drewN ?_ _ | refine blk_drew ?_ | refine blk_alloc ?_ _)); refine blk_far ?_ (by have h_ := Kd.R_away HO628.out (fun _ hk => hk.2.1); intro e_; exact h_ (by rw [e_]; rfl)) _; (with_reducible repeat (first | refine blk_drewN ?_ _ | refine blk_drew ?_ | refine blk_alloc ?_ _)); exact BK629.out) hb); replace BK637 := Aside0.mk (blk_below (g := gb637) (o := .cells #[.bool t634, .string t635, .string t636] 25 (0, 0)) (by (with_reducible repeat (first | refine blk_drewN ?_ _ | refine blk_drew ?_ | refine blk_alloc ?_ _)); refine blk_far ?_ (by have h_ := Kd.R_away HO628.out (fun _ hk => hk.2.2); intro e_; exact h_ (by rw [e_]; rfl)) _; (with_reducible repeat (first | refine blk_drewN ?_ _ | refine blk_drew ?_ | refine blk_alloc ?_ _)); refine blk_far ?_ (by have h_ := Kd.R_away HO628.out (fun _ hk => hk.2.2); intro e_; exact h_ (by rw [e_]; rfl)) _; (with_reducible repeat (first | refine blk_drewN ?_ _ | refine blk_drew ?_ | refine blk_alloc ?_ _)); refine blk_far ?_ (by have h_ := Kd.R_away HO628.out (fun _ hk => hk.2.2); intro e_; exact h_ (by rw [e_]; rfl)) _; (with_reducible repeat (first | refine blk_drewN ?_ _ | refine blk_drew ?_ | refine blk_alloc ?_ _)); exact BK637.out) hb); replace HO628 := Aside0.mk (Kd.R_elder' (xr HQ40.out) (Kd.R_base ho0) hb); replace HB := xS HB hb; clear hb ho0))
    (try simp only [Act.put, List.setIfInBounds_toArray, List.set_cons_zero, List.set_cons_succ])
    go_cut [59] (fun v59 wc => ∃ (kq : Nat) (x59_23 : Bool), v59 = .bool x59_23 ∧ Aside0 (insolvencylaw18_GuaranteeGrows.j0 kq y645 t631 t646 x59_23 t623 t624 t625 t634 t635 t636 = some r) ∧ Aside0 (kq ≤ k) ∧ Aside0 (Kd.R k25 25 wc w.heap.size (fun k_ => some k_ ≠ (v632 : Value).ownBlock ∧ some k_ ≠ (v647 : Value).ownBlock ∧ k_ ≠ gb629 ∧ k_ ≠ gb637) (.slice (some ⟨go22, 0, none⟩) t626.length co29) y645) ∧ Aside0 (Kd.R k25 25 wc w.heap.size (fun k_ => some k_ ≠ ((.slice (some ⟨go22, 0, none⟩) t626.length co29) : Value).ownBlock ∧ some k_ ≠ (v647 : Value).ownBlock ∧ k_ ≠ gb629 ∧ k_ ≠ gb637) v632 t631) ∧ Aside0 (Kd.R k25 25 wc w.heap.size (fun k_ => some k_ ≠ ((.slice (some ⟨go22, 0, none⟩) t626.length co29) : Value).ownBlock ∧ some k_ ≠ (v632 : Value).ownBlock ∧ k_ ≠ gb629 ∧ k_ ≠ gb637) v647 t646) ∧ Aside0 (wc.heap[gb629]? = some (.cells #[.bool t623, .string t624, .string t625] 25 (0, 0))) ∧ Aside0 (wc.heap[gb637]? = some (.cells #[.bool t634, .string t635, .string t636] 25 (0, 0))) ∧ Aside0 (Below w.heap.size w wc))
    case first =>
     have H := HC24.out
     clear HC24
     by_cases c43 : (t631.length : Int) = (t626.length : Int)
     ·rw [if_pos c43] at H
      have c43b0 : ((t631.length : Int) == (t626.length : Int)) = true := beq_iff_eq.mpr c43
      have c43b1 : ((t631.length : Int) != (t626.length : Int)) = false := bne_eq_false_iff_eq.mpr c43
      have c43b2 : (t631.length == t626.length) = true := by first | simpa using c43 | (simp at c43 ⊢; omega)
      clear c43
      (first | rw [c43b0] | (simp only [i64_w, i32_w]; rw [c43b0]) | rw [c43b1] | skip)
      have H' := Aside0.mk H
      clear H
      obtain ⟨Ao44, co44, eo44⟩ := Kd.R_slice HO633.out
      subst eo44
      obtain ⟨Ao45, co45, eo45⟩ := Kd.R_slice HO648.out
      subst eo45
      go_wp2
      go_meet
      case rel => exact ⟨_, (((t646.length : Int) != (t626.length : Int))), xz, H', ⟨by first | omega | exact Nat.le_refl _⟩, ⟨by (with_reducible repeat (first | apply Kd.R_alloc | apply Kd.R_drewN | apply Kd.R_drew)); exact Kd.R_mono HO628.out (fun _ hk => by first | exact ⟨hk.1.1, ⟨hk.2, ⟨hk.1.2.1, hk.1.2.2⟩⟩⟩ | (simp only [ob_map] at hk ⊢; first | exact ⟨hk.1.1, ⟨hk.2, ⟨hk.1.2.1, hk.1.2.2⟩⟩⟩ | grind) | grind)⟩, ⟨by (with_reducible repeat (first | apply Kd.R_alloc | apply Kd.R_drewN | apply Kd.R_drew)); exact Kd.R_mono HO633.out (fun _ hk => by first | exact ⟨hk.1.1, ⟨hk.2, ⟨hk.1.2.1, hk.1.2.2⟩⟩⟩ | (simp only [ob_map] at hk ⊢; first | exact ⟨hk.1.1, ⟨hk.2, ⟨hk.1.2.1, hk.1.2.2⟩⟩⟩ | grind) | grind)⟩, ⟨by (with_reducible repeat (first | apply Kd.R_alloc | apply Kd.R_drewN | apply Kd.R_drew)); exact Kd.R_mono HO648.out (fun _ hk => by first | exact ⟨hk.1.1.1.2, ⟨hk.1.1.2, ⟨hk.1.2, hk.2⟩⟩⟩ | (simp only [ob_map] at hk ⊢; first | exact ⟨hk.1.1.1.2, ⟨hk.1.1.2, ⟨hk.1.2, hk.2⟩⟩⟩ | grind) | grind)⟩, ⟨xb BK629⟩, ⟨xb BK637⟩, ⟨xs HB⟩⟩
     ·rw [if_neg c43] at H
      have c43b0 : ((t631.length : Int) == (t626.length : Int)) = false := beq_eq_false_iff_ne.mpr c43
      have c43b1 : ((t631.length : Int) != (t626.length : Int)) = true := bne_iff_ne.mpr c43
      have c43b2 : (t631.length == t626.length) = false := by first | simpa using c43 | (simp at c43 ⊢; omega)
      (first | rw [c43b0] | (simp only [i64_w, i32_w]; rw [c43b0]) | rw [c43b1] | skip)
      have H' := Aside0.mk H
      clear H
      obtain ⟨Ao46, co46, eo46⟩ := Kd.R_slice HO633.out
      subst eo46
      go_wp2
      go_meet
      case rel => exact ⟨_, (true), xz, H', ⟨by first | omega | exact Nat.le_refl _⟩, ⟨by (with_reducible repeat (first | apply Kd.R_alloc | apply Kd.R_drewN | apply Kd.R_drew)); exact Kd.R_mono HO628.out (fun _ hk => by first | exact ⟨hk.1.1, ⟨hk.2, ⟨hk.1.2.1, hk.1.2.2⟩⟩⟩ | (simp only [ob_map] at hk ⊢; first | exact ⟨hk.1.1, ⟨hk.2, ⟨hk.1.2.1, hk.1.2.2⟩⟩⟩ | grind) | grind)⟩, ⟨by (with_reducible repeat (first | apply Kd.R_alloc | apply Kd.R_drewN | apply Kd.R_drew)); exact Kd.R_mono HO633.out (fun _ hk => by first | exact ⟨hk.1.1, ⟨hk.2, ⟨hk.1.2.1, hk.1.2.2⟩⟩⟩ | (simp only [ob_map] at hk ⊢; first | exact ⟨hk.1.1, ⟨hk.2, ⟨hk.1.2.1, hk.1.2.2⟩⟩⟩ | grind) | grind)⟩, ⟨by (with_reducible repeat (first | apply Kd.R_alloc | apply Kd.R_drewN | apply Kd.R_drew)); exact Kd.R_mono HO648.out (fun _ hk => by first | exact ⟨hk.1.1.1.2, ⟨hk.1.1.2, ⟨hk.1.2, hk.2⟩⟩⟩ | (simp only [ob_map] at hk ⊢; first | exact ⟨hk.1.1.1.2, ⟨hk.1.1.2, ⟨hk.1.2, hk.2⟩⟩⟩ | grind) | grind)⟩, ⟨xb BK629⟩, ⟨xb BK637⟩, ⟨xs HB⟩⟩
    case rest =>
     clear HC24
     try clear c1
     try clear c2
     try clear p2
     try clear q2
     try clear hx2
     try clear c3
     try clear c4
     try clear c5
     try clear p6
     try clear q6
     try clear hx6
     try clear c7
     try clear c7b0
     try clear c7b1
     try clear c7b2
     try clear c10
     try clear c11
     try clear c12
     try clear c14
     try clear c18
     try clear c18b0
     try clear c19
     try clear c19b0
     try clear c21
     try clear c22
     try clear p22
     try clear q22
     try clear hx22
     try clear hf22
     try clear c34
     try clear c40
     try clear c43
     try clear c43b0
     try clear c43b1
     try clear c43b2
     try clear hcz12_0
     try clear hcz12_1
     try clear hcz12_2
     try clear hcz28_0
     try clear hcz28_1
     try clear hcz28_2
     try clear hcz31_0
     try clear hcz31_1
     try clear hcz31_2
     try clear hcz35_0
     try clear hcz35_1
     try clear hcz35_2
     try clear hcz41_0
     try clear hcz41_1
     try clear hcz41_2
     try clear hfz12_0
     try clear hfz12_1
     try clear hfz12_2
     try clear hfz28_0
     try clear hfz28_1
     try clear hfz28_2
     try clear hfz31_0
     try clear hfz31_1
     try clear hfz31_2
     try clear hfz35_0
     try clear hfz35_1
     try clear hfz35_2
     try clear hfz41_0
     try clear hfz41_1
     try clear hfz41_2
     try clear hx22_0
     try clear hx22_1
     try clear hx22_2
     try clear hx638_0
     try clear hx638_1
     try clear hx638_2
     try clear p22
     try clear p638
     try clear q22
     try clear q638
     obtain ⟨kq, x59_23, rfl, HA, HJ23, HO_10, HO_11, HO_14, BK629, BK637, HB⟩ := hcut
     have hl10_23 := (Kd.R_reads' HO_10.out).1
     rw [hl10_23] at HO_10
     (try simp only [hl10_23])
     (try simp only [hl10_23] at BK629)
     (try simp only [hl10_23] at BK637)
     (try simp only [hl10_23] at HO_11)
     (try simp only [hl10_23] at HO_14)
     cases kq with
     | zero => exact absurd HA.out (by simp [insolvencylaw18_GuaranteeGrows.j0])
     | succ kj23 =>
      have H := HA.out
      clear HA
      simp only [insolvencylaw18_GuaranteeGrows.j0] at H
      by_cases c47 : x59_23 = true
      ·subst c47
       replace H := xI H
       obtain rfl := Option.some.inj H
       go_wp2
       go_ret
       exact ⟨by first | rfl | (simp [errW_none, errW_some] <;> rfl) | (simp only [← hji17]; first | rfl | (simp [errW_none, errW_some] <;> rfl)) | (simp [*, errW_none, errW_some] <;> rfl), xs HB⟩
      ·replace c47 := Bool.eq_false_iff.mpr c47
       subst c47
       have H1 : (insolvencylaw18_GuaranteeGrows.l0 kj23 y645 t631 t646 (t631.length : Int) 0 t623 t624 t625 t634 t635 t636) = some r := by rw [if_neg (show ¬ (false = true) by decide)] at H; exact H
       clear H
       have H := H1
       clear H1
       have H' := Aside0.mk H
       clear H
       obtain ⟨Ao48, co48, eo48⟩ := Kd.R_slice HO_11.out
       subst eo48
       go_wp2
       go_loopg [62] kj23 (fun kq v62 w' => ∃ (x62_2 : Int), v62 = .int .i64 x62_2 ∧ Aside0 (insolvencylaw18_GuaranteeGrows.l0 kq y645 t631 t646 (t631.length : Int) x62_2 t623 t624 t625 t634 t635 t636 = some r) ∧ Aside0 (kq ≤ kj23) ∧ Aside0 (Kd.R k25 25 w' w.heap.size (fun k_ => some k_ ≠ ((.slice Ao48 t631.length co48) : Value).ownBlock ∧ some k_ ≠ (v647 : Value).ownBlock ∧ k_ ≠ gb629 ∧ k_ ≠ gb637) (.slice (some ⟨go22, 0, none⟩) y645.length co29) y645) ∧ Aside0 (Kd.R k25 25 w' w.heap.size (fun k_ => some k_ ≠ ((.slice (some ⟨go22, 0, none⟩) y645.length co29) : Value).ownBlock ∧ some k_ ≠ (v647 : Value).ownBlock ∧ k_ ≠ gb629 ∧ k_ ≠ gb637) (.slice Ao48 t631.length co48) t631) ∧ Aside0 (Kd.R k25 25 w' w.heap.size (fun k_ => some k_ ≠ ((.slice (some ⟨go22, 0, none⟩) y645.length co29) : Value).ownBlock ∧ some k_ ≠ ((.slice Ao48 t631.length co48) : Value).ownBlock ∧ k_ ≠ gb629 ∧ k_ ≠ gb637) v647 t646) ∧ Aside0 (w'.heap[gb629]? = some (.cells #[.bool t623, .string t624, .string t625] 25 (0, 0))) ∧ Aside0 (w'.heap[gb637]? = some (.cells #[.bool t634, .string t635, .string t636] 25 (0, 0))) ∧ Aside0 (Below w.heap.size w w'))
       case atStart => exact ⟨(0), xz, H', ⟨Nat.le_refl _⟩, ⟨by (try simp only [hl10_23]); (with_reducible repeat (first | apply Kd.R_alloc | apply Kd.R_drewN | apply Kd.R_drew)); exact HO_10.out⟩, ⟨by (try simp only [hl10_23]); (with_reducible repeat (first | apply Kd.R_alloc | apply Kd.R_drewN | apply Kd.R_drew)); exact HO_11.out⟩, ⟨by (try simp only [hl10_23]); (with_reducible repeat (first | apply Kd.R_alloc | apply Kd.R_drewN | apply Kd.R_drew)); exact HO_14.out⟩, ⟨by (try simp only [hl10_23]); (with_reducible repeat (first | refine blk_drewN ?_ _ | refine blk_drew ?_ | refine blk_alloc ?_ _)); exact BK629.out⟩, ⟨by (try simp only [hl10_23]); (with_reducible repeat (first | refine blk_drewN ?_ _ | refine blk_drew ?_ | refine blk_alloc ?_ _)); exact BK637.out⟩, ⟨xs HB⟩⟩
       case round =>
        clear H'
        try clear c1
        try clear c2
        try clear p2
        try clear q2
        try clear hx2
        try clear c3
        try clear c4
        try clear c5
        try clear p6
        try clear q6
        try clear hx6
        try clear c7
        try clear c7b0
        try clear c7b1
        try clear c7b2
        try clear c10
        try clear c11
        try clear c12
        try clear c14
        try clear c18
        try clear c18b0
        try clear c19
        try clear c19b0
        try clear c21
        try clear c22
        try clear p22
        try clear q22
        try clear hx22
        try clear hf22
        try clear c34
        try clear c40
        try clear c43
        try clear c43b0
        try clear c43b1
        try clear c43b2
        try clear c47
        try clear hcz12_0
        try clear hcz12_1
        try clear hcz12_2
        try clear hcz28_0
        try clear hcz28_1
        try clear hcz28_2
        try clear hcz31_0
        try clear hcz31_1
        try clear hcz31_2
        try clear hcz35_0
        try clear hcz35_1
        try clear hcz35_2
        try clear hcz41_0
        try clear hcz41_1
        try clear hcz41_2
        try clear hfz12_0
        try clear hfz12_1
        try clear hfz12_2
        try clear hfz28_0
        try clear hfz28_1
        try clear hfz28_2
        try clear hfz31_0
        try clear hfz31_1
        try clear hfz31_2
        try clear hfz35_0
        try clear hfz35_1
        try clear hfz35_2
        try clear hfz41_0
        try clear hfz41_1
        try clear hfz41_2
        try clear hx22_0
        try clear hx22_1
        try clear hx22_2
        try clear hx638_0
        try clear hx638_1
        try clear hx638_2
        try clear p2
        try clear p22
        try clear p6
        try clear p638
        try clear q2
        try clear q22
        try clear q6
        try clear q638
        obtain ⟨x62_2, rfl, HA, HK2, HO_10, HO_11, HO_14, BK629, BK637, HB⟩ := hrel
        cases gk with
        | zero => exact absurd HA.out (by simp [insolvencylaw18_GuaranteeGrows.l0])
        | succ k2 =>
         have H := HA.out
         clear HA
         simp only [insolvencylaw18_GuaranteeGrows.l0] at H
         by_cases c49 : x62_2 < (t631.length : Int)
         ·rw [if_pos c49] at H
          have c49b0 : decide (x62_2 < (t631.length : Int)) = true := decide_eq_true c49
          (try simp only [hl10_23] at c49b0)
          clear c49
          by_cases c50 : 0 ≤ x62_2
          ·rw [if_pos c50] at H
           have c50b0 : decide (0 ≤ x62_2) = true := decide_eq_true c50
           clear c50
           by_cases c51 : x62_2 < (t631.length : Int)
           ·rw [if_pos c51] at H
            have c51b0 : decide (x62_2 < (t631.length : Int)) = true := decide_eq_true c51
            (try simp only [hl10_23] at c51b0)
            clear c51
            by_cases c52 : x62_2 < (t646.length : Int)
            ·rw [if_pos c52] at H
             have c52b0 : decide (x62_2 < (t646.length : Int)) = true := decide_eq_true c52
             (try simp only [hl10_23] at c52b0)
             clear c52
             replace H := xH H; obtain ⟨t651, A53, H⟩ := H
             by_cases c54 : t651 > 0
             ·rw [if_pos c54] at H
              have c54b0 : decide (0 < t651) = true := decide_eq_true c54
              clear c54
              obtain rfl := Option.some.inj H
              try go_wp2
              replace HO_10 := Aside0.mk (Kd.R_drew HO_10.out)
              replace HO_11 := Aside0.mk (Kd.R_drew HO_11.out)
              replace HO_14 := Aside0.mk (Kd.R_drew HO_14.out)
              replace BK629 := xD BK629
              replace BK637 := xD BK637
              replace HB := xW HB
              have p649 : 0 ≤ (x62_2 : Int) := xa
              have q649 : x62_2 < (t631.length : Int) := xa
              obtain ⟨ad649, e649, hx649_0, hx649_1, hx649_2⟩ := at_T25 (Kd.R_reads' HO_11.out).2.2 x62_2 p649 q649
              cases e649
              replace p649 := eq_true p649
              replace q649 := eq_true q649
              obtain ⟨Ao56, co56, eo56⟩ := Kd.R_slice HO_14.out
              (first | subst eo56 | (injection eo56 with f1_ f2_ f3_; have f4_ := f1_.symm; have f5_ := f3_.symm; clear f1_ f2_ f3_; subst f4_; subst f5_))
              have p650 : 0 ≤ (x62_2 : Int) := xa
              have q650 : x62_2 < (t646.length : Int) := xa
              obtain ⟨ad650, e650, hx650_0, hx650_1, hx650_2⟩ := at_T25 (Kd.R_reads' HO_14.out).2.2 x62_2 p650 q650
              cases e650
              replace p650 := eq_true p650
              replace q650 := eq_true q650
              refine start_ (n := 10) (S := fun w' => w'.cell? (ad649.add ((x62_2).toNat * 3)) = some (.bool ((rd_T25 t631 x62_2).f0)) ∧ w'.cell? ⟨(ad649.add ((x62_2).toNat * 3)).block, (ad649.add ((x62_2).toNat * 3)).off + 1, none⟩ = some (.string ((rd_T25 t631 x62_2).f1)) ∧ w'.cell? ⟨(ad649.add ((x62_2).toNat * 3)).block, (ad649.add ((x62_2).toNat * 3)).off + 2, none⟩ = some (.string ((rd_T25 t631 x62_2).f2)) ∧ w'.cell? (ad650.add ((x62_2).toNat * 3)) = some (.bool ((rd_T25 t646 x62_2).f0)) ∧ w'.cell? ⟨(ad650.add ((x62_2).toNat * 3)).block, (ad650.add ((x62_2).toNat * 3)).off + 1, none⟩ = some (.string ((rd_T25 t646 x62_2).f1)) ∧ w'.cell? ⟨(ad650.add ((x62_2).toNat * 3)).block, (ad650.add ((x62_2).toNat * 3)).off + 2, none⟩ = some (.string ((rd_T25 t646 x62_2).f2))) (ds := []) #[false, false, false, false, false, false, false, false, false, false] (by kernel_rfl) rfl rfl ⟨hx649_0, hx649_1, hx649_2, hx650_0, hx650_1, hx650_2⟩ (fun hHeld => ?_); refine with_tabW insolvencylaw18_GuaranteeGrows.tab14 insolvencylaw18_GuaranteeGrows.bits14 (fun HT_ HW_ => ?_)
              generalize wr.drew = w55 at HO_10 HO_11 HO_14 BK629 BK637 HB hx649_0 hx649_1 hx649_2 hx650_0 hx650_1 hx650_2 hHeld ⊢
              refine xP 0 (some 65) #[true, false, false, false, false, false, false, false, false, false] rfl rfl ?_
              refine xP 1 (some 66) #[true, true, false, false, false, false, false, false, false, false] rfl rfl ?_
              refine xP 2 (some 67) #[true, true, true, false, false, false, false, false, false, false] rfl rfl ?_
              refine xP 4 (some 69) #[true, true, true, false, true, false, false, false, false, false] rfl rfl ?_
              refine xP 5 (some 70) #[true, true, true, false, true, true, false, false, false, false] rfl rfl ?_
              refine xP 6 (some 71) #[true, true, true, false, true, true, true, false, false, false] rfl rfl ?_
              refine xT 3 (some 68) #[true, true, true, true, true, true, true, false, false, false] rfl rfl hHeld ?_
              refine xT 7 (some 72) #[true, true, true, true, true, true, true, true, false, false] rfl rfl hHeld ?_
              refine xO 8 (some 73) #[true, true, true, true, true, true, true, true, true, false] rfl rfl fun K hK => ?_
              refine goes_ Tryd.func22 (by kernel_rfl) rfl #[.agg #[.bool ((rd_T25 t631 x62_2).f0), .string ((rd_T25 t631 x62_2).f1), .string ((rd_T25 t631 x62_2).f2)], .agg #[.bool ((rd_T25 t646 x62_2).f0), .string ((rd_T25 t646 x62_2).f1), .string ((rd_T25 t646 x62_2).f2)]] (by rfl) rfl rfl (by (try simp only [List.map_toArray, List.map_cons, List.map_nil]); first | done | rfl | (simp only [List.length_drop, List.length_take]; rfl)) ?_
              with_reducible refine (rational_Compare.calls k2 ((rd_T25 t631 x62_2).f0) ((rd_T25 t631 x62_2).f1) ((rd_T25 t631 x62_2).f2) ((rd_T25 t646 x62_2).f0) ((rd_T25 t646 x62_2).f1) ((rd_T25 t646 x62_2).f2) t651 _ A53.out).mono ?_
              rintro e w57 ⟨rfl, hb⟩
              have HS0_ := (hb.cell (World.block_lt_of_cell? _ _ (hHeld.1))).trans (hHeld.1)
              have HS1_ := (hb.cell (World.block_lt_of_cell? _ _ (hHeld.2.1))).trans (hHeld.2.1)
              have HS2_ := (hb.cell (World.block_lt_of_cell? _ _ (hHeld.2.2.1))).trans (hHeld.2.2.1)
              have HS3_ := (hb.cell (World.block_lt_of_cell? _ _ (hHeld.2.2.2.1))).trans (hHeld.2.2.2.1)
              have HS4_ := (hb.cell (World.block_lt_of_cell? _ _ (hHeld.2.2.2.2.1))).trans (hHeld.2.2.2.2.1)
              have HS5_ := (hb.cell (World.block_lt_of_cell? _ _ (hHeld.2.2.2.2.2))).trans (hHeld.2.2.2.2.2)
              refine ⟨_, rfl, ?_⟩
              replace HO_10 := Aside0.mk (Kd.R_below (xr HO_10.out) hb)
              replace HO_11 := Aside0.mk (Kd.R_below (xr HO_11.out) hb)
              replace HO_14 := Aside0.mk (Kd.R_below (xr HO_14.out) hb)
              replace BK629 := xB BK629 hb
              replace BK637 := xB BK637 hb
              replace HB := xS HB hb
              (try clear hb)
              (try clear hb2)
              (try clear hk)
              (try clear hi)
              refine hK.out _ _ ⟨HS0_, HS1_, HS2_, HS3_, HS4_, HS5_⟩ (fun hHeld => ?_)
              clear hK K
              refine xN 73 ?_
              refine xP 9 (some 74) #[true, true, true, true, true, true, true, true, true, true] rfl rfl ?_
              refine done_ (done_of HT_.out (by kernel_rfl)) ?_
              try go_wp2
              go_ret
              exact ⟨by first | rfl | (simp [errW_none, errW_some] <;> rfl) | (simp only [← hji17]; first | rfl | (simp [errW_none, errW_some] <;> rfl)) | (simp [*, errW_none, errW_some] <;> rfl), xs HB⟩
             ·rw [if_neg c54] at H
              have c54b0 : decide (0 < t651) = false := decide_eq_false c54
              clear c54
              have H' := Aside0.mk H
              clear H
              try go_wp2
              replace HO_10 := Aside0.mk (Kd.R_drew HO_10.out)
              replace HO_11 := Aside0.mk (Kd.R_drew HO_11.out)
              replace HO_14 := Aside0.mk (Kd.R_drew HO_14.out)
              replace BK629 := xD BK629
              replace BK637 := xD BK637
              replace HB := xW HB
              have p649 : 0 ≤ (x62_2 : Int) := xa
              have q649 : x62_2 < (t631.length : Int) := xa
              obtain ⟨ad649, e649, hx649_0, hx649_1, hx649_2⟩ := at_T25 (Kd.R_reads' HO_11.out).2.2 x62_2 p649 q649
              cases e649
              replace p649 := eq_true p649
              replace q649 := eq_true q649
              obtain ⟨Ao59, co59, eo59⟩ := Kd.R_slice HO_14.out
              (first | subst eo59 | (injection eo59 with f1_ f2_ f3_; have f4_ := f1_.symm; have f5_ := f3_.symm; clear f1_ f2_ f3_; subst f4_; subst f5_))
              have p650 : 0 ≤ (x62_2 : Int) := xa
              have q650 : x62_2 < (t646.length : Int) := xa
              obtain ⟨ad650, e650, hx650_0, hx650_1, hx650_2⟩ := at_T25 (Kd.R_reads' HO_14.out).2.2 x62_2 p650 q650
              cases e650
              replace p650 := eq_true p650
              replace q650 := eq_true q650
              refine start_ (n := 10) (S := fun w' => w'.cell? (ad649.add ((x62_2).toNat * 3)) = some (.bool ((rd_T25 t631 x62_2).f0)) ∧ w'.cell? ⟨(ad649.add ((x62_2).toNat * 3)).block, (ad649.add ((x62_2).toNat * 3)).off + 1, none⟩ = some (.string ((rd_T25 t631 x62_2).f1)) ∧ w'.cell? ⟨(ad649.add ((x62_2).toNat * 3)).block, (ad649.add ((x62_2).toNat * 3)).off + 2, none⟩ = some (.string ((rd_T25 t631 x62_2).f2)) ∧ w'.cell? (ad650.add ((x62_2).toNat * 3)) = some (.bool ((rd_T25 t646 x62_2).f0)) ∧ w'.cell? ⟨(ad650.add ((x62_2).toNat * 3)).block, (ad650.add ((x62_2).toNat * 3)).off + 1, none⟩ = some (.string ((rd_T25 t646 x62_2).f1)) ∧ w'.cell? ⟨(ad650.add ((x62_2).toNat * 3)).block, (ad650.add ((x62_2).toNat * 3)).off + 2, none⟩ = some (.string ((rd_T25 t646 x62_2).f2))) (ds := []) #[false, false, false, false, false, false, false, false, false, false] (by kernel_rfl) rfl rfl ⟨hx649_0, hx649_1, hx649_2, hx650_0, hx650_1, hx650_2⟩ (fun hHeld => ?_); refine with_tabW insolvencylaw18_GuaranteeGrows.tab14 insolvencylaw18_GuaranteeGrows.bits14 (fun HT_ HW_ => ?_)
              generalize wr.drew = w58 at HO_10 HO_11 HO_14 BK629 BK637 HB hx649_0 hx649_1 hx649_2 hx650_0 hx650_1 hx650_2 hHeld ⊢
              refine xP 0 (some 65) #[true, false, false, false, false, false, false, false, false, false] rfl rfl ?_
              refine xP 1 (some 66) #[true, true, false, false, false, false, false, false, false, false] rfl rfl ?_
              refine xP 2 (some 67) #[true, true, true, false, false, false, false, false, false, false] rfl rfl ?_
              refine xP 4 (some 69) #[true, true, true, false, true, false, false, false, false, false] rfl rfl ?_
              refine xP 5 (some 70) #[true, true, true, false, true, true, false, false, false, false] rfl rfl ?_
              refine xP 6 (some 71) #[true, true, true, false, true, true, true, false, false, false] rfl rfl ?_
              refine xT 3 (some 68) #[true, true, true, true, true, true, true, false, false, false] rfl rfl hHeld ?_
              refine xT 7 (some 72) #[true, true, true, true, true, true, true, true, false, false] rfl rfl hHeld ?_
              refine xO 8 (some 73) #[true, true, true, true, true, true, true, true, true, false] rfl rfl fun K hK => ?_
              refine goes_ Tryd.func22 (by kernel_rfl) rfl #[.agg #[.bool ((rd_T25 t631 x62_2).f0), .string ((rd_T25 t631 x62_2).f1), .string ((rd_T25 t631 x62_2).f2)], .agg #[.bool ((rd_T25 t646 x62_2).f0), .string ((rd_T25 t646 x62_2).f1), .string ((rd_T25 t646 x62_2).f2)]] (by rfl) rfl rfl (by (try simp only [List.map_toArray, List.map_cons, List.map_nil]); first | done | rfl | (simp only [List.length_drop, List.length_take]; rfl)) ?_
              with_reducible refine (rational_Compare.calls k2 ((rd_T25 t631 x62_2).f0) ((rd_T25 t631 x62_2).f1) ((rd_T25 t631 x62_2).f2) ((rd_T25 t646 x62_2).f0) ((rd_T25 t646 x62_2).f1) ((rd_T25 t646 x62_2).f2) t651 _ A53.out).mono ?_
              rintro e w60 ⟨rfl, hb⟩
              have HS0_ := (hb.cell (World.block_lt_of_cell? _ _ (hHeld.1))).trans (hHeld.1)
              have HS1_ := (hb.cell (World.block_lt_of_cell? _ _ (hHeld.2.1))).trans (hHeld.2.1)
              have HS2_ := (hb.cell (World.block_lt_of_cell? _ _ (hHeld.2.2.1))).trans (hHeld.2.2.1)
              have HS3_ := (hb.cell (World.block_lt_of_cell? _ _ (hHeld.2.2.2.1))).trans (hHeld.2.2.2.1)
              have HS4_ := (hb.cell (World.block_lt_of_cell? _ _ (hHeld.2.2.2.2.1))).trans (hHeld.2.2.2.2.1)
              have HS5_ := (hb.cell (World.block_lt_of_cell? _ _ (hHeld.2.2.2.2.2))).trans (hHeld.2.2.2.2.2)
              refine ⟨_, rfl, ?_⟩
              replace HO_10 := Aside0.mk (Kd.R_below (xr HO_10.out) hb)
              replace HO_11 := Aside0.mk (Kd.R_below (xr HO_11.out) hb)
              replace HO_14 := Aside0.mk (Kd.R_below (xr HO_14.out) hb)
              replace BK629 := xB BK629 hb
              replace BK637 := xB BK637 hb
              replace HB := xS HB hb
              (try clear hb)
              (try clear hb2)
              (try clear hk)
              (try clear hi)
              refine hK.out _ _ ⟨HS0_, HS1_, HS2_, HS3_, HS4_, HS5_⟩ (fun hHeld => ?_)
              clear hK K
              refine xN 73 ?_
              refine xP 9 (some 74) #[true, true, true, true, true, true, true, true, true, true] rfl rfl ?_
              refine done_ (done_of HT_.out (by kernel_rfl)) ?_
              try go_wp2
              (first | go_roundg k2 | (refine Handed.intro k2 ?measure ?_; rotate_left; go_step; (repeat apply Exists.intro); refine ⟨?rel, (by first | rfl | (simp only [add_plain]; rfl))⟩))
              case measure => have := HJ23.out; have := HK2.out; omega
              case rel => exact ⟨(wrap64 (x62_2 + 1)), xz, H', ⟨by have := HJ23.out; have := HK2.out; omega⟩, ⟨by (try simp only [hl10_23]); (with_reducible repeat (first | apply Kd.R_alloc | apply Kd.R_drewN | apply Kd.R_drew)); exact HO_10.out⟩, ⟨by (try simp only [hl10_23]); (with_reducible repeat (first | apply Kd.R_alloc | apply Kd.R_drewN | apply Kd.R_drew)); exact HO_11.out⟩, ⟨by (try simp only [hl10_23]); (with_reducible repeat (first | apply Kd.R_alloc | apply Kd.R_drewN | apply Kd.R_drew)); exact HO_14.out⟩, ⟨by (try simp only [hl10_23]); (with_reducible repeat (first | refine blk_drewN ?_ _ | refine blk_drew ?_ | refine blk_alloc ?_ _)); exact BK629.out⟩, ⟨by (try simp only [hl10_23]); (with_reducible repeat (first | refine blk_drewN ?_ _ | refine blk_drew ?_ | refine blk_alloc ?_ _)); exact BK637.out⟩, ⟨xs HB⟩⟩
            ·rw [if_neg c52] at H
             exact absurd H (by simp)
           ·rw [if_neg c51] at H
            exact absurd H (by simp)
          ·rw [if_neg c50] at H
           exact absurd H (by simp)
         ·rw [if_neg c49] at H
          have c49b0 : decide (x62_2 < (t631.length : Int)) = false := decide_eq_false c49
          (try simp only [hl10_23] at c49b0)
          clear c49
          replace H := xH H; obtain ⟨t652, A61, H⟩ := H
          by_cases c62 : t652 = true
          ·subst c62
           replace H := xI H
           replace H := xH H; obtain ⟨⟨t653, t654, t655⟩, A63, H⟩ := H
           dsimp only at H
           replace H := xH H; obtain ⟨t656, A64, H⟩ := H
           obtain rfl := Option.some.inj H
           try go_wp2
           replace HO_10 := Aside0.mk (Kd.R_drew HO_10.out)
           replace HO_11 := Aside0.mk (Kd.R_drew HO_11.out)
           replace HO_14 := Aside0.mk (Kd.R_drew HO_14.out)
           replace BK629 := xD BK629
           replace BK637 := xD BK637
           replace HB := xW HB
           refine start_ (n := 10) (S := fun w' => w'.cell? ⟨gb637, 0, none⟩ = some (.bool t634) ∧ w'.cell? ⟨gb637, 1, none⟩ = some (.string t635) ∧ w'.cell? ⟨gb637, 2, none⟩ = some (.string t636) ∧ w'.cell? ⟨gb629, 0, none⟩ = some (.bool t623) ∧ w'.cell? ⟨gb629, 1, none⟩ = some (.string t624) ∧ w'.cell? ⟨gb629, 2, none⟩ = some (.string t625)) (ds := []) #[false, false, false, false, false, false, false, false, false, false] (by kernel_rfl) rfl rfl xV (fun hHeld => ?_); refine with_tabW insolvencylaw18_GuaranteeGrows.tab17 insolvencylaw18_GuaranteeGrows.bits17 (fun HT_ HW_ => ?_)
           generalize wr.drew = w65 at HO_10 HO_11 HO_14 BK629 BK637 HB hHeld ⊢
           refine xO 0 (some 76) #[true, false, false, false, false, false, false, false, false, false] rfl rfl fun K hK => ?_
           refine xc Tryd.func14 (insolvencylaw18_awake.calls k2  true _ A61.out) ?_
           rintro w66 hb
           replace HO_10 := Aside0.mk (Kd.R_below (xr HO_10.out) hb)
           replace HO_11 := Aside0.mk (Kd.R_below (xr HO_11.out) hb)
           replace HO_14 := Aside0.mk (Kd.R_below (xr HO_14.out) hb)
           replace BK629 := xB BK629 hb
           replace BK637 := xB BK637 hb
           replace HB := xS HB hb
           clear hb
           refine hK.out _ _ xV (fun hHeld => ?_)
           clear hK K
           refine xN 76 ?_
           refine xP 1 (some 77) #[true, true, false, false, false, false, false, false, false, false] rfl rfl ?_
           refine xP 4 (some 80) #[true, true, false, false, true, false, false, false, false, false] rfl rfl ?_
           refine xT 2 (some 78) #[true, true, true, false, true, false, false, false, false, false] rfl rfl hHeld ?_
           refine xT 3 (some 79) #[true, true, true, true, true, false, false, false, false, false] rfl rfl hHeld ?_
           refine xO 5 (some 81) #[true, true, true, true, true, true, false, false, false, false] rfl rfl fun K hK => ?_
           refine goes_ Tryd.func19 (by kernel_rfl) rfl #[.agg #[.bool t623, .string t624, .string t625], .slice (some ⟨go22, 0, none⟩) y645.length co29] (by rfl) rfl rfl (by (try simp only [List.map_toArray, List.map_cons, List.map_nil]); first | done | rfl | (simp only [List.length_drop, List.length_take]; rfl)) ?_
           with_reducible refine (guarantee_Kept.calls k2 t623 t624 t625 _ _ y645 t653 t654 t655 _ ?side1 ?side2 A63.out).mono ?_
           (case side1 => repeat (first | exact (Kd.R_reads' HO_10.out).2.2 | (with_reducible refine Kd.C_alloc ?_ _) | (with_reducible refine Kd.C_drewN ?_ _) | (with_reducible refine Kd.C_drew ?_)))
           (case side2 => exact (Kd.R_reads' HO_10.out).2.1)
           rintro e w67 ⟨rfl, hb⟩
           refine ⟨_, rfl, ?_⟩
           replace HO_10 := Aside0.mk (Kd.R_below (xr HO_10.out) hb)
           replace HO_11 := Aside0.mk (Kd.R_below (xr HO_11.out) hb)
           replace HO_14 := Aside0.mk (Kd.R_below (xr HO_14.out) hb)
           replace BK629 := xB BK629 hb
           replace BK637 := xB BK637 hb
           replace HB := xS HB hb
           clear hb
           refine hK.out _ _ xV (fun hHeld => ?_)
           clear hK K
           refine xN 81 ?_
           refine xO 6 (some 82) #[true, true, true, true, true, true, true, false, false, false] rfl rfl fun K hK => ?_
           refine xc Tryd.func22 (rational_Compare.calls k2 t634 t635 t636 t653 t654 t655 t656 _ A64.out) ?_
           rintro w68 hb
           replace HO_10 := Aside0.mk (Kd.R_below (xr HO_10.out) hb)
           replace HO_11 := Aside0.mk (Kd.R_below (xr HO_11.out) hb)
           replace HO_14 := Aside0.mk (Kd.R_below (xr HO_14.out) hb)
           replace BK629 := xB BK629 hb
           replace BK637 := xB BK637 hb
           replace HB := xS HB hb
           clear hb
           refine hK.out _ _ xV (fun hHeld => ?_)
           clear hK K
           refine xN 82 ?_
           refine xP 7 (some 83) #[true, true, true, true, true, true, true, true, false, false] rfl rfl ?_
           refine xP 8 (some 84) #[true, true, true, true, true, true, true, true, true, false] rfl rfl ?_
           refine xP 9 (some 8) #[true, true, true, true, true, true, true, true, true, true] rfl rfl ?_
           refine done_ (done_of HT_.out (by kernel_rfl)) ?_
           try go_wp2
           go_ret
           exact ⟨by first | rfl | (simp [errW_none, errW_some] <;> rfl) | (simp only [← hji17]; first | rfl | (simp [errW_none, errW_some] <;> rfl)) | (simp [*, errW_none, errW_some] <;> rfl), xs HB⟩
          ·replace c62 := Bool.eq_false_iff.mpr c62
           subst c62
           have H1 : (some false) = some r := by rw [if_neg (show ¬ (false = true) by decide)] at H; exact H
           clear H
           have H := H1
           clear H1
           obtain rfl := Option.some.inj H
           try go_wp2
           replace HO_10 := Aside0.mk (Kd.R_drew HO_10.out)
           replace HO_11 := Aside0.mk (Kd.R_drew HO_11.out)
           replace HO_14 := Aside0.mk (Kd.R_drew HO_14.out)
           replace BK629 := xD BK629
           replace BK637 := xD BK637
           replace HB := xW HB
           refine start_ (n := 10) (S := fun w' => True) (ds := []) #[false, false, false, false, false, false, false, false, false, false] (by kernel_rfl) rfl rfl trivial (fun hHeld => ?_); refine with_tabW insolvencylaw18_GuaranteeGrows.tab17 insolvencylaw18_GuaranteeGrows.bits17 (fun HT_ HW_ => ?_)
           generalize wr.drew = w69 at HO_10 HO_11 HO_14 BK629 BK637 HB hHeld ⊢
           refine xO 0 (some 76) #[true, false, false, false, false, false, false, false, false, false] rfl rfl fun K hK => ?_
           refine xc Tryd.func14 (insolvencylaw18_awake.calls k2  false _ A61.out) ?_
           rintro w70 hb
           replace HO_10 := Aside0.mk (Kd.R_below (xr HO_10.out) hb)
           replace HO_11 := Aside0.mk (Kd.R_below (xr HO_11.out) hb)
           replace HO_14 := Aside0.mk (Kd.R_below (xr HO_14.out) hb)
           replace BK629 := xB BK629 hb
           replace BK637 := xB BK637 hb
           replace HB := xS HB hb
           clear hb
           refine hK.out _ _ trivial (fun hHeld => ?_)
           clear hK K
           refine xN 76 ?_
           refine xP 1 (some 77) #[true, true, false, false, false, false, false, false, false, false] rfl rfl ?_
           refine xU 2 (some 78) #[true, true, true, false, false, false, false, false, false, false] rfl rfl ?_
           refine xU 3 (some 79) #[true, true, true, true, false, false, false, false, false, false] rfl rfl ?_
           refine xU 4 (some 80) #[true, true, true, true, true, false, false, false, false, false] rfl rfl ?_
           refine xU 5 (some 81) #[true, true, true, true, true, true, false, false, false, false] rfl rfl ?_
           refine xU 6 (some 82) #[true, true, true, true, true, true, true, false, false, false] rfl rfl ?_
           refine xU 7 (some 83) #[true, true, true, true, true, true, true, true, false, false] rfl rfl ?_
           refine xP 8 (some 84) #[true, true, true, true, true, true, true, true, true, false] rfl rfl ?_
           refine xP 9 (some 8) #[true, true, true, true, true, true, true, true, true, true] rfl rfl ?_
           refine done_ (done_of HT_.out (by kernel_rfl)) ?_
           try go_wp2
           go_ret
           exact ⟨by first | rfl | (simp [errW_none, errW_some] <;> rfl) | (simp only [← hji17]; first | rfl | (simp [errW_none, errW_some] <;> rfl)) | (simp [*, errW_none, errW_some] <;> rfl), xs HB⟩
   ·rw [if_neg c19] at H
    exact absurd H (by simp)
  ·rw [if_neg c18] at H
   exact absurd H (by simp)
/-- THE ONE PURE STATEMENT of insolvencylaw18_GuaranteeGrows: yours. -/
def insolvencylaw18_GuaranteeGrows.Pure : Prop := ∀ (a0 : Int) (l1 : List Int) (a2 : Int) (a3 : Int), (Lit.int .u16 a0).wf = true → l1.length ≤ maxLen → l1.length * 2 ≤ 140737488351232 → (∀ x ∈ l1, (Lit.int .u16 x).wf = true) → (Lit.int .u8 a2).wf = true → (Lit.int .u16 a3).wf = true → ∃ k, insolvencylaw18_GuaranteeGrows.f k a0 l1 a2 a3 = some true
theorem insolvencylaw18_GuaranteeGrows.walk (P : insolvencylaw18_GuaranteeGrows.Pure) (a0 : Int) (a1 : Option Addr) (len1 cap1 : Nat) (z1 : List Int) (a2 : Int) (a3 : Int) (w : World) (w0 : (Lit.int .u16 a0).wf = true) (w1 : (a1 = none ∧ len1 = 0 ∧ cap1 = 0 ∧ z1 = []) ∨ ∃ x, a1 = some x ∧ len1 ≤ cap1 ∧ cap1 ≤ maxLen ∧ z1.length = cap1 ∧ (∀ i, i < z1.length → w.cell? (x.add i) = some (.int .u16 (z1.getD i 0))) ∧ ∀ n ∈ z1, (Lit.int .u16 n).wf = true) (y1 : len1 * 2 ≤ 140737488351232) (w2 : (Lit.int .u8 a2).wf = true) (w3 : (Lit.int .u16 a3).wf = true) :
  Calls Tryd.prog 5 #[.int .u16 a0, .slice a1 len1 cap1, .int .u8 a2, .int .u16 a3] w fun e w' => e = .returned (.bool true) ∧ Below w.heap.size w w' := by
 obtain ⟨l1, rfl, hr1, hm1, hw1, hc1⟩ := ReadsInt.ofRowC w1
 obtain ⟨k, h⟩ := P a0 l1 a2 a3 w0 hm1 y1 hw1 w2 w3
 refine (insolvencylaw18_GuaranteeGrows.calls k a0 _ _ l1 a2 a3 true w (Kd.C_of_reads (d := (0 : Int)) (h1 := fun _ => rfl) hr1) hc1 h).mono ?_
 rintro e w' ⟨rfl, hd⟩
 exact ⟨rfl, hd⟩
end Go.Proofs.YtpoogjcgjpkbeaaDoor.XB
