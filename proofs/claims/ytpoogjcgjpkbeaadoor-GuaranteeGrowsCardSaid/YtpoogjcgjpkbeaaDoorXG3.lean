/- Walks of functions of the program: a plain Lean function for each, and a proof that a call answers as it says. Written by a program (the kit's print with changes, then shortened). -/
import Derived.Test.YtpoogjcgjpkbeaaDoorXG2
namespace Go.Proofs.YtpoogjcgjpkbeaaDoor.XB
open Go.RowKit Go.Proofs.YtpoogjcgjpkbeaaDoorW.PrintWords Go.Proofs.YtpoogjcgjpkbeaaDoorW.PrintLast Go.Proofs.YtpoogjcgjpkbeaaDoorW.PrintMore Go.Proofs.YtpoogjcgjpkbeaaDoorW.Sq
attribute [local go_sem] max2_int min2_int max_two min_two max_three min_three max_four min_four   -- for this text's walks alone
set_option linter.unusedVariables false
set_option linter.unusedSimpArgs false
/-! ### rational_reduced: function 52 -/
def rational_reduced.f (k : Nat) (a0 : Bool) (a1 : ByteArray) (a2 : ByteArray) : Option (Bool × ByteArray × ByteArray) := (natural_Normalize.f k a1).bind fun t363 => ((natural_Normalize.f k a2).bind fun t364 => (if t363.toList = ([] : List UInt8) then (some (false, (⟨#[]⟩ : ByteArray), (⟨#[]⟩ : ByteArray))) else (if t364.toList = ([1] : List UInt8) then (some (a0, t363, (⟨#[]⟩ : ByteArray))) else ((natural_GCD.f k t363 t364).bind fun t365 => (if t365.toList = ([1] : List UInt8) then (some (a0, t363, t364)) else ((natural_Divide.f k t363 t365).bind fun bt366 => ((natural_Divide.f k t364 t365).bind fun bt369 => (if bt369.1.toList = ([1] : List UInt8) then (some (a0, bt366.1, (⟨#[]⟩ : ByteArray))) else (some (a0, bt366.1, bt369.1))))))))))
theorem rational_reduced.mono : ∀ a0 a1 a2 k, LeO (rational_reduced.f k a0 a1 a2) (rational_reduced.f (k + 1) a0 a1 a2) := by
 intro a0 a1 a2 k
 unfold rational_reduced.f
 have m0 := @natural_Divide.mono; have m1 := @natural_GCD.mono; have m2 := @natural_Normalize.mono; exact xM
set_option maxHeartbeats 8000000 in
set_option maxRecDepth 100000 in
theorem rational_reduced.calls (k : Nat) (a0 : Bool) (a1 : ByteArray) (a2 : ByteArray) (r1 : Bool) (r2 : ByteArray) (r3 : ByteArray) (w : World) (h : rational_reduced.f k a0 a1 a2 = some (r1, r2, r3)) :
  Calls Tryd.prog 52 #[.bool a0, .string a1, .string a2] w fun e w' => e = .returned (.agg #[.bool r1, .string r2, .string r3]) ∧ Below w.heap.size w w' := by
 have hu25 := Tryd.underlying25
 have HB := Aside0.mk (Below.refl w.heap.size w)
 have H : ((natural_Normalize.f k a1).bind fun t363 => ((natural_Normalize.f k a2).bind fun t364 => (if t363.toList = ([] : List UInt8) then (some (false, (⟨#[]⟩ : ByteArray), (⟨#[]⟩ : ByteArray))) else (if t364.toList = ([1] : List UInt8) then (some (a0, t363, (⟨#[]⟩ : ByteArray))) else ((natural_GCD.f k t363 t364).bind fun t365 => (if t365.toList = ([1] : List UInt8) then (some (a0, t363, t364)) else ((natural_Divide.f k t363 t365).bind fun bt366 => ((natural_Divide.f k t364 t365).bind fun bt369 => (if bt369.1.toList = ([1] : List UInt8) then (some (a0, bt366.1, (⟨#[]⟩ : ByteArray))) else (some (a0, bt366.1, bt369.1))))))))))) = some (r1, r2, r3) := h
 clear h
 replace H := xH H; obtain ⟨t363, A4, H⟩ := H
 replace H := xH H; obtain ⟨t364, A5, H⟩ := H
 by_cases c6 : t363.toList = ([] : List UInt8)
 ·rw [if_pos c6] at H
  have c6b0 : (t363.toList == ([] : List UInt8)) = true := beq_iff_eq.mpr c6
  have c6b1 : (t363.toList != ([] : List UInt8)) = false := bne_eq_false_iff_eq.mpr c6
  clear c6
  simp only [Option.some.injEq, Prod.mk.injEq] at H
  obtain ⟨rfl, rfl, rfl⟩ := H
  go_enter Tryd.func52, Tryd.ntmps52
  go_wp2_with (first | ((with_reducible refine gate_dst (N := 6) rfl ?_); refine xE (N := 6) #[.bool false, .string (⟨#[]⟩ : ByteArray), .string (⟨#[]⟩ : ByteArray)] 25 rfl ?_; intro gb362 hg w7 hbox hb; have BK362 := Aside0.mk (hbox); have GW362 := (xG HB hg); have GE362 := (xG HB hg); replace HB := xS HB hb; clear hb hbox hg) | ((with_reducible refine gate_callee (f := 74) rfl ?_); refine xC Tryd.func74 (some 9) (natural_Normalize.calls k a1 t363 _ A4.out) ?_; rintro w8 hb; replace BK362 := xB BK362 hb; replace HB := xS HB hb; clear hb) | ((with_reducible refine gate_callee (f := 74) rfl ?_); refine xC Tryd.func74 (some 11) (natural_Normalize.calls k a2 t364 _ A5.out) ?_; rintro w9 hb; replace BK362 := xB BK362 hb; replace HB := xS HB hb; clear hb; have hcz10_0 : w9.cell? ⟨gb362, 0, none⟩ = some (.bool false) := (blk_cell BK362.out 0).trans rfl; have hcz10_1 : w9.cell? ⟨gb362, 1, none⟩ = some (.string (⟨#[]⟩ : ByteArray)) := (blk_cell BK362.out 1).trans rfl; have hcz10_2 : w9.cell? ⟨gb362, 2, none⟩ = some (.string (⟨#[]⟩ : ByteArray)) := (blk_cell BK362.out 2).trans rfl; have hfz10_0 := blk_frozen BK362.out 0; have hfz10_1 := blk_frozen BK362.out 1; have hfz10_2 := blk_frozen BK362.out 2))
  (try have eA5_ := Option.some.inj (A4.out.symm.trans A5.out))
  refine bodyPost_ret (results_cell_row rfl _ _ gb362 25 #[.bool false, .string (⟨#[]⟩ : ByteArray), .string (⟨#[]⟩ : ByteArray)] (0, 0) _ rfl (xp BK362) Tryd.underlying25 rfl (by kernel_rfl)) rfl ?_
  exact ⟨xy, xs HB⟩
 ·rw [if_neg c6] at H
  have c6b0 : (t363.toList == ([] : List UInt8)) = false := beq_eq_false_iff_ne.mpr c6
  have c6b1 : (t363.toList != ([] : List UInt8)) = true := bne_iff_ne.mpr c6
  by_cases c11 : t364.toList = ([1] : List UInt8)
  ·rw [if_pos c11] at H
   have c11b0 : (t364.toList == ([1] : List UInt8)) = true := beq_iff_eq.mpr c11
   have c11b1 : (t364.toList != ([1] : List UInt8)) = false := bne_eq_false_iff_eq.mpr c11
   clear c11
   simp only [Option.some.injEq, Prod.mk.injEq] at H
   obtain ⟨rfl, rfl, rfl⟩ := H
   go_enter Tryd.func52, Tryd.ntmps52
   go_wp2_with (first | ((with_reducible refine gate_dst (N := 6) rfl ?_); refine xE (N := 6) #[.bool false, .string (⟨#[]⟩ : ByteArray), .string (⟨#[]⟩ : ByteArray)] 25 rfl ?_; intro gb362 hg w12 hbox hb; have BK362 := Aside0.mk (hbox); have GW362 := (xG HB hg); have GE362 := (xG HB hg); replace HB := xS HB hb; clear hb hbox hg) | ((with_reducible refine gate_callee (f := 74) rfl ?_); refine xC Tryd.func74 (some 9) (natural_Normalize.calls k a1 t363 _ A4.out) ?_; rintro w13 hb; replace BK362 := xB BK362 hb; replace HB := xS HB hb; clear hb) | ((with_reducible refine gate_callee (f := 74) rfl ?_); refine xC Tryd.func74 (some 11) (natural_Normalize.calls k a2 t364 _ A5.out) ?_; rintro w14 hb; replace BK362 := xB BK362 hb; replace HB := xS HB hb; clear hb; have hcz15_0 : w14.cell? ⟨gb362, 0, none⟩ = some (.bool false) := (blk_cell BK362.out 0).trans rfl; have hcz15_1 : w14.cell? ⟨gb362, 1, none⟩ = some (.string (⟨#[]⟩ : ByteArray)) := (blk_cell BK362.out 1).trans rfl; have hcz15_2 : w14.cell? ⟨gb362, 2, none⟩ = some (.string (⟨#[]⟩ : ByteArray)) := (blk_cell BK362.out 2).trans rfl; have hfz15_0 := blk_frozen BK362.out 0; have hfz15_1 := blk_frozen BK362.out 1; have hfz15_2 := blk_frozen BK362.out 2))
   (try have eA5_ := Option.some.inj (A4.out.symm.trans A5.out))
   refine bodyPost_ret (results_cell_row rfl _ _ gb362 25 #[.bool a0, .string t363, .string (⟨#[]⟩ : ByteArray)] (0, 0) _ rfl (xp BK362) Tryd.underlying25 rfl (by kernel_rfl)) rfl ?_
   exact ⟨xy, xs HB⟩
  ·rw [if_neg c11] at H
   have c11b0 : (t364.toList == ([1] : List UInt8)) = false := beq_eq_false_iff_ne.mpr c11
   have c11b1 : (t364.toList != ([1] : List UInt8)) = true := bne_iff_ne.mpr c11
   replace H := xH H; obtain ⟨t365, A16, H⟩ := H
   by_cases c17 : t365.toList = ([1] : List UInt8)
   ·rw [if_pos c17] at H
    have c17b0 : (t365.toList == ([1] : List UInt8)) = true := beq_iff_eq.mpr c17
    have c17b1 : (t365.toList != ([1] : List UInt8)) = false := bne_eq_false_iff_eq.mpr c17
    clear c17
    simp only [Option.some.injEq, Prod.mk.injEq] at H
    obtain ⟨rfl, rfl, rfl⟩ := H
    go_enter Tryd.func52, Tryd.ntmps52
    go_wp2_with (first | ((with_reducible refine gate_dst (N := 6) rfl ?_); refine xE (N := 6) #[.bool false, .string (⟨#[]⟩ : ByteArray), .string (⟨#[]⟩ : ByteArray)] 25 rfl ?_; intro gb362 hg w18 hbox hb; have BK362 := Aside0.mk (hbox); have GW362 := (xG HB hg); have GE362 := (xG HB hg); replace HB := xS HB hb; clear hb hbox hg) | ((with_reducible refine gate_callee (f := 74) rfl ?_); refine xC Tryd.func74 (some 9) (natural_Normalize.calls k a1 t363 _ A4.out) ?_; rintro w19 hb; replace BK362 := xB BK362 hb; replace HB := xS HB hb; clear hb) | ((with_reducible refine gate_callee (f := 74) rfl ?_); refine xC Tryd.func74 (some 11) (natural_Normalize.calls k a2 t364 _ A5.out) ?_; rintro w20 hb; replace BK362 := xB BK362 hb; replace HB := xS HB hb; clear hb) | ((with_reducible refine gate_callee (f := 83) rfl ?_); refine xC Tryd.func83 (some 19) (natural_GCD.calls k t363 t364 t365 _ A16.out) ?_; rintro w21 hb; replace BK362 := xB BK362 hb; replace HB := xS HB hb; clear hb; have hcz22_0 : w21.cell? ⟨gb362, 0, none⟩ = some (.bool false) := (blk_cell BK362.out 0).trans rfl; have hcz22_1 : w21.cell? ⟨gb362, 1, none⟩ = some (.string (⟨#[]⟩ : ByteArray)) := (blk_cell BK362.out 1).trans rfl; have hcz22_2 : w21.cell? ⟨gb362, 2, none⟩ = some (.string (⟨#[]⟩ : ByteArray)) := (blk_cell BK362.out 2).trans rfl; have hfz22_0 := blk_frozen BK362.out 0; have hfz22_1 := blk_frozen BK362.out 1; have hfz22_2 := blk_frozen BK362.out 2))
    (try have eA5_ := Option.some.inj (A4.out.symm.trans A5.out))
    refine bodyPost_ret (results_cell_row rfl _ _ gb362 25 #[.bool a0, .string t363, .string t364] (0, 0) _ rfl (xp BK362) Tryd.underlying25 rfl (by kernel_rfl)) rfl ?_
    exact ⟨xy, xs HB⟩
   ·rw [if_neg c17] at H
    have c17b0 : (t365.toList == ([1] : List UInt8)) = false := beq_eq_false_iff_ne.mpr c17
    have c17b1 : (t365.toList != ([1] : List UInt8)) = true := bne_iff_ne.mpr c17
    replace H := xH H; obtain ⟨⟨t366, t367, t368⟩, A23, H⟩ := H
    dsimp only at H
    replace H := xH H; obtain ⟨⟨t369, t370, t371⟩, A24, H⟩ := H
    dsimp only at H
    by_cases c25 : t369.toList = ([1] : List UInt8)
    ·rw [if_pos c25] at H
     have c25b0 : (t369.toList == ([1] : List UInt8)) = true := beq_iff_eq.mpr c25
     have c25b1 : (t369.toList != ([1] : List UInt8)) = false := bne_eq_false_iff_eq.mpr c25
     clear c25
     simp only [Option.some.injEq, Prod.mk.injEq] at H
     obtain ⟨rfl, rfl, rfl⟩ := H
     go_enter Tryd.func52, Tryd.ntmps52
     go_wp2_with (first | ((with_reducible refine gate_dst (N := 6) rfl ?_); refine xE (N := 6) #[.bool false, .string (⟨#[]⟩ : ByteArray), .string (⟨#[]⟩ : ByteArray)] 25 rfl ?_; intro gb362 hg w26 hbox hb; have BK362 := Aside0.mk (hbox); have GW362 := (xG HB hg); have GE362 := (xG HB hg); replace HB := xS HB hb; clear hb hbox hg) | ((with_reducible refine gate_callee (f := 74) rfl ?_); refine xC Tryd.func74 (some 9) (natural_Normalize.calls k a1 t363 _ A4.out) ?_; rintro w27 hb; replace BK362 := xB BK362 hb; replace HB := xS HB hb; clear hb) | ((with_reducible refine gate_callee (f := 74) rfl ?_); refine xC Tryd.func74 (some 11) (natural_Normalize.calls k a2 t364 _ A5.out) ?_; rintro w28 hb; replace BK362 := xB BK362 hb; replace HB := xS HB hb; clear hb) | ((with_reducible refine gate_callee (f := 83) rfl ?_); refine xC Tryd.func83 (some 19) (natural_GCD.calls k t363 t364 t365 _ A16.out) ?_; rintro w29 hb; replace BK362 := xB BK362 hb; replace HB := xS HB hb; clear hb) | ((with_reducible refine gate_callee (f := 84) rfl ?_); refine xC Tryd.func84 (some 25) (natural_Divide.calls k t363 t365 t366 t367 t368 _ A23.out) ?_; rintro w30 hb; replace BK362 := xB BK362 hb; replace HB := xS HB hb; clear hb) | ((with_reducible refine gate_callee (f := 84) rfl ?_); refine xC Tryd.func84 (some 32) (natural_Divide.calls k t364 t365 t369 t370 t371 _ A24.out) ?_; rintro w31 hb; replace BK362 := xB BK362 hb; replace HB := xS HB hb; clear hb; have hcz32_0 : w31.cell? ⟨gb362, 0, none⟩ = some (.bool false) := (blk_cell BK362.out 0).trans rfl; have hcz32_1 : w31.cell? ⟨gb362, 1, none⟩ = some (.string (⟨#[]⟩ : ByteArray)) := (blk_cell BK362.out 1).trans rfl; have hcz32_2 : w31.cell? ⟨gb362, 2, none⟩ = some (.string (⟨#[]⟩ : ByteArray)) := (blk_cell BK362.out 2).trans rfl; have hfz32_0 := blk_frozen BK362.out 0; have hfz32_1 := blk_frozen BK362.out 1; have hfz32_2 := blk_frozen BK362.out 2))
     (try have eA5_ := Option.some.inj (A4.out.symm.trans A5.out))
     (try have eA24_ := Option.some.inj (A23.out.symm.trans A24.out))
     refine bodyPost_ret (results_cell_row rfl _ _ gb362 25 #[.bool a0, .string t366, .string (⟨#[]⟩ : ByteArray)] (0, 0) _ rfl (xp BK362) Tryd.underlying25 rfl (by kernel_rfl)) rfl ?_
     exact ⟨xy, xs HB⟩
    ·rw [if_neg c25] at H
     have c25b0 : (t369.toList == ([1] : List UInt8)) = false := beq_eq_false_iff_ne.mpr c25
     have c25b1 : (t369.toList != ([1] : List UInt8)) = true := bne_iff_ne.mpr c25
     simp only [Option.some.injEq, Prod.mk.injEq] at H
     obtain ⟨rfl, rfl, rfl⟩ := H
     go_enter Tryd.func52, Tryd.ntmps52
     go_wp2_with (first | ((with_reducible refine gate_dst (N := 6) rfl ?_); refine xE (N := 6) #[.bool false, .string (⟨#[]⟩ : ByteArray), .string (⟨#[]⟩ : ByteArray)] 25 rfl ?_; intro gb362 hg w33 hbox hb; have BK362 := Aside0.mk (hbox); have GW362 := (xG HB hg); have GE362 := (xG HB hg); replace HB := xS HB hb; clear hb hbox hg) | ((with_reducible refine gate_callee (f := 74) rfl ?_); refine xC Tryd.func74 (some 9) (natural_Normalize.calls k a1 t363 _ A4.out) ?_; rintro w34 hb; replace BK362 := xB BK362 hb; replace HB := xS HB hb; clear hb) | ((with_reducible refine gate_callee (f := 74) rfl ?_); refine xC Tryd.func74 (some 11) (natural_Normalize.calls k a2 t364 _ A5.out) ?_; rintro w35 hb; replace BK362 := xB BK362 hb; replace HB := xS HB hb; clear hb) | ((with_reducible refine gate_callee (f := 83) rfl ?_); refine xC Tryd.func83 (some 19) (natural_GCD.calls k t363 t364 t365 _ A16.out) ?_; rintro w36 hb; replace BK362 := xB BK362 hb; replace HB := xS HB hb; clear hb) | ((with_reducible refine gate_callee (f := 84) rfl ?_); refine xC Tryd.func84 (some 25) (natural_Divide.calls k t363 t365 t366 t367 t368 _ A23.out) ?_; rintro w37 hb; replace BK362 := xB BK362 hb; replace HB := xS HB hb; clear hb) | ((with_reducible refine gate_callee (f := 84) rfl ?_); refine xC Tryd.func84 (some 32) (natural_Divide.calls k t364 t365 t369 t370 t371 _ A24.out) ?_; rintro w38 hb; replace BK362 := xB BK362 hb; replace HB := xS HB hb; clear hb; have hcz39_0 : w38.cell? ⟨gb362, 0, none⟩ = some (.bool false) := (blk_cell BK362.out 0).trans rfl; have hcz39_1 : w38.cell? ⟨gb362, 1, none⟩ = some (.string (⟨#[]⟩ : ByteArray)) := (blk_cell BK362.out 1).trans rfl; have hcz39_2 : w38.cell? ⟨gb362, 2, none⟩ = some (.string (⟨#[]⟩ : ByteArray)) := (blk_cell BK362.out 2).trans rfl; have hfz39_0 := blk_frozen BK362.out 0; have hfz39_1 := blk_frozen BK362.out 1; have hfz39_2 := blk_frozen BK362.out 2))
     (try have eA5_ := Option.some.inj (A4.out.symm.trans A5.out))
     (try have eA24_ := Option.some.inj (A23.out.symm.trans A24.out))
     refine bodyPost_ret (results_cell_row rfl _ _ gb362 25 #[.bool a0, .string t366, .string t369] (0, 0) _ rfl (xp BK362) Tryd.underlying25 rfl (by kernel_rfl)) rfl ?_
     exact ⟨xy, xs HB⟩
/-! ### natural_Add: function 72 -/
mutual
def natural_Add.j0 : Nat → List Int → List Int → Option (ByteArray)
 | 0, _, _ => none
 | k + 1, x5, x6 => if 0 ≤ (wrap64 ((x5.length : Int) + 1)) then (if (wrap64 ((x5.length : Int) + 1) : Int).toNat ≤ 70368744177664 then (natural_Add.l0 k x5 x6 (List.replicate (wrap64 ((x5.length : Int) + 1) : Int).toNat 0) 0 (x5.length : Int) 0) else (none)) else (none)
def natural_Add.l0 : Nat → List Int → List Int → List Int → Int → Int → Int → Option (ByteArray)
 | 0, _, _, _, _, _, _ => none
 | k + 1, x5, x6, x7, x8, x27, x28 => if x28 < x27 then (if x28 < (x6.length : Int) then (if 0 ≤ x28 then (if x28 < (x5.length : Int) then ((bits_Add32.f (rd x5 x28) (rd x6 x28) x8).bind fun bt383 => (if x28 < (x7.length : Int) then (natural_Add.l0 k x5 x6 (x7.set (x28 : Int).toNat bt383.1) bt383.2 x27 (wrap64 (x28 + 1))) else (none))) else (none)) else (none)) else (if 0 ≤ x28 then (if x28 < (x5.length : Int) then ((bits_Add32.f (rd x5 x28) 0 x8).bind fun bt387 => (if x28 < (x7.length : Int) then (natural_Add.l0 k x5 x6 (x7.set (x28 : Int).toNat bt387.1) bt387.2 x27 (wrap64 (x28 + 1))) else (none))) else (none)) else (none))) else (if 0 ≤ (x5.length : Int) then (if (x5.length : Int) < (x7.length : Int) then ((natural_limbs_text.f k (x7.set ((x5.length : Int) : Int).toNat x8)).bind fun t391 => (some t391)) else (none)) else (none))
end
def natural_Add.f (k : Nat) (a0 : ByteArray) (a1 : ByteArray) : Option (ByteArray) := (natural_parse.f k a0).bind fun t372 => ((natural_parse.f k a1).bind fun t375 => (if (t372.length : Int) < (t375.length : Int) then (natural_Add.j0 k t375 t372) else (natural_Add.j0 k t372 t375)))
theorem natural_Add.mono_l : ∀ k, (∀ y0 y1, LeO (natural_Add.j0 k y0 y1) (natural_Add.j0 (k + 1) y0 y1)) ∧ (∀ y0 y1 y2 y3 y4 y5, LeO (natural_Add.l0 k y0 y1 y2 y3 y4 y5) (natural_Add.l0 (k + 1) y0 y1 y2 y3 y4 y5))
 | 0 => ⟨fun _ _ r h => by simp [natural_Add.j0] at h, fun _ _ _ _ _ _ r h => by simp [natural_Add.l0] at h⟩
 | k + 1 => by
  obtain ⟨ih0, ih1⟩ := natural_Add.mono_l k
  refine ⟨?_, ?_⟩
  ·intro y0 y1
   unfold natural_Add.j0
   have m0 := @ih0; have m1 := @ih1; have m2 := @natural_limbs_text.mono; have m3 := @natural_parse.mono; exact xM
  ·intro y0 y1 y2 y3 y4 y5
   unfold natural_Add.l0
   have m0 := @ih0; have m1 := @ih1; have m2 := @natural_limbs_text.mono; have m3 := @natural_parse.mono; exact xM
theorem natural_Add.mono : ∀ a0 a1 k, LeO (natural_Add.f k a0 a1) (natural_Add.f (k + 1) a0 a1) := by
 intro a0 a1 k
 obtain ⟨ih0, ih1⟩ := natural_Add.mono_l k
 unfold natural_Add.f
 have m0 := @ih0; have m1 := @ih1; have m2 := @natural_limbs_text.mono; have m3 := @natural_parse.mono; exact xM
set_option maxHeartbeats 8000000 in
set_option maxRecDepth 100000 in
theorem natural_Add.calls (k : Nat) (a0 : ByteArray) (a1 : ByteArray) (r : ByteArray) (w : World) (h : natural_Add.f k a0 a1 = some r) :
  Calls Tryd.prog 72 #[.string a0, .string a1] w fun e w' => e = .returned (.string r) ∧ Below w.heap.size w w' := by
 have HB := Aside0.mk (Below.refl w.heap.size w)
 have H : ((natural_parse.f k a0).bind fun t372 => ((natural_parse.f k a1).bind fun t375 => (if (t372.length : Int) < (t375.length : Int) then (natural_Add.j0 k t375 t372) else (natural_Add.j0 k t372 t375)))) = some r := h
 clear h
 replace H := xH H; obtain ⟨t372, A3, H⟩ := H
 replace H := xH H; obtain ⟨t375, A4, H⟩ := H
 have HC5 := Aside0.mk H
 clear H
 go_enter Tryd.func72, Tryd.ntmps72
 go_upto_if 19 with (first | ((with_reducible refine gate_callee (f := 77) rfl ?_); refine xg Tryd.func77 (some 12) #[.string a0] ?_; (with_reducible refine (natural_parse.calls k a0 t372 _ A3.out).mono ?_); rintro e w6 ⟨v373, rfl, ho0, hb⟩; refine ⟨_, rfl, ?_⟩; have HO374 := Aside0.mk (Kd.V_lower (Kd.V_mono (ok' := fun k_ => True) ho0 (fun k_ hk_ => trivial)) (below_size (xs HB))); replace HB := xS HB hb; clear hb ho0) | ((with_reducible refine gate_callee (f := 77) rfl ?_); refine xg Tryd.func77 (some 14) #[.string a1] ?_; (with_reducible refine (natural_parse.calls k a1 t375 _ A4.out).mono ?_); rintro e w7 ⟨v376, rfl, ho0, hb⟩; refine ⟨_, rfl, ?_⟩; replace HO374 := Aside0.mk (Kd.V_below (xv HO374.out) hb); have HO377 := Aside0.mk (Kd.V_lower (Kd.V_mono (ok' := fun k_ => True) ho0 (fun k_ hk_ => trivial)) (below_size (xs HB))); replace HB := xS HB hb; clear hb ho0; obtain ⟨Ao8, co8, eo8⟩ := Kd.V_slice HO374.out; subst eo8; obtain ⟨Ao9, co9, eo9⟩ := Kd.V_slice HO377.out; subst eo9))
 (try simp only [Act.put, List.setIfInBounds_toArray, List.set_cons_zero, List.set_cons_succ])
 go_cut [5, 6] (fun v5 v6 wc => ∃ (kq : Nat) (x5_4 : List Int) (x6_4 : List Int), Aside0 (natural_Add.j0 kq x5_4 x6_4 = some r) ∧ Aside0 (kq ≤ k) ∧ Aside0 (Kd.V (Kd.int .u32) 85 wc w.heap.size (fun _ => True) v5 x5_4) ∧ Aside0 (Kd.V (Kd.int .u32) 85 wc w.heap.size (fun _ => True) v6 x6_4) ∧ Aside0 (Below w.heap.size w wc))
 case first =>
  have H := HC5.out
  clear HC5
  by_cases c10 : (t372.length : Int) < (t375.length : Int)
  ·rw [if_pos c10] at H
   have c10b0 : decide ((t372.length : Int) < (t375.length : Int)) = true := decide_eq_true c10
   have c10b1 : decide (t372.length < t375.length) = true := decide_eq_true (Int.ofNat_lt.mp c10)
   clear c10
   (first | rw [c10b0] | (simp only [i64_w, i32_w]; rw [c10b0]) | rw [c10b1] | skip)
   have H' := Aside0.mk H
   clear H
   go_wp2
   go_meet
   case rel => exact ⟨_, (t375), (t372), H', ⟨by first | omega | exact Nat.le_refl _⟩, ⟨xv HO377.out⟩, ⟨xv HO374.out⟩, ⟨xs HB⟩⟩
  ·rw [if_neg c10] at H
   have c10b0 : decide ((t372.length : Int) < (t375.length : Int)) = false := decide_eq_false c10
   have c10b1 : decide (t372.length < t375.length) = false := decide_eq_false (fun h => c10 (Int.ofNat_lt.mpr h))
   clear c10
   (first | rw [c10b0] | (simp only [i64_w, i32_w]; rw [c10b0]) | rw [c10b1] | skip)
   have H' := Aside0.mk H
   clear H
   go_wp2
   go_meet
   case rel => exact ⟨_, (t372), (t375), H', ⟨by first | omega | exact Nat.le_refl _⟩, ⟨xv HO374.out⟩, ⟨xv HO377.out⟩, ⟨xs HB⟩⟩
 case rest =>
  clear HC5
  try clear c1
  try clear p2
  try clear c7
  try clear c10
  try clear c10b0
  try clear c10b1
  obtain ⟨kq, x5_4, x6_4, HA, HJ4, HO_5, HO_6, HB⟩ := hcut
  cases kq with
  | zero => exact absurd HA.out (by simp [natural_Add.j0])
  | succ kj4 =>
   have H := HA.out
   clear HA
   simp only [natural_Add.j0] at H
   obtain ⟨ji11, hji11⟩ : ∃ j_ : Int, (wrap64 ((x5_4.length : Int) + 1)) = j_ := ⟨_, rfl⟩
   replace H : (if 0 ≤ (ji11) then (if (ji11 : Int).toNat ≤ 70368744177664 then (natural_Add.l0 kj4 x5_4 x6_4 (List.replicate (ji11 : Int).toNat 0) 0 (x5_4.length : Int) 0) else (none)) else (none)) = some r := by first | (rw [hji11] at H; exact H) | (simp only [hji11] at H ⊢; exact H)
   have hji11w : (IntKind.i64.wrap ((x5_4.length : Int) + 1)) = ji11 := (i64_w _).trans hji11
   by_cases c12 : 0 ≤ (ji11)
   ·rw [if_pos c12] at H
    have c12b0 := eq_true c12
    have c12b1 : decide (0 ≤ (ji11)) = true := decide_eq_true c12
    clear c12
    by_cases c13 : (ji11 : Int).toNat ≤ 70368744177664
    ·rw [if_pos c13] at H
     have c13b0 := eq_true c13
     have c13b1 : decide ((ji11 : Int).toNat ≤ 70368744177664) = true := decide_eq_true c13
     clear c13
     obtain ⟨y378, hy378⟩ : ∃ y_ : List Int, y_ = (List.replicate (ji11 : Int).toNat 0) := ⟨_, rfl⟩
     replace H : (natural_Add.l0 kj4 x5_4 x6_4 y378 0 (x5_4.length : Int) 0) = some r := by first | (rw [hy378]; with_reducible exact H) | (have H2_ := (Option.bind_some _ _).symm.trans H; rw [hy378]; with_reducible exact H2_) | (have H2_ := (Option.bind_some _ _).symm.trans H; with_reducible exact H2_) | with_reducible exact H | (rw [hy378]; exact H) | exact H
     have Ny378 := Aside0.mk hy378
     clear hy378
     have H' := Aside0.mk H
     clear H
     obtain ⟨Ao14, co14, eo14⟩ := Kd.V_slice HO_5.out
     subst eo14
     go_wp2_with (first | ((with_reducible refine gate_dst (N := 25) rfl ?_); refine Kd.R_make (Kd.int .u32) _ 85 rfl (N := 25) rfl 83 _ _ rfl ji11 rfl rfl Tryd.underlying83 (.int .u32 0) 4 info85 rfl (by decide) (by omega) 0 (ok := fun _ => True) (okp := fun _ => True) rfl (fun _ hk => hk) trivial (xa) (Nat.le_trans (Nat.mul_le_mul_right _ (xa : ji11.toNat ≤ 70368744177664)) (by omega)) (Below.refl _ _) (Nat.le_refl _) ?_; intro v379 w15 ho16 hb hg_ hnew_; clear hg_ hnew_; (first | rw [← Ny378.out] at ho16 | (simp only [Int.reduceToNat] at ho16; rw [← Ny378.out] at ho16)); replace HO_5 := Aside0.mk (Kd.V_elder' (xv HO_5.out) (Kd.R_base ho16) hb); replace HO_6 := Aside0.mk (Kd.V_elder' (xv HO_6.out) (Kd.R_base ho16) hb); have HO380 := Aside0.mk (Kd.R_lower ho16 (below_size (xs HB))); replace HB := xS HB hb; clear hb ho16))
     go_loopg [8, 28] kj4 (fun kq v8 v28 w' => ∃ (x7_2 : List Int) (x8_2 : Int) (x28_2 : Int), v8 = .int .u32 x8_2 ∧ v28 = .int .i64 x28_2 ∧ Aside0 (natural_Add.l0 kq x5_4 x6_4 x7_2 x8_2 (x5_4.length : Int) x28_2 = some r) ∧ Aside0 (kq ≤ kj4) ∧ Aside0 (Kd.V (Kd.int .u32) 85 w' w.heap.size (fun k_ => some k_ ≠ (v379 : Value).ownBlock) (.slice Ao14 x5_4.length co14) x5_4) ∧ Aside0 (Kd.V (Kd.int .u32) 85 w' w.heap.size (fun k_ => some k_ ≠ (v379 : Value).ownBlock) u6 x6_4) ∧ Aside0 (Kd.R (Kd.int .u32) 85 w' w.heap.size (fun _ => True) v379 x7_2) ∧ Aside0 (Below w.heap.size w w'))
     case atStart => exact ⟨(y378), (0), (0), xz, xz, H', ⟨Nat.le_refl _⟩, ⟨by (with_reducible repeat (first | apply Kd.V_alloc | apply Kd.V_drewN | apply Kd.V_drew)); exact Kd.V_mono HO_5.out (fun _ hk => hk.2)⟩, ⟨by (with_reducible repeat (first | apply Kd.V_alloc | apply Kd.V_drewN | apply Kd.V_drew)); exact Kd.V_mono HO_6.out (fun _ hk => hk.2)⟩, ⟨xr HO380.out⟩, ⟨xs HB⟩⟩
     case round =>
      clear H'
      try clear c1
      try clear p2
      try clear p6
      try clear c7
      try clear c10
      try clear c10b0
      try clear c10b1
      try clear c12
      try clear c12b0
      try clear c12b1
      try clear c13
      try clear c13b0
      try clear c13b1
      try clear p2
      obtain ⟨x7_2, x8_2, x28_2, rfl, rfl, HA, HK2, HO_5, HO_6, HO_7, HB⟩ := hrel
      cases gk with
      | zero => exact absurd HA.out (by simp [natural_Add.l0])
      | succ k2 =>
       have H := HA.out
       clear HA
       simp only [natural_Add.l0] at H
       by_cases c17 : x28_2 < (x5_4.length : Int)
       ·rw [if_pos c17] at H
        have c17b0 : decide (x28_2 < (x5_4.length : Int)) = true := decide_eq_true c17
        clear c17
        by_cases c18 : x28_2 < (x6_4.length : Int)
        ·rw [if_pos c18] at H
         have c18b0 : decide (x28_2 < (x6_4.length : Int)) = true := decide_eq_true c18
         clear c18
         by_cases c19 : 0 ≤ x28_2
         ·rw [if_pos c19] at H
          have c19b0 : decide (0 ≤ x28_2) = true := decide_eq_true c19
          clear c19
          by_cases c20 : x28_2 < (x5_4.length : Int)
          ·rw [if_pos c20] at H
           have c20b0 : decide (x28_2 < (x5_4.length : Int)) = true := decide_eq_true c20
           clear c20
           replace H := xH H; obtain ⟨⟨t383, t384⟩, A21, H⟩ := H
           dsimp only at H
           by_cases c22 : x28_2 < (x7_2.length : Int)
           ·rw [if_pos c22] at H
            have c22b0 : decide (x28_2 < (x7_2.length : Int)) = true := decide_eq_true c22
            clear c22
            obtain ⟨y385, hy385⟩ : ∃ y_ : List Int, y_ = (x7_2.set (x28_2 : Int).toNat t383) := ⟨_, rfl⟩
            replace H : (natural_Add.l0 k2 x5_4 x6_4 y385 t384 (x5_4.length : Int) (wrap64 (x28_2 + 1))) = some r := by first | (rw [hy385]; with_reducible exact H) | (have H2_ := (Option.bind_some _ _).symm.trans H; rw [hy385]; with_reducible exact H2_) | (have H2_ := (Option.bind_some _ _).symm.trans H; with_reducible exact H2_) | with_reducible exact H | (rw [hy385]; exact H) | exact H
            have Ny385 := Aside0.mk hy385
            clear hy385
            have H' := Aside0.mk H
            clear H
            obtain ⟨Ao24, co24, eo24⟩ := Kd.V_slice HO_6.out
            subst eo24
            have p381 : 0 ≤ (x28_2 : Int) := xa
            have q381 : x28_2 < (x6_4.length : Int) := xa
            obtain ⟨ad381, e381, hx381_0⟩ := Kd.at_int (Kd.V_reads' HO_6.out).2.2 x28_2 p381 q381
            cases e381
            replace p381 := eq_true p381
            replace q381 := eq_true q381
            have p382 : 0 ≤ (x28_2 : Int) := xa
            have q382 : x28_2 < (x5_4.length : Int) := xa
            obtain ⟨ad382, e382, hx382_0⟩ := Kd.at_int (Kd.V_reads' HO_5.out).2.2 x28_2 p382 q382
            cases e382
            replace p382 := eq_true p382
            replace q382 := eq_true q382
            go_wp2_with (first | ((with_reducible refine gate_callee (f := 93) rfl ?_); refine xg Tryd.func93 (some 48) #[.int .u32 (rd x5_4 x28_2), .int .u32 (rd x6_4 x28_2), .int .u32 x8_2] ?_; (with_reducible refine (bits_Add32.calls (rd x5_4 x28_2) (rd x6_4 x28_2) x8_2 t383 t384 _ A21.out).mono ?_); rintro e w' ⟨rfl, ⟨nd, rfl⟩⟩; refine ⟨_, rfl, ?_⟩; (try (rw [drewN_self wr]; generalize hq_ : World.drewN wr _ = wr; have n0_ : Aside0 (Kd.V (Kd.int .u32) 85 wr w.heap.size (fun k_ => some k_ ≠ (v379 : Value).ownBlock) (.slice (some ad382) x5_4.length co14) x5_4) := ⟨by rw [← hq_]; exact (xv HO_5.out)⟩; have n1_ : Aside0 (Kd.V (Kd.int .u32) 85 wr w.heap.size (fun k_ => some k_ ≠ (v379 : Value).ownBlock) (.slice (some ad381) x6_4.length co24) x6_4) := ⟨by rw [← hq_]; exact (xv HO_6.out)⟩; have n2_ : Aside0 (Kd.R (Kd.int .u32) 85 wr w.heap.size (fun _ => True) v379 x7_2) := ⟨by rw [← hq_]; exact (xr HO_7.out)⟩; have n3_ : Aside0 (Below w.heap.size w wr) := ⟨by rw [← hq_]; exact (xs HB)⟩; clear HO_5 HO_6 HO_7 HB hq_; have HO_5 := n0_; have HO_6 := n1_; have HO_7 := n2_; have HB := n3_; clear n0_ n1_ n2_ n3_)); have p23 : 0 ≤ (x28_2 : Int) := xa; have q23 : (x28_2 : Int) < ((x7_2.length : Int) : Int) := xa; obtain ⟨go23, co23, eo23, gb23, gl23, cl23, HG23⟩ := Kd.R_form HO_7.out (by omega); (first | cases eo23 | (injection eo23 with ea_ en_ ec_; (first | subst ea_ | (injection ea_ with ea_; subst ea_)); subst ec_; clear en_)); have GB23 := Aside0.mk gb23; have GG23 := Aside0.mk HG23; clear gb23 gl23 HG23; obtain ⟨hx23_0, hf23_0⟩ := Kd.R_celln 0 HO_7.out (x28_2 : Int) p23 q23; replace p23 := eq_true p23; replace q23 := eq_true q23; obtain ⟨hy25_, hz25_⟩ := Kd.R_celln 0 HO_7.out (x28_2 : Int) (xa) (xa); have HP25 := Kd.R_putg HO_7.out (x28_2 : Int) t383) | ((with_reducible refine gate_store (t := 85) (p := 51) rfl ?_); refine store_event (t := 85) (p := 51) (v := ?vo_w26) (w1 := (wr.setCell ⟨go23, (x28_2 : Int).toNat, none⟩ (.int .u32 t383))) ?hg ?ho ?hn ?hr ?_; (case ho => rfl); (case hg => rfl); (case hn => rfl); (case hr => first | (go_simp; done) | (go_simp; rfl)); intro w26 hw; have hg : wr.grownBy w26 (some go23) := (by rw [hw]; exact HP25.2); have hp_ : Kd.R (Kd.int .u32) 85 w26 w.heap.size (fun _ => True) (.slice (some ⟨go23, 0, none⟩) x7_2.length co23) y385 := (by rw [hw, Ny385.out]; exact HP25.1); clear HP25; replace HO_5 := Aside0.mk (Kd.V_afterv (v := (.slice (some ⟨go23, 0, none⟩) x7_2.length co23)) (v1 := (.slice (some ⟨go23, 0, none⟩) x7_2.length co23)) (ok := (fun _ => True)) (by (with_reducible repeat (first | apply Kd.V_alloc | apply Kd.V_drewN | apply Kd.V_drew)); exact Kd.V_mono HO_5.out (fun _ hk => by first | exact ⟨trivial, hk⟩ | (simp only [ob_map] at hk ⊢; first | exact ⟨trivial, hk⟩ | grind) | grind)) hg (.inl rfl)); replace HO_6 := Aside0.mk (Kd.V_afterv (v := (.slice (some ⟨go23, 0, none⟩) x7_2.length co23)) (v1 := (.slice (some ⟨go23, 0, none⟩) x7_2.length co23)) (ok := (fun _ => True)) (by (with_reducible repeat (first | apply Kd.V_alloc | apply Kd.V_drewN | apply Kd.V_drew)); exact Kd.V_mono HO_6.out (fun _ hk => by first | exact ⟨trivial, hk⟩ | (simp only [ob_map] at hk ⊢; first | exact ⟨trivial, hk⟩ | grind) | grind)) hg (.inl rfl)); replace HO_7 := Aside0.mk (hp_); replace HB := Aside0.mk ((by rw [hw]; exact below_set (HB.out) GB23.out : Below w.heap.size w w26)); clear hg hw hp_))
            (first | go_roundg k2 | (refine Handed.intro k2 ?measure ?_; rotate_left; go_step; (repeat apply Exists.intro); refine ⟨?rel, (by first | rfl | (simp only [add_plain]; rfl))⟩))
            case measure => have := HJ4.out; have := HK2.out; omega
            case rel => exact ⟨(y385), (t384), (wrap64 (x28_2 + 1)), xz, xz, H', ⟨by have := HJ4.out; have := HK2.out; omega⟩, ⟨by (with_reducible repeat (first | apply Kd.V_alloc | apply Kd.V_drewN | apply Kd.V_drew)); exact Kd.V_mono HO_5.out (fun _ hk => hk.2)⟩, ⟨by (with_reducible repeat (first | apply Kd.V_alloc | apply Kd.V_drewN | apply Kd.V_drew)); exact Kd.V_mono HO_6.out (fun _ hk => hk.2)⟩, ⟨xr HO_7.out⟩, ⟨xs HB⟩⟩
           ·rw [if_neg c22] at H
            exact absurd H (by simp)
          ·rw [if_neg c20] at H
           exact absurd H (by simp)
         ·rw [if_neg c19] at H
          exact absurd H (by simp)
        ·rw [if_neg c18] at H
         have c18b0 : decide (x28_2 < (x6_4.length : Int)) = false := decide_eq_false c18
         clear c18
         by_cases c27 : 0 ≤ x28_2
         ·rw [if_pos c27] at H
          have c27b0 : decide (0 ≤ x28_2) = true := decide_eq_true c27
          clear c27
          by_cases c28 : x28_2 < (x5_4.length : Int)
          ·rw [if_pos c28] at H
           have c28b0 : decide (x28_2 < (x5_4.length : Int)) = true := decide_eq_true c28
           clear c28
           replace H := xH H; obtain ⟨⟨t387, t388⟩, A29, H⟩ := H
           dsimp only at H
           by_cases c30 : x28_2 < (x7_2.length : Int)
           ·rw [if_pos c30] at H
            have c30b0 : decide (x28_2 < (x7_2.length : Int)) = true := decide_eq_true c30
            clear c30
            obtain ⟨y389, hy389⟩ : ∃ y_ : List Int, y_ = (x7_2.set (x28_2 : Int).toNat t387) := ⟨_, rfl⟩
            replace H : (natural_Add.l0 k2 x5_4 x6_4 y389 t388 (x5_4.length : Int) (wrap64 (x28_2 + 1))) = some r := by first | (rw [hy389]; with_reducible exact H) | (have H2_ := (Option.bind_some _ _).symm.trans H; rw [hy389]; with_reducible exact H2_) | (have H2_ := (Option.bind_some _ _).symm.trans H; with_reducible exact H2_) | with_reducible exact H | (rw [hy389]; exact H) | exact H
            have Ny389 := Aside0.mk hy389
            clear hy389
            have H' := Aside0.mk H
            clear H
            obtain ⟨Ao32, co32, eo32⟩ := Kd.V_slice HO_6.out
            subst eo32
            have p386 : 0 ≤ (x28_2 : Int) := xa
            have q386 : x28_2 < (x5_4.length : Int) := xa
            obtain ⟨ad386, e386, hx386_0⟩ := Kd.at_int (Kd.V_reads' HO_5.out).2.2 x28_2 p386 q386
            cases e386
            replace p386 := eq_true p386
            replace q386 := eq_true q386
            go_wp2_with (first | ((with_reducible refine gate_callee (f := 93) rfl ?_); refine xg Tryd.func93 (some 48) #[.int .u32 (rd x5_4 x28_2), .int .u32 0, .int .u32 x8_2] ?_; (with_reducible refine (bits_Add32.calls (rd x5_4 x28_2) 0 x8_2 t387 t388 _ A29.out).mono ?_); rintro e w' ⟨rfl, ⟨nd, rfl⟩⟩; refine ⟨_, rfl, ?_⟩; (try (rw [drewN_self wr]; generalize hq_ : World.drewN wr _ = wr; have n0_ : Aside0 (Kd.V (Kd.int .u32) 85 wr w.heap.size (fun k_ => some k_ ≠ (v379 : Value).ownBlock) (.slice (some ad386) x5_4.length co14) x5_4) := ⟨by rw [← hq_]; exact (xv HO_5.out)⟩; have n1_ : Aside0 (Kd.V (Kd.int .u32) 85 wr w.heap.size (fun k_ => some k_ ≠ (v379 : Value).ownBlock) (.slice Ao32 x6_4.length co32) x6_4) := ⟨by rw [← hq_]; exact (xv HO_6.out)⟩; have n2_ : Aside0 (Kd.R (Kd.int .u32) 85 wr w.heap.size (fun _ => True) v379 x7_2) := ⟨by rw [← hq_]; exact (xr HO_7.out)⟩; have n3_ : Aside0 (Below w.heap.size w wr) := ⟨by rw [← hq_]; exact (xs HB)⟩; clear HO_5 HO_6 HO_7 HB hq_; have HO_5 := n0_; have HO_6 := n1_; have HO_7 := n2_; have HB := n3_; clear n0_ n1_ n2_ n3_)); have p31 : 0 ≤ (x28_2 : Int) := xa; have q31 : (x28_2 : Int) < ((x7_2.length : Int) : Int) := xa; obtain ⟨go31, co31, eo31, gb31, gl31, cl31, HG31⟩ := Kd.R_form HO_7.out (by omega); (first | cases eo31 | (injection eo31 with ea_ en_ ec_; (first | subst ea_ | (injection ea_ with ea_; subst ea_)); subst ec_; clear en_)); have GB31 := Aside0.mk gb31; have GG31 := Aside0.mk HG31; clear gb31 gl31 HG31; obtain ⟨hx31_0, hf31_0⟩ := Kd.R_celln 0 HO_7.out (x28_2 : Int) p31 q31; replace p31 := eq_true p31; replace q31 := eq_true q31; obtain ⟨hy33_, hz33_⟩ := Kd.R_celln 0 HO_7.out (x28_2 : Int) (xa) (xa); have HP33 := Kd.R_putg HO_7.out (x28_2 : Int) t387) | ((with_reducible refine gate_store (t := 85) (p := 51) rfl ?_); refine store_event (t := 85) (p := 51) (v := ?vo_w34) (w1 := (wr.setCell ⟨go31, (x28_2 : Int).toNat, none⟩ (.int .u32 t387))) ?hg ?ho ?hn ?hr ?_; (case ho => rfl); (case hg => rfl); (case hn => rfl); (case hr => first | (go_simp; done) | (go_simp; rfl)); intro w34 hw; have hg : wr.grownBy w34 (some go31) := (by rw [hw]; exact HP33.2); have hp_ : Kd.R (Kd.int .u32) 85 w34 w.heap.size (fun _ => True) (.slice (some ⟨go31, 0, none⟩) x7_2.length co31) y389 := (by rw [hw, Ny389.out]; exact HP33.1); clear HP33; replace HO_5 := Aside0.mk (Kd.V_afterv (v := (.slice (some ⟨go31, 0, none⟩) x7_2.length co31)) (v1 := (.slice (some ⟨go31, 0, none⟩) x7_2.length co31)) (ok := (fun _ => True)) (by (with_reducible repeat (first | apply Kd.V_alloc | apply Kd.V_drewN | apply Kd.V_drew)); exact Kd.V_mono HO_5.out (fun _ hk => by first | exact ⟨trivial, hk⟩ | (simp only [ob_map] at hk ⊢; first | exact ⟨trivial, hk⟩ | grind) | grind)) hg (.inl rfl)); replace HO_6 := Aside0.mk (Kd.V_afterv (v := (.slice (some ⟨go31, 0, none⟩) x7_2.length co31)) (v1 := (.slice (some ⟨go31, 0, none⟩) x7_2.length co31)) (ok := (fun _ => True)) (by (with_reducible repeat (first | apply Kd.V_alloc | apply Kd.V_drewN | apply Kd.V_drew)); exact Kd.V_mono HO_6.out (fun _ hk => by first | exact ⟨trivial, hk⟩ | (simp only [ob_map] at hk ⊢; first | exact ⟨trivial, hk⟩ | grind) | grind)) hg (.inl rfl)); replace HO_7 := Aside0.mk (hp_); replace HB := Aside0.mk ((by rw [hw]; exact below_set (HB.out) GB31.out : Below w.heap.size w w34)); clear hg hw hp_))
            (first | go_roundg k2 | (refine Handed.intro k2 ?measure ?_; rotate_left; go_step; (repeat apply Exists.intro); refine ⟨?rel, (by first | rfl | (simp only [add_plain]; rfl))⟩))
            case measure => have := HJ4.out; have := HK2.out; omega
            case rel => exact ⟨(y389), (t388), (wrap64 (x28_2 + 1)), xz, xz, H', ⟨by have := HJ4.out; have := HK2.out; omega⟩, ⟨by (with_reducible repeat (first | apply Kd.V_alloc | apply Kd.V_drewN | apply Kd.V_drew)); exact Kd.V_mono HO_5.out (fun _ hk => hk.2)⟩, ⟨by (with_reducible repeat (first | apply Kd.V_alloc | apply Kd.V_drewN | apply Kd.V_drew)); exact Kd.V_mono HO_6.out (fun _ hk => hk.2)⟩, ⟨xr HO_7.out⟩, ⟨xs HB⟩⟩
           ·rw [if_neg c30] at H
            exact absurd H (by simp)
          ·rw [if_neg c28] at H
           exact absurd H (by simp)
         ·rw [if_neg c27] at H
          exact absurd H (by simp)
       ·rw [if_neg c17] at H
        have c17b0 : decide (x28_2 < (x5_4.length : Int)) = false := decide_eq_false c17
        clear c17
        by_cases c35 : 0 ≤ (x5_4.length : Int)
        ·rw [if_pos c35] at H
         have c35b0 : decide (0 ≤ (x5_4.length : Int)) = true := decide_eq_true c35
         have c35b1 : decide (0 ≤ x5_4.length) = true := decide_eq_true (by omega)
         clear c35
         by_cases c36 : (x5_4.length : Int) < (x7_2.length : Int)
         ·rw [if_pos c36] at H
          have c36b0 : decide ((x5_4.length : Int) < (x7_2.length : Int)) = true := decide_eq_true c36
          have c36b1 : decide (x5_4.length < x7_2.length) = true := decide_eq_true (Int.ofNat_lt.mp c36)
          clear c36
          obtain ⟨y390, hy390⟩ : ∃ y_ : List Int, y_ = (x7_2.set ((x5_4.length : Int) : Int).toNat x8_2) := ⟨_, rfl⟩
          replace H : ((natural_limbs_text.f k2 y390).bind fun t391 => (some t391)) = some r := by first | (rw [hy390]; with_reducible exact H) | (have H2_ := (Option.bind_some _ _).symm.trans H; rw [hy390]; with_reducible exact H2_) | (have H2_ := (Option.bind_some _ _).symm.trans H; with_reducible exact H2_) | with_reducible exact H | (rw [hy390]; exact H) | exact H
          have Ny390 := Aside0.mk hy390
          clear hy390
          replace H := xH H; obtain ⟨t391, A38, H⟩ := H
          obtain rfl := Option.some.inj H
          have p37 : 0 ≤ ((x5_4.length : Int) : Int) := xa
          have q37 : ((x5_4.length : Int) : Int) < ((x7_2.length : Int) : Int) := xa
          obtain ⟨go37, co37, eo37, gb37, gl37, cl37, HG37⟩ := Kd.R_form HO_7.out (by omega)
          (first | cases eo37 | (injection eo37 with ea_ en_ ec_; (first | subst ea_ | (injection ea_ with ea_; subst ea_)); subst ec_; clear en_))
          have GB37 := Aside0.mk gb37
          have GG37 := Aside0.mk HG37
          clear gb37 gl37 HG37
          obtain ⟨hx37_0, hf37_0⟩ := Kd.R_celln 0 HO_7.out ((x5_4.length : Int) : Int) p37 q37
          (try simp only [Int.toNat_natCast] at hx37_0)
          (try simp only [Int.toNat_natCast] at hf37_0)
          replace p37 := eq_true p37
          replace q37 := eq_true q37
          have HP39 := Kd.R_putg HO_7.out ((x5_4.length : Int) : Int) x8_2
          go_wp2_with (first | ((with_reducible refine gate_store (t := 85) (p := 57) rfl ?_); refine store_event (t := 85) (p := 57) (v := ?vo_w40) (w1 := (wr.setCell ⟨go37, ((x5_4.length : Int) : Int).toNat, none⟩ (.int .u32 x8_2))) ?hg ?ho ?hn ?hr ?_; (case ho => rfl); (case hg => rfl); (case hn => rfl); (case hr => first | (go_simp; done) | (go_simp; rfl)); intro w40 hw; have hg : wr.grownBy w40 (some go37) := (by rw [hw]; exact HP39.2); have hp_ : Kd.R (Kd.int .u32) 85 w40 w.heap.size (fun _ => True) (.slice (some ⟨go37, 0, none⟩) x7_2.length co37) y390 := (by rw [hw, Ny390.out]; exact HP39.1); clear HP39; replace HO_5 := Aside0.mk (Kd.V_afterv (v := (.slice (some ⟨go37, 0, none⟩) x7_2.length co37)) (v1 := (.slice (some ⟨go37, 0, none⟩) x7_2.length co37)) (ok := (fun _ => True)) (by (with_reducible repeat (first | apply Kd.V_alloc | apply Kd.V_drewN | apply Kd.V_drew)); exact Kd.V_mono HO_5.out (fun _ hk => by first | exact ⟨trivial, hk⟩ | (simp only [ob_map] at hk ⊢; first | exact ⟨trivial, hk⟩ | grind) | grind)) hg (.inl rfl)); replace HO_6 := Aside0.mk (Kd.V_afterv (v := (.slice (some ⟨go37, 0, none⟩) x7_2.length co37)) (v1 := (.slice (some ⟨go37, 0, none⟩) x7_2.length co37)) (ok := (fun _ => True)) (by (with_reducible repeat (first | apply Kd.V_alloc | apply Kd.V_drewN | apply Kd.V_drew)); exact Kd.V_mono HO_6.out (fun _ hk => by first | exact ⟨trivial, hk⟩ | (simp only [ob_map] at hk ⊢; first | exact ⟨trivial, hk⟩ | grind) | grind)) hg (.inl rfl)); replace HO_7 := Aside0.mk (hp_); replace HB := Aside0.mk ((by rw [hw]; exact below_set (HB.out) GB37.out : Below w.heap.size w w40)); clear hg hw hp_) | ((with_reducible refine gate_callee (f := 78) rfl ?_); refine xg Tryd.func78 (some 59) #[.slice (some ⟨go37, 0, none⟩) y390.length co37] ?_ (hargs := (by (try simp only [List.map_toArray, List.map_cons, List.map_nil]); first | done | (rw [show y390.length = x7_2.length from (Kd.R_reads' HO_7.out).1.symm] <;> rfl) | rfl | (simp only [List.length_drop, List.length_take]; rfl))); (with_reducible refine (natural_limbs_text.calls k2 _ _ y390 t391 _ ?side1 ?side2 A38.out).mono ?_); (case side1 => repeat (first | exact (Kd.R_reads' HO_7.out).2.2 | (with_reducible refine Kd.C_alloc ?_ _) | (with_reducible refine Kd.C_drewN ?_ _) | (with_reducible refine Kd.C_drew ?_))); (case side2 => rw [show y390.length = x7_2.length from (Kd.R_reads' HO_7.out).1.symm]; exact (Kd.R_reads' HO_7.out).2.1); rintro e w41 ⟨rfl, hb⟩; refine ⟨_, rfl, ?_⟩; replace HO_5 := Aside0.mk (Kd.V_below (xv HO_5.out) hb); replace HO_6 := Aside0.mk (Kd.V_below (xv HO_6.out) hb); replace HO_7 := Aside0.mk (Kd.R_below (xr HO_7.out) hb); replace HB := xS HB hb; clear hb))
          go_ret
          exact ⟨by first | rfl | (simp [errW_none, errW_some] <;> rfl) | (simp only [← hji11]; first | rfl | (simp [errW_none, errW_some] <;> rfl)) | (simp [*, errW_none, errW_some] <;> rfl), xs HB⟩
         ·rw [if_neg c36] at H
          exact absurd H (by simp)
        ·rw [if_neg c35] at H
         exact absurd H (by simp)
    ·rw [if_neg c13] at H
     exact absurd H (by simp)
   ·rw [if_neg c12] at H
    exact absurd H (by simp)
/-! ### natural_subtract: function 95 -/
def natural_subtract.l0 : Nat → List Int → List Int → List Int → Int → Int → Int → Option (List Int)
 | 0, _, _, _, _, _, _ => none
 | k + 1, x0, x1, x5, x6, x13, x14 => if x14 < x13 then (if x14 < (x1.length : Int) then (if 0 ≤ x14 then (if x14 < (x0.length : Int) then ((bits_Sub32.f (rd x0 x14) (rd x1 x14) x6).bind fun bt397 => (if x14 < (x5.length : Int) then (natural_subtract.l0 k x0 x1 (x5.set (x14 : Int).toNat bt397.1) bt397.2 x13 (wrap64 (x14 + 1))) else (none))) else (none)) else (none)) else (if 0 ≤ x14 then (if x14 < (x0.length : Int) then ((bits_Sub32.f (rd x0 x14) 0 x6).bind fun bt401 => (if x14 < (x5.length : Int) then (natural_subtract.l0 k x0 x1 (x5.set (x14 : Int).toNat bt401.1) bt401.2 x13 (wrap64 (x14 + 1))) else (none))) else (none)) else (none))) else ((natural_limbs_trim.f k x5).bind fun t404 => (some t404))
def natural_subtract.f (k : Nat) (l0 : List Int) (l1 : List Int) : Option (List Int) := if 0 ≤ (l0.length : Int) then (if ((l0.length : Int) : Int).toNat ≤ 70368744177664 then (natural_subtract.l0 k l0 l1 (List.replicate ((l0.length : Int) : Int).toNat 0) 0 (l0.length : Int) 0) else (none)) else (none)
theorem natural_subtract.mono_l : ∀ k, (∀ y0 y1 y2 y3 y4 y5, LeO (natural_subtract.l0 k y0 y1 y2 y3 y4 y5) (natural_subtract.l0 (k + 1) y0 y1 y2 y3 y4 y5))
 | 0 => fun _ _ _ _ _ _ r h => by simp [natural_subtract.l0] at h
 | k + 1 => by
  have ih0 := natural_subtract.mono_l k
  ·intro y0 y1 y2 y3 y4 y5
   unfold natural_subtract.l0
   have m0 := @ih0; have m1 := @natural_limbs_trim.mono; exact xM
theorem natural_subtract.mono : ∀ a0 a1 k, LeO (natural_subtract.f k a0 a1) (natural_subtract.f (k + 1) a0 a1) := by
 intro a0 a1 k
 have ih0 := natural_subtract.mono_l k
 unfold natural_subtract.f
 have m0 := @ih0; have m1 := @natural_limbs_trim.mono; exact xM
set_option maxHeartbeats 8000000 in
set_option maxRecDepth 100000 in
theorem natural_subtract.calls (k : Nat) (A0 : Option Addr) (c0 : Nat) (l0 : List Int) (A1 : Option Addr) (c1 : Nat) (l1 : List Int) (r : List Int) (w : World) (hr0 : Kd.C (Kd.int .u32) w A0 l0.length l0) (hc0 : l0.length ≤ c0) (hr1 : Kd.C (Kd.int .u32) w A1 l1.length l1) (hc1 : l1.length ≤ c1) (h : natural_subtract.f k l0 l1 = some r) :
  Calls Tryd.prog 95 #[.slice A0 l0.length c0, .slice A1 l1.length c1] w fun e w' => ∃ v0_ : Value, e = .returned (v0_) ∧ Kd.V (Kd.int .u32) 85 w' w.heap.size (fun k_ => (w.heap.size ≤ k_)) v0_ r ∧ Below w.heap.size w w' := by
 have HR0 := Aside0.mk hr0
 have HC0 := Aside0.mk hc0
 clear hr0 hc0
 have HR1 := Aside0.mk hr1
 have HC1 := Aside0.mk hc1
 clear hr1 hc1
 have HB := Aside0.mk (Below.refl w.heap.size w)
 have H : (if 0 ≤ (l0.length : Int) then (if ((l0.length : Int) : Int).toNat ≤ 70368744177664 then (natural_subtract.l0 k l0 l1 (List.replicate ((l0.length : Int) : Int).toNat 0) 0 (l0.length : Int) 0) else (none)) else (none)) = some r := h
 clear h
 by_cases c3 : 0 ≤ (l0.length : Int)
 ·rw [if_pos c3] at H
  have c3b0 := eq_true c3
  have c3b1 : decide (0 ≤ (l0.length : Int)) = true := decide_eq_true c3
  clear c3
  by_cases c4 : ((l0.length : Int) : Int).toNat ≤ 70368744177664
  ·rw [if_pos c4] at H
   have c4b0 := eq_true c4
   have c4b1 : decide (((l0.length : Int) : Int).toNat ≤ 70368744177664) = true := decide_eq_true c4
   clear c4
   obtain ⟨y392, hy392⟩ : ∃ y_ : List Int, y_ = (List.replicate ((l0.length : Int) : Int).toNat 0) := ⟨_, rfl⟩
   replace H : (natural_subtract.l0 k l0 l1 y392 0 (l0.length : Int) 0) = some r := by first | (rw [hy392]; with_reducible exact H) | (have H2_ := (Option.bind_some _ _).symm.trans H; rw [hy392]; with_reducible exact H2_) | (have H2_ := (Option.bind_some _ _).symm.trans H; with_reducible exact H2_) | with_reducible exact H | (rw [hy392]; exact H) | exact H
   have Ny392 := Aside0.mk hy392
   clear hy392
   have H' := Aside0.mk H
   clear H
   go_enter Tryd.func95, Tryd.ntmps95
   go_wp2_with (first | ((with_reducible refine gate_dst (N := 11) rfl ?_); refine Kd.R_make (Kd.int .u32) _ 85 rfl (N := 11) rfl 83 _ _ rfl (l0.length : Int) rfl rfl Tryd.underlying83 (.int .u32 0) 4 info85 rfl (by decide) (by omega) 0 (ok := fun _ => True) (okp := fun _ => True) rfl (fun _ hk => hk) trivial (xa) (Nat.le_trans (Nat.mul_le_mul_right _ (xa : (l0.length : Int).toNat ≤ 70368744177664)) (by omega)) (Below.refl _ _) (Nat.le_refl _) ?_; intro v393 w5 ho6 hb hg_ hnew_; clear hg_ hnew_; (first | rw [← Ny392.out] at ho6 | (simp only [Int.reduceToNat] at ho6; rw [← Ny392.out] at ho6)); have HO394 := Aside0.mk (Kd.R_lower (Kd.R_newM (M := fun k_ => (w.heap.size ≤ k_)) ho6 (below_size (xs HB)) (fun k_ h_ => h_)) (below_size (xs HB))); replace HB := xS HB hb; clear hb ho6))
   go_loopg [6, 14] k (fun kq v6 v14 w' => ∃ (x5_1 : List Int) (x6_1 : Int) (x14_1 : Int), v6 = .int .u32 x6_1 ∧ v14 = .int .i64 x14_1 ∧ Aside0 (natural_subtract.l0 kq l0 l1 x5_1 x6_1 (l0.length : Int) x14_1 = some r) ∧ Aside0 (kq ≤ k) ∧ Aside0 (Kd.R (Kd.int .u32) 85 w' w.heap.size (fun k_ => (w.heap.size ≤ k_)) v393 x5_1) ∧ Aside0 (Below w.heap.size w w'))
   case atStart => exact ⟨(y392), (0), (0), xz, xz, H', ⟨Nat.le_refl _⟩, ⟨by (with_reducible repeat (first | apply Kd.R_alloc | apply Kd.R_drewN | apply Kd.R_drew)); exact Kd.R_mono HO394.out (fun _ hk => hk.1)⟩, ⟨xs HB⟩⟩
   case round =>
    clear H'
    try clear c1
    try clear p2
    try clear c3
    try clear c3b0
    try clear c3b1
    try clear c4
    try clear c4b0
    try clear c4b1
    obtain ⟨x5_1, x6_1, x14_1, rfl, rfl, HA, HK1, HO_5, HB⟩ := hrel
    cases gk with
    | zero => exact absurd HA.out (by simp [natural_subtract.l0])
    | succ k1 =>
     have H := HA.out
     clear HA
     simp only [natural_subtract.l0] at H
     by_cases c7 : x14_1 < (l0.length : Int)
     ·rw [if_pos c7] at H
      have c7b0 : decide (x14_1 < (l0.length : Int)) = true := decide_eq_true c7
      clear c7
      by_cases c8 : x14_1 < (l1.length : Int)
      ·rw [if_pos c8] at H
       have c8b0 : decide (x14_1 < (l1.length : Int)) = true := decide_eq_true c8
       clear c8
       by_cases c9 : 0 ≤ x14_1
       ·rw [if_pos c9] at H
        have c9b0 : decide (0 ≤ x14_1) = true := decide_eq_true c9
        clear c9
        by_cases c10 : x14_1 < (l0.length : Int)
        ·rw [if_pos c10] at H
         have c10b0 : decide (x14_1 < (l0.length : Int)) = true := decide_eq_true c10
         clear c10
         replace H := xH H; obtain ⟨⟨t397, t398⟩, A11, H⟩ := H
         dsimp only at H
         by_cases c12 : x14_1 < (x5_1.length : Int)
         ·rw [if_pos c12] at H
          have c12b0 : decide (x14_1 < (x5_1.length : Int)) = true := decide_eq_true c12
          clear c12
          obtain ⟨y399, hy399⟩ : ∃ y_ : List Int, y_ = (x5_1.set (x14_1 : Int).toNat t397) := ⟨_, rfl⟩
          replace H : (natural_subtract.l0 k1 l0 l1 y399 t398 (l0.length : Int) (wrap64 (x14_1 + 1))) = some r := by first | (rw [hy399]; with_reducible exact H) | (have H2_ := (Option.bind_some _ _).symm.trans H; rw [hy399]; with_reducible exact H2_) | (have H2_ := (Option.bind_some _ _).symm.trans H; with_reducible exact H2_) | with_reducible exact H | (rw [hy399]; exact H) | exact H
          have Ny399 := Aside0.mk hy399
          clear hy399
          have H' := Aside0.mk H
          clear H
          have p395 : 0 ≤ (x14_1 : Int) := xa
          have q395 : x14_1 < (l1.length : Int) := xa
          obtain ⟨ad395, e395, hx395_0⟩ := Kd.at_int HR1.out x14_1 p395 q395
          cases e395
          (try replace hx395_0 := (HB.out.cell (World.block_lt_of_cell? w _ hx395_0)).trans hx395_0)
          replace p395 := eq_true p395
          replace q395 := eq_true q395
          have p396 : 0 ≤ (x14_1 : Int) := xa
          have q396 : x14_1 < (l0.length : Int) := xa
          obtain ⟨ad396, e396, hx396_0⟩ := Kd.at_int HR0.out x14_1 p396 q396
          cases e396
          (try replace hx396_0 := (HB.out.cell (World.block_lt_of_cell? w _ hx396_0)).trans hx396_0)
          replace p396 := eq_true p396
          replace q396 := eq_true q396
          go_wp2_with (first | ((with_reducible refine gate_callee (f := 103) rfl ?_); refine xg Tryd.func103 (some 34) #[.int .u32 (rd l0 x14_1), .int .u32 (rd l1 x14_1), .int .u32 x6_1] ?_; (with_reducible refine (bits_Sub32.calls (rd l0 x14_1) (rd l1 x14_1) x6_1 t397 t398 _ A11.out).mono ?_); rintro e w' ⟨rfl, ⟨nd, rfl⟩⟩; refine ⟨_, rfl, ?_⟩; (try (rw [drewN_self wr]; generalize hq_ : World.drewN wr _ = wr; have n0_ : Aside0 (Kd.R (Kd.int .u32) 85 wr w.heap.size (fun k_ => (w.heap.size ≤ k_)) v393 x5_1) := ⟨by rw [← hq_]; exact (xr HO_5.out)⟩; have n1_ : Aside0 (Below w.heap.size w wr) := ⟨by rw [← hq_]; exact (xs HB)⟩; clear HO_5 HB hq_; have HO_5 := n0_; have HB := n1_; clear n0_ n1_)); have p13 : 0 ≤ (x14_1 : Int) := xa; have q13 : (x14_1 : Int) < ((x5_1.length : Int) : Int) := xa; obtain ⟨go13, co13, eo13, gb13, gl13, cl13, HG13⟩ := Kd.R_form HO_5.out (by omega); (first | cases eo13 | (injection eo13 with ea_ en_ ec_; (first | subst ea_ | (injection ea_ with ea_; subst ea_)); subst ec_; clear en_)); have GB13 := Aside0.mk gb13; have GG13 := Aside0.mk HG13; clear gb13 gl13 HG13; obtain ⟨hx13_0, hf13_0⟩ := Kd.R_celln 0 HO_5.out (x14_1 : Int) p13 q13; replace p13 := eq_true p13; replace q13 := eq_true q13; obtain ⟨hy14_, hz14_⟩ := Kd.R_celln 0 HO_5.out (x14_1 : Int) (xa) (xa); have HP14 := Kd.R_putg HO_5.out (x14_1 : Int) t397) | ((with_reducible refine gate_store (t := 85) (p := 37) rfl ?_); refine store_event (t := 85) (p := 37) (v := ?vo_w15) (w1 := (wr.setCell ⟨go13, (x14_1 : Int).toNat, none⟩ (.int .u32 t397))) ?hg ?ho ?hn ?hr ?_; (case ho => rfl); (case hg => rfl); (case hn => rfl); (case hr => first | (go_simp; done) | (go_simp; rfl)); intro w15 hw; have hg : wr.grownBy w15 (some go13) := (by rw [hw]; exact HP14.2); have hp_ : Kd.R (Kd.int .u32) 85 w15 w.heap.size (fun k_ => (w.heap.size ≤ k_)) (.slice (some ⟨go13, 0, none⟩) x5_1.length co13) y399 := (by rw [hw, Ny399.out]; exact HP14.1); clear HP14; replace HO_5 := Aside0.mk (hp_); replace HB := Aside0.mk ((by rw [hw]; exact below_set (HB.out) GB13.out : Below w.heap.size w w15)); clear hg hw hp_))
          (first | go_roundg k1 | (refine Handed.intro k1 ?measure ?_; rotate_left; go_step; (repeat apply Exists.intro); refine ⟨?rel, (by first | rfl | (simp only [add_plain]; rfl))⟩))
          case measure => have := HK1.out; omega
          case rel => exact ⟨(y399), (t398), (wrap64 (x14_1 + 1)), xz, xz, H', ⟨by have := HK1.out; omega⟩, ⟨xr HO_5.out⟩, ⟨xs HB⟩⟩
         ·rw [if_neg c12] at H
          exact absurd H (by simp)
        ·rw [if_neg c10] at H
         exact absurd H (by simp)
       ·rw [if_neg c9] at H
        exact absurd H (by simp)
      ·rw [if_neg c8] at H
       have c8b0 : decide (x14_1 < (l1.length : Int)) = false := decide_eq_false c8
       clear c8
       by_cases c16 : 0 ≤ x14_1
       ·rw [if_pos c16] at H
        have c16b0 : decide (0 ≤ x14_1) = true := decide_eq_true c16
        clear c16
        by_cases c17 : x14_1 < (l0.length : Int)
        ·rw [if_pos c17] at H
         have c17b0 : decide (x14_1 < (l0.length : Int)) = true := decide_eq_true c17
         clear c17
         replace H := xH H; obtain ⟨⟨t401, t402⟩, A18, H⟩ := H
         dsimp only at H
         by_cases c19 : x14_1 < (x5_1.length : Int)
         ·rw [if_pos c19] at H
          have c19b0 : decide (x14_1 < (x5_1.length : Int)) = true := decide_eq_true c19
          clear c19
          obtain ⟨y403, hy403⟩ : ∃ y_ : List Int, y_ = (x5_1.set (x14_1 : Int).toNat t401) := ⟨_, rfl⟩
          replace H : (natural_subtract.l0 k1 l0 l1 y403 t402 (l0.length : Int) (wrap64 (x14_1 + 1))) = some r := by first | (rw [hy403]; with_reducible exact H) | (have H2_ := (Option.bind_some _ _).symm.trans H; rw [hy403]; with_reducible exact H2_) | (have H2_ := (Option.bind_some _ _).symm.trans H; with_reducible exact H2_) | with_reducible exact H | (rw [hy403]; exact H) | exact H
          have Ny403 := Aside0.mk hy403
          clear hy403
          have H' := Aside0.mk H
          clear H
          have p400 : 0 ≤ (x14_1 : Int) := xa
          have q400 : x14_1 < (l0.length : Int) := xa
          obtain ⟨ad400, e400, hx400_0⟩ := Kd.at_int HR0.out x14_1 p400 q400
          cases e400
          (try replace hx400_0 := (HB.out.cell (World.block_lt_of_cell? w _ hx400_0)).trans hx400_0)
          replace p400 := eq_true p400
          replace q400 := eq_true q400
          go_wp2_with (first | ((with_reducible refine gate_callee (f := 103) rfl ?_); refine xg Tryd.func103 (some 34) #[.int .u32 (rd l0 x14_1), .int .u32 0, .int .u32 x6_1] ?_; (with_reducible refine (bits_Sub32.calls (rd l0 x14_1) 0 x6_1 t401 t402 _ A18.out).mono ?_); rintro e w' ⟨rfl, ⟨nd, rfl⟩⟩; refine ⟨_, rfl, ?_⟩; (try (rw [drewN_self wr]; generalize hq_ : World.drewN wr _ = wr; have n0_ : Aside0 (Kd.R (Kd.int .u32) 85 wr w.heap.size (fun k_ => (w.heap.size ≤ k_)) v393 x5_1) := ⟨by rw [← hq_]; exact (xr HO_5.out)⟩; have n1_ : Aside0 (Below w.heap.size w wr) := ⟨by rw [← hq_]; exact (xs HB)⟩; clear HO_5 HB hq_; have HO_5 := n0_; have HB := n1_; clear n0_ n1_)); have p20 : 0 ≤ (x14_1 : Int) := xa; have q20 : (x14_1 : Int) < ((x5_1.length : Int) : Int) := xa; obtain ⟨go20, co20, eo20, gb20, gl20, cl20, HG20⟩ := Kd.R_form HO_5.out (by omega); (first | cases eo20 | (injection eo20 with ea_ en_ ec_; (first | subst ea_ | (injection ea_ with ea_; subst ea_)); subst ec_; clear en_)); have GB20 := Aside0.mk gb20; have GG20 := Aside0.mk HG20; clear gb20 gl20 HG20; obtain ⟨hx20_0, hf20_0⟩ := Kd.R_celln 0 HO_5.out (x14_1 : Int) p20 q20; replace p20 := eq_true p20; replace q20 := eq_true q20; obtain ⟨hy21_, hz21_⟩ := Kd.R_celln 0 HO_5.out (x14_1 : Int) (xa) (xa); have HP21 := Kd.R_putg HO_5.out (x14_1 : Int) t401) | ((with_reducible refine gate_store (t := 85) (p := 37) rfl ?_); refine store_event (t := 85) (p := 37) (v := ?vo_w22) (w1 := (wr.setCell ⟨go20, (x14_1 : Int).toNat, none⟩ (.int .u32 t401))) ?hg ?ho ?hn ?hr ?_; (case ho => rfl); (case hg => rfl); (case hn => rfl); (case hr => first | (go_simp; done) | (go_simp; rfl)); intro w22 hw; have hg : wr.grownBy w22 (some go20) := (by rw [hw]; exact HP21.2); have hp_ : Kd.R (Kd.int .u32) 85 w22 w.heap.size (fun k_ => (w.heap.size ≤ k_)) (.slice (some ⟨go20, 0, none⟩) x5_1.length co20) y403 := (by rw [hw, Ny403.out]; exact HP21.1); clear HP21; replace HO_5 := Aside0.mk (hp_); replace HB := Aside0.mk ((by rw [hw]; exact below_set (HB.out) GB20.out : Below w.heap.size w w22)); clear hg hw hp_))
          (first | go_roundg k1 | (refine Handed.intro k1 ?measure ?_; rotate_left; go_step; (repeat apply Exists.intro); refine ⟨?rel, (by first | rfl | (simp only [add_plain]; rfl))⟩))
          case measure => have := HK1.out; omega
          case rel => exact ⟨(y403), (t402), (wrap64 (x14_1 + 1)), xz, xz, H', ⟨by have := HK1.out; omega⟩, ⟨xr HO_5.out⟩, ⟨xs HB⟩⟩
         ·rw [if_neg c19] at H
          exact absurd H (by simp)
        ·rw [if_neg c17] at H
         exact absurd H (by simp)
       ·rw [if_neg c16] at H
        exact absurd H (by simp)
     ·rw [if_neg c7] at H
      have c7b0 : decide (x14_1 < (l0.length : Int)) = false := decide_eq_false c7
      clear c7
      replace H := xH H; obtain ⟨t404, A23, H⟩ := H
      obtain rfl := Option.some.inj H
      obtain ⟨Ao24, co24, eo24⟩ := Kd.R_slice HO_5.out
      subst eo24
      go_wp2_with (first | ((with_reducible refine gate_callee (f := 98) rfl ?_); refine xg Tryd.func98 (some 40) #[.slice Ao24 x5_1.length co24] ?_; (with_reducible refine (natural_limbs_trim.calls k1 (fun k_ => some k_ = (.slice Ao24 x5_1.length co24 : Value).ownBlock) _ _ x5_1 t404 _ ?side1 A23.out).mono ?_); (case side1 => exact Kd.R_V (Kd.R_tight rfl (HO_5.out))); rintro e w25 ⟨v405, rfl, ho0, hb⟩; refine ⟨_, rfl, ?_⟩; have HO406 := Aside0.mk (Kd.V_lower (Kd.V_mono (ok' := fun k_ => (w.heap.size ≤ k_)) ho0 (fun k_ hk_ => Or.elim hk_ (fun hs_ => ((HO_5.out).1 k_ hs_.symm)) (fun hn_ => (Nat.le_trans (below_size (xs HB)) hn_)))) (below_size (xs HB))); replace HO_5 := Aside0.mk (Kd.R_below (xr HO_5.out) hb); replace HB := xS HB hb; clear hb ho0))
      go_ret
      exact ⟨_, xy, by (with_reducible repeat (first | apply Kd.V_alloc | apply Kd.V_drewN | apply Kd.V_drew)); exact HO406.out, xs HB⟩
  ·rw [if_neg c4] at H
   exact absurd H (by simp)
 ·rw [if_neg c3] at H
  exact absurd H (by simp)
/-! ### natural_Subtract: function 73 -/
def natural_Subtract.f (k : Nat) (a0 : ByteArray) (a1 : ByteArray) : Option (ByteArray × Bool) := (natural_parse.f k a0).bind fun t407 => ((natural_parse.f k a1).bind fun t410 => ((natural_compare.f k t407 t410).bind fun t413 => (if t413 < 0 then (some ((⟨#[]⟩ : ByteArray), false)) else ((natural_subtract.f k t407 t410).bind fun t414 => ((natural_limbs_text.f k t414).bind fun t417 => (some (t417, true)))))))
theorem natural_Subtract.mono : ∀ a0 a1 k, LeO (natural_Subtract.f k a0 a1) (natural_Subtract.f (k + 1) a0 a1) := by
 intro a0 a1 k
 unfold natural_Subtract.f
 have m0 := @natural_compare.mono; have m1 := @natural_limbs_text.mono; have m2 := @natural_parse.mono; have m3 := @natural_subtract.mono; exact xM
set_option maxHeartbeats 8000000 in
set_option maxRecDepth 100000 in
theorem natural_Subtract.calls (k : Nat) (a0 : ByteArray) (a1 : ByteArray) (r1 : ByteArray) (r2 : Bool) (w : World) (h : natural_Subtract.f k a0 a1 = some (r1, r2)) :
  Calls Tryd.prog 73 #[.string a0, .string a1] w fun e w' => e = .returned (.tuple #[.string r1, .bool r2]) ∧ Below w.heap.size w w' := by
 have HB := Aside0.mk (Below.refl w.heap.size w)
 have H : ((natural_parse.f k a0).bind fun t407 => ((natural_parse.f k a1).bind fun t410 => ((natural_compare.f k t407 t410).bind fun t413 => (if t413 < 0 then (some ((⟨#[]⟩ : ByteArray), false)) else ((natural_subtract.f k t407 t410).bind fun t414 => ((natural_limbs_text.f k t414).bind fun t417 => (some (t417, true)))))))) = some (r1, r2) := h
 clear h
 replace H := xH H; obtain ⟨t407, A3, H⟩ := H
 replace H := xH H; obtain ⟨t410, A4, H⟩ := H
 replace H := xH H; obtain ⟨t413, A5, H⟩ := H
 by_cases c6 : t413 < 0
 ·rw [if_pos c6] at H
  have c6b0 : decide (t413 < 0) = true := decide_eq_true c6
  clear c6
  simp only [Option.some.injEq, Prod.mk.injEq] at H
  obtain ⟨rfl, rfl⟩ := H
  go_enter Tryd.func73, Tryd.ntmps73
  go_wp2_with (first | ((with_reducible refine gate_callee (f := 77) rfl ?_); refine xg Tryd.func77 (some 9) #[.string a0] ?_; (with_reducible refine (natural_parse.calls k a0 t407 _ A3.out).mono ?_); rintro e w7 ⟨v408, rfl, ho0, hb⟩; refine ⟨_, rfl, ?_⟩; have HO409 := Aside0.mk (Kd.V_lower (Kd.V_mono (ok' := fun k_ => True) ho0 (fun k_ hk_ => trivial)) (below_size (xs HB))); replace HB := xS HB hb; clear hb ho0) | ((with_reducible refine gate_callee (f := 77) rfl ?_); refine xg Tryd.func77 (some 11) #[.string a1] ?_; (with_reducible refine (natural_parse.calls k a1 t410 _ A4.out).mono ?_); rintro e w8 ⟨v411, rfl, ho0, hb⟩; refine ⟨_, rfl, ?_⟩; replace HO409 := Aside0.mk (Kd.V_below (xv HO409.out) hb); have HO412 := Aside0.mk (Kd.V_lower (Kd.V_mono (ok' := fun k_ => True) ho0 (fun k_ hk_ => trivial)) (below_size (xs HB))); replace HB := xS HB hb; clear hb ho0; obtain ⟨Ao9, co9, eo9⟩ := Kd.V_slice HO409.out; subst eo9; obtain ⟨Ao10, co10, eo10⟩ := Kd.V_slice HO412.out; subst eo10) | ((with_reducible refine gate_callee (f := 94) rfl ?_); refine xg Tryd.func94 (some 14) #[.slice Ao9 t407.length co9, .slice Ao10 t410.length co10] ?_; (with_reducible refine (natural_compare.calls k _ _ t407 _ _ t410 t413 _ (xf (Kd.V_reads' HO409.out).2.2) (Kd.V_reads' HO409.out).2.1 (xf (Kd.V_reads' HO412.out).2.2) (Kd.V_reads' HO412.out).2.1 A5.out).mono ?_); rintro e w' ⟨rfl, ⟨nd, rfl⟩⟩; refine ⟨_, rfl, ?_⟩))
  (try have eA4_ := Option.some.inj (A3.out.symm.trans A4.out))
  go_ret2
  exact ⟨xy, xs HB⟩
 ·rw [if_neg c6] at H
  have c6b0 : decide (t413 < 0) = false := decide_eq_false c6
  clear c6
  replace H := xH H; obtain ⟨t414, A11, H⟩ := H
  replace H := xH H; obtain ⟨t417, A12, H⟩ := H
  simp only [Option.some.injEq, Prod.mk.injEq] at H
  obtain ⟨rfl, rfl⟩ := H
  go_enter Tryd.func73, Tryd.ntmps73
  go_wp2_with (first | ((with_reducible refine gate_callee (f := 77) rfl ?_); refine xg Tryd.func77 (some 9) #[.string a0] ?_; (with_reducible refine (natural_parse.calls k a0 t407 _ A3.out).mono ?_); rintro e w13 ⟨v408, rfl, ho0, hb⟩; refine ⟨_, rfl, ?_⟩; have HO409 := Aside0.mk (Kd.V_lower (Kd.V_mono (ok' := fun k_ => True) ho0 (fun k_ hk_ => trivial)) (below_size (xs HB))); replace HB := xS HB hb; clear hb ho0) | ((with_reducible refine gate_callee (f := 77) rfl ?_); refine xg Tryd.func77 (some 11) #[.string a1] ?_; (with_reducible refine (natural_parse.calls k a1 t410 _ A4.out).mono ?_); rintro e w14 ⟨v411, rfl, ho0, hb⟩; refine ⟨_, rfl, ?_⟩; replace HO409 := Aside0.mk (Kd.V_below (xv HO409.out) hb); have HO412 := Aside0.mk (Kd.V_lower (Kd.V_mono (ok' := fun k_ => True) ho0 (fun k_ hk_ => trivial)) (below_size (xs HB))); replace HB := xS HB hb; clear hb ho0; obtain ⟨Ao15, co15, eo15⟩ := Kd.V_slice HO409.out; subst eo15; obtain ⟨Ao16, co16, eo16⟩ := Kd.V_slice HO412.out; subst eo16) | ((with_reducible refine gate_callee (f := 94) rfl ?_); refine xg Tryd.func94 (some 14) #[.slice Ao15 t407.length co15, .slice Ao16 t410.length co16] ?_; (with_reducible refine (natural_compare.calls k _ _ t407 _ _ t410 t413 _ (xf (Kd.V_reads' HO409.out).2.2) (Kd.V_reads' HO409.out).2.1 (xf (Kd.V_reads' HO412.out).2.2) (Kd.V_reads' HO412.out).2.1 A5.out).mono ?_); rintro e w' ⟨rfl, ⟨nd, rfl⟩⟩; refine ⟨_, rfl, ?_⟩) | ((with_reducible refine gate_callee (f := 95) rfl ?_); refine xg Tryd.func95 (some 18) #[.slice Ao15 t407.length co15, .slice Ao16 t410.length co16] ?_; (with_reducible refine (natural_subtract.calls k _ _ t407 _ _ t410 t414 _ (xf (Kd.V_reads' HO409.out).2.2) (Kd.V_reads' HO409.out).2.1 (xf (Kd.V_reads' HO412.out).2.2) (Kd.V_reads' HO412.out).2.1 A11.out).mono ?_); rintro e w17 ⟨v415, rfl, ho0, hb⟩; refine ⟨_, rfl, ?_⟩; replace HO409 := Aside0.mk (Kd.V_below (xv HO409.out) hb); replace HO412 := Aside0.mk (Kd.V_below (xv HO412.out) hb); have HO416 := Aside0.mk (Kd.V_lower (Kd.V_mono (ok' := fun k_ => True) ho0 (fun k_ hk_ => trivial)) (below_size (xs HB))); replace HB := xS HB hb; clear hb ho0; obtain ⟨Ao18, co18, eo18⟩ := Kd.V_slice HO416.out; subst eo18) | ((with_reducible refine gate_callee (f := 78) rfl ?_); refine xg Tryd.func78 (some 19) #[.slice Ao18 t414.length co18] ?_; (with_reducible refine (natural_limbs_text.calls k _ _ t414 t417 _ (xf (Kd.V_reads' HO416.out).2.2) (Kd.V_reads' HO416.out).2.1 A12.out).mono ?_); rintro e w19 ⟨rfl, hb⟩; refine ⟨_, rfl, ?_⟩; replace HO409 := Aside0.mk (Kd.V_below (xv HO409.out) hb); replace HO412 := Aside0.mk (Kd.V_below (xv HO412.out) hb); replace HO416 := Aside0.mk (Kd.V_below (xv HO416.out) hb); replace HB := xS HB hb; clear hb))
  (try have eA4_ := Option.some.inj (A3.out.symm.trans A4.out))
  go_ret2
  exact ⟨xy, xs HB⟩
/-! ### rational_add: function 46 -/
def rational_add.j0 : Nat → ByteArray → ByteArray → ByteArray → Bool → ByteArray → ByteArray → Bool → ByteArray → ByteArray → Option (Bool × ByteArray × ByteArray)
 | 0, _, _, _, _, _, _, _, _, _ => none
 | k + 1, x5, x6, x7, x419000, x419001, x419002, x420000, x420001, x420002 => if (x419000 == x420000) = true then ((natural_Add.f k x5 x6).bind fun t429 => ((rational_reduced.f k x419000 t429 x7).bind fun bt430 => (some (bt430.1, bt430.2.1, bt430.2.2)))) else ((natural_Subtract.f k x5 x6).bind fun bt433 => (if bt433.2 = true then ((rational_reduced.f k x419000 bt433.1 x7).bind fun bt435 => (some (bt435.1, bt435.2.1, bt435.2.2))) else ((natural_Subtract.f k x6 x5).bind fun bt438 => ((rational_reduced.f k x420000 bt438.1 x7).bind fun bt440 => (some (bt440.1, bt440.2.1, bt440.2.2))))))
def rational_add.f (k : Nat) (a0_0 : Bool) (a0_1 : ByteArray) (a0_2 : ByteArray) (a1_0 : Bool) (a1_1 : ByteArray) (a1_2 : ByteArray) : Option (Bool × ByteArray × ByteArray) := if a0_2.toList = a1_2.toList then ((rational_den.f a0_0 a0_1 a0_2).bind fun t421 => (rational_add.j0 k a0_1 a1_1 t421 a0_0 a0_1 a0_2 a1_0 a1_1 a1_2)) else ((rational_den.f a1_0 a1_1 a1_2).bind fun t422 => ((natural_Multiply.f k a0_1 t422).bind fun t423 => ((rational_den.f a0_0 a0_1 a0_2).bind fun t424 => ((natural_Multiply.f k a1_1 t424).bind fun t425 => ((rational_den.f a0_0 a0_1 a0_2).bind fun t426 => ((rational_den.f a1_0 a1_1 a1_2).bind fun t427 => ((natural_Multiply.f k t426 t427).bind fun t428 => (rational_add.j0 k t423 t425 t428 a0_0 a0_1 a0_2 a1_0 a1_1 a1_2))))))))
theorem rational_add.mono_l : ∀ k, (∀ y0 y1 y2 y3 y4 y5 y6 y7 y8, LeO (rational_add.j0 k y0 y1 y2 y3 y4 y5 y6 y7 y8) (rational_add.j0 (k + 1) y0 y1 y2 y3 y4 y5 y6 y7 y8))
 | 0 => fun _ _ _ _ _ _ _ _ _ r h => by simp [rational_add.j0] at h
 | k + 1 => by
  have ih0 := rational_add.mono_l k
  ·intro y0 y1 y2 y3 y4 y5 y6 y7 y8
   unfold rational_add.j0
   have m0 := @ih0; have m1 := @natural_Add.mono; have m2 := @natural_Multiply.mono; have m3 := @natural_Subtract.mono; have m4 := @rational_reduced.mono; exact xM
theorem rational_add.mono : ∀ a0 a1 a2 a3 a4 a5 k, LeO (rational_add.f k a0 a1 a2 a3 a4 a5) (rational_add.f (k + 1) a0 a1 a2 a3 a4 a5) := by
 intro a0 a1 a2 a3 a4 a5 k
 have ih0 := rational_add.mono_l k
 unfold rational_add.f
 have m0 := @ih0; have m1 := @natural_Add.mono; have m2 := @natural_Multiply.mono; have m3 := @natural_Subtract.mono; have m4 := @rational_reduced.mono; exact xM
def rational_add.T3 : Bool × List (List Nat × List Nat) := (true, [([], []), ([], []), ([1], [1]), ([0, 2, 2], [0, 2]), ([], []), ([], []), ([5, 3], [5]), ([4, 6, 6], [4, 6]), ([3, 7, 0, 1, 2, 3], [0, 3]), ([7, 8, 0, 1, 2, 3, 4, 5, 6, 7, 8], [4, 7])])
def rational_add.B3 : List Nat := [0, 0, 2, 7, 0, 0, 47, 127, 255, 511]
theorem rational_add.tab3 : rtab .any (opsOf Tryd.f46 3) = rational_add.T3 := by kernel_rfl
theorem rational_add.bits3 : waitsOk rational_add.T3.2 rational_add.B3 = true := by kernel_rfl
def rational_add.T7 : Bool × List (List Nat × List Nat) := (true, [([], []), ([0], [0]), ([], []), ([], []), ([2, 3], [2, 3]), ([], []), ([1, 4, 5, 4], [1, 4, 5]), ([6, 6, 0, 1, 2, 3, 4, 5, 6], [6])])
def rational_add.B7 : List Nat := [0, 1, 0, 0, 12, 0, 63, 127]
theorem rational_add.tab7 : rtab .any (opsOf Tryd.f46 7) = rational_add.T7 := by kernel_rfl
theorem rational_add.bits7 : waitsOk rational_add.T7.2 rational_add.B7 = true := by kernel_rfl
set_option maxHeartbeats 8000000 in
set_option maxRecDepth 100000 in
theorem rational_add.calls (k : Nat) (a0_0 : Bool) (a0_1 : ByteArray) (a0_2 : ByteArray) (a1_0 : Bool) (a1_1 : ByteArray) (a1_2 : ByteArray) (r1 : Bool) (r2 : ByteArray) (r3 : ByteArray) (w : World) (h : rational_add.f k a0_0 a0_1 a0_2 a1_0 a1_1 a1_2 = some (r1, r2, r3)) :
  Calls Tryd.prog 46 #[.agg #[.bool a0_0, .string a0_1, .string a0_2], .agg #[.bool a1_0, .string a1_1, .string a1_2]] w fun e w' => e = .returned (.agg #[.bool r1, .string r2, .string r3]) ∧ Below w.heap.size w w' := by
 have hu25 := Tryd.underlying25
 have HB := Aside0.mk (Below.refl w.heap.size w)
 have H : (if a0_2.toList = a1_2.toList then ((rational_den.f a0_0 a0_1 a0_2).bind fun t421 => (rational_add.j0 k a0_1 a1_1 t421 a0_0 a0_1 a0_2 a1_0 a1_1 a1_2)) else ((rational_den.f a1_0 a1_1 a1_2).bind fun t422 => ((natural_Multiply.f k a0_1 t422).bind fun t423 => ((rational_den.f a0_0 a0_1 a0_2).bind fun t424 => ((natural_Multiply.f k a1_1 t424).bind fun t425 => ((rational_den.f a0_0 a0_1 a0_2).bind fun t426 => ((rational_den.f a1_0 a1_1 a1_2).bind fun t427 => ((natural_Multiply.f k t426 t427).bind fun t428 => (rational_add.j0 k t423 t425 t428 a0_0 a0_1 a0_2 a1_0 a1_1 a1_2))))))))) = some (r1, r2, r3) := h
 clear h
 have HC3 := Aside0.mk H
 clear H
 go_enter Tryd.func46, Tryd.ntmps46
 try go_wp2_with (first | ((with_reducible refine gate_dst (N := 2) rfl ?_); refine xE (N := 2) #[.bool a0_0, .string a0_1, .string a0_2] 25 rfl ?_; intro gb418 hg w4 hbox hb; have BK418 := Aside0.mk (hbox); have GW418 := (xG HB hg); have GE418 := (xG HB hg); replace HB := xS HB hb; clear hb hbox hg) | ((with_reducible refine gate_dst (N := 3) rfl ?_); refine xE (N := 3) #[.bool a1_0, .string a1_1, .string a1_2] 25 rfl ?_; intro gb419 hg w5 hbox hb; have BK419 := Aside0.mk (hbox); have GW419 := (xG HB hg); have GE419 := (xG HB hg); replace HB := xS HB hb; have NB418_419 := xL BK418 hg; have NB419_418 := xR BK418 hg; replace BK418 := xB BK418 hb; clear hb hbox hg) | ((with_reducible refine gate_dst (N := 4) rfl ?_); refine xE (N := 4) #[.bool false, .string (⟨#[]⟩ : ByteArray), .string (⟨#[]⟩ : ByteArray)] 25 rfl ?_; intro gb420 hg w6 hbox hb; have BK420 := Aside0.mk (hbox); have GW420 := (xG HB hg); have GE420 := (xG HB hg); replace HB := xS HB hb; have NB418_420 := xL BK418 hg; have NB420_418 := xR BK418 hg; replace BK418 := xB BK418 hb; have NB419_420 := xL BK419 hg; have NB420_419 := xR BK419 hg; replace BK419 := xB BK419 hb; clear hb hbox hg))
 replace BK418 := xD BK418
 replace BK419 := xD BK419
 replace BK420 := xD BK420
 replace HB := xW HB
 refine start_ (n := 7) (S := fun w' => w'.cell? ⟨gb418, 0, none⟩ = some (.bool a0_0) ∧ w'.cell? ⟨gb418, 1, none⟩ = some (.string a0_1) ∧ w'.cell? ⟨gb418, 2, none⟩ = some (.string a0_2) ∧ w'.cell? ⟨gb419, 0, none⟩ = some (.bool a1_0) ∧ w'.cell? ⟨gb419, 1, none⟩ = some (.string a1_1) ∧ w'.cell? ⟨gb419, 2, none⟩ = some (.string a1_2)) (ds := []) #[false, false, false, false, false, false, false] (by kernel_rfl) rfl rfl xV (fun hHeld => ?_)
 generalize w6.drew = w7 at BK418 BK419 BK420 HB hHeld ⊢
 refine xP 0 (some 12) #[true, false, false, false, false, false, false] rfl rfl ?_
 refine xP 2 (some 14) #[true, false, true, false, false, false, false] rfl rfl ?_
 refine xT 1 (some 13) #[true, true, true, false, false, false, false] rfl rfl hHeld ?_
 refine xP 4 (some 5) #[true, true, true, false, true, false, false] rfl rfl ?_
 refine xT 3 (some 15) #[true, true, true, true, true, false, false] rfl rfl hHeld ?_
 refine xP 5 (some 6) #[true, true, true, true, true, true, false] rfl rfl ?_
 refine xP 6 (some 7) #[true, true, true, true, true, true, true] rfl rfl ?_
 refine done_ (by kernel_rfl) ?_
 have hnb8 := NB418_419.out
 have hnc8 := NB419_418.out
 have hnb9 := NB418_420.out
 have hnc9 := NB420_418.out
 have hcz10_0 : w7.cell? ⟨gb418, 0, none⟩ = some (.bool a0_0) := (blk_cell BK418.out 0).trans rfl
 have hcz10_1 : w7.cell? ⟨gb418, 1, none⟩ = some (.string a0_1) := (blk_cell BK418.out 1).trans rfl
 have hcz10_2 : w7.cell? ⟨gb418, 2, none⟩ = some (.string a0_2) := (blk_cell BK418.out 2).trans rfl
 have hfz10_0 := blk_frozen BK418.out 0
 have hfz10_1 := blk_frozen BK418.out 1
 have hfz10_2 := blk_frozen BK418.out 2
 have hnb11 := NB419_420.out
 have hnc11 := NB420_419.out
 have hcz12_0 : w7.cell? ⟨gb419, 0, none⟩ = some (.bool a1_0) := (blk_cell BK419.out 0).trans rfl
 have hcz12_1 : w7.cell? ⟨gb419, 1, none⟩ = some (.string a1_1) := (blk_cell BK419.out 1).trans rfl
 have hcz12_2 : w7.cell? ⟨gb419, 2, none⟩ = some (.string a1_2) := (blk_cell BK419.out 2).trans rfl
 have hfz12_0 := blk_frozen BK419.out 0
 have hfz12_1 := blk_frozen BK419.out 1
 have hfz12_2 := blk_frozen BK419.out 2
 go_upto_if 20 with (fail)
 repeat (go_quiet (fail); go_upto_if 20 with (fail))
 go_cut [5, 6, 7] (fun v5 v6 v7 wc => ∃ (kq : Nat) (x5_2 : ByteArray) (x6_2 : ByteArray) (x7_2 : ByteArray), v5 = .string x5_2 ∧ v6 = .string x6_2 ∧ v7 = .string x7_2 ∧ Aside0 (rational_add.j0 kq x5_2 x6_2 x7_2 a0_0 a0_1 a0_2 a1_0 a1_1 a1_2 = some (r1, r2, r3)) ∧ Aside0 (kq ≤ k) ∧ Aside0 (wc.heap[gb418]? = some (.cells #[.bool a0_0, .string a0_1, .string a0_2] 25 (0, 0))) ∧ Aside0 (wc.heap[gb419]? = some (.cells #[.bool a1_0, .string a1_1, .string a1_2] 25 (0, 0))) ∧ Aside0 (wc.heap[gb420]? = some (.cells #[.bool false, .string (⟨#[]⟩ : ByteArray), .string (⟨#[]⟩ : ByteArray)] 25 (0, 0))) ∧ Aside0 (Below w.heap.size w wc))
 case first =>
  have H := HC3.out
  clear HC3
  by_cases c13 : a0_2.toList = a1_2.toList
  ·rw [if_pos c13] at H
   have c13b0 : (a0_2.toList == a1_2.toList) = true := beq_iff_eq.mpr c13
   have c13b1 : (a0_2.toList != a1_2.toList) = false := bne_eq_false_iff_eq.mpr c13
   clear c13
   (first | rw [c13b0] | (simp only [i64_w, i32_w]; rw [c13b0]) | rw [c13b1] | skip)
   replace H := xH H; obtain ⟨t421, A14, H⟩ := H
   have H' := Aside0.mk H
   clear H
   have hnb15 := NB418_419.out
   have hnc15 := NB419_418.out
   have hnb16 := NB418_420.out
   have hnc16 := NB420_418.out
   have hcz17_0 : w7.cell? ⟨gb418, 0, none⟩ = some (.bool a0_0) := (blk_cell BK418.out 0).trans rfl
   have hcz17_1 : w7.cell? ⟨gb418, 1, none⟩ = some (.string a0_1) := (blk_cell BK418.out 1).trans rfl
   have hcz17_2 : w7.cell? ⟨gb418, 2, none⟩ = some (.string a0_2) := (blk_cell BK418.out 2).trans rfl
   have hfz17_0 := blk_frozen BK418.out 0
   have hfz17_1 := blk_frozen BK418.out 1
   have hfz17_2 := blk_frozen BK418.out 2
   go_wp2_with (first | ((with_reducible refine gate_callee (f := 49) rfl ?_); refine xC Tryd.func49 (some 35) (rational_den.calls a0_0 a0_1 a0_2 t421 _ A14.out) ?_; rintro w18 hb; replace BK418 := xB BK418 hb; replace BK419 := xB BK419 hb; replace BK420 := xB BK420 hb; replace HB := xS HB hb; clear hb))
   go_meet
   case rel => exact ⟨_, (a0_1), (a1_1), (t421), xz, xz, xz, H', ⟨by first | omega | exact Nat.le_refl _⟩, ⟨xb BK418⟩, ⟨xb BK419⟩, ⟨xb BK420⟩, ⟨xs HB⟩⟩
  ·rw [if_neg c13] at H
   have c13b0 : (a0_2.toList == a1_2.toList) = false := beq_eq_false_iff_ne.mpr c13
   have c13b1 : (a0_2.toList != a1_2.toList) = true := bne_iff_ne.mpr c13
   (first | rw [c13b0] | (simp only [i64_w, i32_w]; rw [c13b0]) | rw [c13b1] | skip)
   replace H := xH H; obtain ⟨t422, A19, H⟩ := H
   replace H := xH H; obtain ⟨t423, A20, H⟩ := H
   replace H := xH H; obtain ⟨t424, A21, H⟩ := H
   replace H := xH H; obtain ⟨t425, A22, H⟩ := H
   replace H := xH H; obtain ⟨t426, A23, H⟩ := H
   replace H := xH H; obtain ⟨t427, A24, H⟩ := H
   replace H := xH H; obtain ⟨t428, A25, H⟩ := H
   have H' := Aside0.mk H
   clear H
   try go_wp2
   replace BK418 := xD BK418
   replace BK419 := xD BK419
   replace BK420 := xD BK420
   replace HB := xW HB
   refine start_ (n := 10) (S := fun w' => w'.cell? ⟨gb419, 0, none⟩ = some (.bool a1_0) ∧ w'.cell? ⟨gb419, 1, none⟩ = some (.string a1_1) ∧ w'.cell? ⟨gb419, 2, none⟩ = some (.string a1_2) ∧ w'.cell? ⟨gb418, 0, none⟩ = some (.bool a0_0) ∧ w'.cell? ⟨gb418, 1, none⟩ = some (.string a0_1) ∧ w'.cell? ⟨gb418, 2, none⟩ = some (.string a0_2)) (ds := []) #[false, false, false, false, false, false, false, false, false, false] (by kernel_rfl) rfl rfl xV (fun hHeld => ?_); refine with_tabW rational_add.tab3 rational_add.bits3 (fun HT_ HW_ => ?_)
   generalize w7.drew = w26 at BK418 BK419 BK420 HB hHeld ⊢
   refine xP 0 (some 21) #[true, false, false, false, false, false, false, false, false, false] rfl rfl ?_
   refine xP 4 (some 25) #[true, false, false, false, true, false, false, false, false, false] rfl rfl ?_
   refine xT 1 (some 22) #[true, true, false, false, true, false, false, false, false, false] rfl rfl hHeld ?_
   refine xT 5 (some 26) #[true, true, false, false, true, true, false, false, false, false] rfl rfl hHeld ?_
   refine xO 2 (some 23) #[true, true, true, false, true, true, false, false, false, false] rfl rfl fun K hK => ?_
   refine xc Tryd.func49 (rational_den.calls a1_0 a1_1 a1_2 t422 _ A19.out) ?_
   rintro w27 hb
   replace BK418 := xB BK418 hb
   replace BK419 := xB BK419 hb
   replace BK420 := xB BK420 hb
   replace HB := xS HB hb
   clear hb
   refine hK.out _ _ xV (fun hHeld => ?_)
   clear hK K
   refine xN 23 ?_
   refine xO 3 (some 24) #[true, true, true, true, true, true, false, false, false, false] rfl rfl fun K hK => ?_
   refine xc Tryd.func48 (natural_Multiply.calls k a0_1 t422 t423 _ A20.out) ?_
   rintro w28 hb
   replace BK418 := xB BK418 hb
   replace BK419 := xB BK419 hb
   replace BK420 := xB BK420 hb
   replace HB := xS HB hb
   clear hb
   refine hK.out _ _ xV (fun hHeld => ?_)
   clear hK K
   refine xN 24 ?_
   refine xO 6 (some 27) #[true, true, true, true, true, true, true, false, false, false] rfl rfl fun K hK => ?_
   refine xc Tryd.func49 (rational_den.calls a0_0 a0_1 a0_2 t424 _ A21.out) ?_
   rintro w29 hb
   replace BK418 := xB BK418 hb
   replace BK419 := xB BK419 hb
   replace BK420 := xB BK420 hb
   replace HB := xS HB hb
   clear hb
   refine hK.out _ _ xV (fun hHeld => ?_)
   clear hK K
   refine xN 27 ?_
   refine xO 7 (some 28) #[true, true, true, true, true, true, true, true, false, false] rfl rfl fun K hK => ?_
   refine xc Tryd.func48 (natural_Multiply.calls k a1_1 t424 t425 _ A22.out) ?_
   rintro w30 hb
   replace BK418 := xB BK418 hb
   replace BK419 := xB BK419 hb
   replace BK420 := xB BK420 hb
   replace HB := xS HB hb
   clear hb
   refine hK.out _ _ xV (fun hHeld => ?_)
   clear hK K
   refine xN 28 ?_
   refine xP 8 (some 5) #[true, true, true, true, true, true, true, true, true, false] rfl rfl ?_
   refine xP 9 (some 6) #[true, true, true, true, true, true, true, true, true, true] rfl rfl ?_
   refine done_ (done_of HT_.out (by kernel_rfl)) ?_
   try go_wp2
   replace BK418 := xD BK418
   replace BK419 := xD BK419
   replace BK420 := xD BK420
   replace HB := xW HB
   refine start_ (n := 6) (S := fun w' => w'.cell? ⟨gb418, 0, none⟩ = some (.bool a0_0) ∧ w'.cell? ⟨gb418, 1, none⟩ = some (.string a0_1) ∧ w'.cell? ⟨gb418, 2, none⟩ = some (.string a0_2) ∧ w'.cell? ⟨gb419, 0, none⟩ = some (.bool a1_0) ∧ w'.cell? ⟨gb419, 1, none⟩ = some (.string a1_1) ∧ w'.cell? ⟨gb419, 2, none⟩ = some (.string a1_2)) (ds := []) #[false, false, false, false, false, false] (by kernel_rfl) rfl rfl xV (fun hHeld => ?_)
   generalize w30.drew = w31 at BK418 BK419 BK420 HB hHeld ⊢
   refine xT 0 (some 29) #[true, false, false, false, false, false] rfl rfl hHeld ?_
   refine xT 2 (some 31) #[true, false, true, false, false, false] rfl rfl hHeld ?_
   refine xO 1 (some 30) #[true, true, true, false, false, false] rfl rfl fun K hK => ?_
   refine xc Tryd.func49 (rational_den.calls a0_0 a0_1 a0_2 t426 _ A23.out) ?_
   rintro w32 hb
   replace BK418 := xB BK418 hb
   replace BK419 := xB BK419 hb
   replace BK420 := xB BK420 hb
   replace HB := xS HB hb
   clear hb
   refine hK.out _ _ xV (fun hHeld => ?_)
   clear hK K
   refine xN 30 ?_
   refine xO 3 (some 32) #[true, true, true, true, false, false] rfl rfl fun K hK => ?_
   refine xc Tryd.func49 (rational_den.calls a1_0 a1_1 a1_2 t427 _ A24.out) ?_
   rintro w33 hb
   replace BK418 := xB BK418 hb
   replace BK419 := xB BK419 hb
   replace BK420 := xB BK420 hb
   replace HB := xS HB hb
   clear hb
   refine hK.out _ _ xV (fun hHeld => ?_)
   clear hK K
   refine xN 32 ?_
   refine xO 4 (some 33) #[true, true, true, true, true, false] rfl rfl fun K hK => ?_
   refine xc Tryd.func48 (natural_Multiply.calls k t426 t427 t428 _ A25.out) ?_
   rintro w34 hb
   replace BK418 := xB BK418 hb
   replace BK419 := xB BK419 hb
   replace BK420 := xB BK420 hb
   replace HB := xS HB hb
   clear hb
   refine hK.out _ _ xV (fun hHeld => ?_)
   clear hK K
   refine xN 33 ?_
   refine xP 5 (some 7) #[true, true, true, true, true, true] rfl rfl ?_
   refine done_ (by kernel_rfl) ?_
   try go_wp2
   go_meet
   case rel => exact ⟨_, (t423), (t425), (t428), xz, xz, xz, H', ⟨by first | omega | exact Nat.le_refl _⟩, ⟨xb BK418⟩, ⟨xb BK419⟩, ⟨xb BK420⟩, ⟨xs HB⟩⟩
 case rest =>
  clear HC3
  try clear c1
  try clear p2
  try clear c4
  try clear c8
  try clear c9
  try clear c11
  try clear c13
  try clear c13b0
  try clear c13b1
  try clear c15
  try clear c16
  try clear hcz10_0
  try clear hcz10_1
  try clear hcz10_2
  try clear hcz12_0
  try clear hcz12_1
  try clear hcz12_2
  try clear hcz17_0
  try clear hcz17_1
  try clear hcz17_2
  try clear hfz10_0
  try clear hfz10_1
  try clear hfz10_2
  try clear hfz12_0
  try clear hfz12_1
  try clear hfz12_2
  try clear hfz17_0
  try clear hfz17_1
  try clear hfz17_2
  obtain ⟨kq, x5_2, x6_2, x7_2, rfl, rfl, rfl, HA, HJ2, BK418, BK419, BK420, HB⟩ := hcut
  cases kq with
  | zero => exact absurd HA.out (by simp [rational_add.j0])
  | succ kj2 =>
   have H := HA.out
   clear HA
   simp only [rational_add.j0] at H
   by_cases c35 : (a0_0 == a1_0) = true
   ·rw [if_pos c35] at H
    have c35b0 : (a0_0 == a1_0) = true := c35
    (try (have c35b1 : decide (a0_0 = a1_0) = true := by simpa using c35))
    (try (have c35b2 : (a0_0 == a1_0) = true := by simpa using c35))
    clear c35
    replace H := xH H; obtain ⟨t429, A36, H⟩ := H
    replace H := xH H; obtain ⟨⟨t430, t431, t432⟩, A37, H⟩ := H
    dsimp only at H
    simp only [Option.some.injEq, Prod.mk.injEq] at H
    obtain ⟨rfl, rfl, rfl⟩ := H
    have hnb38 := NB418_419.out
    have hnc38 := NB419_418.out
    have hnb39 := NB418_420.out
    have hnc39 := NB420_418.out
    have hcz40_0 : wc.cell? ⟨gb418, 0, none⟩ = some (.bool a0_0) := (blk_cell BK418.out 0).trans rfl
    have hcz40_1 : wc.cell? ⟨gb418, 1, none⟩ = some (.string a0_1) := (blk_cell BK418.out 1).trans rfl
    have hcz40_2 : wc.cell? ⟨gb418, 2, none⟩ = some (.string a0_2) := (blk_cell BK418.out 2).trans rfl
    have hfz40_0 := blk_frozen BK418.out 0
    have hfz40_1 := blk_frozen BK418.out 1
    have hfz40_2 := blk_frozen BK418.out 2
    have hnb41 := NB419_420.out
    have hnc41 := NB420_419.out
    have hcz42_0 : wc.cell? ⟨gb419, 0, none⟩ = some (.bool a1_0) := (blk_cell BK419.out 0).trans rfl
    have hcz42_1 : wc.cell? ⟨gb419, 1, none⟩ = some (.string a1_1) := (blk_cell BK419.out 1).trans rfl
    have hcz42_2 : wc.cell? ⟨gb419, 2, none⟩ = some (.string a1_2) := (blk_cell BK419.out 2).trans rfl
    have hfz42_0 := blk_frozen BK419.out 0
    have hfz42_1 := blk_frozen BK419.out 1
    have hfz42_2 := blk_frozen BK419.out 2
    try go_wp2
    replace BK418 := xD BK418
    replace BK419 := xD BK419
    replace BK420 := xD BK420
    replace HB := xW HB
    refine start_ (n := 8) (S := fun w' => w'.cell? ⟨gb418, 0, none⟩ = some (.bool a0_0) ∧ w'.cell? ⟨gb418, 1, none⟩ = some (.string a0_1) ∧ w'.cell? ⟨gb418, 2, none⟩ = some (.string a0_2)) (ds := []) #[false, false, false, false, false, false, false, false] (by kernel_rfl) rfl rfl xV (fun hHeld => ?_); refine with_tabW rational_add.tab7 rational_add.bits7 (fun HT_ HW_ => ?_)
    generalize wc.drew = w43 at BK418 BK419 BK420 HB hHeld ⊢
    refine xP 0 (some 41) #[true, false, false, false, false, false, false, false] rfl rfl ?_
    refine xP 2 (some 43) #[true, false, true, false, false, false, false, false] rfl rfl ?_
    refine xP 3 (some 44) #[true, false, true, true, false, false, false, false] rfl rfl ?_
    refine xP 5 (some 46) #[true, false, true, true, false, true, false, false] rfl rfl ?_
    refine xT 1 (some 42) #[true, true, true, true, false, true, false, false] rfl rfl hHeld ?_
    refine xO 4 (some 45) #[true, true, true, true, true, true, false, false] rfl rfl fun K hK => ?_
    refine xc Tryd.func72 (natural_Add.calls kj2 x5_2 x6_2 t429 _ A36.out) ?_
    rintro w44 hb
    replace BK418 := xB BK418 hb
    replace BK419 := xB BK419 hb
    replace BK420 := xB BK420 hb
    replace HB := xS HB hb
    clear hb
    refine hK.out _ _ xV (fun hHeld => ?_)
    clear hK K
    refine xN 45 ?_
    refine xO 6 (some 47) #[true, true, true, true, true, true, true, false] rfl rfl fun K hK => ?_
    refine xc Tryd.func52 (rational_reduced.calls kj2 a0_0 t429 x7_2 t430 t431 t432 _ A37.out) ?_
    rintro w45 hb
    replace BK418 := xB BK418 hb
    replace BK419 := xB BK419 hb
    replace BK420 := xB BK420 hb
    replace HB := xS HB hb
    clear hb
    refine hK.out _ _ xV (fun hHeld => ?_)
    clear hK K
    refine xN 47 ?_
    refine xO 7 none #[true, true, true, true, true, true, true, true] rfl rfl fun K hK => ?_
    have hs46 : w45.cell? ⟨gb420, 0, none⟩ = some (.bool false) := (blk_cell BK420.out 0).trans rfl
    have hfs46 := blk_frozen BK420.out 0
    have hns46_0 := NB418_420.out
    have hns46_1 := NB419_420.out
    have hms46_0 := NB420_418.out
    have hms46_1 := NB420_419.out
    have hs47 : w45.cell? ⟨gb420, 1, none⟩ = some (.string (⟨#[]⟩ : ByteArray)) := (blk_cell BK420.out 1).trans rfl
    have hfs47 := blk_frozen BK420.out 1
    have hns47_0 := NB418_420.out
    have hns47_1 := NB419_420.out
    have hms47_0 := NB420_418.out
    have hms47_1 := NB420_419.out
    have hs48 : w45.cell? ⟨gb420, 2, none⟩ = some (.string (⟨#[]⟩ : ByteArray)) := (blk_cell BK420.out 2).trans rfl
    have hfs48 := blk_frozen BK420.out 2
    have hns48_0 := NB418_420.out
    have hns48_1 := NB419_420.out
    have hms48_0 := NB420_418.out
    have hms48_1 := NB420_419.out
    refine xk ?_
    refine hK.out _ _ ⟨((cell_far (p := ⟨gb420, _, none⟩) NB418_420.out _).trans (((cell_far (p := ⟨gb420, _, none⟩) NB418_420.out _).trans (((cell_far (p := ⟨gb420, _, none⟩) NB418_420.out _).trans (hHeld.1)))))), ((cell_far (p := ⟨gb420, _, none⟩) NB418_420.out _).trans (((cell_far (p := ⟨gb420, _, none⟩) NB418_420.out _).trans (((cell_far (p := ⟨gb420, _, none⟩) NB418_420.out _).trans (hHeld.2.1)))))), ((cell_far (p := ⟨gb420, _, none⟩) NB418_420.out _).trans (((cell_far (p := ⟨gb420, _, none⟩) NB418_420.out _).trans (((cell_far (p := ⟨gb420, _, none⟩) NB418_420.out _).trans (hHeld.2.2))))))⟩ (fun hHeld => ?_)
    clear hK K
    refine done_ (done_of HT_.out (by kernel_rfl)) ?_
    try go_wp2
    refine bodyPost_ret (results_cell_row rfl _ _ gb420 25 #[.bool t430, .string t431, .string t432] (0, 0) _ rfl (xp BK420) Tryd.underlying25 rfl (by kernel_rfl)) rfl ?_
    exact ⟨xy, xs HB⟩
   ·rw [if_neg c35] at H
    have c35b0 : (a0_0 == a1_0) = false := by simpa using c35
    (try (have c35b1 : decide (a0_0 = a1_0) = false := by simpa using c35))
    (try (have c35b2 : (a0_0 == a1_0) = false := by simpa using c35))
    (try (have c35b3 : ¬ (a0_0 = a1_0) := by simpa using c35))
    clear c35
    replace H := xH H; obtain ⟨⟨t433, t434⟩, A49, H⟩ := H
    dsimp only at H
    by_cases c50 : t434 = true
    ·subst c50
     replace H := xI H
     replace H := xH H; obtain ⟨⟨t435, t436, t437⟩, A51, H⟩ := H
     dsimp only at H
     simp only [Option.some.injEq, Prod.mk.injEq] at H
     obtain ⟨rfl, rfl, rfl⟩ := H
     have hnb52 := NB418_419.out
     have hnc52 := NB419_418.out
     have hnb53 := NB418_420.out
     have hnc53 := NB420_418.out
     have hcz54_0 : wc.cell? ⟨gb418, 0, none⟩ = some (.bool a0_0) := (blk_cell BK418.out 0).trans rfl
     have hcz54_1 : wc.cell? ⟨gb418, 1, none⟩ = some (.string a0_1) := (blk_cell BK418.out 1).trans rfl
     have hcz54_2 : wc.cell? ⟨gb418, 2, none⟩ = some (.string a0_2) := (blk_cell BK418.out 2).trans rfl
     have hfz54_0 := blk_frozen BK418.out 0
     have hfz54_1 := blk_frozen BK418.out 1
     have hfz54_2 := blk_frozen BK418.out 2
     have hnb55 := NB419_420.out
     have hnc55 := NB420_419.out
     have hcz56_0 : wc.cell? ⟨gb419, 0, none⟩ = some (.bool a1_0) := (blk_cell BK419.out 0).trans rfl
     have hcz56_1 : wc.cell? ⟨gb419, 1, none⟩ = some (.string a1_1) := (blk_cell BK419.out 1).trans rfl
     have hcz56_2 : wc.cell? ⟨gb419, 2, none⟩ = some (.string a1_2) := (blk_cell BK419.out 2).trans rfl
     have hfz56_0 := blk_frozen BK419.out 0
     have hfz56_1 := blk_frozen BK419.out 1
     have hfz56_2 := blk_frozen BK419.out 2
     go_wp2_with (first | ((with_reducible refine gate_callee (f := 73) rfl ?_); refine xC Tryd.func73 (some 51) (natural_Subtract.calls kj2 x5_2 x6_2 t433 true _ A49.out) ?_; rintro w57 hb; replace BK418 := xB BK418 hb; replace BK419 := xB BK419 hb; replace BK420 := xB BK420 hb; replace HB := xS HB hb; clear hb; have hcz58_0 : w57.cell? ⟨gb418, 0, none⟩ = some (.bool a0_0) := (blk_cell BK418.out 0).trans rfl; have hcz58_1 : w57.cell? ⟨gb418, 1, none⟩ = some (.string a0_1) := (blk_cell BK418.out 1).trans rfl; have hcz58_2 : w57.cell? ⟨gb418, 2, none⟩ = some (.string a0_2) := (blk_cell BK418.out 2).trans rfl; have hfz58_0 := blk_frozen BK418.out 0; have hfz58_1 := blk_frozen BK418.out 1; have hfz58_2 := blk_frozen BK418.out 2) | ((with_reducible refine gate_callee (f := 52) rfl ?_); refine xC Tryd.func52 (some 59) (rational_reduced.calls kj2 a0_0 t433 x7_2 t435 t436 t437 _ A51.out) ?_; rintro w59 hb; replace BK418 := xB BK418 hb; replace BK419 := xB BK419 hb; replace BK420 := xB BK420 hb; replace HB := xS HB hb; clear hb; have hcz60_0 : w59.cell? ⟨gb420, 0, none⟩ = some (.bool false) := (blk_cell BK420.out 0).trans rfl; have hcz60_1 : w59.cell? ⟨gb420, 1, none⟩ = some (.string (⟨#[]⟩ : ByteArray)) := (blk_cell BK420.out 1).trans rfl; have hcz60_2 : w59.cell? ⟨gb420, 2, none⟩ = some (.string (⟨#[]⟩ : ByteArray)) := (blk_cell BK420.out 2).trans rfl; have hfz60_0 := blk_frozen BK420.out 0; have hfz60_1 := blk_frozen BK420.out 1; have hfz60_2 := blk_frozen BK420.out 2))
     refine bodyPost_ret (results_cell_row rfl _ _ gb420 25 #[.bool t435, .string t436, .string t437] (0, 0) _ rfl (xp BK420) Tryd.underlying25 rfl (by kernel_rfl)) rfl ?_
     exact ⟨xy, xs HB⟩
    ·replace c50 := Bool.eq_false_iff.mpr c50
     subst c50
     have H1 : ((natural_Subtract.f kj2 x6_2 x5_2).bind fun bt438 => ((rational_reduced.f kj2 a1_0 bt438.1 x7_2).bind fun bt440 => (some (bt440.1, bt440.2.1, bt440.2.2)))) = some (r1, r2, r3) := by rw [if_neg (show ¬ (false = true) by decide)] at H; exact H
     clear H
     have H := H1
     clear H1
     replace H := xH H; obtain ⟨⟨t438, t439⟩, A61, H⟩ := H
     dsimp only at H
     replace H := xH H; obtain ⟨⟨t440, t441, t442⟩, A62, H⟩ := H
     dsimp only at H
     simp only [Option.some.injEq, Prod.mk.injEq] at H
     obtain ⟨rfl, rfl, rfl⟩ := H
     have hnb63 := NB418_419.out
     have hnc63 := NB419_418.out
     have hnb64 := NB418_420.out
     have hnc64 := NB420_418.out
     have hcz65_0 : wc.cell? ⟨gb418, 0, none⟩ = some (.bool a0_0) := (blk_cell BK418.out 0).trans rfl
     have hcz65_1 : wc.cell? ⟨gb418, 1, none⟩ = some (.string a0_1) := (blk_cell BK418.out 1).trans rfl
     have hcz65_2 : wc.cell? ⟨gb418, 2, none⟩ = some (.string a0_2) := (blk_cell BK418.out 2).trans rfl
     have hfz65_0 := blk_frozen BK418.out 0
     have hfz65_1 := blk_frozen BK418.out 1
     have hfz65_2 := blk_frozen BK418.out 2
     have hnb66 := NB419_420.out
     have hnc66 := NB420_419.out
     have hcz67_0 : wc.cell? ⟨gb419, 0, none⟩ = some (.bool a1_0) := (blk_cell BK419.out 0).trans rfl
     have hcz67_1 : wc.cell? ⟨gb419, 1, none⟩ = some (.string a1_1) := (blk_cell BK419.out 1).trans rfl
     have hcz67_2 : wc.cell? ⟨gb419, 2, none⟩ = some (.string a1_2) := (blk_cell BK419.out 2).trans rfl
     have hfz67_0 := blk_frozen BK419.out 0
     have hfz67_1 := blk_frozen BK419.out 1
     have hfz67_2 := blk_frozen BK419.out 2
     go_wp2_with (first | ((with_reducible refine gate_callee (f := 73) rfl ?_); refine xC Tryd.func73 (some 51) (natural_Subtract.calls kj2 x5_2 x6_2 t433 false _ A49.out) ?_; rintro w68 hb; replace BK418 := xB BK418 hb; replace BK419 := xB BK419 hb; replace BK420 := xB BK420 hb; replace HB := xS HB hb; clear hb) | ((with_reducible refine gate_callee (f := 73) rfl ?_); refine xC Tryd.func73 (some 63) (natural_Subtract.calls kj2 x6_2 x5_2 t438 t439 _ A61.out) ?_; rintro w69 hb; replace BK418 := xB BK418 hb; replace BK419 := xB BK419 hb; replace BK420 := xB BK420 hb; replace HB := xS HB hb; clear hb; have hcz70_0 : w69.cell? ⟨gb419, 0, none⟩ = some (.bool a1_0) := (blk_cell BK419.out 0).trans rfl; have hcz70_1 : w69.cell? ⟨gb419, 1, none⟩ = some (.string a1_1) := (blk_cell BK419.out 1).trans rfl; have hcz70_2 : w69.cell? ⟨gb419, 2, none⟩ = some (.string a1_2) := (blk_cell BK419.out 2).trans rfl; have hfz70_0 := blk_frozen BK419.out 0; have hfz70_1 := blk_frozen BK419.out 1; have hfz70_2 := blk_frozen BK419.out 2) | ((with_reducible refine gate_callee (f := 52) rfl ?_); refine xC Tryd.func52 (some 70) (rational_reduced.calls kj2 a1_0 t438 x7_2 t440 t441 t442 _ A62.out) ?_; rintro w71 hb; replace BK418 := xB BK418 hb; replace BK419 := xB BK419 hb; replace BK420 := xB BK420 hb; replace HB := xS HB hb; clear hb; have hcz72_0 : w71.cell? ⟨gb420, 0, none⟩ = some (.bool false) := (blk_cell BK420.out 0).trans rfl; have hcz72_1 : w71.cell? ⟨gb420, 1, none⟩ = some (.string (⟨#[]⟩ : ByteArray)) := (blk_cell BK420.out 1).trans rfl; have hcz72_2 : w71.cell? ⟨gb420, 2, none⟩ = some (.string (⟨#[]⟩ : ByteArray)) := (blk_cell BK420.out 2).trans rfl; have hfz72_0 := blk_frozen BK420.out 0; have hfz72_1 := blk_frozen BK420.out 1; have hfz72_2 := blk_frozen BK420.out 2))
     (try have eA61_ := Option.some.inj (A49.out.symm.trans A61.out))
     refine bodyPost_ret (results_cell_row rfl _ _ gb420 25 #[.bool t440, .string t441, .string t442] (0, 0) _ rfl (xp BK420) Tryd.underlying25 rfl (by kernel_rfl)) rfl ?_
     exact ⟨xy, xs HB⟩
/-! ### rational_Add: function 21 -/
def rational_Add.f (k : Nat) (a0_0 : Bool) (a0_1 : ByteArray) (a0_2 : ByteArray) (a1_0 : Bool) (a1_1 : ByteArray) (a1_2 : ByteArray) : Option (Bool × ByteArray × ByteArray) := (rational_clean.f k a0_0 a0_1 a0_2).bind fun bt446 => ((rational_clean.f k a1_0 a1_1 a1_2).bind fun bt449 => ((rational_add.f k bt446.1 bt446.2.1 bt446.2.2 bt449.1 bt449.2.1 bt449.2.2).bind fun bt452 => (some (bt452.1, bt452.2.1, bt452.2.2))))
theorem rational_Add.mono : ∀ a0 a1 a2 a3 a4 a5 k, LeO (rational_Add.f k a0 a1 a2 a3 a4 a5) (rational_Add.f (k + 1) a0 a1 a2 a3 a4 a5) := by
 intro a0 a1 a2 a3 a4 a5 k
 unfold rational_Add.f
 have m0 := @rational_add.mono; have m1 := @rational_clean.mono; exact xM
set_option maxHeartbeats 8000000 in
set_option maxRecDepth 100000 in
theorem rational_Add.calls (k : Nat) (a0_0 : Bool) (a0_1 : ByteArray) (a0_2 : ByteArray) (a1_0 : Bool) (a1_1 : ByteArray) (a1_2 : ByteArray) (r1 : Bool) (r2 : ByteArray) (r3 : ByteArray) (w : World) (h : rational_Add.f k a0_0 a0_1 a0_2 a1_0 a1_1 a1_2 = some (r1, r2, r3)) :
  Calls Tryd.prog 21 #[.agg #[.bool a0_0, .string a0_1, .string a0_2], .agg #[.bool a1_0, .string a1_1, .string a1_2]] w fun e w' => e = .returned (.agg #[.bool r1, .string r2, .string r3]) ∧ Below w.heap.size w w' := by
 have hu25 := Tryd.underlying25
 have HB := Aside0.mk (Below.refl w.heap.size w)
 have H : ((rational_clean.f k a0_0 a0_1 a0_2).bind fun bt446 => ((rational_clean.f k a1_0 a1_1 a1_2).bind fun bt449 => ((rational_add.f k bt446.1 bt446.2.1 bt446.2.2 bt449.1 bt449.2.1 bt449.2.2).bind fun bt452 => (some (bt452.1, bt452.2.1, bt452.2.2))))) = some (r1, r2, r3) := h
 clear h
 replace H := xH H; obtain ⟨⟨t446, t447, t448⟩, A3, H⟩ := H
 dsimp only at H
 replace H := xH H; obtain ⟨⟨t449, t450, t451⟩, A4, H⟩ := H
 dsimp only at H
 replace H := xH H; obtain ⟨⟨t452, t453, t454⟩, A5, H⟩ := H
 dsimp only at H
 simp only [Option.some.injEq, Prod.mk.injEq] at H
 obtain ⟨rfl, rfl, rfl⟩ := H
 go_enter Tryd.func21, Tryd.ntmps21
 try go_wp2_with (first | ((with_reducible refine gate_dst (N := 2) rfl ?_); refine xE (N := 2) #[.bool a0_0, .string a0_1, .string a0_2] 25 rfl ?_; intro gb443 hg w6 hbox hb; have BK443 := Aside0.mk (hbox); have GW443 := (xG HB hg); have GE443 := (xG HB hg); replace HB := xS HB hb; clear hb hbox hg) | ((with_reducible refine gate_dst (N := 3) rfl ?_); refine xE (N := 3) #[.bool a1_0, .string a1_1, .string a1_2] 25 rfl ?_; intro gb444 hg w7 hbox hb; have BK444 := Aside0.mk (hbox); have GW444 := (xG HB hg); have GE444 := (xG HB hg); replace HB := xS HB hb; have NB443_444 := xL BK443 hg; have NB444_443 := xR BK443 hg; replace BK443 := xB BK443 hb; clear hb hbox hg) | ((with_reducible refine gate_dst (N := 4) rfl ?_); refine xE (N := 4) #[.bool false, .string (⟨#[]⟩ : ByteArray), .string (⟨#[]⟩ : ByteArray)] 25 rfl ?_; intro gb445 hg w8 hbox hb; have BK445 := Aside0.mk (hbox); have GW445 := (xG HB hg); have GE445 := (xG HB hg); replace HB := xS HB hb; have NB443_445 := xL BK443 hg; have NB445_443 := xR BK443 hg; replace BK443 := xB BK443 hb; have NB444_445 := xL BK444 hg; have NB445_444 := xR BK444 hg; replace BK444 := xB BK444 hb; clear hb hbox hg))
 replace BK443 := xD BK443
 replace BK444 := xD BK444
 replace BK445 := xD BK445
 replace HB := xW HB
 refine start_ (n := 6) (S := fun w' => w'.cell? ⟨gb443, 0, none⟩ = some (.bool a0_0) ∧ w'.cell? ⟨gb443, 1, none⟩ = some (.string a0_1) ∧ w'.cell? ⟨gb443, 2, none⟩ = some (.string a0_2) ∧ w'.cell? ⟨gb444, 0, none⟩ = some (.bool a1_0) ∧ w'.cell? ⟨gb444, 1, none⟩ = some (.string a1_1) ∧ w'.cell? ⟨gb444, 2, none⟩ = some (.string a1_2)) (ds := []) #[false, false, false, false, false, false] (by kernel_rfl) rfl rfl xV (fun hHeld => ?_)
 generalize w8.drew = w9 at BK443 BK444 BK445 HB hHeld ⊢
 refine xT 0 (some 5) #[true, false, false, false, false, false] rfl rfl hHeld ?_
 refine xT 2 (some 7) #[true, false, true, false, false, false] rfl rfl hHeld ?_
 refine xO 1 (some 6) #[true, true, true, false, false, false] rfl rfl fun K hK => ?_
 refine xc Tryd.func38 (rational_clean.calls k a0_0 a0_1 a0_2 t446 t447 t448 _ A3.out) ?_
 rintro w10 hb
 replace BK443 := xB BK443 hb
 replace BK444 := xB BK444 hb
 replace BK445 := xB BK445 hb
 replace HB := xS HB hb
 clear hb
 refine hK.out _ _ xV (fun hHeld => ?_)
 clear hK K
 refine xN 6 ?_
 refine xO 3 (some 8) #[true, true, true, true, false, false] rfl rfl fun K hK => ?_
 refine xc Tryd.func38 (rational_clean.calls k a1_0 a1_1 a1_2 t449 t450 t451 _ A4.out) ?_
 rintro w11 hb
 replace BK443 := xB BK443 hb
 replace BK444 := xB BK444 hb
 replace BK445 := xB BK445 hb
 replace HB := xS HB hb
 clear hb
 refine hK.out _ _ xV (fun hHeld => ?_)
 clear hK K
 refine xN 8 ?_
 refine xO 4 (some 9) #[true, true, true, true, true, false] rfl rfl fun K hK => ?_
 refine xc Tryd.func46 (rational_add.calls k t446 t447 t448 t449 t450 t451 t452 t453 t454 _ A5.out) ?_
 rintro w12 hb
 replace BK443 := xB BK443 hb
 replace BK444 := xB BK444 hb
 replace BK445 := xB BK445 hb
 replace HB := xS HB hb
 clear hb
 refine hK.out _ _ xV (fun hHeld => ?_)
 clear hK K
 refine xN 9 ?_
 refine xO 5 none #[true, true, true, true, true, true] rfl rfl fun K hK => ?_
 have hs13 : w12.cell? ⟨gb445, 0, none⟩ = some (.bool false) := (blk_cell BK445.out 0).trans rfl
 have hfs13 := blk_frozen BK445.out 0
 have hns13_0 := NB443_445.out
 have hns13_1 := NB444_445.out
 have hms13_0 := NB445_443.out
 have hms13_1 := NB445_444.out
 have hs14 : w12.cell? ⟨gb445, 1, none⟩ = some (.string (⟨#[]⟩ : ByteArray)) := (blk_cell BK445.out 1).trans rfl
 have hfs14 := blk_frozen BK445.out 1
 have hns14_0 := NB443_445.out
 have hns14_1 := NB444_445.out
 have hms14_0 := NB445_443.out
 have hms14_1 := NB445_444.out
 have hs15 : w12.cell? ⟨gb445, 2, none⟩ = some (.string (⟨#[]⟩ : ByteArray)) := (blk_cell BK445.out 2).trans rfl
 have hfs15 := blk_frozen BK445.out 2
 have hns15_0 := NB443_445.out
 have hns15_1 := NB444_445.out
 have hms15_0 := NB445_443.out
 have hms15_1 := NB445_444.out
 refine xk ?_
 refine hK.out _ _ ⟨((cell_far (p := ⟨gb445, _, none⟩) NB443_445.out _).trans (((cell_far (p := ⟨gb445, _, none⟩) NB443_445.out _).trans (((cell_far (p := ⟨gb445, _, none⟩) NB443_445.out _).trans (hHeld.1)))))), ((cell_far (p := ⟨gb445, _, none⟩) NB443_445.out _).trans (((cell_far (p := ⟨gb445, _, none⟩) NB443_445.out _).trans (((cell_far (p := ⟨gb445, _, none⟩) NB443_445.out _).trans (hHeld.2.1)))))), ((cell_far (p := ⟨gb445, _, none⟩) NB443_445.out _).trans (((cell_far (p := ⟨gb445, _, none⟩) NB443_445.out _).trans (((cell_far (p := ⟨gb445, _, none⟩) NB443_445.out _).trans (hHeld.2.2.1)))))), ((cell_far (p := ⟨gb445, _, none⟩) NB444_445.out _).trans (((cell_far (p := ⟨gb445, _, none⟩) NB444_445.out _).trans (((cell_far (p := ⟨gb445, _, none⟩) NB444_445.out _).trans (hHeld.2.2.2.1)))))), ((cell_far (p := ⟨gb445, _, none⟩) NB444_445.out _).trans (((cell_far (p := ⟨gb445, _, none⟩) NB444_445.out _).trans (((cell_far (p := ⟨gb445, _, none⟩) NB444_445.out _).trans (hHeld.2.2.2.2.1)))))), ((cell_far (p := ⟨gb445, _, none⟩) NB444_445.out _).trans (((cell_far (p := ⟨gb445, _, none⟩) NB444_445.out _).trans (((cell_far (p := ⟨gb445, _, none⟩) NB444_445.out _).trans (hHeld.2.2.2.2.2))))))⟩ (fun hHeld => ?_)
 clear hK K
 refine done_ (by kernel_rfl) ?_
 try go_wp2
 refine bodyPost_ret (results_cell_row rfl _ _ gb445 25 #[.bool t452, .string t453, .string t454] (0, 0) _ rfl (xp BK445) Tryd.underlying25 rfl (by kernel_rfl)) rfl ?_
 exact ⟨xy, xs HB⟩
/-! ### rational_signOf: function 37 -/
def rational_signOf.f (a0_0 : Bool) (a0_1 : ByteArray) (a0_2 : ByteArray) : Option (Int) := if a0_1.toList = ([] : List UInt8) then (some 0) else (if a0_0 = true then (some (-1)) else (some 1))
set_option maxHeartbeats 8000000 in
set_option maxRecDepth 100000 in
theorem rational_signOf.calls (a0_0 : Bool) (a0_1 : ByteArray) (a0_2 : ByteArray) (r : Int) (w : World) (h : rational_signOf.f a0_0 a0_1 a0_2 = some r) :
  Calls Tryd.prog 37 #[.agg #[.bool a0_0, .string a0_1, .string a0_2]] w fun e w' => e = .returned (.int .i64 r) ∧ Below w.heap.size w w' := by
 have hu25 := Tryd.underlying25
 have HB := Aside0.mk (Below.refl w.heap.size w)
 have H : (if a0_1.toList = ([] : List UInt8) then (some 0) else (if a0_0 = true then (some (-1)) else (some 1))) = some r := h
 clear h
 by_cases c2 : a0_1.toList = ([] : List UInt8)
 ·rw [if_pos c2] at H
  have c2b0 : (a0_1.toList == ([] : List UInt8)) = true := beq_iff_eq.mpr c2
  have c2b1 : (a0_1.toList != ([] : List UInt8)) = false := bne_eq_false_iff_eq.mpr c2
  clear c2
  obtain rfl := Option.some.inj H
  go_enter Tryd.func37, Tryd.ntmps37
  go_wp2_with (first | ((with_reducible refine gate_dst (N := 1) rfl ?_); refine xE (N := 1) #[.bool a0_0, .string a0_1, .string a0_2] 25 rfl ?_; intro gb455 hg w3 hbox hb; have BK455 := Aside0.mk (hbox); have GW455 := (xG HB hg); have GE455 := (xG HB hg); replace HB := xS HB hb; clear hb hbox hg; have hcz4_0 : w3.cell? ⟨gb455, 0, none⟩ = some (.bool a0_0) := (blk_cell BK455.out 0).trans rfl; have hcz4_1 : w3.cell? ⟨gb455, 1, none⟩ = some (.string a0_1) := (blk_cell BK455.out 1).trans rfl; have hcz4_2 : w3.cell? ⟨gb455, 2, none⟩ = some (.string a0_2) := (blk_cell BK455.out 2).trans rfl; have hfz4_0 := blk_frozen BK455.out 0; have hfz4_1 := blk_frozen BK455.out 1; have hfz4_2 := blk_frozen BK455.out 2))
  go_ret
  exact ⟨xy, xs HB⟩
 ·rw [if_neg c2] at H
  have c2b0 : (a0_1.toList == ([] : List UInt8)) = false := beq_eq_false_iff_ne.mpr c2
  have c2b1 : (a0_1.toList != ([] : List UInt8)) = true := bne_iff_ne.mpr c2
  by_cases c5 : a0_0 = true
  ·subst c5
   replace H := xI H
   obtain rfl := Option.some.inj H
   go_enter Tryd.func37, Tryd.ntmps37
   go_wp2_with (first | ((with_reducible refine gate_dst (N := 1) rfl ?_); refine xE (N := 1) #[.bool true, .string a0_1, .string a0_2] 25 rfl ?_; intro gb455 hg w6 hbox hb; have BK455 := Aside0.mk (hbox); have GW455 := (xG HB hg); have GE455 := (xG HB hg); replace HB := xS HB hb; clear hb hbox hg; have hcz7_0 : w6.cell? ⟨gb455, 0, none⟩ = some (.bool true) := (blk_cell BK455.out 0).trans rfl; have hcz7_1 : w6.cell? ⟨gb455, 1, none⟩ = some (.string a0_1) := (blk_cell BK455.out 1).trans rfl; have hcz7_2 : w6.cell? ⟨gb455, 2, none⟩ = some (.string a0_2) := (blk_cell BK455.out 2).trans rfl; have hfz7_0 := blk_frozen BK455.out 0; have hfz7_1 := blk_frozen BK455.out 1; have hfz7_2 := blk_frozen BK455.out 2))
   go_ret
   exact ⟨xy, xs HB⟩
  ·replace c5 := Bool.eq_false_iff.mpr c5
   subst c5
   have H1 : (some 1) = some r := by rw [if_neg (show ¬ (false = true) by decide)] at H; exact H
   clear H
   have H := H1
   clear H1
   obtain rfl := Option.some.inj H
   go_enter Tryd.func37, Tryd.ntmps37
   go_wp2_with (first | ((with_reducible refine gate_dst (N := 1) rfl ?_); refine xE (N := 1) #[.bool false, .string a0_1, .string a0_2] 25 rfl ?_; intro gb455 hg w8 hbox hb; have BK455 := Aside0.mk (hbox); have GW455 := (xG HB hg); have GE455 := (xG HB hg); replace HB := xS HB hb; clear hb hbox hg; have hcz9_0 : w8.cell? ⟨gb455, 0, none⟩ = some (.bool false) := (blk_cell BK455.out 0).trans rfl; have hcz9_1 : w8.cell? ⟨gb455, 1, none⟩ = some (.string a0_1) := (blk_cell BK455.out 1).trans rfl; have hcz9_2 : w8.cell? ⟨gb455, 2, none⟩ = some (.string a0_2) := (blk_cell BK455.out 2).trans rfl; have hfz9_0 := blk_frozen BK455.out 0; have hfz9_1 := blk_frozen BK455.out 1; have hfz9_2 := blk_frozen BK455.out 2))
   go_ret
   exact ⟨xy, xs HB⟩
-- NOT PRINTED: function 108 (bytealg_abigen_runtime_cmpstring)
-- NOT PRINTED: function 97 (bytealg_CompareString)
/-! ### strings_Compare: function 76 -/
def strings_Compare.f (a0 : ByteArray) (a1 : ByteArray) : Option Int := some (Go.Lib.compareBytes a0.data.toList a1.data.toList)
theorem strings_Compare.calls (a0 : ByteArray) (a1 : ByteArray) (r : Int) (w : World) (h : strings_Compare.f a0 a1 = some r) :
  Calls Tryd.prog 76 #[.string a0, .string a1] w fun e w' => e = .returned (.int .i64 r) ∧ Drawn0 w w' := by
 obtain rfl := Option.some.inj h
 refine (Go.Proofs.Tryd.strings_Compare a0 a1 w).mono ?_
 rintro e w' ⟨rfl, rfl⟩
 exact ⟨rfl, Drawn0.refl _⟩
/-! ### natural_Compare: function 47 -/
def natural_Compare.f (k : Nat) (a0 : ByteArray) (a1 : ByteArray) : Option (Int) := (natural_Normalize.f k a0).bind fun t456 => ((natural_Normalize.f k a1).bind fun t457 => (if (t456.size : Int) = (t457.size : Int) then ((strings_Compare.f t456 t457).bind fun t458 => (some t458)) else ((natural_sign.f (wrap64 ((t456.size : Int) - (t457.size : Int)))).bind fun t459 => (some t459))))
theorem natural_Compare.mono : ∀ a0 a1 k, LeO (natural_Compare.f k a0 a1) (natural_Compare.f (k + 1) a0 a1) := by
 intro a0 a1 k
 unfold natural_Compare.f
 have m0 := @natural_Normalize.mono; exact xM
set_option maxHeartbeats 8000000 in
set_option maxRecDepth 100000 in
theorem natural_Compare.calls (k : Nat) (a0 : ByteArray) (a1 : ByteArray) (r : Int) (w : World) (h : natural_Compare.f k a0 a1 = some r) :
  Calls Tryd.prog 47 #[.string a0, .string a1] w fun e w' => e = .returned (.int .i64 r) ∧ Below w.heap.size w w' := by
 have HB := Aside0.mk (Below.refl w.heap.size w)
 have H : ((natural_Normalize.f k a0).bind fun t456 => ((natural_Normalize.f k a1).bind fun t457 => (if (t456.size : Int) = (t457.size : Int) then ((strings_Compare.f t456 t457).bind fun t458 => (some t458)) else ((natural_sign.f (wrap64 ((t456.size : Int) - (t457.size : Int)))).bind fun t459 => (some t459))))) = some r := h
 clear h
 replace H := xH H; obtain ⟨t456, A3, H⟩ := H
 replace H := xH H; obtain ⟨t457, A4, H⟩ := H
 by_cases c5 : (t456.size : Int) = (t457.size : Int)
 ·rw [if_pos c5] at H
  have c5b0 : ((t456.size : Int) == (t457.size : Int)) = true := beq_iff_eq.mpr c5
  have c5b1 : ((t456.size : Int) != (t457.size : Int)) = false := bne_eq_false_iff_eq.mpr c5
  have c5b2 : (t456.size == t457.size) = true := by first | simpa using c5 | (simp at c5 ⊢; omega)
  clear c5
  replace H := xH H; obtain ⟨t458, A6, H⟩ := H
  obtain rfl := Option.some.inj H
  go_enter Tryd.func47, Tryd.ntmps47
  go_wp2_with (first | ((with_reducible refine gate_callee (f := 74) rfl ?_); refine xC Tryd.func74 (some 6) (natural_Normalize.calls k a0 t456 _ A3.out) ?_; rintro w7 hb; replace HB := xS HB hb; clear hb) | ((with_reducible refine gate_callee (f := 74) rfl ?_); refine xC Tryd.func74 (some 8) (natural_Normalize.calls k a1 t457 _ A4.out) ?_; rintro w8 hb; replace HB := xS HB hb; clear hb) | ((with_reducible refine gate_callee (f := 76) rfl ?_); refine xg Tryd.func76 (some 22) #[.string t456, .string t457] ?_; (with_reducible refine (strings_Compare.calls t456 t457 t458 _ A6.out).mono ?_); rintro e w' ⟨rfl, ⟨nd, rfl⟩⟩; refine ⟨_, rfl, ?_⟩))
  (try have eA4_ := Option.some.inj (A3.out.symm.trans A4.out))
  go_ret
  exact ⟨xy, xs HB⟩
 ·rw [if_neg c5] at H
  have c5b0 : ((t456.size : Int) == (t457.size : Int)) = false := beq_eq_false_iff_ne.mpr c5
  have c5b1 : ((t456.size : Int) != (t457.size : Int)) = true := bne_iff_ne.mpr c5
  have c5b2 : (t456.size == t457.size) = false := by first | simpa using c5 | (simp at c5 ⊢; omega)
  replace H := xH H; obtain ⟨t459, A9, H⟩ := H
  obtain rfl := Option.some.inj H
  go_enter Tryd.func47, Tryd.ntmps47
  go_wp2_with (first | ((with_reducible refine gate_callee (f := 74) rfl ?_); refine xC Tryd.func74 (some 6) (natural_Normalize.calls k a0 t456 _ A3.out) ?_; rintro w10 hb; replace HB := xS HB hb; clear hb) | ((with_reducible refine gate_callee (f := 74) rfl ?_); refine xC Tryd.func74 (some 8) (natural_Normalize.calls k a1 t457 _ A4.out) ?_; rintro w11 hb; replace HB := xS HB hb; clear hb) | ((with_reducible refine gate_callee (f := 75) rfl ?_); refine xg Tryd.func75 (some 19) #[.int .i64 (wrap64 ((t456.size : Int) - (t457.size : Int)))] ?_; (with_reducible refine (natural_sign.calls (wrap64 ((t456.size : Int) - (t457.size : Int))) t459 _ A9.out).mono ?_); rintro e w' ⟨rfl, ⟨nd, rfl⟩⟩; refine ⟨_, rfl, ?_⟩))
  (try have eA4_ := Option.some.inj (A3.out.symm.trans A4.out))
  go_ret
  exact ⟨xy, xs HB⟩
/-! ### rational_Compare: function 22 -/
def rational_Compare.f (k : Nat) (a0_0 : Bool) (a0_1 : ByteArray) (a0_2 : ByteArray) (a1_0 : Bool) (a1_1 : ByteArray) (a1_2 : ByteArray) : Option (Int) := (rational_clean.f k a0_0 a0_1 a0_2).bind fun bt462 => ((rational_clean.f k a1_0 a1_1 a1_2).bind fun bt465 => ((rational_signOf.f bt462.1 bt462.2.1 bt462.2.2).bind fun t468 => ((rational_signOf.f bt465.1 bt465.2.1 bt465.2.2).bind fun t469 => (if t468 = t469 then ((rational_den.f bt465.1 bt465.2.1 bt465.2.2).bind fun t470 => ((natural_Multiply.f k bt462.2.1 t470).bind fun t471 => ((rational_den.f bt462.1 bt462.2.1 bt462.2.2).bind fun t472 => ((natural_Multiply.f k bt465.2.1 t472).bind fun t473 => ((natural_Compare.f k t471 t473).bind fun t474 => (if bt462.1 = true then (some (wrap64 (-t474))) else (some t474))))))) else (if t468 < t469 then (some (-1)) else (some 1))))))
theorem rational_Compare.mono : ∀ a0 a1 a2 a3 a4 a5 k, LeO (rational_Compare.f k a0 a1 a2 a3 a4 a5) (rational_Compare.f (k + 1) a0 a1 a2 a3 a4 a5) := by
 intro a0 a1 a2 a3 a4 a5 k
 unfold rational_Compare.f
 have m0 := @natural_Compare.mono; have m1 := @natural_Multiply.mono; have m2 := @rational_clean.mono; exact xM
def rational_Compare.T7 : Bool × List (List Nat × List Nat) := (true, [([], []), ([0], [0]), ([], []), ([2], [2]), ([1, 3, 3], [1, 3]), ([], []), ([5], [5]), ([], []), ([7, 4], [7]), ([6, 8, 8], [6, 8]), ([4, 9, 9], [4, 9]), ([10, 10, 0, 1, 2, 3, 4, 5, 6, 7, 8, 9, 10], [10])])
def rational_Compare.B7 : List Nat := [0, 1, 0, 4, 15, 0, 32, 0, 159, 511, 1023, 2047]
theorem rational_Compare.tab7 : rtab .any (opsOf Tryd.f22 7) = rational_Compare.T7 := by kernel_rfl
theorem rational_Compare.bits7 : waitsOk rational_Compare.T7.2 rational_Compare.B7 = true := by kernel_rfl
set_option maxHeartbeats 8000000 in
set_option maxRecDepth 100000 in
theorem rational_Compare.calls (k : Nat) (a0_0 : Bool) (a0_1 : ByteArray) (a0_2 : ByteArray) (a1_0 : Bool) (a1_1 : ByteArray) (a1_2 : ByteArray) (r : Int) (w : World) (h : rational_Compare.f k a0_0 a0_1 a0_2 a1_0 a1_1 a1_2 = some r) :
  Calls Tryd.prog 22 #[.agg #[.bool a0_0, .string a0_1, .string a0_2], .agg #[.bool a1_0, .string a1_1, .string a1_2]] w fun e w' => e = .returned (.int .i64 r) ∧ Below w.heap.size w w' := by
 have hu25 := Tryd.underlying25
 have HB := Aside0.mk (Below.refl w.heap.size w)
 have H : ((rational_clean.f k a0_0 a0_1 a0_2).bind fun bt462 => ((rational_clean.f k a1_0 a1_1 a1_2).bind fun bt465 => ((rational_signOf.f bt462.1 bt462.2.1 bt462.2.2).bind fun t468 => ((rational_signOf.f bt465.1 bt465.2.1 bt465.2.2).bind fun t469 => (if t468 = t469 then ((rational_den.f bt465.1 bt465.2.1 bt465.2.2).bind fun t470 => ((natural_Multiply.f k bt462.2.1 t470).bind fun t471 => ((rational_den.f bt462.1 bt462.2.1 bt462.2.2).bind fun t472 => ((natural_Multiply.f k bt465.2.1 t472).bind fun t473 => ((natural_Compare.f k t471 t473).bind fun t474 => (if bt462.1 = true then (some (wrap64 (-t474))) else (some t474))))))) else (if t468 < t469 then (some (-1)) else (some 1))))))) = some r := h
 clear h
 replace H := xH H; obtain ⟨⟨t462, t463, t464⟩, A3, H⟩ := H
 dsimp only at H
 replace H := xH H; obtain ⟨⟨t465, t466, t467⟩, A4, H⟩ := H
 dsimp only at H
 replace H := xH H; obtain ⟨t468, A5, H⟩ := H
 replace H := xH H; obtain ⟨t469, A6, H⟩ := H
 by_cases c7 : t468 = t469
 ·rw [if_pos c7] at H
  have c7b0 : (t468 == t469) = true := beq_iff_eq.mpr c7
  have c7b1 : (t468 != t469) = false := bne_eq_false_iff_eq.mpr c7
  clear c7
  replace H := xH H; obtain ⟨t470, A8, H⟩ := H
  replace H := xH H; obtain ⟨t471, A9, H⟩ := H
  replace H := xH H; obtain ⟨t472, A10, H⟩ := H
  replace H := xH H; obtain ⟨t473, A11, H⟩ := H
  replace H := xH H; obtain ⟨t474, A12, H⟩ := H
  by_cases c13 : t462 = true
  ·subst c13
   replace H := xI H
   obtain rfl := Option.some.inj H
   go_enter Tryd.func22, Tryd.ntmps22
   try go_wp2_with (first | ((with_reducible refine gate_dst (N := 2) rfl ?_); refine xE (N := 2) #[.bool a0_0, .string a0_1, .string a0_2] 25 rfl ?_; intro gb460 hg w14 hbox hb; have BK460 := Aside0.mk (hbox); have GW460 := (xG HB hg); have GE460 := (xG HB hg); replace HB := xS HB hb; clear hb hbox hg) | ((with_reducible refine gate_dst (N := 3) rfl ?_); refine xE (N := 3) #[.bool a1_0, .string a1_1, .string a1_2] 25 rfl ?_; intro gb461 hg w15 hbox hb; have BK461 := Aside0.mk (hbox); have GW461 := (xG HB hg); have GE461 := (xG HB hg); replace HB := xS HB hb; have NB460_461 := xL BK460 hg; have NB461_460 := xR BK460 hg; replace BK460 := xB BK460 hb; clear hb hbox hg))
   replace BK460 := xD BK460
   replace BK461 := xD BK461
   replace HB := xW HB
   refine start_ (n := 6) (S := fun w' => w'.cell? ⟨gb460, 0, none⟩ = some (.bool a0_0) ∧ w'.cell? ⟨gb460, 1, none⟩ = some (.string a0_1) ∧ w'.cell? ⟨gb460, 2, none⟩ = some (.string a0_2) ∧ w'.cell? ⟨gb461, 0, none⟩ = some (.bool a1_0) ∧ w'.cell? ⟨gb461, 1, none⟩ = some (.string a1_1) ∧ w'.cell? ⟨gb461, 2, none⟩ = some (.string a1_2)) (ds := [4, 5]) #[false, false, false, false, false, false] (by kernel_rfl) rfl rfl xV (fun hHeld => ?_)
   generalize w15.drew = w16 at BK460 BK461 HB hHeld ⊢
   refine xT 0 (some 8) #[true, false, false, false, false, false] rfl rfl hHeld ?_
   refine xT 2 (some 10) #[true, false, true, false, false, false] rfl rfl hHeld ?_
   refine xO 1 (some 9) #[true, true, true, false, false, false] rfl rfl fun K hK => ?_
   refine xc Tryd.func38 (rational_clean.calls k a0_0 a0_1 a0_2 true t463 t464 _ A3.out) ?_
   rintro w17 hb
   replace BK460 := xB BK460 hb
   replace BK461 := xB BK461 hb
   replace HB := xS HB hb
   clear hb
   refine hK.out _ _ xV (fun hHeld => ?_)
   clear hK K
   refine xN 9 ?_
   refine xO 3 (some 11) #[true, true, true, true, false, false] rfl rfl fun K hK => ?_
   refine xc Tryd.func38 (rational_clean.calls k a1_0 a1_1 a1_2 t465 t466 t467 _ A4.out) ?_
   rintro w18 hb
   replace BK460 := xB BK460 hb
   replace BK461 := xB BK461 hb
   replace HB := xS HB hb
   clear hb
   refine hK.out _ _ xV (fun hHeld => ?_)
   clear hK K
   refine xN 11 ?_
   refine xZ 4 none #[true, true, true, true, true, false] rfl rfl fun K hK => ?_
   have hs19 : w18.cell? ⟨gb460, 0, none⟩ = some (.bool a0_0) := (blk_cell BK460.out 0).trans rfl
   have hfs19 := blk_frozen BK460.out 0
   have hns19_1 := NB461_460.out
   have hms19_1 := NB460_461.out
   have hs20 : w18.cell? ⟨gb460, 1, none⟩ = some (.string a0_1) := (blk_cell BK460.out 1).trans rfl
   have hfs20 := blk_frozen BK460.out 1
   have hns20_1 := NB461_460.out
   have hms20_1 := NB460_461.out
   have hs21 : w18.cell? ⟨gb460, 2, none⟩ = some (.string a0_2) := (blk_cell BK460.out 2).trans rfl
   have hfs21 := blk_frozen BK460.out 2
   have hns21_1 := NB461_460.out
   have hms21_1 := NB460_461.out
   refine xk ?_
   refine hK.out _ _ ?_
   clear hK K
   refine xZ 5 none #[true, true, true, true, true, true] rfl rfl fun K hK => ?_
   have hs22 : w18.cell? ⟨gb461, 0, none⟩ = some (.bool a1_0) := (blk_cell BK461.out 0).trans rfl
   have hfs22 := blk_frozen BK461.out 0
   have hns22_0 := NB460_461.out
   have hms22_0 := NB461_460.out
   have hs23 : w18.cell? ⟨gb461, 1, none⟩ = some (.string a1_1) := (blk_cell BK461.out 1).trans rfl
   have hfs23 := blk_frozen BK461.out 1
   have hns23_0 := NB460_461.out
   have hms23_0 := NB461_460.out
   have hs24 : w18.cell? ⟨gb461, 2, none⟩ = some (.string a1_2) := (blk_cell BK461.out 2).trans rfl
   have hfs24 := blk_frozen BK461.out 2
   have hns24_0 := NB460_461.out
   have hms24_0 := NB461_460.out
   refine xk ?_
   refine hK.out _ _ ?_
   clear hK K
   refine done_ (by kernel_rfl) ?_
   try go_wp2
   have n0_ : Aside0 (((((((w18.setCell ⟨gb460, 0, none⟩ (.bool true)).setCell ⟨gb460, 1, none⟩ (.string t463)).setCell ⟨gb460, 2, none⟩ (.string t464)).setCell ⟨gb461, 0, none⟩ (.bool t465)).setCell ⟨gb461, 1, none⟩ (.string t466)).setCell ⟨gb461, 2, none⟩ (.string t467)).heap[gb460]? = some (.cells #[.bool true, .string t463, .string t464] 25 (0, 0))) := ⟨xp BK460⟩
   have n1_ : Aside0 (((((((w18.setCell ⟨gb460, 0, none⟩ (.bool true)).setCell ⟨gb460, 1, none⟩ (.string t463)).setCell ⟨gb460, 2, none⟩ (.string t464)).setCell ⟨gb461, 0, none⟩ (.bool t465)).setCell ⟨gb461, 1, none⟩ (.string t466)).setCell ⟨gb461, 2, none⟩ (.string t467)).heap[gb461]? = some (.cells #[.bool t465, .string t466, .string t467] 25 (0, 0))) := ⟨xp BK461⟩
   have n2_ : Aside0 (Below w.heap.size w ((((((w18.setCell ⟨gb460, 0, none⟩ (.bool true)).setCell ⟨gb460, 1, none⟩ (.string t463)).setCell ⟨gb460, 2, none⟩ (.string t464)).setCell ⟨gb461, 0, none⟩ (.bool t465)).setCell ⟨gb461, 1, none⟩ (.string t466)).setCell ⟨gb461, 2, none⟩ (.string t467))) := ⟨xs HB⟩
   (try clear BK460)
   (try clear BK461)
   (try clear HB)
   generalize ((((((w18.setCell ⟨gb460, 0, none⟩ (.bool true)).setCell ⟨gb460, 1, none⟩ (.string t463)).setCell ⟨gb460, 2, none⟩ (.string t464)).setCell ⟨gb461, 0, none⟩ (.bool t465)).setCell ⟨gb461, 1, none⟩ (.string t466)).setCell ⟨gb461, 2, none⟩ (.string t467)) = w25 at n0_ n1_ n2_ ⊢
   have BK460 := n0_
   have BK461 := n1_
   have HB := n2_
   clear n0_ n1_ n2_
   replace BK460 := xD BK460
   replace BK461 := xD BK461
   replace HB := xW HB
   refine start_ (n := 6) (S := fun w' => w'.cell? ⟨gb460, 0, none⟩ = some (.bool true) ∧ w'.cell? ⟨gb460, 1, none⟩ = some (.string t463) ∧ w'.cell? ⟨gb460, 2, none⟩ = some (.string t464) ∧ w'.cell? ⟨gb461, 0, none⟩ = some (.bool t465) ∧ w'.cell? ⟨gb461, 1, none⟩ = some (.string t466) ∧ w'.cell? ⟨gb461, 2, none⟩ = some (.string t467)) (ds := []) #[false, false, false, false, false, false] (by kernel_rfl) rfl rfl xV (fun hHeld => ?_)
   generalize w25.drew = w26 at BK460 BK461 HB hHeld ⊢
   refine xT 0 (some 12) #[true, false, false, false, false, false] rfl rfl hHeld ?_
   refine xT 2 (some 14) #[true, false, true, false, false, false] rfl rfl hHeld ?_
   refine xO 1 (some 13) #[true, true, true, false, false, false] rfl rfl fun K hK => ?_
   refine xc Tryd.func37 (rational_signOf.calls true t463 t464 t468 _ A5.out) ?_
   rintro w27 hb
   replace BK460 := xB BK460 hb
   replace BK461 := xB BK461 hb
   replace HB := xS HB hb
   clear hb
   refine hK.out _ _ xV (fun hHeld => ?_)
   clear hK K
   refine xN 13 ?_
   refine xO 3 (some 15) #[true, true, true, true, false, false] rfl rfl fun K hK => ?_
   refine xc Tryd.func37 (rational_signOf.calls t465 t466 t467 t469 _ A6.out) ?_
   rintro w28 hb
   replace BK460 := xB BK460 hb
   replace BK461 := xB BK461 hb
   replace HB := xS HB hb
   clear hb
   refine hK.out _ _ xV (fun hHeld => ?_)
   clear hK K
   refine xN 15 ?_
   refine xP 4 (some 5) #[true, true, true, true, true, false] rfl rfl ?_
   refine xP 5 (some 6) #[true, true, true, true, true, true] rfl rfl ?_
   refine done_ (by kernel_rfl) ?_
   try go_wp2
   replace BK460 := xD BK460
   replace BK461 := xD BK461
   replace HB := xW HB
   refine start_ (n := 12) (S := fun w' => w'.cell? ⟨gb460, 0, none⟩ = some (.bool true) ∧ w'.cell? ⟨gb460, 1, none⟩ = some (.string t463) ∧ w'.cell? ⟨gb460, 2, none⟩ = some (.string t464) ∧ w'.cell? ⟨gb461, 0, none⟩ = some (.bool t465) ∧ w'.cell? ⟨gb461, 1, none⟩ = some (.string t466) ∧ w'.cell? ⟨gb461, 2, none⟩ = some (.string t467)) (ds := []) #[false, false, false, false, false, false, false, false, false, false, false, false] (by kernel_rfl) rfl rfl xV (fun hHeld => ?_); refine with_tabW rational_Compare.tab7 rational_Compare.bits7 (fun HT_ HW_ => ?_)
   generalize w28.drew = w29 at BK460 BK461 HB hHeld ⊢
   refine xP 0 (some 22) #[true, false, false, false, false, false, false, false, false, false, false, false] rfl rfl ?_
   refine xP 5 (some 27) #[true, false, false, false, false, true, false, false, false, false, false, false] rfl rfl ?_
   refine xT 1 (some 23) #[true, true, false, false, false, true, false, false, false, false, false, false] rfl rfl hHeld ?_
   refine xT 2 (some 24) #[true, true, true, false, false, true, false, false, false, false, false, false] rfl rfl hHeld ?_
   refine xT 6 (some 28) #[true, true, true, false, false, true, true, false, false, false, false, false] rfl rfl hHeld ?_
   refine xT 7 (some 29) #[true, true, true, false, false, true, true, true, false, false, false, false] rfl rfl hHeld ?_
   refine xO 3 (some 25) #[true, true, true, true, false, true, true, true, false, false, false, false] rfl rfl fun K hK => ?_
   refine xc Tryd.func49 (rational_den.calls t465 t466 t467 t470 _ A8.out) ?_
   rintro w30 hb
   replace BK460 := xB BK460 hb
   replace BK461 := xB BK461 hb
   replace HB := xS HB hb
   clear hb
   refine hK.out _ _ xV (fun hHeld => ?_)
   clear hK K
   refine xN 25 ?_
   refine xO 4 (some 26) #[true, true, true, true, true, true, true, true, false, false, false, false] rfl rfl fun K hK => ?_
   refine xc Tryd.func48 (natural_Multiply.calls k t463 t470 t471 _ A9.out) ?_
   rintro w31 hb
   replace BK460 := xB BK460 hb
   replace BK461 := xB BK461 hb
   replace HB := xS HB hb
   clear hb
   refine hK.out _ _ xV (fun hHeld => ?_)
   clear hK K
   refine xN 26 ?_
   refine xO 8 (some 30) #[true, true, true, true, true, true, true, true, true, false, false, false] rfl rfl fun K hK => ?_
   refine xc Tryd.func49 (rational_den.calls true t463 t464 t472 _ A10.out) ?_
   rintro w32 hb
   replace BK460 := xB BK460 hb
   replace BK461 := xB BK461 hb
   replace HB := xS HB hb
   clear hb
   refine hK.out _ _ xV (fun hHeld => ?_)
   clear hK K
   refine xN 30 ?_
   refine xO 9 (some 31) #[true, true, true, true, true, true, true, true, true, true, false, false] rfl rfl fun K hK => ?_
   refine xc Tryd.func48 (natural_Multiply.calls k t466 t472 t473 _ A11.out) ?_
   rintro w33 hb
   replace BK460 := xB BK460 hb
   replace BK461 := xB BK461 hb
   replace HB := xS HB hb
   clear hb
   refine hK.out _ _ xV (fun hHeld => ?_)
   clear hK K
   refine xN 31 ?_
   refine xO 10 (some 32) #[true, true, true, true, true, true, true, true, true, true, true, false] rfl rfl fun K hK => ?_
   refine xc Tryd.func47 (natural_Compare.calls k t471 t473 t474 _ A12.out) ?_
   rintro w34 hb
   replace BK460 := xB BK460 hb
   replace BK461 := xB BK461 hb
   replace HB := xS HB hb
   clear hb
   refine hK.out _ _ xV (fun hHeld => ?_)
   clear hK K
   refine xN 32 ?_
   refine xP 11 (some 7) #[true, true, true, true, true, true, true, true, true, true, true, true] rfl rfl ?_
   refine done_ (done_of HT_.out (by kernel_rfl)) ?_
   have hnb35 := NB460_461.out
   have hnc35 := NB461_460.out
   have hcz36_0 : w34.cell? ⟨gb460, 0, none⟩ = some (.bool true) := (blk_cell BK460.out 0).trans rfl
   have hcz36_1 : w34.cell? ⟨gb460, 1, none⟩ = some (.string t463) := (blk_cell BK460.out 1).trans rfl
   have hcz36_2 : w34.cell? ⟨gb460, 2, none⟩ = some (.string t464) := (blk_cell BK460.out 2).trans rfl
   have hfz36_0 := blk_frozen BK460.out 0
   have hfz36_1 := blk_frozen BK460.out 1
   have hfz36_2 := blk_frozen BK460.out 2
   try go_wp2
   go_ret
   exact ⟨xy, xs HB⟩
  ·replace c13 := Bool.eq_false_iff.mpr c13
   subst c13
   have H1 : (some t474) = some r := by rw [if_neg (show ¬ (false = true) by decide)] at H; exact H
   clear H
   have H := H1
   clear H1
   obtain rfl := Option.some.inj H
   go_enter Tryd.func22, Tryd.ntmps22
   try go_wp2_with (first | ((with_reducible refine gate_dst (N := 2) rfl ?_); refine xE (N := 2) #[.bool a0_0, .string a0_1, .string a0_2] 25 rfl ?_; intro gb460 hg w37 hbox hb; have BK460 := Aside0.mk (hbox); have GW460 := (xG HB hg); have GE460 := (xG HB hg); replace HB := xS HB hb; clear hb hbox hg) | ((with_reducible refine gate_dst (N := 3) rfl ?_); refine xE (N := 3) #[.bool a1_0, .string a1_1, .string a1_2] 25 rfl ?_; intro gb461 hg w38 hbox hb; have BK461 := Aside0.mk (hbox); have GW461 := (xG HB hg); have GE461 := (xG HB hg); replace HB := xS HB hb; have NB460_461 := xL BK460 hg; have NB461_460 := xR BK460 hg; replace BK460 := xB BK460 hb; clear hb hbox hg))
   replace BK460 := xD BK460
   replace BK461 := xD BK461
   replace HB := xW HB
   refine start_ (n := 6) (S := fun w' => w'.cell? ⟨gb460, 0, none⟩ = some (.bool a0_0) ∧ w'.cell? ⟨gb460, 1, none⟩ = some (.string a0_1) ∧ w'.cell? ⟨gb460, 2, none⟩ = some (.string a0_2) ∧ w'.cell? ⟨gb461, 0, none⟩ = some (.bool a1_0) ∧ w'.cell? ⟨gb461, 1, none⟩ = some (.string a1_1) ∧ w'.cell? ⟨gb461, 2, none⟩ = some (.string a1_2)) (ds := [4, 5]) #[false, false, false, false, false, false] (by kernel_rfl) rfl rfl xV (fun hHeld => ?_)
   generalize w38.drew = w39 at BK460 BK461 HB hHeld ⊢
   refine xT 0 (some 8) #[true, false, false, false, false, false] rfl rfl hHeld ?_
   refine xT 2 (some 10) #[true, false, true, false, false, false] rfl rfl hHeld ?_
   refine xO 1 (some 9) #[true, true, true, false, false, false] rfl rfl fun K hK => ?_
   refine xc Tryd.func38 (rational_clean.calls k a0_0 a0_1 a0_2 false t463 t464 _ A3.out) ?_
   rintro w40 hb
   replace BK460 := xB BK460 hb
   replace BK461 := xB BK461 hb
   replace HB := xS HB hb
   clear hb
   refine hK.out _ _ xV (fun hHeld => ?_)
   clear hK K
   refine xN 9 ?_
   refine xO 3 (some 11) #[true, true, true, true, false, false] rfl rfl fun K hK => ?_
   refine xc Tryd.func38 (rational_clean.calls k a1_0 a1_1 a1_2 t465 t466 t467 _ A4.out) ?_
   rintro w41 hb
   replace BK460 := xB BK460 hb
   replace BK461 := xB BK461 hb
   replace HB := xS HB hb
   clear hb
   refine hK.out _ _ xV (fun hHeld => ?_)
   clear hK K
   refine xN 11 ?_
   refine xZ 4 none #[true, true, true, true, true, false] rfl rfl fun K hK => ?_
   have hs42 : w41.cell? ⟨gb460, 0, none⟩ = some (.bool a0_0) := (blk_cell BK460.out 0).trans rfl
   have hfs42 := blk_frozen BK460.out 0
   have hns42_1 := NB461_460.out
   have hms42_1 := NB460_461.out
   have hs43 : w41.cell? ⟨gb460, 1, none⟩ = some (.string a0_1) := (blk_cell BK460.out 1).trans rfl
   have hfs43 := blk_frozen BK460.out 1
   have hns43_1 := NB461_460.out
   have hms43_1 := NB460_461.out
   have hs44 : w41.cell? ⟨gb460, 2, none⟩ = some (.string a0_2) := (blk_cell BK460.out 2).trans rfl
   have hfs44 := blk_frozen BK460.out 2
   have hns44_1 := NB461_460.out
   have hms44_1 := NB460_461.out
   refine xk ?_
   refine hK.out _ _ ?_
   clear hK K
   refine xZ 5 none #[true, true, true, true, true, true] rfl rfl fun K hK => ?_
   have hs45 : w41.cell? ⟨gb461, 0, none⟩ = some (.bool a1_0) := (blk_cell BK461.out 0).trans rfl
   have hfs45 := blk_frozen BK461.out 0
   have hns45_0 := NB460_461.out
   have hms45_0 := NB461_460.out
   have hs46 : w41.cell? ⟨gb461, 1, none⟩ = some (.string a1_1) := (blk_cell BK461.out 1).trans rfl
   have hfs46 := blk_frozen BK461.out 1
   have hns46_0 := NB460_461.out
   have hms46_0 := NB461_460.out
   have hs47 : w41.cell? ⟨gb461, 2, none⟩ = some (.string a1_2) := (blk_cell BK461.out 2).trans rfl
   have hfs47 := blk_frozen BK461.out 2
   have hns47_0 := NB460_461.out
   have hms47_0 := NB461_460.out
   refine xk ?_
   refine hK.out _ _ ?_
   clear hK K
   refine done_ (by kernel_rfl) ?_
   try go_wp2
   have n0_ : Aside0 (((((((w41.setCell ⟨gb460, 0, none⟩ (.bool false)).setCell ⟨gb460, 1, none⟩ (.string t463)).setCell ⟨gb460, 2, none⟩ (.string t464)).setCell ⟨gb461, 0, none⟩ (.bool t465)).setCell ⟨gb461, 1, none⟩ (.string t466)).setCell ⟨gb461, 2, none⟩ (.string t467)).heap[gb460]? = some (.cells #[.bool false, .string t463, .string t464] 25 (0, 0))) := ⟨xp BK460⟩
   have n1_ : Aside0 (((((((w41.setCell ⟨gb460, 0, none⟩ (.bool false)).setCell ⟨gb460, 1, none⟩ (.string t463)).setCell ⟨gb460, 2, none⟩ (.string t464)).setCell ⟨gb461, 0, none⟩ (.bool t465)).setCell ⟨gb461, 1, none⟩ (.string t466)).setCell ⟨gb461, 2, none⟩ (.string t467)).heap[gb461]? = some (.cells #[.bool t465, .string t466, .string t467] 25 (0, 0))) := ⟨xp BK461⟩
   have n2_ : Aside0 (Below w.heap.size w ((((((w41.setCell ⟨gb460, 0, none⟩ (.bool false)).setCell ⟨gb460, 1, none⟩ (.string t463)).setCell ⟨gb460, 2, none⟩ (.string t464)).setCell ⟨gb461, 0, none⟩ (.bool t465)).setCell ⟨gb461, 1, none⟩ (.string t466)).setCell ⟨gb461, 2, none⟩ (.string t467))) := ⟨xs HB⟩
   (try clear BK460)
   (try clear BK461)
   (try clear HB)
   generalize ((((((w41.setCell ⟨gb460, 0, none⟩ (.bool false)).setCell ⟨gb460, 1, none⟩ (.string t463)).setCell ⟨gb460, 2, none⟩ (.string t464)).setCell ⟨gb461, 0, none⟩ (.bool t465)).setCell ⟨gb461, 1, none⟩ (.string t466)).setCell ⟨gb461, 2, none⟩ (.string t467)) = w48 at n0_ n1_ n2_ ⊢
   have BK460 := n0_
   have BK461 := n1_
   have HB := n2_
   clear n0_ n1_ n2_
   replace BK460 := xD BK460
   replace BK461 := xD BK461
   replace HB := xW HB
   refine start_ (n := 6) (S := fun w' => w'.cell? ⟨gb460, 0, none⟩ = some (.bool false) ∧ w'.cell? ⟨gb460, 1, none⟩ = some (.string t463) ∧ w'.cell? ⟨gb460, 2, none⟩ = some (.string t464) ∧ w'.cell? ⟨gb461, 0, none⟩ = some (.bool t465) ∧ w'.cell? ⟨gb461, 1, none⟩ = some (.string t466) ∧ w'.cell? ⟨gb461, 2, none⟩ = some (.string t467)) (ds := []) #[false, false, false, false, false, false] (by kernel_rfl) rfl rfl xV (fun hHeld => ?_)
   generalize w48.drew = w49 at BK460 BK461 HB hHeld ⊢
   refine xT 0 (some 12) #[true, false, false, false, false, false] rfl rfl hHeld ?_
   refine xT 2 (some 14) #[true, false, true, false, false, false] rfl rfl hHeld ?_
   refine xO 1 (some 13) #[true, true, true, false, false, false] rfl rfl fun K hK => ?_
   refine xc Tryd.func37 (rational_signOf.calls false t463 t464 t468 _ A5.out) ?_
   rintro w50 hb
   replace BK460 := xB BK460 hb
   replace BK461 := xB BK461 hb
   replace HB := xS HB hb
   clear hb
   refine hK.out _ _ xV (fun hHeld => ?_)
   clear hK K
   refine xN 13 ?_
   refine xO 3 (some 15) #[true, true, true, true, false, false] rfl rfl fun K hK => ?_
   refine xc Tryd.func37 (rational_signOf.calls t465 t466 t467 t469 _ A6.out) ?_
   rintro w51 hb
   replace BK460 := xB BK460 hb
   replace BK461 := xB BK461 hb
   replace HB := xS HB hb
   clear hb
   refine hK.out _ _ xV (fun hHeld => ?_)
   clear hK K
   refine xN 15 ?_
   refine xP 4 (some 5) #[true, true, true, true, true, false] rfl rfl ?_
   refine xP 5 (some 6) #[true, true, true, true, true, true] rfl rfl ?_
   refine done_ (by kernel_rfl) ?_
   try go_wp2
   replace BK460 := xD BK460
   replace BK461 := xD BK461
   replace HB := xW HB
   refine start_ (n := 12) (S := fun w' => w'.cell? ⟨gb460, 0, none⟩ = some (.bool false) ∧ w'.cell? ⟨gb460, 1, none⟩ = some (.string t463) ∧ w'.cell? ⟨gb460, 2, none⟩ = some (.string t464) ∧ w'.cell? ⟨gb461, 0, none⟩ = some (.bool t465) ∧ w'.cell? ⟨gb461, 1, none⟩ = some (.string t466) ∧ w'.cell? ⟨gb461, 2, none⟩ = some (.string t467)) (ds := []) #[false, false, false, false, false, false, false, false, false, false, false, false] (by kernel_rfl) rfl rfl xV (fun hHeld => ?_); refine with_tabW rational_Compare.tab7 rational_Compare.bits7 (fun HT_ HW_ => ?_)
   generalize w51.drew = w52 at BK460 BK461 HB hHeld ⊢
   refine xP 0 (some 22) #[true, false, false, false, false, false, false, false, false, false, false, false] rfl rfl ?_
   refine xP 5 (some 27) #[true, false, false, false, false, true, false, false, false, false, false, false] rfl rfl ?_
   refine xT 1 (some 23) #[true, true, false, false, false, true, false, false, false, false, false, false] rfl rfl hHeld ?_
   refine xT 2 (some 24) #[true, true, true, false, false, true, false, false, false, false, false, false] rfl rfl hHeld ?_
   refine xT 6 (some 28) #[true, true, true, false, false, true, true, false, false, false, false, false] rfl rfl hHeld ?_
   refine xT 7 (some 29) #[true, true, true, false, false, true, true, true, false, false, false, false] rfl rfl hHeld ?_
   refine xO 3 (some 25) #[true, true, true, true, false, true, true, true, false, false, false, false] rfl rfl fun K hK => ?_
   refine xc Tryd.func49 (rational_den.calls t465 t466 t467 t470 _ A8.out) ?_
   rintro w53 hb
   replace BK460 := xB BK460 hb
   replace BK461 := xB BK461 hb
   replace HB := xS HB hb
   clear hb
   refine hK.out _ _ xV (fun hHeld => ?_)
   clear hK K
   refine xN 25 ?_
   refine xO 4 (some 26) #[true, true, true, true, true, true, true, true, false, false, false, false] rfl rfl fun K hK => ?_
   refine xc Tryd.func48 (natural_Multiply.calls k t463 t470 t471 _ A9.out) ?_
   rintro w54 hb
   replace BK460 := xB BK460 hb
   replace BK461 := xB BK461 hb
   replace HB := xS HB hb
   clear hb
   refine hK.out _ _ xV (fun hHeld => ?_)
   clear hK K
   refine xN 26 ?_
   refine xO 8 (some 30) #[true, true, true, true, true, true, true, true, true, false, false, false] rfl rfl fun K hK => ?_
   refine xc Tryd.func49 (rational_den.calls false t463 t464 t472 _ A10.out) ?_
   rintro w55 hb
   replace BK460 := xB BK460 hb
   replace BK461 := xB BK461 hb
   replace HB := xS HB hb
   clear hb
   refine hK.out _ _ xV (fun hHeld => ?_)
   clear hK K
   refine xN 30 ?_
   refine xO 9 (some 31) #[true, true, true, true, true, true, true, true, true, true, false, false] rfl rfl fun K hK => ?_
   refine xc Tryd.func48 (natural_Multiply.calls k t466 t472 t473 _ A11.out) ?_
   rintro w56 hb
   replace BK460 := xB BK460 hb
   replace BK461 := xB BK461 hb
   replace HB := xS HB hb
   clear hb
   refine hK.out _ _ xV (fun hHeld => ?_)
   clear hK K
   refine xN 31 ?_
   refine xO 10 (some 32) #[true, true, true, true, true, true, true, true, true, true, true, false] rfl rfl fun K hK => ?_
   refine xc Tryd.func47 (natural_Compare.calls k t471 t473 t474 _ A12.out) ?_
   rintro w57 hb
   replace BK460 := xB BK460 hb
   replace BK461 := xB BK461 hb
   replace HB := xS HB hb
   clear hb
   refine hK.out _ _ xV (fun hHeld => ?_)
   clear hK K
   refine xN 32 ?_
   refine xP 11 (some 7) #[true, true, true, true, true, true, true, true, true, true, true, true] rfl rfl ?_
   refine done_ (done_of HT_.out (by kernel_rfl)) ?_
   have hnb58 := NB460_461.out
   have hnc58 := NB461_460.out
   have hcz59_0 : w57.cell? ⟨gb460, 0, none⟩ = some (.bool false) := (blk_cell BK460.out 0).trans rfl
   have hcz59_1 : w57.cell? ⟨gb460, 1, none⟩ = some (.string t463) := (blk_cell BK460.out 1).trans rfl
   have hcz59_2 : w57.cell? ⟨gb460, 2, none⟩ = some (.string t464) := (blk_cell BK460.out 2).trans rfl
   have hfz59_0 := blk_frozen BK460.out 0
   have hfz59_1 := blk_frozen BK460.out 1
   have hfz59_2 := blk_frozen BK460.out 2
   try go_wp2
   go_ret
   exact ⟨xy, xs HB⟩
 ·rw [if_neg c7] at H
  have c7b0 : (t468 == t469) = false := beq_eq_false_iff_ne.mpr c7
  have c7b1 : (t468 != t469) = true := bne_iff_ne.mpr c7
  by_cases c60 : t468 < t469
  ·rw [if_pos c60] at H
   have c60b0 : decide (t468 < t469) = true := decide_eq_true c60
   clear c60
   obtain rfl := Option.some.inj H
   go_enter Tryd.func22, Tryd.ntmps22
   try go_wp2_with (first | ((with_reducible refine gate_dst (N := 2) rfl ?_); refine xE (N := 2) #[.bool a0_0, .string a0_1, .string a0_2] 25 rfl ?_; intro gb460 hg w61 hbox hb; have BK460 := Aside0.mk (hbox); have GW460 := (xG HB hg); have GE460 := (xG HB hg); replace HB := xS HB hb; clear hb hbox hg) | ((with_reducible refine gate_dst (N := 3) rfl ?_); refine xE (N := 3) #[.bool a1_0, .string a1_1, .string a1_2] 25 rfl ?_; intro gb461 hg w62 hbox hb; have BK461 := Aside0.mk (hbox); have GW461 := (xG HB hg); have GE461 := (xG HB hg); replace HB := xS HB hb; have NB460_461 := xL BK460 hg; have NB461_460 := xR BK460 hg; replace BK460 := xB BK460 hb; clear hb hbox hg))
   replace BK460 := xD BK460
   replace BK461 := xD BK461
   replace HB := xW HB
   refine start_ (n := 6) (S := fun w' => w'.cell? ⟨gb460, 0, none⟩ = some (.bool a0_0) ∧ w'.cell? ⟨gb460, 1, none⟩ = some (.string a0_1) ∧ w'.cell? ⟨gb460, 2, none⟩ = some (.string a0_2) ∧ w'.cell? ⟨gb461, 0, none⟩ = some (.bool a1_0) ∧ w'.cell? ⟨gb461, 1, none⟩ = some (.string a1_1) ∧ w'.cell? ⟨gb461, 2, none⟩ = some (.string a1_2)) (ds := [4, 5]) #[false, false, false, false, false, false] (by kernel_rfl) rfl rfl xV (fun hHeld => ?_)
   generalize w62.drew = w63 at BK460 BK461 HB hHeld ⊢
   refine xT 0 (some 8) #[true, false, false, false, false, false] rfl rfl hHeld ?_
   refine xT 2 (some 10) #[true, false, true, false, false, false] rfl rfl hHeld ?_
   refine xO 1 (some 9) #[true, true, true, false, false, false] rfl rfl fun K hK => ?_
   refine xc Tryd.func38 (rational_clean.calls k a0_0 a0_1 a0_2 t462 t463 t464 _ A3.out) ?_
   rintro w64 hb
   replace BK460 := xB BK460 hb
   replace BK461 := xB BK461 hb
   replace HB := xS HB hb
   clear hb
   refine hK.out _ _ xV (fun hHeld => ?_)
   clear hK K
   refine xN 9 ?_
   refine xO 3 (some 11) #[true, true, true, true, false, false] rfl rfl fun K hK => ?_
   refine xc Tryd.func38 (rational_clean.calls k a1_0 a1_1 a1_2 t465 t466 t467 _ A4.out) ?_
   rintro w65 hb
   replace BK460 := xB BK460 hb
   replace BK461 := xB BK461 hb
   replace HB := xS HB hb
   clear hb
   refine hK.out _ _ xV (fun hHeld => ?_)
   clear hK K
   refine xN 11 ?_
   refine xZ 4 none #[true, true, true, true, true, false] rfl rfl fun K hK => ?_
   have hs66 : w65.cell? ⟨gb460, 0, none⟩ = some (.bool a0_0) := (blk_cell BK460.out 0).trans rfl
   have hfs66 := blk_frozen BK460.out 0
   have hns66_1 := NB461_460.out
   have hms66_1 := NB460_461.out
   have hs67 : w65.cell? ⟨gb460, 1, none⟩ = some (.string a0_1) := (blk_cell BK460.out 1).trans rfl
   have hfs67 := blk_frozen BK460.out 1
   have hns67_1 := NB461_460.out
   have hms67_1 := NB460_461.out
   have hs68 : w65.cell? ⟨gb460, 2, none⟩ = some (.string a0_2) := (blk_cell BK460.out 2).trans rfl
   have hfs68 := blk_frozen BK460.out 2
   have hns68_1 := NB461_460.out
   have hms68_1 := NB460_461.out
   refine xk ?_
   refine hK.out _ _ ?_
   clear hK K
   refine xZ 5 none #[true, true, true, true, true, true] rfl rfl fun K hK => ?_
   have hs69 : w65.cell? ⟨gb461, 0, none⟩ = some (.bool a1_0) := (blk_cell BK461.out 0).trans rfl
   have hfs69 := blk_frozen BK461.out 0
   have hns69_0 := NB460_461.out
   have hms69_0 := NB461_460.out
   have hs70 : w65.cell? ⟨gb461, 1, none⟩ = some (.string a1_1) := (blk_cell BK461.out 1).trans rfl
   have hfs70 := blk_frozen BK461.out 1
   have hns70_0 := NB460_461.out
   have hms70_0 := NB461_460.out
   have hs71 : w65.cell? ⟨gb461, 2, none⟩ = some (.string a1_2) := (blk_cell BK461.out 2).trans rfl
   have hfs71 := blk_frozen BK461.out 2
   have hns71_0 := NB460_461.out
   have hms71_0 := NB461_460.out
   refine xk ?_
   refine hK.out _ _ ?_
   clear hK K
   refine done_ (by kernel_rfl) ?_
   try go_wp2
   have n0_ : Aside0 (((((((w65.setCell ⟨gb460, 0, none⟩ (.bool t462)).setCell ⟨gb460, 1, none⟩ (.string t463)).setCell ⟨gb460, 2, none⟩ (.string t464)).setCell ⟨gb461, 0, none⟩ (.bool t465)).setCell ⟨gb461, 1, none⟩ (.string t466)).setCell ⟨gb461, 2, none⟩ (.string t467)).heap[gb460]? = some (.cells #[.bool t462, .string t463, .string t464] 25 (0, 0))) := ⟨xp BK460⟩
   have n1_ : Aside0 (((((((w65.setCell ⟨gb460, 0, none⟩ (.bool t462)).setCell ⟨gb460, 1, none⟩ (.string t463)).setCell ⟨gb460, 2, none⟩ (.string t464)).setCell ⟨gb461, 0, none⟩ (.bool t465)).setCell ⟨gb461, 1, none⟩ (.string t466)).setCell ⟨gb461, 2, none⟩ (.string t467)).heap[gb461]? = some (.cells #[.bool t465, .string t466, .string t467] 25 (0, 0))) := ⟨xp BK461⟩
   have n2_ : Aside0 (Below w.heap.size w ((((((w65.setCell ⟨gb460, 0, none⟩ (.bool t462)).setCell ⟨gb460, 1, none⟩ (.string t463)).setCell ⟨gb460, 2, none⟩ (.string t464)).setCell ⟨gb461, 0, none⟩ (.bool t465)).setCell ⟨gb461, 1, none⟩ (.string t466)).setCell ⟨gb461, 2, none⟩ (.string t467))) := ⟨xs HB⟩
   (try clear BK460)
   (try clear BK461)
   (try clear HB)
   generalize ((((((w65.setCell ⟨gb460, 0, none⟩ (.bool t462)).setCell ⟨gb460, 1, none⟩ (.string t463)).setCell ⟨gb460, 2, none⟩ (.string t464)).setCell ⟨gb461, 0, none⟩ (.bool t465)).setCell ⟨gb461, 1, none⟩ (.string t466)).setCell ⟨gb461, 2, none⟩ (.string t467)) = w72 at n0_ n1_ n2_ ⊢
   have BK460 := n0_
   have BK461 := n1_
   have HB := n2_
   clear n0_ n1_ n2_
   replace BK460 := xD BK460
   replace BK461 := xD BK461
   replace HB := xW HB
   refine start_ (n := 6) (S := fun w' => w'.cell? ⟨gb460, 0, none⟩ = some (.bool t462) ∧ w'.cell? ⟨gb460, 1, none⟩ = some (.string t463) ∧ w'.cell? ⟨gb460, 2, none⟩ = some (.string t464) ∧ w'.cell? ⟨gb461, 0, none⟩ = some (.bool t465) ∧ w'.cell? ⟨gb461, 1, none⟩ = some (.string t466) ∧ w'.cell? ⟨gb461, 2, none⟩ = some (.string t467)) (ds := []) #[false, false, false, false, false, false] (by kernel_rfl) rfl rfl xV (fun hHeld => ?_)
   generalize w72.drew = w73 at BK460 BK461 HB hHeld ⊢
   refine xT 0 (some 12) #[true, false, false, false, false, false] rfl rfl hHeld ?_
   refine xT 2 (some 14) #[true, false, true, false, false, false] rfl rfl hHeld ?_
   refine xO 1 (some 13) #[true, true, true, false, false, false] rfl rfl fun K hK => ?_
   refine xc Tryd.func37 (rational_signOf.calls t462 t463 t464 t468 _ A5.out) ?_
   rintro w74 hb
   replace BK460 := xB BK460 hb
   replace BK461 := xB BK461 hb
   replace HB := xS HB hb
   clear hb
   refine hK.out _ _ xV (fun hHeld => ?_)
   clear hK K
   refine xN 13 ?_
   refine xO 3 (some 15) #[true, true, true, true, false, false] rfl rfl fun K hK => ?_
   refine xc Tryd.func37 (rational_signOf.calls t465 t466 t467 t469 _ A6.out) ?_
   rintro w75 hb
   replace BK460 := xB BK460 hb
   replace BK461 := xB BK461 hb
   replace HB := xS HB hb
   clear hb
   refine hK.out _ _ xV (fun hHeld => ?_)
   clear hK K
   refine xN 15 ?_
   refine xP 4 (some 5) #[true, true, true, true, true, false] rfl rfl ?_
   refine xP 5 (some 6) #[true, true, true, true, true, true] rfl rfl ?_
   refine done_ (by kernel_rfl) ?_
   try go_wp2
   go_ret
   exact ⟨xy, xs HB⟩
  ·rw [if_neg c60] at H
   have c60b0 : decide (t468 < t469) = false := decide_eq_false c60
   clear c60
   obtain rfl := Option.some.inj H
   go_enter Tryd.func22, Tryd.ntmps22
   try go_wp2_with (first | ((with_reducible refine gate_dst (N := 2) rfl ?_); refine xE (N := 2) #[.bool a0_0, .string a0_1, .string a0_2] 25 rfl ?_; intro gb460 hg w76 hbox hb; have BK460 := Aside0.mk (hbox); have GW460 := (xG HB hg); have GE460 := (xG HB hg); replace HB := xS HB hb; clear hb hbox hg) | ((with_reducible refine gate_dst (N := 3) rfl ?_); refine xE (N := 3) #[.bool a1_0, .string a1_1, .string a1_2] 25 rfl ?_; intro gb461 hg w77 hbox hb; have BK461 := Aside0.mk (hbox); have GW461 := (xG HB hg); have GE461 := (xG HB hg); replace HB := xS HB hb; have NB460_461 := xL BK460 hg; have NB461_460 := xR BK460 hg; replace BK460 := xB BK460 hb; clear hb hbox hg))
   replace BK460 := xD BK460
   replace BK461 := xD BK461
   replace HB := xW HB
   refine start_ (n := 6) (S := fun w' => w'.cell? ⟨gb460, 0, none⟩ = some (.bool a0_0) ∧ w'.cell? ⟨gb460, 1, none⟩ = some (.string a0_1) ∧ w'.cell? ⟨gb460, 2, none⟩ = some (.string a0_2) ∧ w'.cell? ⟨gb461, 0, none⟩ = some (.bool a1_0) ∧ w'.cell? ⟨gb461, 1, none⟩ = some (.string a1_1) ∧ w'.cell? ⟨gb461, 2, none⟩ = some (.string a1_2)) (ds := [4, 5]) #[false, false, false, false, false, false] (by kernel_rfl) rfl rfl xV (fun hHeld => ?_)
   generalize w77.drew = w78 at BK460 BK461 HB hHeld ⊢
   refine xT 0 (some 8) #[true, false, false, false, false, false] rfl rfl hHeld ?_
   refine xT 2 (some 10) #[true, false, true, false, false, false] rfl rfl hHeld ?_
   refine xO 1 (some 9) #[true, true, true, false, false, false] rfl rfl fun K hK => ?_
   refine xc Tryd.func38 (rational_clean.calls k a0_0 a0_1 a0_2 t462 t463 t464 _ A3.out) ?_
   rintro w79 hb
   replace BK460 := xB BK460 hb
   replace BK461 := xB BK461 hb
   replace HB := xS HB hb
   clear hb
   refine hK.out _ _ xV (fun hHeld => ?_)
   clear hK K
   refine xN 9 ?_
   refine xO 3 (some 11) #[true, true, true, true, false, false] rfl rfl fun K hK => ?_
   refine xc Tryd.func38 (rational_clean.calls k a1_0 a1_1 a1_2 t465 t466 t467 _ A4.out) ?_
   rintro w80 hb
   replace BK460 := xB BK460 hb
   replace BK461 := xB BK461 hb
   replace HB := xS HB hb
   clear hb
   refine hK.out _ _ xV (fun hHeld => ?_)
   clear hK K
   refine xN 11 ?_
   refine xZ 4 none #[true, true, true, true, true, false] rfl rfl fun K hK => ?_
   have hs81 : w80.cell? ⟨gb460, 0, none⟩ = some (.bool a0_0) := (blk_cell BK460.out 0).trans rfl
   have hfs81 := blk_frozen BK460.out 0
   have hns81_1 := NB461_460.out
   have hms81_1 := NB460_461.out
   have hs82 : w80.cell? ⟨gb460, 1, none⟩ = some (.string a0_1) := (blk_cell BK460.out 1).trans rfl
   have hfs82 := blk_frozen BK460.out 1
   have hns82_1 := NB461_460.out
   have hms82_1 := NB460_461.out
   have hs83 : w80.cell? ⟨gb460, 2, none⟩ = some (.string a0_2) := (blk_cell BK460.out 2).trans rfl
   have hfs83 := blk_frozen BK460.out 2
   have hns83_1 := NB461_460.out
   have hms83_1 := NB460_461.out
   refine xk ?_
   refine hK.out _ _ ?_
   clear hK K
   refine xZ 5 none #[true, true, true, true, true, true] rfl rfl fun K hK => ?_
   have hs84 : w80.cell? ⟨gb461, 0, none⟩ = some (.bool a1_0) := (blk_cell BK461.out 0).trans rfl
   have hfs84 := blk_frozen BK461.out 0
   have hns84_0 := NB460_461.out
   have hms84_0 := NB461_460.out
   have hs85 : w80.cell? ⟨gb461, 1, none⟩ = some (.string a1_1) := (blk_cell BK461.out 1).trans rfl
   have hfs85 := blk_frozen BK461.out 1
   have hns85_0 := NB460_461.out
   have hms85_0 := NB461_460.out
   have hs86 : w80.cell? ⟨gb461, 2, none⟩ = some (.string a1_2) := (blk_cell BK461.out 2).trans rfl
   have hfs86 := blk_frozen BK461.out 2
   have hns86_0 := NB460_461.out
   have hms86_0 := NB461_460.out
   refine xk ?_
   refine hK.out _ _ ?_
   clear hK K
   refine done_ (by kernel_rfl) ?_
   try go_wp2
   have n0_ : Aside0 (((((((w80.setCell ⟨gb460, 0, none⟩ (.bool t462)).setCell ⟨gb460, 1, none⟩ (.string t463)).setCell ⟨gb460, 2, none⟩ (.string t464)).setCell ⟨gb461, 0, none⟩ (.bool t465)).setCell ⟨gb461, 1, none⟩ (.string t466)).setCell ⟨gb461, 2, none⟩ (.string t467)).heap[gb460]? = some (.cells #[.bool t462, .string t463, .string t464] 25 (0, 0))) := ⟨xp BK460⟩
   have n1_ : Aside0 (((((((w80.setCell ⟨gb460, 0, none⟩ (.bool t462)).setCell ⟨gb460, 1, none⟩ (.string t463)).setCell ⟨gb460, 2, none⟩ (.string t464)).setCell ⟨gb461, 0, none⟩ (.bool t465)).setCell ⟨gb461, 1, none⟩ (.string t466)).setCell ⟨gb461, 2, none⟩ (.string t467)).heap[gb461]? = some (.cells #[.bool t465, .string t466, .string t467] 25 (0, 0))) := ⟨xp BK461⟩
   have n2_ : Aside0 (Below w.heap.size w ((((((w80.setCell ⟨gb460, 0, none⟩ (.bool t462)).setCell ⟨gb460, 1, none⟩ (.string t463)).setCell ⟨gb460, 2, none⟩ (.string t464)).setCell ⟨gb461, 0, none⟩ (.bool t465)).setCell ⟨gb461, 1, none⟩ (.string t466)).setCell ⟨gb461, 2, none⟩ (.string t467))) := ⟨xs HB⟩
   (try clear BK460)
   (try clear BK461)
   (try clear HB)
   generalize ((((((w80.setCell ⟨gb460, 0, none⟩ (.bool t462)).setCell ⟨gb460, 1, none⟩ (.string t463)).setCell ⟨gb460, 2, none⟩ (.string t464)).setCell ⟨gb461, 0, none⟩ (.bool t465)).setCell ⟨gb461, 1, none⟩ (.string t466)).setCell ⟨gb461, 2, none⟩ (.string t467)) = w87 at n0_ n1_ n2_ ⊢
   have BK460 := n0_
   have BK461 := n1_
   have HB := n2_
   clear n0_ n1_ n2_
   replace BK460 := xD BK460
   replace BK461 := xD BK461
   replace HB := xW HB
   refine start_ (n := 6) (S := fun w' => w'.cell? ⟨gb460, 0, none⟩ = some (.bool t462) ∧ w'.cell? ⟨gb460, 1, none⟩ = some (.string t463) ∧ w'.cell? ⟨gb460, 2, none⟩ = some (.string t464) ∧ w'.cell? ⟨gb461, 0, none⟩ = some (.bool t465) ∧ w'.cell? ⟨gb461, 1, none⟩ = some (.string t466) ∧ w'.cell? ⟨gb461, 2, none⟩ = some (.string t467)) (ds := []) #[false, false, false, false, false, false] (by kernel_rfl) rfl rfl xV (fun hHeld => ?_)
   generalize w87.drew = w88 at BK460 BK461 HB hHeld ⊢
   refine xT 0 (some 12) #[true, false, false, false, false, false] rfl rfl hHeld ?_
   refine xT 2 (some 14) #[true, false, true, false, false, false] rfl rfl hHeld ?_
   refine xO 1 (some 13) #[true, true, true, false, false, false] rfl rfl fun K hK => ?_
   refine xc Tryd.func37 (rational_signOf.calls t462 t463 t464 t468 _ A5.out) ?_
   rintro w89 hb
   replace BK460 := xB BK460 hb
   replace BK461 := xB BK461 hb
   replace HB := xS HB hb
   clear hb
   refine hK.out _ _ xV (fun hHeld => ?_)
   clear hK K
   refine xN 13 ?_
   refine xO 3 (some 15) #[true, true, true, true, false, false] rfl rfl fun K hK => ?_
   refine xc Tryd.func37 (rational_signOf.calls t465 t466 t467 t469 _ A6.out) ?_
   rintro w90 hb
   replace BK460 := xB BK460 hb
   replace BK461 := xB BK461 hb
   replace HB := xS HB hb
   clear hb
   refine hK.out _ _ xV (fun hHeld => ?_)
   clear hK K
   refine xN 15 ?_
   refine xP 4 (some 5) #[true, true, true, true, true, false] rfl rfl ?_
   refine xP 5 (some 6) #[true, true, true, true, true, true] rfl rfl ?_
   refine done_ (by kernel_rfl) ?_
   try go_wp2
   go_ret
   exact ⟨xy, xs HB⟩
/-! ### rational_Max: function 56 -/
def rational_Max.f (k : Nat) (a0_0 : Bool) (a0_1 : ByteArray) (a0_2 : ByteArray) (a1_0 : Bool) (a1_1 : ByteArray) (a1_2 : ByteArray) : Option (Bool × ByteArray × ByteArray) := (rational_Compare.f k a0_0 a0_1 a0_2 a1_0 a1_1 a1_2).bind fun t478 => (if t478 ≥ 0 then ((rational_clean.f k a0_0 a0_1 a0_2).bind fun bt479 => (some (bt479.1, bt479.2.1, bt479.2.2))) else ((rational_clean.f k a1_0 a1_1 a1_2).bind fun bt482 => (some (bt482.1, bt482.2.1, bt482.2.2))))
theorem rational_Max.mono : ∀ a0 a1 a2 a3 a4 a5 k, LeO (rational_Max.f k a0 a1 a2 a3 a4 a5) (rational_Max.f (k + 1) a0 a1 a2 a3 a4 a5) := by
 intro a0 a1 a2 a3 a4 a5 k
 unfold rational_Max.f
 have m0 := @rational_Compare.mono; have m1 := @rational_clean.mono; exact xM
set_option maxHeartbeats 8000000 in
set_option maxRecDepth 100000 in
theorem rational_Max.calls (k : Nat) (a0_0 : Bool) (a0_1 : ByteArray) (a0_2 : ByteArray) (a1_0 : Bool) (a1_1 : ByteArray) (a1_2 : ByteArray) (r1 : Bool) (r2 : ByteArray) (r3 : ByteArray) (w : World) (h : rational_Max.f k a0_0 a0_1 a0_2 a1_0 a1_1 a1_2 = some (r1, r2, r3)) :
  Calls Tryd.prog 56 #[.agg #[.bool a0_0, .string a0_1, .string a0_2], .agg #[.bool a1_0, .string a1_1, .string a1_2]] w fun e w' => e = .returned (.agg #[.bool r1, .string r2, .string r3]) ∧ Below w.heap.size w w' := by
 have hu25 := Tryd.underlying25
 have HB := Aside0.mk (Below.refl w.heap.size w)
 have H : ((rational_Compare.f k a0_0 a0_1 a0_2 a1_0 a1_1 a1_2).bind fun t478 => (if t478 ≥ 0 then ((rational_clean.f k a0_0 a0_1 a0_2).bind fun bt479 => (some (bt479.1, bt479.2.1, bt479.2.2))) else ((rational_clean.f k a1_0 a1_1 a1_2).bind fun bt482 => (some (bt482.1, bt482.2.1, bt482.2.2))))) = some (r1, r2, r3) := h
 clear h
 replace H := xH H; obtain ⟨t478, A3, H⟩ := H
 by_cases c4 : t478 ≥ 0
 ·rw [if_pos c4] at H
  have c4b0 : decide (0 ≤ t478) = true := decide_eq_true c4
  clear c4
  replace H := xH H; obtain ⟨⟨t479, t480, t481⟩, A5, H⟩ := H
  dsimp only at H
  simp only [Option.some.injEq, Prod.mk.injEq] at H
  obtain ⟨rfl, rfl, rfl⟩ := H
  go_enter Tryd.func56, Tryd.ntmps56
  go_wp2_with (first | ((with_reducible refine gate_dst (N := 2) rfl ?_); refine xE (N := 2) #[.bool a0_0, .string a0_1, .string a0_2] 25 rfl ?_; intro gb475 hg w6 hbox hb; have BK475 := Aside0.mk (hbox); have GW475 := (xG HB hg); have GE475 := (xG HB hg); replace HB := xS HB hb; clear hb hbox hg) | ((with_reducible refine gate_dst (N := 3) rfl ?_); refine xE (N := 3) #[.bool a1_0, .string a1_1, .string a1_2] 25 rfl ?_; intro gb476 hg w7 hbox hb; have BK476 := Aside0.mk (hbox); have GW476 := (xG HB hg); have GE476 := (xG HB hg); replace HB := xS HB hb; have NB475_476 := xL BK475 hg; have NB476_475 := xR BK475 hg; replace BK475 := xB BK475 hb; clear hb hbox hg) | ((with_reducible refine gate_dst (N := 4) rfl ?_); refine xE (N := 4) #[.bool false, .string (⟨#[]⟩ : ByteArray), .string (⟨#[]⟩ : ByteArray)] 25 rfl ?_; intro gb477 hg w8 hbox hb; have BK477 := Aside0.mk (hbox); have GW477 := (xG HB hg); have GE477 := (xG HB hg); replace HB := xS HB hb; have NB475_477 := xL BK475 hg; have NB477_475 := xR BK475 hg; replace BK475 := xB BK475 hb; have NB476_477 := xL BK476 hg; have NB477_476 := xR BK476 hg; replace BK476 := xB BK476 hb; clear hb hbox hg; have hnb9 := NB475_476.out; have hnc9 := NB476_475.out; have hnb10 := NB475_477.out; have hnc10 := NB477_475.out; have hcz11_0 : w8.cell? ⟨gb475, 0, none⟩ = some (.bool a0_0) := (blk_cell BK475.out 0).trans rfl; have hcz11_1 : w8.cell? ⟨gb475, 1, none⟩ = some (.string a0_1) := (blk_cell BK475.out 1).trans rfl; have hcz11_2 : w8.cell? ⟨gb475, 2, none⟩ = some (.string a0_2) := (blk_cell BK475.out 2).trans rfl; have hfz11_0 := blk_frozen BK475.out 0; have hfz11_1 := blk_frozen BK475.out 1; have hfz11_2 := blk_frozen BK475.out 2; have hnb12 := NB476_477.out; have hnc12 := NB477_476.out; have hcz13_0 : w8.cell? ⟨gb476, 0, none⟩ = some (.bool a1_0) := (blk_cell BK476.out 0).trans rfl; have hcz13_1 : w8.cell? ⟨gb476, 1, none⟩ = some (.string a1_1) := (blk_cell BK476.out 1).trans rfl; have hcz13_2 : w8.cell? ⟨gb476, 2, none⟩ = some (.string a1_2) := (blk_cell BK476.out 2).trans rfl; have hfz13_0 := blk_frozen BK476.out 0; have hfz13_1 := blk_frozen BK476.out 1; have hfz13_2 := blk_frozen BK476.out 2) | ((with_reducible refine gate_callee (f := 22) rfl ?_); refine xC Tryd.func22 (some 7) (rational_Compare.calls k a0_0 a0_1 a0_2 a1_0 a1_1 a1_2 t478 _ A3.out) ?_; rintro w14 hb; replace BK475 := xB BK475 hb; replace BK476 := xB BK476 hb; replace BK477 := xB BK477 hb; replace HB := xS HB hb; clear hb; have hcz15_0 : w14.cell? ⟨gb475, 0, none⟩ = some (.bool a0_0) := (blk_cell BK475.out 0).trans rfl; have hcz15_1 : w14.cell? ⟨gb475, 1, none⟩ = some (.string a0_1) := (blk_cell BK475.out 1).trans rfl; have hcz15_2 : w14.cell? ⟨gb475, 2, none⟩ = some (.string a0_2) := (blk_cell BK475.out 2).trans rfl; have hfz15_0 := blk_frozen BK475.out 0; have hfz15_1 := blk_frozen BK475.out 1; have hfz15_2 := blk_frozen BK475.out 2) | ((with_reducible refine gate_callee (f := 38) rfl ?_); refine xC Tryd.func38 (some 10) (rational_clean.calls k a0_0 a0_1 a0_2 t479 t480 t481 _ A5.out) ?_; rintro w16 hb; replace BK475 := xB BK475 hb; replace BK476 := xB BK476 hb; replace BK477 := xB BK477 hb; replace HB := xS HB hb; clear hb; have hcz17_0 : w16.cell? ⟨gb477, 0, none⟩ = some (.bool false) := (blk_cell BK477.out 0).trans rfl; have hcz17_1 : w16.cell? ⟨gb477, 1, none⟩ = some (.string (⟨#[]⟩ : ByteArray)) := (blk_cell BK477.out 1).trans rfl; have hcz17_2 : w16.cell? ⟨gb477, 2, none⟩ = some (.string (⟨#[]⟩ : ByteArray)) := (blk_cell BK477.out 2).trans rfl; have hfz17_0 := blk_frozen BK477.out 0; have hfz17_1 := blk_frozen BK477.out 1; have hfz17_2 := blk_frozen BK477.out 2))
  refine bodyPost_ret (results_cell_row rfl _ _ gb477 25 #[.bool t479, .string t480, .string t481] (0, 0) _ rfl (xp BK477) Tryd.underlying25 rfl (by kernel_rfl)) rfl ?_
  exact ⟨xy, xs HB⟩
 ·rw [if_neg c4] at H
  have c4b0 : decide (0 ≤ t478) = false := decide_eq_false c4
  clear c4
  replace H := xH H; obtain ⟨⟨t482, t483, t484⟩, A18, H⟩ := H
  dsimp only at H
  simp only [Option.some.injEq, Prod.mk.injEq] at H
  obtain ⟨rfl, rfl, rfl⟩ := H
  go_enter Tryd.func56, Tryd.ntmps56
  go_wp2_with (first | ((with_reducible refine gate_dst (N := 2) rfl ?_); refine xE (N := 2) #[.bool a0_0, .string a0_1, .string a0_2] 25 rfl ?_; intro gb475 hg w19 hbox hb; have BK475 := Aside0.mk (hbox); have GW475 := (xG HB hg); have GE475 := (xG HB hg); replace HB := xS HB hb; clear hb hbox hg) | ((with_reducible refine gate_dst (N := 3) rfl ?_); refine xE (N := 3) #[.bool a1_0, .string a1_1, .string a1_2] 25 rfl ?_; intro gb476 hg w20 hbox hb; have BK476 := Aside0.mk (hbox); have GW476 := (xG HB hg); have GE476 := (xG HB hg); replace HB := xS HB hb; have NB475_476 := xL BK475 hg; have NB476_475 := xR BK475 hg; replace BK475 := xB BK475 hb; clear hb hbox hg) | ((with_reducible refine gate_dst (N := 4) rfl ?_); refine xE (N := 4) #[.bool false, .string (⟨#[]⟩ : ByteArray), .string (⟨#[]⟩ : ByteArray)] 25 rfl ?_; intro gb477 hg w21 hbox hb; have BK477 := Aside0.mk (hbox); have GW477 := (xG HB hg); have GE477 := (xG HB hg); replace HB := xS HB hb; have NB475_477 := xL BK475 hg; have NB477_475 := xR BK475 hg; replace BK475 := xB BK475 hb; have NB476_477 := xL BK476 hg; have NB477_476 := xR BK476 hg; replace BK476 := xB BK476 hb; clear hb hbox hg; have hnb22 := NB475_476.out; have hnc22 := NB476_475.out; have hnb23 := NB475_477.out; have hnc23 := NB477_475.out; have hcz24_0 : w21.cell? ⟨gb475, 0, none⟩ = some (.bool a0_0) := (blk_cell BK475.out 0).trans rfl; have hcz24_1 : w21.cell? ⟨gb475, 1, none⟩ = some (.string a0_1) := (blk_cell BK475.out 1).trans rfl; have hcz24_2 : w21.cell? ⟨gb475, 2, none⟩ = some (.string a0_2) := (blk_cell BK475.out 2).trans rfl; have hfz24_0 := blk_frozen BK475.out 0; have hfz24_1 := blk_frozen BK475.out 1; have hfz24_2 := blk_frozen BK475.out 2; have hnb25 := NB476_477.out; have hnc25 := NB477_476.out; have hcz26_0 : w21.cell? ⟨gb476, 0, none⟩ = some (.bool a1_0) := (blk_cell BK476.out 0).trans rfl; have hcz26_1 : w21.cell? ⟨gb476, 1, none⟩ = some (.string a1_1) := (blk_cell BK476.out 1).trans rfl; have hcz26_2 : w21.cell? ⟨gb476, 2, none⟩ = some (.string a1_2) := (blk_cell BK476.out 2).trans rfl; have hfz26_0 := blk_frozen BK476.out 0; have hfz26_1 := blk_frozen BK476.out 1; have hfz26_2 := blk_frozen BK476.out 2) | ((with_reducible refine gate_callee (f := 22) rfl ?_); refine xC Tryd.func22 (some 7) (rational_Compare.calls k a0_0 a0_1 a0_2 a1_0 a1_1 a1_2 t478 _ A3.out) ?_; rintro w27 hb; replace BK475 := xB BK475 hb; replace BK476 := xB BK476 hb; replace BK477 := xB BK477 hb; replace HB := xS HB hb; clear hb; have hcz28_0 : w27.cell? ⟨gb476, 0, none⟩ = some (.bool a1_0) := (blk_cell BK476.out 0).trans rfl; have hcz28_1 : w27.cell? ⟨gb476, 1, none⟩ = some (.string a1_1) := (blk_cell BK476.out 1).trans rfl; have hcz28_2 : w27.cell? ⟨gb476, 2, none⟩ = some (.string a1_2) := (blk_cell BK476.out 2).trans rfl; have hfz28_0 := blk_frozen BK476.out 0; have hfz28_1 := blk_frozen BK476.out 1; have hfz28_2 := blk_frozen BK476.out 2) | ((with_reducible refine gate_callee (f := 38) rfl ?_); refine xC Tryd.func38 (some 12) (rational_clean.calls k a1_0 a1_1 a1_2 t482 t483 t484 _ A18.out) ?_; rintro w29 hb; replace BK475 := xB BK475 hb; replace BK476 := xB BK476 hb; replace BK477 := xB BK477 hb; replace HB := xS HB hb; clear hb; have hcz30_0 : w29.cell? ⟨gb477, 0, none⟩ = some (.bool false) := (blk_cell BK477.out 0).trans rfl; have hcz30_1 : w29.cell? ⟨gb477, 1, none⟩ = some (.string (⟨#[]⟩ : ByteArray)) := (blk_cell BK477.out 1).trans rfl; have hcz30_2 : w29.cell? ⟨gb477, 2, none⟩ = some (.string (⟨#[]⟩ : ByteArray)) := (blk_cell BK477.out 2).trans rfl; have hfz30_0 := blk_frozen BK477.out 0; have hfz30_1 := blk_frozen BK477.out 1; have hfz30_2 := blk_frozen BK477.out 2))
  refine bodyPost_ret (results_cell_row rfl _ _ gb477 25 #[.bool t482, .string t483, .string t484] (0, 0) _ rfl (xp BK477) Tryd.underlying25 rfl (by kernel_rfl)) rfl ?_
  exact ⟨xy, xs HB⟩
/-! ### guarantee_positive: function 35 -/
def guarantee_positive.f (k : Nat) (a0_0 : Bool) (a0_1 : ByteArray) (a0_2 : ByteArray) : Option (Bool × ByteArray × ByteArray) := (rational_Max.f k a0_0 a0_1 a0_2 false (⟨#[]⟩ : ByteArray) (⟨#[]⟩ : ByteArray)).bind fun bt487 => (some (bt487.1, bt487.2.1, bt487.2.2))
theorem guarantee_positive.mono : ∀ a0 a1 a2 k, LeO (guarantee_positive.f k a0 a1 a2) (guarantee_positive.f (k + 1) a0 a1 a2) := by
 intro a0 a1 a2 k
 unfold guarantee_positive.f
 have m0 := @rational_Max.mono; exact xM
set_option maxHeartbeats 8000000 in
set_option maxRecDepth 100000 in
theorem guarantee_positive.calls (k : Nat) (a0_0 : Bool) (a0_1 : ByteArray) (a0_2 : ByteArray) (r1 : Bool) (r2 : ByteArray) (r3 : ByteArray) (w : World) (h : guarantee_positive.f k a0_0 a0_1 a0_2 = some (r1, r2, r3)) :
  Calls Tryd.prog 35 #[.agg #[.bool a0_0, .string a0_1, .string a0_2]] w fun e w' => e = .returned (.agg #[.bool r1, .string r2, .string r3]) ∧ Below w.heap.size w w' := by
 have hu25 := Tryd.underlying25
 have HB := Aside0.mk (Below.refl w.heap.size w)
 have H : ((rational_Max.f k a0_0 a0_1 a0_2 false (⟨#[]⟩ : ByteArray) (⟨#[]⟩ : ByteArray)).bind fun bt487 => (some (bt487.1, bt487.2.1, bt487.2.2))) = some (r1, r2, r3) := h
 clear h
 replace H := xH H; obtain ⟨⟨t487, t488, t489⟩, A2, H⟩ := H
 dsimp only at H
 simp only [Option.some.injEq, Prod.mk.injEq] at H
 obtain ⟨rfl, rfl, rfl⟩ := H
 go_enter Tryd.func35, Tryd.ntmps35
 go_wp2_with (first | ((with_reducible refine gate_dst (N := 1) rfl ?_); refine xE (N := 1) #[.bool a0_0, .string a0_1, .string a0_2] 25 rfl ?_; intro gb485 hg w3 hbox hb; have BK485 := Aside0.mk (hbox); have GW485 := (xG HB hg); have GE485 := (xG HB hg); replace HB := xS HB hb; clear hb hbox hg) | ((with_reducible refine gate_dst (N := 2) rfl ?_); refine xE (N := 2) #[.bool false, .string (⟨#[]⟩ : ByteArray), .string (⟨#[]⟩ : ByteArray)] 25 rfl ?_; intro gb486 hg w4 hbox hb; have BK486 := Aside0.mk (hbox); have GW486 := (xG HB hg); have GE486 := (xG HB hg); replace HB := xS HB hb; have NB485_486 := xL BK485 hg; have NB486_485 := xR BK485 hg; replace BK485 := xB BK485 hb; clear hb hbox hg; have hnb5 := NB485_486.out; have hnc5 := NB486_485.out; have hcz6_0 : w4.cell? ⟨gb485, 0, none⟩ = some (.bool a0_0) := (blk_cell BK485.out 0).trans rfl; have hcz6_1 : w4.cell? ⟨gb485, 1, none⟩ = some (.string a0_1) := (blk_cell BK485.out 1).trans rfl; have hcz6_2 : w4.cell? ⟨gb485, 2, none⟩ = some (.string a0_2) := (blk_cell BK485.out 2).trans rfl; have hfz6_0 := blk_frozen BK485.out 0; have hfz6_1 := blk_frozen BK485.out 1; have hfz6_2 := blk_frozen BK485.out 2) | ((with_reducible refine gate_callee (f := 56) rfl ?_); refine xC Tryd.func56 (some 5) (rational_Max.calls k a0_0 a0_1 a0_2 false (⟨#[]⟩ : ByteArray) (⟨#[]⟩ : ByteArray) t487 t488 t489 _ A2.out) ?_; rintro w7 hb; replace BK485 := xB BK485 hb; replace BK486 := xB BK486 hb; replace HB := xS HB hb; clear hb; have hcz8_0 : w7.cell? ⟨gb486, 0, none⟩ = some (.bool false) := (blk_cell BK486.out 0).trans rfl; have hcz8_1 : w7.cell? ⟨gb486, 1, none⟩ = some (.string (⟨#[]⟩ : ByteArray)) := (blk_cell BK486.out 1).trans rfl; have hcz8_2 : w7.cell? ⟨gb486, 2, none⟩ = some (.string (⟨#[]⟩ : ByteArray)) := (blk_cell BK486.out 2).trans rfl; have hfz8_0 := blk_frozen BK486.out 0; have hfz8_1 := blk_frozen BK486.out 1; have hfz8_2 := blk_frozen BK486.out 2))
 refine bodyPost_ret (results_cell_row rfl _ _ gb486 25 #[.bool t487, .string t488, .string t489] (0, 0) _ rfl (xp BK486) Tryd.underlying25 rfl (by kernel_rfl)) rfl ?_
 exact ⟨xy, xs HB⟩
/-! ### rational_negate: function 61 -/
def rational_negate.f (a0_0 : Bool) (a0_1 : ByteArray) (a0_2 : ByteArray) : Option (Bool × ByteArray × ByteArray) := if a0_0 = true then (some (false, a0_1, a0_2)) else (some ((a0_1.toList != ([] : List UInt8)), a0_1, a0_2))
set_option maxHeartbeats 8000000 in
set_option maxRecDepth 100000 in
theorem rational_negate.calls (a0_0 : Bool) (a0_1 : ByteArray) (a0_2 : ByteArray) (r1 : Bool) (r2 : ByteArray) (r3 : ByteArray) (w : World) (h : rational_negate.f a0_0 a0_1 a0_2 = some (r1, r2, r3)) :
  Calls Tryd.prog 61 #[.agg #[.bool a0_0, .string a0_1, .string a0_2]] w fun e w' => e = .returned (.agg #[.bool r1, .string r2, .string r3]) ∧ Below w.heap.size w w' := by
 have hu25 := Tryd.underlying25
 have HB := Aside0.mk (Below.refl w.heap.size w)
 have H : (if a0_0 = true then (some (false, a0_1, a0_2)) else (some ((a0_1.toList != ([] : List UInt8)), a0_1, a0_2))) = some (r1, r2, r3) := h
 clear h
 by_cases c2 : a0_0 = true
 ·subst c2
  replace H := xI H
  simp only [Option.some.injEq, Prod.mk.injEq] at H
  obtain ⟨rfl, rfl, rfl⟩ := H
  go_enter Tryd.func61, Tryd.ntmps61
  go_wp2_with (first | ((with_reducible refine gate_dst (N := 1) rfl ?_); refine xE (N := 1) #[.bool true, .string a0_1, .string a0_2] 25 rfl ?_; intro gb490 hg w3 hbox hb; have BK490 := Aside0.mk (hbox); have GW490 := (xG HB hg); have GE490 := (xG HB hg); replace HB := xS HB hb; clear hb hbox hg) | ((with_reducible refine gate_dst (N := 2) rfl ?_); refine xE (N := 2) #[.bool false, .string (⟨#[]⟩ : ByteArray), .string (⟨#[]⟩ : ByteArray)] 25 rfl ?_; intro gb491 hg w4 hbox hb; have BK491 := Aside0.mk (hbox); have GW491 := (xG HB hg); have GE491 := (xG HB hg); replace HB := xS HB hb; have NB490_491 := xL BK490 hg; have NB491_490 := xR BK490 hg; replace BK490 := xB BK490 hb; clear hb hbox hg; have hnb5 := NB490_491.out; have hnc5 := NB491_490.out; have hcz6_0 : w4.cell? ⟨gb490, 0, none⟩ = some (.bool true) := (blk_cell BK490.out 0).trans rfl; have hcz6_1 : w4.cell? ⟨gb490, 1, none⟩ = some (.string a0_1) := (blk_cell BK490.out 1).trans rfl; have hcz6_2 : w4.cell? ⟨gb490, 2, none⟩ = some (.string a0_2) := (blk_cell BK490.out 2).trans rfl; have hfz6_0 := blk_frozen BK490.out 0; have hfz6_1 := blk_frozen BK490.out 1; have hfz6_2 := blk_frozen BK490.out 2; have hcz7_0 : w4.cell? ⟨gb491, 0, none⟩ = some (.bool false) := (blk_cell BK491.out 0).trans rfl; have hcz7_1 : w4.cell? ⟨gb491, 1, none⟩ = some (.string (⟨#[]⟩ : ByteArray)) := (blk_cell BK491.out 1).trans rfl; have hcz7_2 : w4.cell? ⟨gb491, 2, none⟩ = some (.string (⟨#[]⟩ : ByteArray)) := (blk_cell BK491.out 2).trans rfl; have hfz7_0 := blk_frozen BK491.out 0; have hfz7_1 := blk_frozen BK491.out 1; have hfz7_2 := blk_frozen BK491.out 2))
  refine bodyPost_ret (results_cell_row rfl _ _ gb491 25 #[.bool false, .string a0_1, .string a0_2] (0, 0) _ rfl (xp BK491) Tryd.underlying25 rfl (by kernel_rfl)) rfl ?_
  exact ⟨xy, xs HB⟩
 ·replace c2 := Bool.eq_false_iff.mpr c2
  subst c2
  have H1 : (some ((a0_1.toList != ([] : List UInt8)), a0_1, a0_2)) = some (r1, r2, r3) := by rw [if_neg (show ¬ (false = true) by decide)] at H; exact H
  clear H
  have H := H1
  clear H1
  simp only [Option.some.injEq, Prod.mk.injEq] at H
  obtain ⟨rfl, rfl, rfl⟩ := H
  go_enter Tryd.func61, Tryd.ntmps61
  go_wp2_with (first | ((with_reducible refine gate_dst (N := 1) rfl ?_); refine xE (N := 1) #[.bool false, .string a0_1, .string a0_2] 25 rfl ?_; intro gb490 hg w8 hbox hb; have BK490 := Aside0.mk (hbox); have GW490 := (xG HB hg); have GE490 := (xG HB hg); replace HB := xS HB hb; clear hb hbox hg) | ((with_reducible refine gate_dst (N := 2) rfl ?_); refine xE (N := 2) #[.bool false, .string (⟨#[]⟩ : ByteArray), .string (⟨#[]⟩ : ByteArray)] 25 rfl ?_; intro gb491 hg w9 hbox hb; have BK491 := Aside0.mk (hbox); have GW491 := (xG HB hg); have GE491 := (xG HB hg); replace HB := xS HB hb; have NB490_491 := xL BK490 hg; have NB491_490 := xR BK490 hg; replace BK490 := xB BK490 hb; clear hb hbox hg; have hnb10 := NB490_491.out; have hnc10 := NB491_490.out; have hcz11_0 : w9.cell? ⟨gb490, 0, none⟩ = some (.bool false) := (blk_cell BK490.out 0).trans rfl; have hcz11_1 : w9.cell? ⟨gb490, 1, none⟩ = some (.string a0_1) := (blk_cell BK490.out 1).trans rfl; have hcz11_2 : w9.cell? ⟨gb490, 2, none⟩ = some (.string a0_2) := (blk_cell BK490.out 2).trans rfl; have hfz11_0 := blk_frozen BK490.out 0; have hfz11_1 := blk_frozen BK490.out 1; have hfz11_2 := blk_frozen BK490.out 2; have hcz12_0 : w9.cell? ⟨gb491, 0, none⟩ = some (.bool false) := (blk_cell BK491.out 0).trans rfl; have hcz12_1 : w9.cell? ⟨gb491, 1, none⟩ = some (.string (⟨#[]⟩ : ByteArray)) := (blk_cell BK491.out 1).trans rfl; have hcz12_2 : w9.cell? ⟨gb491, 2, none⟩ = some (.string (⟨#[]⟩ : ByteArray)) := (blk_cell BK491.out 2).trans rfl; have hfz12_0 := blk_frozen BK491.out 0; have hfz12_1 := blk_frozen BK491.out 1; have hfz12_2 := blk_frozen BK491.out 2))
  refine bodyPost_ret (results_cell_row rfl _ _ gb491 25 #[.bool (a0_1.toList != ([] : List UInt8)), .string a0_1, .string a0_2] (0, 0) _ rfl (xp BK491) Tryd.underlying25 rfl (by kernel_rfl)) rfl ?_
  exact ⟨xy, xs HB⟩
/-! ### rational_Subtract: function 36 -/
def rational_Subtract.f (k : Nat) (a0_0 : Bool) (a0_1 : ByteArray) (a0_2 : ByteArray) (a1_0 : Bool) (a1_1 : ByteArray) (a1_2 : ByteArray) : Option (Bool × ByteArray × ByteArray) := (rational_clean.f k a0_0 a0_1 a0_2).bind fun bt495 => ((rational_clean.f k a1_0 a1_1 a1_2).bind fun bt498 => ((rational_negate.f bt498.1 bt498.2.1 bt498.2.2).bind fun bt501 => ((rational_add.f k bt495.1 bt495.2.1 bt495.2.2 bt501.1 bt501.2.1 bt501.2.2).bind fun bt504 => (some (bt504.1, bt504.2.1, bt504.2.2)))))
theorem rational_Subtract.mono : ∀ a0 a1 a2 a3 a4 a5 k, LeO (rational_Subtract.f k a0 a1 a2 a3 a4 a5) (rational_Subtract.f (k + 1) a0 a1 a2 a3 a4 a5) := by
 intro a0 a1 a2 a3 a4 a5 k
 unfold rational_Subtract.f
 have m0 := @rational_add.mono; have m1 := @rational_clean.mono; exact xM
set_option maxHeartbeats 8000000 in
set_option maxRecDepth 100000 in
theorem rational_Subtract.calls (k : Nat) (a0_0 : Bool) (a0_1 : ByteArray) (a0_2 : ByteArray) (a1_0 : Bool) (a1_1 : ByteArray) (a1_2 : ByteArray) (r1 : Bool) (r2 : ByteArray) (r3 : ByteArray) (w : World) (h : rational_Subtract.f k a0_0 a0_1 a0_2 a1_0 a1_1 a1_2 = some (r1, r2, r3)) :
  Calls Tryd.prog 36 #[.agg #[.bool a0_0, .string a0_1, .string a0_2], .agg #[.bool a1_0, .string a1_1, .string a1_2]] w fun e w' => e = .returned (.agg #[.bool r1, .string r2, .string r3]) ∧ Below w.heap.size w w' := by
 have hu25 := Tryd.underlying25
 have HB := Aside0.mk (Below.refl w.heap.size w)
 have H : ((rational_clean.f k a0_0 a0_1 a0_2).bind fun bt495 => ((rational_clean.f k a1_0 a1_1 a1_2).bind fun bt498 => ((rational_negate.f bt498.1 bt498.2.1 bt498.2.2).bind fun bt501 => ((rational_add.f k bt495.1 bt495.2.1 bt495.2.2 bt501.1 bt501.2.1 bt501.2.2).bind fun bt504 => (some (bt504.1, bt504.2.1, bt504.2.2)))))) = some (r1, r2, r3) := h
 clear h
 replace H := xH H; obtain ⟨⟨t495, t496, t497⟩, A3, H⟩ := H
 dsimp only at H
 replace H := xH H; obtain ⟨⟨t498, t499, t500⟩, A4, H⟩ := H
 dsimp only at H
 replace H := xH H; obtain ⟨⟨t501, t502, t503⟩, A5, H⟩ := H
 dsimp only at H
 replace H := xH H; obtain ⟨⟨t504, t505, t506⟩, A6, H⟩ := H
 dsimp only at H
 simp only [Option.some.injEq, Prod.mk.injEq] at H
 obtain ⟨rfl, rfl, rfl⟩ := H
 go_enter Tryd.func36, Tryd.ntmps36
 try go_wp2_with (first | ((with_reducible refine gate_dst (N := 2) rfl ?_); refine xE (N := 2) #[.bool a0_0, .string a0_1, .string a0_2] 25 rfl ?_; intro gb492 hg w7 hbox hb; have BK492 := Aside0.mk (hbox); have GW492 := (xG HB hg); have GE492 := (xG HB hg); replace HB := xS HB hb; clear hb hbox hg) | ((with_reducible refine gate_dst (N := 3) rfl ?_); refine xE (N := 3) #[.bool a1_0, .string a1_1, .string a1_2] 25 rfl ?_; intro gb493 hg w8 hbox hb; have BK493 := Aside0.mk (hbox); have GW493 := (xG HB hg); have GE493 := (xG HB hg); replace HB := xS HB hb; have NB492_493 := xL BK492 hg; have NB493_492 := xR BK492 hg; replace BK492 := xB BK492 hb; clear hb hbox hg) | ((with_reducible refine gate_dst (N := 4) rfl ?_); refine xE (N := 4) #[.bool false, .string (⟨#[]⟩ : ByteArray), .string (⟨#[]⟩ : ByteArray)] 25 rfl ?_; intro gb494 hg w9 hbox hb; have BK494 := Aside0.mk (hbox); have GW494 := (xG HB hg); have GE494 := (xG HB hg); replace HB := xS HB hb; have NB492_494 := xL BK492 hg; have NB494_492 := xR BK492 hg; replace BK492 := xB BK492 hb; have NB493_494 := xL BK493 hg; have NB494_493 := xR BK493 hg; replace BK493 := xB BK493 hb; clear hb hbox hg))
 replace BK492 := xD BK492
 replace BK493 := xD BK493
 replace BK494 := xD BK494
 replace HB := xW HB
 refine start_ (n := 7) (S := fun w' => w'.cell? ⟨gb492, 0, none⟩ = some (.bool a0_0) ∧ w'.cell? ⟨gb492, 1, none⟩ = some (.string a0_1) ∧ w'.cell? ⟨gb492, 2, none⟩ = some (.string a0_2) ∧ w'.cell? ⟨gb493, 0, none⟩ = some (.bool a1_0) ∧ w'.cell? ⟨gb493, 1, none⟩ = some (.string a1_1) ∧ w'.cell? ⟨gb493, 2, none⟩ = some (.string a1_2)) (ds := []) #[false, false, false, false, false, false, false] (by kernel_rfl) rfl rfl xV (fun hHeld => ?_)
 generalize w9.drew = w10 at BK492 BK493 BK494 HB hHeld ⊢
 refine xT 0 (some 5) #[true, false, false, false, false, false, false] rfl rfl hHeld ?_
 refine xT 2 (some 7) #[true, false, true, false, false, false, false] rfl rfl hHeld ?_
 refine xO 1 (some 6) #[true, true, true, false, false, false, false] rfl rfl fun K hK => ?_
 refine xc Tryd.func38 (rational_clean.calls k a0_0 a0_1 a0_2 t495 t496 t497 _ A3.out) ?_
 rintro w11 hb
 replace BK492 := xB BK492 hb
 replace BK493 := xB BK493 hb
 replace BK494 := xB BK494 hb
 replace HB := xS HB hb
 clear hb
 refine hK.out _ _ xV (fun hHeld => ?_)
 clear hK K
 refine xN 6 ?_
 refine xO 3 (some 8) #[true, true, true, true, false, false, false] rfl rfl fun K hK => ?_
 refine xc Tryd.func38 (rational_clean.calls k a1_0 a1_1 a1_2 t498 t499 t500 _ A4.out) ?_
 rintro w12 hb
 replace BK492 := xB BK492 hb
 replace BK493 := xB BK493 hb
 replace BK494 := xB BK494 hb
 replace HB := xS HB hb
 clear hb
 refine hK.out _ _ xV (fun hHeld => ?_)
 clear hK K
 refine xN 8 ?_
 refine xO 4 (some 9) #[true, true, true, true, true, false, false] rfl rfl fun K hK => ?_
 refine xc Tryd.func61 (rational_negate.calls t498 t499 t500 t501 t502 t503 _ A5.out) ?_
 rintro w13 hb
 replace BK492 := xB BK492 hb
 replace BK493 := xB BK493 hb
 replace BK494 := xB BK494 hb
 replace HB := xS HB hb
 clear hb
 refine hK.out _ _ xV (fun hHeld => ?_)
 clear hK K
 refine xN 9 ?_
 refine xO 5 (some 10) #[true, true, true, true, true, true, false] rfl rfl fun K hK => ?_
 refine xc Tryd.func46 (rational_add.calls k t495 t496 t497 t501 t502 t503 t504 t505 t506 _ A6.out) ?_
 rintro w14 hb
 replace BK492 := xB BK492 hb
 replace BK493 := xB BK493 hb
 replace BK494 := xB BK494 hb
 replace HB := xS HB hb
 clear hb
 refine hK.out _ _ xV (fun hHeld => ?_)
 clear hK K
 refine xN 10 ?_
 refine xO 6 none #[true, true, true, true, true, true, true] rfl rfl fun K hK => ?_
 have hs15 : w14.cell? ⟨gb494, 0, none⟩ = some (.bool false) := (blk_cell BK494.out 0).trans rfl
 have hfs15 := blk_frozen BK494.out 0
 have hns15_0 := NB492_494.out
 have hns15_1 := NB493_494.out
 have hms15_0 := NB494_492.out
 have hms15_1 := NB494_493.out
 have hs16 : w14.cell? ⟨gb494, 1, none⟩ = some (.string (⟨#[]⟩ : ByteArray)) := (blk_cell BK494.out 1).trans rfl
 have hfs16 := blk_frozen BK494.out 1
 have hns16_0 := NB492_494.out
 have hns16_1 := NB493_494.out
 have hms16_0 := NB494_492.out
 have hms16_1 := NB494_493.out
 have hs17 : w14.cell? ⟨gb494, 2, none⟩ = some (.string (⟨#[]⟩ : ByteArray)) := (blk_cell BK494.out 2).trans rfl
 have hfs17 := blk_frozen BK494.out 2
 have hns17_0 := NB492_494.out
 have hns17_1 := NB493_494.out
 have hms17_0 := NB494_492.out
 have hms17_1 := NB494_493.out
 refine xk ?_
 refine hK.out _ _ ⟨((cell_far (p := ⟨gb494, _, none⟩) NB492_494.out _).trans (((cell_far (p := ⟨gb494, _, none⟩) NB492_494.out _).trans (((cell_far (p := ⟨gb494, _, none⟩) NB492_494.out _).trans (hHeld.1)))))), ((cell_far (p := ⟨gb494, _, none⟩) NB492_494.out _).trans (((cell_far (p := ⟨gb494, _, none⟩) NB492_494.out _).trans (((cell_far (p := ⟨gb494, _, none⟩) NB492_494.out _).trans (hHeld.2.1)))))), ((cell_far (p := ⟨gb494, _, none⟩) NB492_494.out _).trans (((cell_far (p := ⟨gb494, _, none⟩) NB492_494.out _).trans (((cell_far (p := ⟨gb494, _, none⟩) NB492_494.out _).trans (hHeld.2.2.1)))))), ((cell_far (p := ⟨gb494, _, none⟩) NB493_494.out _).trans (((cell_far (p := ⟨gb494, _, none⟩) NB493_494.out _).trans (((cell_far (p := ⟨gb494, _, none⟩) NB493_494.out _).trans (hHeld.2.2.2.1)))))), ((cell_far (p := ⟨gb494, _, none⟩) NB493_494.out _).trans (((cell_far (p := ⟨gb494, _, none⟩) NB493_494.out _).trans (((cell_far (p := ⟨gb494, _, none⟩) NB493_494.out _).trans (hHeld.2.2.2.2.1)))))), ((cell_far (p := ⟨gb494, _, none⟩) NB493_494.out _).trans (((cell_far (p := ⟨gb494, _, none⟩) NB493_494.out _).trans (((cell_far (p := ⟨gb494, _, none⟩) NB493_494.out _).trans (hHeld.2.2.2.2.2))))))⟩ (fun hHeld => ?_)
 clear hK K
 refine done_ (by kernel_rfl) ?_
 try go_wp2
 refine bodyPost_ret (results_cell_row rfl _ _ gb494 25 #[.bool t504, .string t505, .string t506] (0, 0) _ rfl (xp BK494) Tryd.underlying25 rfl (by kernel_rfl)) rfl ?_
 exact ⟨xy, xs HB⟩
end Go.Proofs.YtpoogjcgjpkbeaaDoor.XB
