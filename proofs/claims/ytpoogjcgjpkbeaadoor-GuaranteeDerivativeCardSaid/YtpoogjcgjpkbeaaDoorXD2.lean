/- Walks of functions of the program: a plain Lean function for each, and a proof that a call answers as it says. Written by a program (the kit's print with changes, then shortened). -/
import Derived.Test.YtpoogjcgjpkbeaaDoorXD1
namespace Go.Proofs.YtpoogjcgjpkbeaaDoor.XC
open Go.RowKit Go.Proofs.YtpoogjcgjpkbeaaDoorW.PrintWords Go.Proofs.YtpoogjcgjpkbeaaDoorW.PrintLast Go.Proofs.YtpoogjcgjpkbeaaDoorW.PrintMore Go.Proofs.YtpoogjcgjpkbeaaDoorW.Sq
attribute [local go_sem] max2_int min2_int max_two min_two max_three min_three max_four min_four   -- for this text's walks alone
set_option linter.unusedVariables false
set_option linter.unusedSimpArgs false
/-! ### insolvencyref1_Fraction: function 51 -/
def insolvencyref1_Fraction.f (k : Nat) (a0 : Int) (a1 : Int) : Option (Bool × ByteArray × ByteArray × Bool) := (insolvencyref1_size.f a0).bind fun t221 => ((insolvencyref1_FromUint.f k t221).bind fun t222 => ((insolvencyref1_size.f a1).bind fun t223 => ((insolvencyref1_FromUint.f k t223).bind fun t224 => ((insolvencyref1_Make.f k ((decide (a0 < 0)) != (decide (a1 < 0))) t222 t224).bind fun bt225 => (some (bt225.1, bt225.2.1, bt225.2.2.1, bt225.2.2.2))))))
theorem insolvencyref1_Fraction.mono : ∀ a0 a1 k, LeO (insolvencyref1_Fraction.f k a0 a1) (insolvencyref1_Fraction.f (k + 1) a0 a1) := by
 intro a0 a1 k
 unfold insolvencyref1_Fraction.f
 have m0 := @insolvencyref1_FromUint.mono; have m1 := @insolvencyref1_Make.mono; exact xM
set_option maxHeartbeats 8000000 in
set_option maxRecDepth 100000 in
theorem insolvencyref1_Fraction.calls (k : Nat) (a0 : Int) (a1 : Int) (r1 : Bool) (r2 : ByteArray) (r3 : ByteArray) (r4 : Bool) (w : World) (h : insolvencyref1_Fraction.f k a0 a1 = some (r1, r2, r3, r4)) :
  Calls Tryd.prog 51 #[.int .i64 a0, .int .i64 a1] w fun e w' => e = .returned (.tuple #[.agg #[.bool r1, .string r2, .string r3], .bool r4]) ∧ Below w.heap.size w w' := by
 have hu25 := Tryd.underlying25
 have HB := Aside0.mk (Below.refl w.heap.size w)
 have H : ((insolvencyref1_size.f a0).bind fun t221 => ((insolvencyref1_FromUint.f k t221).bind fun t222 => ((insolvencyref1_size.f a1).bind fun t223 => ((insolvencyref1_FromUint.f k t223).bind fun t224 => ((insolvencyref1_Make.f k ((decide (a0 < 0)) != (decide (a1 < 0))) t222 t224).bind fun bt225 => (some (bt225.1, bt225.2.1, bt225.2.2.1, bt225.2.2.2))))))) = some (r1, r2, r3, r4) := h
 clear h
 replace H := xH H; obtain ⟨t221, A3, H⟩ := H
 replace H := xH H; obtain ⟨t222, A4, H⟩ := H
 replace H := xH H; obtain ⟨t223, A5, H⟩ := H
 replace H := xH H; obtain ⟨t224, A6, H⟩ := H
 replace H := xH H; obtain ⟨⟨t225, t226, t227, t228⟩, A7, H⟩ := H
 dsimp only at H
 simp only [Option.some.injEq, Prod.mk.injEq] at H
 obtain ⟨rfl, rfl, rfl, rfl⟩ := H
 go_enter Tryd.func51, Tryd.ntmps51
 go_wp2_with (first | (refine xE (N := 4) #[.bool false, .string (⟨#[]⟩ : ByteArray), .string (⟨#[]⟩ : ByteArray)] 25 rfl ?_; intro gb220 hg w8 hbox hb; have BK220 := Aside0.mk (hbox); have GW220 := (xG HB hg); have GE220 := (xG HB hg); replace HB := xS HB hb; clear hb hbox hg) | (refine xg Tryd.func82 (some 12) #[.int .i64 a0] ?_; (with_reducible refine (insolvencyref1_size.calls a0 t221 _ A3.out).mono ?_); rintro e w' ⟨rfl, ⟨nd, rfl⟩⟩; refine ⟨_, rfl, ?_⟩; (try (rw [drewN_self w8]; generalize hq_ : World.drewN w8 _ = w8; have n0_ : Aside0 (w8.heap[gb220]? = some (.cells #[.bool false, .string (⟨#[]⟩ : ByteArray), .string (⟨#[]⟩ : ByteArray)] 25 (0, 0))) := ⟨by rw [← hq_]; exact (xb BK220)⟩; have n1_ : Aside0 (Below w.heap.size w w8) := ⟨by rw [← hq_]; exact (xs HB)⟩; clear BK220 HB hq_; have BK220 := n0_; have HB := n1_; clear n0_ n1_))) | (refine xC Tryd.func81 (some 13) (insolvencyref1_FromUint.calls k t221 t222 _ A4.out) ?_; rintro w9 hb; replace BK220 := xB BK220 hb; replace HB := xS HB hb; clear hb) | (refine xg Tryd.func82 (some 15) #[.int .i64 a1] ?_; (with_reducible refine (insolvencyref1_size.calls a1 t223 _ A5.out).mono ?_); rintro e w' ⟨rfl, ⟨nd, rfl⟩⟩; refine ⟨_, rfl, ?_⟩; (try (rw [drewN_self w9]; generalize hq_ : World.drewN w9 _ = w9; have n0_ : Aside0 (w9.heap[gb220]? = some (.cells #[.bool false, .string (⟨#[]⟩ : ByteArray), .string (⟨#[]⟩ : ByteArray)] 25 (0, 0))) := ⟨by rw [← hq_]; exact (xb BK220)⟩; have n1_ : Aside0 (Below w.heap.size w w9) := ⟨by rw [← hq_]; exact (xs HB)⟩; clear BK220 HB hq_; have BK220 := n0_; have HB := n1_; clear n0_ n1_))) | (refine xC Tryd.func81 (some 16) (insolvencyref1_FromUint.calls k t223 t224 _ A6.out) ?_; rintro w10 hb; replace BK220 := xB BK220 hb; replace HB := xS HB hb; clear hb) | (refine xC Tryd.func80 (some 17) (insolvencyref1_Make.calls k ((decide (a0 < 0)) != (decide (a1 < 0))) t222 t224 t225 t226 t227 t228 _ A7.out) ?_; rintro w11 hb; replace BK220 := xB BK220 hb; replace HB := xS HB hb; clear hb; obtain ⟨hcz12_0, hcz12_1, hcz12_2, hfz12_0, hfz12_1, hfz12_2⟩ := x6 BK220))
 (try have eA5_ := Option.some.inj (A3.out.symm.trans A5.out))
 (try have eA6_ := Option.some.inj (A4.out.symm.trans A6.out))
 refine bodyPost_ret (results_ct rfl _ _ gb220 25 #[.bool t225, .string t226, .string t227] (0, 0) _ rfl (xp BK220) Tryd.underlying25 rfl (by kernel_rfl)) rfl ?_
 exact ⟨xy, xs HB⟩
/-! ### insolvencylaw0_Ratio: function 25 -/
def insolvencylaw0_Ratio.f (k : Nat) (a0 : Int) (a1 : Int) : Option (Bool × ByteArray × ByteArray) := (insolvencyref1_Fraction.f k a0 a1).bind fun bt230 => (some (bt230.1, bt230.2.1, bt230.2.2.1))
theorem insolvencylaw0_Ratio.mono : ∀ a0 a1 k, LeO (insolvencylaw0_Ratio.f k a0 a1) (insolvencylaw0_Ratio.f (k + 1) a0 a1) := by
 intro a0 a1 k
 unfold insolvencylaw0_Ratio.f
 have m0 := @insolvencyref1_Fraction.mono; exact xM
set_option maxHeartbeats 8000000 in
set_option maxRecDepth 100000 in
theorem insolvencylaw0_Ratio.calls (k : Nat) (a0 : Int) (a1 : Int) (r1 : Bool) (r2 : ByteArray) (r3 : ByteArray) (w : World) (h : insolvencylaw0_Ratio.f k a0 a1 = some (r1, r2, r3)) :
  Calls Tryd.prog 25 #[.int .i64 a0, .int .i64 a1] w fun e w' => e = .returned (.agg #[.bool r1, .string r2, .string r3]) ∧ Below w.heap.size w w' := by
 have hu25 := Tryd.underlying25
 have HB := Aside0.mk (Below.refl w.heap.size w)
 have H : ((insolvencyref1_Fraction.f k a0 a1).bind fun bt230 => (some (bt230.1, bt230.2.1, bt230.2.2.1))) = some (r1, r2, r3) := h
 clear h
 replace H := xH H; obtain ⟨⟨t230, t231, t232, t233⟩, A3, H⟩ := H
 dsimp only at H
 simp only [Option.some.injEq, Prod.mk.injEq] at H
 obtain ⟨rfl, rfl, rfl⟩ := H
 go_enter Tryd.func25, Tryd.ntmps25
 go_wp2_with (first | (refine xE (N := 4) #[.bool false, .string (⟨#[]⟩ : ByteArray), .string (⟨#[]⟩ : ByteArray)] 25 rfl ?_; intro gb229 hg w4 hbox hb; have BK229 := Aside0.mk (hbox); have GW229 := (xG HB hg); have GE229 := (xG HB hg); replace HB := xS HB hb; clear hb hbox hg) | (refine xC Tryd.func51 (some 10) (insolvencyref1_Fraction.calls k a0 a1 t230 t231 t232 t233 _ A3.out) ?_; rintro w5 hb; replace BK229 := xB BK229 hb; replace HB := xS HB hb; clear hb) | (refine xE (N := 5) #[.bool false, .string (⟨#[]⟩ : ByteArray), .string (⟨#[]⟩ : ByteArray)] 25 rfl ?_; intro gb234 hg w6 hbox hb; have BK234 := Aside0.mk (hbox); have GW234 := (xG HB hg); have GE234 := (xG HB hg); replace HB := xS HB hb; have NB229_234 := xL BK229 hg; have NB234_229 := xR BK229 hg; replace BK229 := xB BK229 hb; clear hb hbox hg; have hnb7 := NB234_229.out; have hnc7 := NB229_234.out; obtain ⟨hcz8_0, hcz8_1, hcz8_2, hfz8_0, hfz8_1, hfz8_2⟩ := x6 BK234; obtain ⟨hcz9_0, hcz9_1, hcz9_2, hfz9_0, hfz9_1, hfz9_2⟩ := x6 BK229))
 refine bodyPost_ret (results_cell_row rfl _ _ gb229 25 #[.bool t230, .string t231, .string t232] (0, 0) _ rfl (xp BK229) Tryd.underlying25 rfl (by kernel_rfl)) rfl ?_
 exact ⟨xy, xs HB⟩
/-! ### insolvencyref1_Int: function 60 -/
def insolvencyref1_Int.f (k : Nat) (a0 : Int) : Option (Bool × ByteArray × ByteArray) := (insolvencyref1_size.f a0).bind fun t236 => ((insolvencyref1_FromUint.f k t236).bind fun t237 => (some (decide (a0 < 0), t237, (⟨#[]⟩ : ByteArray))))
theorem insolvencyref1_Int.mono : ∀ a0 k, LeO (insolvencyref1_Int.f k a0) (insolvencyref1_Int.f (k + 1) a0) := by
 intro a0 k
 unfold insolvencyref1_Int.f
 have m0 := @insolvencyref1_FromUint.mono; exact xM
set_option maxHeartbeats 8000000 in
set_option maxRecDepth 100000 in
theorem insolvencyref1_Int.calls (k : Nat) (a0 : Int) (r1 : Bool) (r2 : ByteArray) (r3 : ByteArray) (w : World) (h : insolvencyref1_Int.f k a0 = some (r1, r2, r3)) :
  Calls Tryd.prog 60 #[.int .i64 a0] w fun e w' => e = .returned (.agg #[.bool r1, .string r2, .string r3]) ∧ Below w.heap.size w w' := by
 have hu25 := Tryd.underlying25
 have HB := Aside0.mk (Below.refl w.heap.size w)
 have H : ((insolvencyref1_size.f a0).bind fun t236 => ((insolvencyref1_FromUint.f k t236).bind fun t237 => (some (decide (a0 < 0), t237, (⟨#[]⟩ : ByteArray))))) = some (r1, r2, r3) := h
 clear h
 replace H := xH H; obtain ⟨t236, A2, H⟩ := H
 replace H := xH H; obtain ⟨t237, A3, H⟩ := H
 simp only [Option.some.injEq, Prod.mk.injEq] at H
 obtain ⟨rfl, rfl, rfl⟩ := H
 go_enter Tryd.func60, Tryd.ntmps60
 go_wp2_with (first | (refine xE (N := 2) #[.bool false, .string (⟨#[]⟩ : ByteArray), .string (⟨#[]⟩ : ByteArray)] 25 rfl ?_; intro gb235 hg w4 hbox hb; have BK235 := Aside0.mk (hbox); have GW235 := (xG HB hg); have GE235 := (xG HB hg); replace HB := xS HB hb; clear hb hbox hg) | (refine xg Tryd.func82 (some 6) #[.int .i64 a0] ?_; (with_reducible refine (insolvencyref1_size.calls a0 t236 _ A2.out).mono ?_); rintro e w' ⟨rfl, ⟨nd, rfl⟩⟩; refine ⟨_, rfl, ?_⟩; (try (rw [drewN_self w4]; generalize hq_ : World.drewN w4 _ = w4; have n0_ : Aside0 (w4.heap[gb235]? = some (.cells #[.bool false, .string (⟨#[]⟩ : ByteArray), .string (⟨#[]⟩ : ByteArray)] 25 (0, 0))) := ⟨by rw [← hq_]; exact (xb BK235)⟩; have n1_ : Aside0 (Below w.heap.size w w4) := ⟨by rw [← hq_]; exact (xs HB)⟩; clear BK235 HB hq_; have BK235 := n0_; have HB := n1_; clear n0_ n1_))) | (refine xC Tryd.func81 (some 7) (insolvencyref1_FromUint.calls k t236 t237 _ A3.out) ?_; rintro w5 hb; replace BK235 := xB BK235 hb; replace HB := xS HB hb; clear hb; obtain ⟨hcz6_0, hcz6_1, hcz6_2, hfz6_0, hfz6_1, hfz6_2⟩ := x6 BK235))
 refine bodyPost_ret (results_cell_row rfl _ _ gb235 25 #[.bool (decide (a0 < 0)), .string t237, .string (⟨#[]⟩ : ByteArray)] (0, 0) _ rfl (xp BK235) Tryd.underlying25 rfl (by kernel_rfl)) rfl ?_
 exact ⟨xy, xs HB⟩
/-! ### insolvencylaw0_Whole: function 34 -/
def insolvencylaw0_Whole.f (k : Nat) (a0 : Int) : Option (Bool × ByteArray × ByteArray) := (insolvencyref1_Int.f k a0).bind fun bt239 => (some (bt239.1, bt239.2.1, bt239.2.2))
theorem insolvencylaw0_Whole.mono : ∀ a0 k, LeO (insolvencylaw0_Whole.f k a0) (insolvencylaw0_Whole.f (k + 1) a0) := by
 intro a0 k
 unfold insolvencylaw0_Whole.f
 have m0 := @insolvencyref1_Int.mono; exact xM
set_option maxHeartbeats 8000000 in
set_option maxRecDepth 100000 in
theorem insolvencylaw0_Whole.calls (k : Nat) (a0 : Int) (r1 : Bool) (r2 : ByteArray) (r3 : ByteArray) (w : World) (h : insolvencylaw0_Whole.f k a0 = some (r1, r2, r3)) :
  Calls Tryd.prog 34 #[.int .i64 a0] w fun e w' => e = .returned (.agg #[.bool r1, .string r2, .string r3]) ∧ Below w.heap.size w w' := by
 have hu25 := Tryd.underlying25
 have HB := Aside0.mk (Below.refl w.heap.size w)
 have H : ((insolvencyref1_Int.f k a0).bind fun bt239 => (some (bt239.1, bt239.2.1, bt239.2.2))) = some (r1, r2, r3) := h
 clear h
 replace H := xH H; obtain ⟨⟨t239, t240, t241⟩, A2, H⟩ := H
 dsimp only at H
 simp only [Option.some.injEq, Prod.mk.injEq] at H
 obtain ⟨rfl, rfl, rfl⟩ := H
 go_enter Tryd.func34, Tryd.ntmps34
 go_wp2_with (first | (refine xE (N := 2) #[.bool false, .string (⟨#[]⟩ : ByteArray), .string (⟨#[]⟩ : ByteArray)] 25 rfl ?_; intro gb238 hg w3 hbox hb; have BK238 := Aside0.mk (hbox); have GW238 := (xG HB hg); have GE238 := (xG HB hg); replace HB := xS HB hb; clear hb hbox hg) | (refine xC Tryd.func60 (some 4) (insolvencyref1_Int.calls k a0 t239 t240 t241 _ A2.out) ?_; rintro w4 hb; replace BK238 := xB BK238 hb; replace HB := xS HB hb; clear hb; obtain ⟨hcz5_0, hcz5_1, hcz5_2, hfz5_0, hfz5_1, hfz5_2⟩ := x6 BK238))
 refine bodyPost_ret (results_cell_row rfl _ _ gb238 25 #[.bool t239, .string t240, .string t241] (0, 0) _ rfl (xp BK238) Tryd.underlying25 rfl (by kernel_rfl)) rfl ?_
 exact ⟨xy, xs HB⟩
/-! ### insolvencylaw0_Amount: function 10 -/
def insolvencylaw0_Amount.f (k : Nat) (a0 : Int) : Option (Bool × ByteArray × ByteArray) := if (Int.tmod a0 5) = 0 then ((insolvencylaw0_Ratio.f k (wrap64 (Int.tmod (IntKind.u16.wrap (Int.tdiv a0 5)) 23)) (wrap64 (1 + (wrap64 (Int.tmod (IntKind.u16.wrap (Int.tdiv a0 115)) 6))))).bind fun bt243 => (some (bt243.1, bt243.2.1, bt243.2.2))) else (if (Int.tmod a0 5) = 1 then ((insolvencylaw0_Whole.f k (wrap64 (10 * (wrap64 (Int.tmod (IntKind.u16.wrap (Int.tdiv a0 5)) 4))))).bind fun bt246 => (some (bt246.1, bt246.2.1, bt246.2.2))) else ((insolvencylaw0_Whole.f k (wrap64 (Int.tmod (IntKind.u16.wrap (Int.tdiv a0 5)) 13))).bind fun bt249 => (some (bt249.1, bt249.2.1, bt249.2.2))))
theorem insolvencylaw0_Amount.mono : ∀ a0 k, LeO (insolvencylaw0_Amount.f k a0) (insolvencylaw0_Amount.f (k + 1) a0) := by
 intro a0 k
 unfold insolvencylaw0_Amount.f
 have m0 := @insolvencylaw0_Ratio.mono; have m1 := @insolvencylaw0_Whole.mono; exact xM
set_option maxHeartbeats 8000000 in
set_option maxRecDepth 100000 in
theorem insolvencylaw0_Amount.calls (k : Nat) (a0 : Int) (r1 : Bool) (r2 : ByteArray) (r3 : ByteArray) (w : World) (h : insolvencylaw0_Amount.f k a0 = some (r1, r2, r3)) :
  Calls Tryd.prog 10 #[.int .u16 a0] w fun e w' => e = .returned (.agg #[.bool r1, .string r2, .string r3]) ∧ Below w.heap.size w w' := by
 have hu25 := Tryd.underlying25
 have HB := Aside0.mk (Below.refl w.heap.size w)
 have H : (if (Int.tmod a0 5) = 0 then ((insolvencylaw0_Ratio.f k (wrap64 (Int.tmod (IntKind.u16.wrap (Int.tdiv a0 5)) 23)) (wrap64 (1 + (wrap64 (Int.tmod (IntKind.u16.wrap (Int.tdiv a0 115)) 6))))).bind fun bt243 => (some (bt243.1, bt243.2.1, bt243.2.2))) else (if (Int.tmod a0 5) = 1 then ((insolvencylaw0_Whole.f k (wrap64 (10 * (wrap64 (Int.tmod (IntKind.u16.wrap (Int.tdiv a0 5)) 4))))).bind fun bt246 => (some (bt246.1, bt246.2.1, bt246.2.2))) else ((insolvencylaw0_Whole.f k (wrap64 (Int.tmod (IntKind.u16.wrap (Int.tdiv a0 5)) 13))).bind fun bt249 => (some (bt249.1, bt249.2.1, bt249.2.2))))) = some (r1, r2, r3) := h
 clear h
 by_cases c2 : (Int.tmod a0 5) = 0
 ·rw [if_pos c2] at H
  have c2b0 : ((Int.tmod a0 5) == 0) = true := beq_iff_eq.mpr c2
  have c2b1 : ((Int.tmod a0 5) != 0) = false := bne_eq_false_iff_eq.mpr c2
  clear c2
  replace H := xH H; obtain ⟨⟨t243, t244, t245⟩, A3, H⟩ := H
  dsimp only at H
  simp only [Option.some.injEq, Prod.mk.injEq] at H
  obtain ⟨rfl, rfl, rfl⟩ := H
  go_enter Tryd.func10, Tryd.ntmps10
  go_wp2_with (first | (refine xE (N := 2) #[.bool false, .string (⟨#[]⟩ : ByteArray), .string (⟨#[]⟩ : ByteArray)] 25 rfl ?_; intro gb242 hg w4 hbox hb; have BK242 := Aside0.mk (hbox); have GW242 := (xG HB hg); have GE242 := (xG HB hg); replace HB := xS HB hb; clear hb hbox hg) | (refine xC Tryd.func25 (some 16) (insolvencylaw0_Ratio.calls k (wrap64 (Int.tmod (IntKind.u16.wrap (Int.tdiv a0 5)) 23)) (wrap64 (1 + (wrap64 (Int.tmod (IntKind.u16.wrap (Int.tdiv a0 115)) 6)))) t243 t244 t245 _ A3.out) ?_; rintro w5 hb; replace BK242 := xB BK242 hb; replace HB := xS HB hb; clear hb; obtain ⟨hcz6_0, hcz6_1, hcz6_2, hfz6_0, hfz6_1, hfz6_2⟩ := x6 BK242))
  refine bodyPost_ret (results_cell_row rfl _ _ gb242 25 #[.bool t243, .string t244, .string t245] (0, 0) _ rfl (xp BK242) Tryd.underlying25 rfl (by kernel_rfl)) rfl ?_
  exact ⟨xy, xs HB⟩
 ·rw [if_neg c2] at H
  have c2b0 : ((Int.tmod a0 5) == 0) = false := beq_eq_false_iff_ne.mpr c2
  have c2b1 : ((Int.tmod a0 5) != 0) = true := bne_iff_ne.mpr c2
  by_cases c7 : (Int.tmod a0 5) = 1
  ·rw [if_pos c7] at H
   have c7b0 : ((Int.tmod a0 5) == 1) = true := beq_iff_eq.mpr c7
   have c7b1 : ((Int.tmod a0 5) != 1) = false := bne_eq_false_iff_eq.mpr c7
   clear c7
   replace H := xH H; obtain ⟨⟨t246, t247, t248⟩, A8, H⟩ := H
   dsimp only at H
   simp only [Option.some.injEq, Prod.mk.injEq] at H
   obtain ⟨rfl, rfl, rfl⟩ := H
   go_enter Tryd.func10, Tryd.ntmps10
   go_wp2_with (first | (refine xE (N := 2) #[.bool false, .string (⟨#[]⟩ : ByteArray), .string (⟨#[]⟩ : ByteArray)] 25 rfl ?_; intro gb242 hg w9 hbox hb; have BK242 := Aside0.mk (hbox); have GW242 := (xG HB hg); have GE242 := (xG HB hg); replace HB := xS HB hb; clear hb hbox hg) | (refine xC Tryd.func34 (some 24) (insolvencylaw0_Whole.calls k (wrap64 (10 * (wrap64 (Int.tmod (IntKind.u16.wrap (Int.tdiv a0 5)) 4)))) t246 t247 t248 _ A8.out) ?_; rintro w10 hb; replace BK242 := xB BK242 hb; replace HB := xS HB hb; clear hb; obtain ⟨hcz11_0, hcz11_1, hcz11_2, hfz11_0, hfz11_1, hfz11_2⟩ := x6 BK242))
   refine bodyPost_ret (results_cell_row rfl _ _ gb242 25 #[.bool t246, .string t247, .string t248] (0, 0) _ rfl (xp BK242) Tryd.underlying25 rfl (by kernel_rfl)) rfl ?_
   exact ⟨xy, xs HB⟩
  ·rw [if_neg c7] at H
   have c7b0 : ((Int.tmod a0 5) == 1) = false := beq_eq_false_iff_ne.mpr c7
   have c7b1 : ((Int.tmod a0 5) != 1) = true := bne_iff_ne.mpr c7
   replace H := xH H; obtain ⟨⟨t249, t250, t251⟩, A12, H⟩ := H
   dsimp only at H
   simp only [Option.some.injEq, Prod.mk.injEq] at H
   obtain ⟨rfl, rfl, rfl⟩ := H
   go_enter Tryd.func10, Tryd.ntmps10
   go_wp2_with (first | (refine xE (N := 2) #[.bool false, .string (⟨#[]⟩ : ByteArray), .string (⟨#[]⟩ : ByteArray)] 25 rfl ?_; intro gb242 hg w13 hbox hb; have BK242 := Aside0.mk (hbox); have GW242 := (xG HB hg); have GE242 := (xG HB hg); replace HB := xS HB hb; clear hb hbox hg) | (refine xC Tryd.func34 (some 29) (insolvencylaw0_Whole.calls k (wrap64 (Int.tmod (IntKind.u16.wrap (Int.tdiv a0 5)) 13)) t249 t250 t251 _ A12.out) ?_; rintro w14 hb; replace BK242 := xB BK242 hb; replace HB := xS HB hb; clear hb; obtain ⟨hcz15_0, hcz15_1, hcz15_2, hfz15_0, hfz15_1, hfz15_2⟩ := x6 BK242))
   refine bodyPost_ret (results_cell_row rfl _ _ gb242 25 #[.bool t249, .string t250, .string t251] (0, 0) _ rfl (xp BK242) Tryd.underlying25 rfl (by kernel_rfl)) rfl ?_
   exact ⟨xy, xs HB⟩
/-! ### insolvencylaw0_Amounts: function 11 -/
def insolvencylaw0_Amounts.l0 : Nat → List Int → Int → List (S25) → Int → Option ((List (S25)))
 | 0, _, _, _, _ => none
 | k + 1, x0, x1, x5, x6 => if x6 < (x0.length : Int) then (if x6 < x1 then (if 0 ≤ x6 then ((insolvencylaw0_Amount.f k (rd x0 x6)).bind fun bt253 => (if x5.length < 3518437208883 then (insolvencylaw0_Amounts.l0 k x0 x1 (x5 ++ [(⟨bt253.1, bt253.2.1, bt253.2.2⟩ : S25)]) (wrap64 (x6 + 1))) else (none))) else (none)) else (some x5)) else (some x5)
def insolvencylaw0_Amounts.f (k : Nat) (l0 : List Int) (a1 : Int) : Option ((List (S25))) := insolvencylaw0_Amounts.l0 k l0 a1 ([] : List (S25)) 0
theorem insolvencylaw0_Amounts.mono_l : ∀ k, (∀ y0 y1 y2 y3, LeO (insolvencylaw0_Amounts.l0 k y0 y1 y2 y3) (insolvencylaw0_Amounts.l0 (k + 1) y0 y1 y2 y3))
 | 0 => fun _ _ _ _ r h => by simp [insolvencylaw0_Amounts.l0] at h
 | k + 1 => by
  have ih0 := insolvencylaw0_Amounts.mono_l k
  ·intro y0 y1 y2 y3
   unfold insolvencylaw0_Amounts.l0
   have m0 := @ih0; have m1 := @insolvencylaw0_Amount.mono; exact xM
theorem insolvencylaw0_Amounts.mono : ∀ a0 a1 k, LeO (insolvencylaw0_Amounts.f k a0 a1) (insolvencylaw0_Amounts.f (k + 1) a0 a1) := by
 intro a0 a1 k
 have ih0 := insolvencylaw0_Amounts.mono_l k
 unfold insolvencylaw0_Amounts.f
 have m0 := @ih0; have m1 := @insolvencylaw0_Amount.mono; exact xM
set_option maxHeartbeats 8000000 in
set_option maxRecDepth 100000 in
theorem insolvencylaw0_Amounts.calls (k : Nat) (A0 : Option Addr) (c0 : Nat) (l0 : List Int) (a1 : Int) (r : List (S25)) (w : World) (hr0 : Kd.C (Kd.int .u16) w A0 l0.length l0) (hc0 : l0.length ≤ c0) (h : insolvencylaw0_Amounts.f k l0 a1 = some r) :
  Calls Tryd.prog 11 #[.slice A0 l0.length c0, .int .i64 a1] w fun e w' => ∃ v0_ : Value, e = .returned (v0_) ∧ Kd.R k25 25 w' w.heap.size (fun _ => True) v0_ r ∧ Below w.heap.size w w' := by
 have HR0 := Aside0.mk hr0
 have HC0 := Aside0.mk hc0
 clear hr0 hc0
 have HB := Aside0.mk (Below.refl w.heap.size w)
 have H : (insolvencylaw0_Amounts.l0 k l0 a1 ([] : List (S25)) 0) = some r := h
 clear h
 have H' := Aside0.mk H
 clear H
 go_enter Tryd.func11, Tryd.ntmps11
 go_wp2
 go_loopg [5, 6] k (fun kq v5 v6 w' => ∃ (x5_1 : List (S25)) (x6_1 : Int), v6 = .int .i64 x6_1 ∧ Aside0 (insolvencylaw0_Amounts.l0 kq l0 a1 x5_1 x6_1 = some r) ∧ Aside0 (kq ≤ k) ∧ Aside0 (Kd.R k25 25 w' w.heap.size (fun _ => True) v5 x5_1) ∧ Aside0 (Below w.heap.size w w'))
 case atStart => exact ⟨(([] : List (S25))), (0), xz, H', ⟨Nat.le_refl _⟩, ⟨by first | exact Kd.R_nil _ _ _ _ _ | exact Kd.N_nil _ _ _ _ _ | exact Kd.V_nil _ _ _ _ _ | exact Kd.Q_nil _ _ _ _ _ | exact Kd.S_nil _ _ _ _ _⟩, ⟨xs HB⟩⟩
 case round =>
  clear H'
  try clear c1
  try clear p2
  obtain ⟨x5_1, x6_1, rfl, HA, HK1, HO_5, HB⟩ := hrel
  cases gk with
  | zero => exact absurd HA.out (by simp [insolvencylaw0_Amounts.l0])
  | succ k1 =>
   have H := HA.out
   clear HA
   simp only [insolvencylaw0_Amounts.l0] at H
   by_cases c3 : x6_1 < (l0.length : Int)
   ·rw [if_pos c3] at H
    have c3b0 : decide (x6_1 < (l0.length : Int)) = true := decide_eq_true c3
    clear c3
    by_cases c4 : x6_1 < a1
    ·rw [if_pos c4] at H
     have c4b0 : decide (x6_1 < a1) = true := decide_eq_true c4
     clear c4
     by_cases c5 : 0 ≤ x6_1
     rotate_left
     ·rw [if_neg c5] at H
      exact absurd H (by simp)
     rw [if_pos c5] at H
     have c5b0 : decide (0 ≤ x6_1) = true := decide_eq_true c5
     clear c5
     replace H := xH H; obtain ⟨⟨t253, t254, t255⟩, A6, H⟩ := H
     dsimp only at H
     by_cases c7 : x5_1.length < 3518437208883
     rotate_left
     ·rw [if_neg c7] at H
      exact absurd H (by simp)
     rw [if_pos c7] at H
     have LMc7 := Aside0.mk c7
     clear c7
     obtain ⟨y256, hy256⟩ : ∃ y_ : List (S25), y_ = (x5_1 ++ [(⟨t253, t254, t255⟩ : S25)]) := ⟨_, rfl⟩
     replace H : (insolvencylaw0_Amounts.l0 k1 l0 a1 y256 (wrap64 (x6_1 + 1))) = some r := by first | (rw [hy256]; with_reducible exact H) | (have H2_ := (Option.bind_some _ _).symm.trans H; rw [hy256]; with_reducible exact H2_) | (have H2_ := (Option.bind_some _ _).symm.trans H; with_reducible exact H2_) | with_reducible exact H | (rw [hy256]; exact H) | exact H
     have Ny256 := Aside0.mk hy256
     clear hy256
     have H' := Aside0.mk H
     clear H
     have p252 : 0 ≤ (x6_1 : Int) := xa
     have q252 : x6_1 < (l0.length : Int) := xa
     obtain ⟨ad252, e252, hx252_0⟩ := Kd.at_int HR0.out x6_1 p252 q252
     cases e252
     (try replace hx252_0 := (HB.out.cell (World.block_lt_of_cell? w _ hx252_0)).trans hx252_0)
     replace p252 := eq_true p252
     replace q252 := eq_true q252
     go_wp2_with (first | (refine xC Tryd.func10 (some 23) (insolvencylaw0_Amount.calls k1 (rd l0 x6_1) t253 t254 t255 _ A6.out) ?_; rintro w8 hb; replace HO_5 := Aside0.mk (Kd.R_below (xr HO_5.out) hb); replace HB := xS HB hb; clear hb) | ((with_reducible refine gate_builtin (b := .append) (xs := #[.tmp 18, .tmp 24]) rfl ?_); at_builtin; refine Kd.R_append k25 (w0 := w) w.heap.size rfl (.tmp 18) (.tmp 24) 27 25 (.agg #[(.bool false), (.string ⟨#[]⟩), (.string ⟨#[]⟩)]) 40 rfl Tryd.underlying27 info25 rfl (by decide) (by omega) u5 x5_1 (⟨t253, t254, t255⟩ : S25) [.bool t253, .string t254, .string t255] (fun _ => True) (fun _ => False) rfl rfl ?aP (fun _ hk => hk.elim) ?aF ?aO ?aB ?aS ?aL ?_; (case aP => exact k25_mkM _ _ _ (⟨t253, t254, t255⟩ : S25)); (case aB => exact (xs HB)); (case aF => exact (fun _ _ => trivial)); (case aO => exact (xr HO_5.out)); (case aS => exact (below_size (xs HB))); (case aL => have := LMc7.out; omega); intro v257 w9 ho hb hg hat; rw [← Ny256.out] at ho; replace HB := Aside0.mk (hb); have HO258 := Aside0.mk (ho); clear HO_5 ho hb hg hat))
     (first | go_roundg k1 | (refine Handed.intro k1 ?measure ?_; rotate_left; go_step; (repeat apply Exists.intro); refine ⟨?rel, (by first | rfl | (simp only [add_plain]; rfl))⟩))
     case measure => have := HK1.out; omega
     case rel => exact ⟨(y256), (wrap64 (x6_1 + 1)), xz, H', ⟨by have := HK1.out; omega⟩, ⟨xr HO258.out⟩, ⟨xs HB⟩⟩
    ·rw [if_neg c4] at H
     have c4b0 : decide (x6_1 < a1) = false := decide_eq_false c4
     clear c4
     obtain rfl := Option.some.inj H
     go_wp2
     go_ret
     exact ⟨_, xy, by (with_reducible repeat (first | apply Kd.R_alloc | apply Kd.R_drewN | apply Kd.R_drew)); exact HO_5.out, xs HB⟩
   ·rw [if_neg c3] at H
    have c3b0 : decide (x6_1 < (l0.length : Int)) = false := decide_eq_false c3
    clear c3
    obtain rfl := Option.some.inj H
    go_wp2
    go_ret
    exact ⟨_, xy, by (with_reducible repeat (first | apply Kd.R_alloc | apply Kd.R_drewN | apply Kd.R_drew)); exact HO_5.out, xs HB⟩
/-! ### strings_trimLeftByte: function 104 -/
def strings_trimLeftByte.l0 : Nat → ByteArray → Int → Option (ByteArray)
 | 0, _, _ => none
 | k + 1, x0, x1 => if (x0.size : Int) > 0 then (if 0 < (x0.size : Int) then (if (bt x0 0) = x1 then (if 1 ≤ (x0.size : Int) then (strings_trimLeftByte.l0 k (x0.extract 1 x0.size) x1) else (none)) else (some x0)) else (none)) else (some x0)
def strings_trimLeftByte.f (k : Nat) (a0 : ByteArray) (a1 : Int) : Option (ByteArray) := strings_trimLeftByte.l0 k a0 a1
theorem strings_trimLeftByte.mono_l : ∀ k, (∀ y0 y1, LeO (strings_trimLeftByte.l0 k y0 y1) (strings_trimLeftByte.l0 (k + 1) y0 y1))
 | 0 => fun _ _ r h => by simp [strings_trimLeftByte.l0] at h
 | k + 1 => by
  have ih0 := strings_trimLeftByte.mono_l k
  ·intro y0 y1
   unfold strings_trimLeftByte.l0
   have m0 := @ih0; exact xM
theorem strings_trimLeftByte.mono : ∀ a0 a1 k, LeO (strings_trimLeftByte.f k a0 a1) (strings_trimLeftByte.f (k + 1) a0 a1) := by
 intro a0 a1 k
 have ih0 := strings_trimLeftByte.mono_l k
 unfold strings_trimLeftByte.f
 have m0 := @ih0; exact xM
set_option maxHeartbeats 8000000 in
set_option maxRecDepth 100000 in
theorem strings_trimLeftByte.calls (k : Nat) (a0 : ByteArray) (a1 : Int) (r : ByteArray) (w : World) (h : strings_trimLeftByte.f k a0 a1 = some r) :
  Calls Tryd.prog 104 #[.string a0, .int .u8 a1] w fun e w' => e = .returned (.string r) ∧ Drawn0 w w' := by
 have H : (strings_trimLeftByte.l0 k a0 a1) = some r := h
 clear h
 have H' := Aside0.mk H
 clear H
 go_enter Tryd.func104, Tryd.ntmps104
 go_wp2
 go_loopg [0] k (fun kq v0 w' => ∃ (x0_1 : ByteArray), v0 = .string x0_1 ∧ Aside0 (strings_trimLeftByte.l0 kq x0_1 a1 = some r) ∧ Aside0 (kq ≤ k) ∧ Drawn0 w w')
 case atStart => exact ⟨(a0), xz, H', ⟨Nat.le_refl _⟩, xd⟩
 case round =>
  clear H'
  try clear c1
  try clear p2
  obtain ⟨x0_1, rfl, HA, HK1, ⟨m1, rfl⟩⟩ := hrel
  cases gk with
  | zero => exact absurd HA.out (by simp [strings_trimLeftByte.l0])
  | succ k1 =>
   have H := HA.out
   clear HA
   simp only [strings_trimLeftByte.l0] at H
   by_cases c3 : (x0_1.size : Int) > 0
   ·rw [if_pos c3] at H
    have c3b0 : decide (0 < (x0_1.size : Int)) = true := decide_eq_true c3
    have c3b1 : decide (0 < x0_1.size) = true := decide_eq_true (by omega)
    clear c3
    by_cases c4 : 0 < (x0_1.size : Int)
    rotate_left
    ·rw [if_neg c4] at H
     exact absurd H (by simp)
    rw [if_pos c4] at H
    have c4b0 : decide (0 < (x0_1.size : Int)) = true := decide_eq_true c4
    have c4b1 : decide (0 < x0_1.size) = true := decide_eq_true (by omega)
    clear c4
    by_cases c6 : (bt x0_1 0) = a1
    ·rw [if_pos c6] at H
     have c6b0 : ((bt x0_1 0) == a1) = true := beq_iff_eq.mpr c6
     have c6b1 : ((bt x0_1 0) != a1) = false := bne_eq_false_iff_eq.mpr c6
     clear c6
     by_cases c7 : 1 ≤ (x0_1.size : Int)
     rotate_left
     ·rw [if_neg c7] at H
      exact absurd H (by simp)
     rw [if_pos c7] at H
     have c7b0 := eq_true c7
     have c7b1 : decide (1 ≤ (x0_1.size : Int)) = true := decide_eq_true c7
     clear c7
     have H' := Aside0.mk H
     clear H
     have p5 : 0 ≤ (0 : Int) := (by omega)
     have q5 : 0 < x0_1.size := (by have : (0 : Int) < (x0_1.size : Int) := xa; omega)
     have hx5 : ∀ h : 0 < x0_1.size, ((x0_1[0]'h).toNat : Int) = bt x0_1 0 := bt_at x0_1 0
     clear p5
     have qi5 : (0 < (x0_1.size : Int)) = True := eq_true (xa)
     replace q5 := eq_true q5
     go_wp2
     (first | go_roundg k1 | (refine Handed.intro k1 ?measure ?_; rotate_left; go_step; (repeat apply Exists.intro); refine ⟨?rel, (by first | rfl | (simp only [add_plain]; rfl))⟩))
     case measure => have := HK1.out; omega
     case rel => exact ⟨(x0_1.extract 1 x0_1.size), xz, H', ⟨by have := HK1.out; omega⟩, xd⟩
    ·rw [if_neg c6] at H
     have c6b0 : ((bt x0_1 0) == a1) = false := beq_eq_false_iff_ne.mpr c6
     have c6b1 : ((bt x0_1 0) != a1) = true := bne_iff_ne.mpr c6
     obtain rfl := Option.some.inj H
     have p5 : 0 ≤ (0 : Int) := (by omega)
     have q5 : 0 < x0_1.size := (by have : (0 : Int) < (x0_1.size : Int) := xa; omega)
     have hx5 : ∀ h : 0 < x0_1.size, ((x0_1[0]'h).toNat : Int) = bt x0_1 0 := bt_at x0_1 0
     clear p5
     have qi5 : (0 < (x0_1.size : Int)) = True := eq_true (xa)
     replace q5 := eq_true q5
     go_wp2
     go_ret
     exact ⟨xz, xd⟩
   ·rw [if_neg c3] at H
    have c3b0 : decide (0 < (x0_1.size : Int)) = false := decide_eq_false c3
    have c3b1 : decide (0 < x0_1.size) = false := decide_eq_false (by omega)
    clear c3
    obtain rfl := Option.some.inj H
    go_wp2
    go_ret
    exact ⟨xz, xd⟩
-- NOT PRINTED: function 105 (strings_makeASCIISet)
-- NOT PRINTED: function 115 (strings_asciiSet_contains)
-- NOT PRINTED: function 106 (strings_trimLeftASCII)
-- NOT PRINTED: function 119 (utf8_decodeRuneInStringSlow)
-- NOT PRINTED: function 116 (utf8_DecodeRuneInString)
-- NOT PRINTED: function 126 (bytealg_IndexByteString)
-- NOT PRINTED: function 125 (stringslite_IndexByte)
-- NOT PRINTED: function 121 (strings_IndexByte)
/-! ### strings_TrimLeft: function 96 -/
mutual
def strings_TrimLeft.j0 : Nat → ByteArray → ByteArray → Bool → Option (ByteArray)
 | 0, _, _, _ => none
 | k + 1, x0, x1, x12 => if x12 = true then (some x0) else (if (x1.size : Int) = 1 then (if 0 < (x1.size : Int) then (strings_TrimLeft.j1 k x0 x1 (decide ((bt x1 0) < 128))) else (none)) else (strings_TrimLeft.j1 k x0 x1 false))
def strings_TrimLeft.j1 : Nat → ByteArray → ByteArray → Bool → Option (ByteArray)
 | 0, _, _, _ => none
 | k + 1, x0, x1, x21 => if x21 = true then (if 0 < (x1.size : Int) then ((strings_trimLeftByte.f k x0 (bt x1 0)).bind fun t259 => (some t259)) else (none)) else (none)
end
def strings_TrimLeft.f (k : Nat) (a0 : ByteArray) (a1 : ByteArray) : Option (ByteArray) := if a0.toList = ([] : List UInt8) then (strings_TrimLeft.j0 k a0 a1 true) else (strings_TrimLeft.j0 k a0 a1 (a1.toList == ([] : List UInt8)))
theorem strings_TrimLeft.mono_l : ∀ k, (∀ y0 y1 y2, LeO (strings_TrimLeft.j0 k y0 y1 y2) (strings_TrimLeft.j0 (k + 1) y0 y1 y2)) ∧ (∀ y0 y1 y2, LeO (strings_TrimLeft.j1 k y0 y1 y2) (strings_TrimLeft.j1 (k + 1) y0 y1 y2))
 | 0 => ⟨fun _ _ _ r h => by simp [strings_TrimLeft.j0] at h, fun _ _ _ r h => by simp [strings_TrimLeft.j1] at h⟩
 | k + 1 => by
  obtain ⟨ih0, ih1⟩ := strings_TrimLeft.mono_l k
  refine ⟨?_, ?_⟩
  ·intro y0 y1 y2
   unfold strings_TrimLeft.j0
   have m0 := @ih0; have m1 := @ih1; have m2 := @strings_trimLeftByte.mono; exact xM
  ·intro y0 y1 y2
   unfold strings_TrimLeft.j1
   have m0 := @ih0; have m1 := @ih1; have m2 := @strings_trimLeftByte.mono; exact xM
theorem strings_TrimLeft.mono : ∀ a0 a1 k, LeO (strings_TrimLeft.f k a0 a1) (strings_TrimLeft.f (k + 1) a0 a1) := by
 intro a0 a1 k
 obtain ⟨ih0, ih1⟩ := strings_TrimLeft.mono_l k
 unfold strings_TrimLeft.f
 have m0 := @ih0; have m1 := @ih1; have m2 := @strings_trimLeftByte.mono; exact xM
set_option maxHeartbeats 8000000 in
set_option maxRecDepth 100000 in
theorem strings_TrimLeft.calls (k : Nat) (a0 : ByteArray) (a1 : ByteArray) (r : ByteArray) (w : World) (h : strings_TrimLeft.f k a0 a1 = some r) :
  Calls Tryd.prog 96 #[.string a0, .string a1] w fun e w' => e = .returned (.string r) ∧ Below w.heap.size w w' := by
 have HB := Aside0.mk (Below.refl w.heap.size w)
 have H : (if a0.toList = ([] : List UInt8) then (strings_TrimLeft.j0 k a0 a1 true) else (strings_TrimLeft.j0 k a0 a1 (a1.toList == ([] : List UInt8)))) = some r := h
 clear h
 have HC3 := Aside0.mk H
 clear H
 go_enter Tryd.func96, Tryd.ntmps96
 go_upto_region 1 with (fail)
 repeat (go_quiet (fail); go_upto_region 1 with (fail))
 go_cut [12] (fun v12 wc => ∃ (kq : Nat) (x12_2 : Bool), v12 = .bool x12_2 ∧ Aside0 (strings_TrimLeft.j0 kq a0 a1 x12_2 = some r) ∧ Aside0 (kq ≤ k) ∧ Aside0 (Below w.heap.size w wc))
 case first =>
  have H := HC3.out
  clear HC3
  by_cases c4 : a0.toList = ([] : List UInt8)
  ·rw [if_pos c4] at H
   have c4b0 : (a0.toList == ([] : List UInt8)) = true := beq_iff_eq.mpr c4
   have c4b1 : (a0.toList != ([] : List UInt8)) = false := bne_eq_false_iff_eq.mpr c4
   clear c4
   (first | rw [c4b0] | (simp only [i64_w, i32_w]; rw [c4b0]) | rw [c4b1] | skip)
   have H' := Aside0.mk H
   clear H
   go_wp2
   go_meet
   case rel => exact ⟨_, (true), xz, H', ⟨by first | omega | exact Nat.le_refl _⟩, ⟨xs HB⟩⟩
  ·rw [if_neg c4] at H
   have c4b0 : (a0.toList == ([] : List UInt8)) = false := beq_eq_false_iff_ne.mpr c4
   have c4b1 : (a0.toList != ([] : List UInt8)) = true := bne_iff_ne.mpr c4
   (first | rw [c4b0] | (simp only [i64_w, i32_w]; rw [c4b0]) | rw [c4b1] | skip)
   have H' := Aside0.mk H
   clear H
   go_wp2
   go_meet
   case rel => exact ⟨_, ((a1.toList == ([] : List UInt8))), xz, H', ⟨by first | omega | exact Nat.le_refl _⟩, ⟨xs HB⟩⟩
 case rest =>
  clear HC3
  try clear p2
  try clear c4
  try clear c4b0
  try clear c4b1
  obtain ⟨kq, x12_2, rfl, HA, HJ2, HB⟩ := hcut
  cases kq with
  | zero => exact absurd HA.out (by simp [strings_TrimLeft.j0])
  | succ kj2 =>
   have H := HA.out
   clear HA
   simp only [strings_TrimLeft.j0] at H
   by_cases c5 : x12_2 = true
   ·subst c5
    replace H := xI H
    obtain rfl := Option.some.inj H
    go_wp2
    go_ret
    exact ⟨xy, xs HB⟩
   ·replace c5 := Bool.eq_false_iff.mpr c5
    subst c5
    have H1 : (if (a1.size : Int) = 1 then (if 0 < (a1.size : Int) then (strings_TrimLeft.j1 kj2 a0 a1 (decide ((bt a1 0) < 128))) else (none)) else (strings_TrimLeft.j1 kj2 a0 a1 false)) = some r := by rw [if_neg (show ¬ (false = true) by decide)] at H; exact H
    clear H
    have H := H1
    clear H1
    have HC6 := Aside0.mk H
    clear H
    go_upto_region 3 with (fail)
    repeat (go_quiet (fail); go_upto_region 3 with (fail))
    go_cut [21] (fun v21 wc => ∃ (kq : Nat) (x21_5 : Bool), v21 = .bool x21_5 ∧ Aside0 (strings_TrimLeft.j1 kq a0 a1 x21_5 = some r) ∧ Aside0 (kq ≤ kj2) ∧ Aside0 (Below w.heap.size w wc))
    case first =>
     have H := HC6.out
     clear HC6
     by_cases c7 : (a1.size : Int) = 1
     ·rw [if_pos c7] at H
      have c7b0 : ((a1.size : Int) == 1) = true := beq_iff_eq.mpr c7
      have c7b1 : ((a1.size : Int) != 1) = false := bne_eq_false_iff_eq.mpr c7
      clear c7
      (first | rw [c7b0] | (simp only [i64_w, i32_w]; rw [c7b0]) | rw [c7b1] | skip)
      by_cases c8 : 0 < (a1.size : Int)
      rotate_left
      ·rw [if_neg c8] at H
       exact absurd H (by simp)
      rw [if_pos c8] at H
      have c8b0 : decide (0 < (a1.size : Int)) = true := decide_eq_true c8
      have c8b1 : decide (0 < a1.size) = true := decide_eq_true (by omega)
      clear c8
      have H' := Aside0.mk H
      clear H
      have p9 : 0 ≤ (0 : Int) := (by omega)
      have q9 : 0 < a1.size := (by have : (0 : Int) < (a1.size : Int) := xa; omega)
      have hx9 : ∀ h : 0 < a1.size, ((a1[0]'h).toNat : Int) = bt a1 0 := bt_at a1 0
      clear p9
      have qi9 : (0 < (a1.size : Int)) = True := eq_true (xa)
      replace q9 := eq_true q9
      go_wp2
      go_meet
      case rel => exact ⟨_, (decide ((bt a1 0) < 128)), xz, H', ⟨by have := HJ2.out; first | omega | exact Nat.le_refl _⟩, ⟨xs HB⟩⟩
     ·rw [if_neg c7] at H
      have c7b0 : ((a1.size : Int) == 1) = false := beq_eq_false_iff_ne.mpr c7
      have c7b1 : ((a1.size : Int) != 1) = true := bne_iff_ne.mpr c7
      (first | rw [c7b0] | (simp only [i64_w, i32_w]; rw [c7b0]) | rw [c7b1] | skip)
      have H' := Aside0.mk H
      clear H
      go_wp2
      go_meet
      case rel => exact ⟨_, (false), xz, H', ⟨by have := HJ2.out; first | omega | exact Nat.le_refl _⟩, ⟨xs HB⟩⟩
    case rest =>
     clear HC6
     try clear p2
     try clear c4
     try clear c4b0
     try clear c4b1
     try clear c5
     try clear c7
     try clear c7b0
     try clear c7b1
     try clear c8
     try clear c8b0
     try clear c8b1
     try clear c9
     try clear p9
     try clear q9
     try clear hx9
     try clear qi9
     try clear p2
     try clear p9
     try clear q9
     obtain ⟨kq, x21_5, rfl, HA, HJ5, HB⟩ := hcut
     cases kq with
     | zero => exact absurd HA.out (by simp [strings_TrimLeft.j1])
     | succ kj5 =>
      have H := HA.out
      clear HA
      simp only [strings_TrimLeft.j1] at H
      by_cases c10 : x21_5 = true
      ·subst c10
       replace H := xI H
       by_cases c11 : 0 < (a1.size : Int)
       rotate_left
       ·rw [if_neg c11] at H
        exact absurd H (by simp)
       rw [if_pos c11] at H
       have c11b0 : decide (0 < (a1.size : Int)) = true := decide_eq_true c11
       have c11b1 : decide (0 < a1.size) = true := decide_eq_true (by omega)
       clear c11
       replace H := xH H; obtain ⟨t259, A13, H⟩ := H
       obtain rfl := Option.some.inj H
       have p12 : 0 ≤ (0 : Int) := (by omega)
       have q12 : 0 < a1.size := (by have : (0 : Int) < (a1.size : Int) := xa; omega)
       have hx12 : ∀ h : 0 < a1.size, ((a1[0]'h).toNat : Int) = bt a1 0 := bt_at a1 0
       clear p12
       have qi12 : (0 < (a1.size : Int)) = True := eq_true (xa)
       replace q12 := eq_true q12
       go_wp2_with (first | (refine xg Tryd.func104 (some 25) #[.string a0, .int .u8 (bt a1 0)] ?_; (with_reducible refine (strings_trimLeftByte.calls kj5 a0 (bt a1 0) t259 _ A13.out).mono ?_); rintro e w' ⟨rfl, ⟨nd, rfl⟩⟩; refine ⟨_, rfl, ?_⟩))
       go_ret
       exact ⟨xy, xs HB⟩
      ·replace c10 := Bool.eq_false_iff.mpr c10
       subst c10
       have H1 : (none) = some r := by rw [if_neg (show ¬ (false = true) by decide)] at H; exact H
       clear H
       have H := H1
       clear H1
       exact absurd H (by simp)
/-! ### natural_Normalize: function 74 -/
def natural_Normalize.f (k : Nat) (a0 : ByteArray) : Option (ByteArray) := (strings_TrimLeft.f k a0 (⟨#[0]⟩ : ByteArray)).bind fun t260 => (some t260)
theorem natural_Normalize.mono : ∀ a0 k, LeO (natural_Normalize.f k a0) (natural_Normalize.f (k + 1) a0) := by
 intro a0 k
 unfold natural_Normalize.f
 have m0 := @strings_TrimLeft.mono; exact xM
set_option maxHeartbeats 8000000 in
set_option maxRecDepth 100000 in
theorem natural_Normalize.calls (k : Nat) (a0 : ByteArray) (r : ByteArray) (w : World) (h : natural_Normalize.f k a0 = some r) :
  Calls Tryd.prog 74 #[.string a0] w fun e w' => e = .returned (.string r) ∧ Below w.heap.size w w' := by
 have HB := Aside0.mk (Below.refl w.heap.size w)
 have H : ((strings_TrimLeft.f k a0 (⟨#[0]⟩ : ByteArray)).bind fun t260 => (some t260)) = some r := h
 clear h
 replace H := xH H; obtain ⟨t260, A2, H⟩ := H
 obtain rfl := Option.some.inj H
 go_enter Tryd.func74, Tryd.ntmps74
 go_wp2_with (first | (refine xC Tryd.func96 (some 4) (strings_TrimLeft.calls k a0 (⟨#[0]⟩ : ByteArray) t260 _ A2.out) ?_; rintro w3 hb; replace HB := xS HB hb; clear hb))
 go_ret
 exact ⟨xy, xs HB⟩
/-! ### natural_limbs_trim: function 98 -/
def natural_limbs_trim.l0 : Nat → List Int → Int → Option (List Int)
 | 0, _, _ => none
 | k + 1, x0, x3 => if x3 > 0 then (if 0 ≤ (wrap64 (x3 - 1)) then (if (wrap64 (x3 - 1)) < (x0.length : Int) then (if (rd x0 (wrap64 (x3 - 1))) = 0 then (natural_limbs_trim.l0 k x0 (wrap64 (x3 - 1))) else (if 0 ≤ x3 then (if x3 ≤ (x0.length : Int) then (some (x0.take (x3 : Int).toNat)) else (none)) else (none))) else (none)) else (none)) else (if 0 ≤ x3 then (if x3 ≤ (x0.length : Int) then (some (x0.take (x3 : Int).toNat)) else (none)) else (none))
def natural_limbs_trim.f (k : Nat) (l0 : List Int) : Option (List Int) := natural_limbs_trim.l0 k l0 (l0.length : Int)
theorem natural_limbs_trim.mono_l : ∀ k, (∀ y0 y1, LeO (natural_limbs_trim.l0 k y0 y1) (natural_limbs_trim.l0 (k + 1) y0 y1))
 | 0 => fun _ _ r h => by simp [natural_limbs_trim.l0] at h
 | k + 1 => by
  have ih0 := natural_limbs_trim.mono_l k
  ·intro y0 y1
   unfold natural_limbs_trim.l0
   have m0 := @ih0; exact xM
theorem natural_limbs_trim.mono : ∀ a0 k, LeO (natural_limbs_trim.f k a0) (natural_limbs_trim.f (k + 1) a0) := by
 intro a0 k
 have ih0 := natural_limbs_trim.mono_l k
 unfold natural_limbs_trim.f
 have m0 := @ih0; exact xM
set_option maxHeartbeats 8000000 in
set_option maxRecDepth 100000 in
theorem natural_limbs_trim.calls (k : Nat) (P0_ : Nat → Prop) (A0 : Option Addr) (c0 : Nat) (l0 : List Int) (r : List Int) (w : World) (hs0 : Kd.V (Kd.int .u32) 85 w w.heap.size (fun k_ => P0_ k_) (.slice A0 l0.length c0) l0) (h : natural_limbs_trim.f k l0 = some r) :
  Calls Tryd.prog 98 #[.slice A0 l0.length c0] w fun e w' => ∃ v0_ : Value, e = .returned (v0_) ∧ Kd.V (Kd.int .u32) 85 w' w.heap.size (fun k_ => (P0_ k_ ∨ w.heap.size ≤ k_)) v0_ r ∧ Below w.heap.size w w' := by
 have HO0 := Aside0.mk (show Kd.V (Kd.int .u32) 85 w w.heap.size (fun k_ => (P0_ k_ ∨ w.heap.size ≤ k_)) (.slice A0 l0.length c0) l0 from Kd.V_mono hs0 (fun k_ hk => .inl hk))
 have HB := Aside0.mk (Below.refl w.heap.size w)
 have H : (natural_limbs_trim.l0 k l0 (l0.length : Int)) = some r := h
 clear h
 have H' := Aside0.mk H
 clear H
 go_enter Tryd.func98, Tryd.ntmps98
 go_wp2
 go_loopg [3] k (fun kq v3 w' => ∃ (x3_1 : Int), v3 = .int .i64 x3_1 ∧ Aside0 (natural_limbs_trim.l0 kq l0 x3_1 = some r) ∧ Aside0 (kq ≤ k) ∧ Aside0 (Kd.V (Kd.int .u32) 85 w' w.heap.size (fun k_ => (P0_ k_ ∨ w.heap.size ≤ k_)) (.slice A0 l0.length c0) l0) ∧ Aside0 (Below w.heap.size w w'))
 case atStart => exact ⟨((l0.length : Int)), xz, H', ⟨Nat.le_refl _⟩, ⟨xv HO0.out⟩, ⟨xs HB⟩⟩
 case round =>
  clear H'
  obtain ⟨x3_1, rfl, HA, HK1, HO_0, HB⟩ := hrel
  cases gk with
  | zero => exact absurd HA.out (by simp [natural_limbs_trim.l0])
  | succ k1 =>
   have H := HA.out
   clear HA
   simp only [natural_limbs_trim.l0] at H
   by_cases c2 : x3_1 > 0
   ·rw [if_pos c2] at H
    have c2b0 : decide (0 < x3_1) = true := decide_eq_true c2
    clear c2
    obtain ⟨ji3, hji3⟩ : ∃ j_ : Int, (wrap64 (x3_1 - 1)) = j_ := ⟨_, rfl⟩
    replace H : (if 0 ≤ (ji3) then (if (ji3) < (l0.length : Int) then (if (rd l0 (ji3)) = 0 then (natural_limbs_trim.l0 k1 l0 ji3) else (if 0 ≤ x3_1 then (if x3_1 ≤ (l0.length : Int) then (some (l0.take (x3_1 : Int).toNat)) else (none)) else (none))) else (none)) else (none)) = some r := by first | (rw [hji3] at H; exact H) | (simp only [hji3] at H ⊢; exact H)
    have hji3w : (IntKind.i64.wrap (x3_1 - 1)) = ji3 := (i64_w _).trans hji3
    by_cases c4 : 0 ≤ (ji3)
    rotate_left
    ·rw [if_neg c4] at H
     exact absurd H (by simp)
    rw [if_pos c4] at H
    have c4b0 : decide (0 ≤ (ji3)) = true := decide_eq_true c4
    clear c4
    by_cases c5 : (ji3) < (l0.length : Int)
    rotate_left
    ·rw [if_neg c5] at H
     exact absurd H (by simp)
    rw [if_pos c5] at H
    have c5b0 : decide ((ji3) < (l0.length : Int)) = true := decide_eq_true c5
    clear c5
    by_cases c6 : (rd l0 (ji3)) = 0
    ·rw [if_pos c6] at H
     have c6b0 : ((rd l0 (ji3)) == 0) = true := beq_iff_eq.mpr c6
     have c6b1 : ((rd l0 (ji3)) != 0) = false := bne_eq_false_iff_eq.mpr c6
     clear c6
     have H' := Aside0.mk H
     clear H
     have p261 : 0 ≤ ((ji3) : Int) := xa
     have q261 : (ji3) < (l0.length : Int) := xa
     obtain ⟨ad261, e261, hx261_0⟩ := Kd.at_int (Kd.V_reads' HO_0.out).2.2 (ji3) p261 q261
     cases e261
     replace p261 := eq_true p261
     replace q261 := eq_true q261
     go_wp2
     (first | go_roundg k1 | (refine Handed.intro k1 ?measure ?_; rotate_left; go_step; (repeat apply Exists.intro); refine ⟨?rel, (by first | rfl | (simp only [add_plain]; rfl))⟩))
     case measure => have := HK1.out; omega
     case rel => exact ⟨(ji3), (by first | rfl | (simp; done) | (simp only [← hji3] <;> (first | rfl | simp)) | (simp [*]; done)), H', ⟨by have := HK1.out; omega⟩, ⟨xv HO_0.out⟩, ⟨xs HB⟩⟩
    ·rw [if_neg c6] at H
     have c6b0 : ((rd l0 (ji3)) == 0) = false := beq_eq_false_iff_ne.mpr c6
     have c6b1 : ((rd l0 (ji3)) != 0) = true := bne_iff_ne.mpr c6
     by_cases c7 : 0 ≤ x3_1
     rotate_left
     ·rw [if_neg c7] at H
      exact absurd H (by simp)
     rw [if_pos c7] at H
     have c7b0 := eq_true c7
     have c7b1 : decide (0 ≤ x3_1) = true := decide_eq_true c7
     clear c7
     by_cases c8 : x3_1 ≤ (l0.length : Int)
     rotate_left
     ·rw [if_neg c8] at H
      exact absurd H (by simp)
     rw [if_pos c8] at H
     have c8b0 := eq_true c8
     have c8b1 : decide (x3_1 ≤ (l0.length : Int)) = true := decide_eq_true c8
     clear c8
     obtain ⟨y262, hy262⟩ : ∃ y_ : List Int, y_ = (l0.take (x3_1 : Int).toNat) := ⟨_, rfl⟩
     replace H : (some y262) = some r := by first | (rw [hy262]; with_reducible exact H) | (have H2_ := (Option.bind_some _ _).symm.trans H; rw [hy262]; with_reducible exact H2_) | (have H2_ := (Option.bind_some _ _).symm.trans H; with_reducible exact H2_) | with_reducible exact H | (rw [hy262]; exact H) | exact H
     have Ny262 := Aside0.mk hy262
     clear hy262
     obtain rfl := Option.some.inj H
     have p261 : 0 ≤ ((ji3) : Int) := xa
     have q261 : (ji3) < (l0.length : Int) := xa
     obtain ⟨ad261, e261, hx261_0⟩ := Kd.at_int (Kd.V_reads' HO_0.out).2.2 (ji3) p261 q261
     cases e261
     replace p261 := eq_true p261
     replace q261 := eq_true q261
     have q9 : (x3_1 : Int) ≤ ((l0.length : Int) : Int) := xa
     obtain ⟨i09, hi09, _, hsz9, _⟩ := info_parts info85
     have hroom9 : l0.length ≤ c0 := (Kd.V_reads' HO_0.out).2.1
     have hC9 : Kd.F (Kd.int .u32) _ _ (some ad261) l0.length l0 := (Kd.V_at (base := w.heap.size) HO_0.out).2.2
     have hcut9 := cut_to (P := Tryd.prog) 83 85 .i64 Tryd.underlying83 hi09 (some ad261) l0.length c0 x3_1 (xa) q9 hroom9
     have hr9 := Kd.F_take (m := (x3_1 : Int).toNat) hC9 (by omega)
     have hy9 : y262.length = (x3_1 : Int).toNat := (by rw [Ny262.out, List.length_take]; omega)
     rw [← Ny262.out] at hr9
     rw [← hy9] at hcut9
     have HO266 := Aside0.mk (show Kd.V (Kd.int .u32) 85 _ w.heap.size _ (.slice (some ad261) y262.length c0) y262 from Kd.V_mk (by omega) hr9)
     have HC266 := Aside0.mk (show y262.length ≤ c0 from by omega)
     clear hr9 hC9 hroom9 hi09 hsz9
     have KY9 := Aside0.mk hy9
     clear hy9
     replace q9 := eq_true q9
     go_wp2
     go_ret
     exact ⟨_, by first | rfl | (simp [errW_none, errW_some] <;> rfl) | (simp only [← hji3]; first | rfl | (simp [errW_none, errW_some] <;> rfl)) | (simp [*, errW_none, errW_some] <;> rfl), by (with_reducible repeat (first | apply Kd.V_alloc | apply Kd.V_drewN | apply Kd.V_drew)); exact HO266.out, xs HB⟩
   ·rw [if_neg c2] at H
    have c2b0 : decide (0 < x3_1) = false := decide_eq_false c2
    clear c2
    by_cases c10 : 0 ≤ x3_1
    rotate_left
    ·rw [if_neg c10] at H
     exact absurd H (by simp)
    rw [if_pos c10] at H
    have c10b0 := eq_true c10
    have c10b1 : decide (0 ≤ x3_1) = true := decide_eq_true c10
    clear c10
    by_cases c11 : x3_1 ≤ (l0.length : Int)
    rotate_left
    ·rw [if_neg c11] at H
     exact absurd H (by simp)
    rw [if_pos c11] at H
    have c11b0 := eq_true c11
    have c11b1 : decide (x3_1 ≤ (l0.length : Int)) = true := decide_eq_true c11
    clear c11
    obtain ⟨y267, hy267⟩ : ∃ y_ : List Int, y_ = (l0.take (x3_1 : Int).toNat) := ⟨_, rfl⟩
    replace H : (some y267) = some r := by first | (rw [hy267]; with_reducible exact H) | (have H2_ := (Option.bind_some _ _).symm.trans H; rw [hy267]; with_reducible exact H2_) | (have H2_ := (Option.bind_some _ _).symm.trans H; with_reducible exact H2_) | with_reducible exact H | (rw [hy267]; exact H) | exact H
    have Ny267 := Aside0.mk hy267
    clear hy267
    obtain rfl := Option.some.inj H
    have q12 : (x3_1 : Int) ≤ ((l0.length : Int) : Int) := xa
    obtain ⟨i012, hi012, _, hsz12, _⟩ := info_parts info85
    have hroom12 : l0.length ≤ c0 := (Kd.V_reads' HO_0.out).2.1
    have hC12 : Kd.F (Kd.int .u32) _ _ A0 l0.length l0 := (Kd.V_at (base := w.heap.size) HO_0.out).2.2
    have hcut12 := cut_to (P := Tryd.prog) 83 85 .i64 Tryd.underlying83 hi012 A0 l0.length c0 x3_1 (xa) q12 hroom12
    have hr12 := Kd.F_take (m := (x3_1 : Int).toNat) hC12 (by omega)
    have hy12 : y267.length = (x3_1 : Int).toNat := (by rw [Ny267.out, List.length_take]; omega)
    rw [← Ny267.out] at hr12
    rw [← hy12] at hcut12
    have HO271 := Aside0.mk (show Kd.V (Kd.int .u32) 85 _ w.heap.size _ (.slice A0 y267.length c0) y267 from Kd.V_mk (by omega) hr12)
    have HC271 := Aside0.mk (show y267.length ≤ c0 from by omega)
    clear hr12 hC12 hroom12 hi012 hsz12
    have KY12 := Aside0.mk hy12
    clear hy12
    replace q12 := eq_true q12
    go_wp2
    go_ret
    exact ⟨_, xy, by (with_reducible repeat (first | apply Kd.V_alloc | apply Kd.V_drewN | apply Kd.V_drew)); exact HO271.out, xs HB⟩
/-! ### natural_parse: function 77 -/
def natural_parse.l0 : Nat → ByteArray → List Int → Int → Int → Option (List Int)
 | 0, _, _, _, _ => none
 | k + 1, x0, x3, x12, x13 => if x13 < x12 then (if 0 ≤ (wrap64 (Int.tdiv x13 4)) then (if (wrap64 (Int.tdiv x13 4)) < (x3.length : Int) then (if 0 ≤ (wrap64 ((wrap64 ((x0.size : Int) - 1)) - x13)) then (if (wrap64 ((wrap64 ((x0.size : Int) - 1)) - x13)) < (x0.size : Int) then (if 0 ≤ (wrap64 (8 * (Int.tmod x13 4))) then (natural_parse.l0 k x0 (x3.set ((wrap64 (Int.tdiv x13 4)) : Int).toNat (Go.bits .or .u32 (rd x3 (wrap64 (Int.tdiv x13 4))) (shl .u32 ((bt x0 (wrap64 ((wrap64 ((x0.size : Int) - 1)) - x13))) % 4294967296) (wrap64 (8 * (Int.tmod x13 4)))))) x12 (wrap64 (x13 + 1))) else (none)) else (none)) else (none)) else (none)) else (none)) else ((natural_limbs_trim.f k x3).bind fun t277 => (some t277))
def natural_parse.f (k : Nat) (a0 : ByteArray) : Option (List Int) := if 0 ≤ (wrap64 (Int.tdiv (wrap64 ((wrap64 ((a0.size : Int) + 4)) - 1)) 4)) then (if (wrap64 (Int.tdiv (wrap64 ((wrap64 ((a0.size : Int) + 4)) - 1)) 4) : Int).toNat ≤ 70368744177664 then (natural_parse.l0 k a0 (List.replicate (wrap64 (Int.tdiv (wrap64 ((wrap64 ((a0.size : Int) + 4)) - 1)) 4) : Int).toNat 0) (a0.size : Int) 0) else (none)) else (none)
theorem natural_parse.mono_l : ∀ k, (∀ y0 y1 y2 y3, LeO (natural_parse.l0 k y0 y1 y2 y3) (natural_parse.l0 (k + 1) y0 y1 y2 y3))
 | 0 => fun _ _ _ _ r h => by simp [natural_parse.l0] at h
 | k + 1 => by
  have ih0 := natural_parse.mono_l k
  ·intro y0 y1 y2 y3
   unfold natural_parse.l0
   have m0 := @ih0; have m1 := @natural_limbs_trim.mono; exact xM
theorem natural_parse.mono : ∀ a0 k, LeO (natural_parse.f k a0) (natural_parse.f (k + 1) a0) := by
 intro a0 k
 have ih0 := natural_parse.mono_l k
 unfold natural_parse.f
 have m0 := @ih0; have m1 := @natural_limbs_trim.mono; exact xM
def natural_parse.T5 : Bool × List (List Nat × List Nat) := (true, [([], []), ([], []), ([1], [1]), ([0, 2], [0, 2]), ([3], [3]), ([], []), ([], []), ([6], [6]), ([7], [7]), ([], []), ([8, 9], [8, 9]), ([5, 10], [5, 10]), ([11], [11]), ([], []), ([13], [13]), ([14], [14]), ([12, 15], [12, 15]), ([4, 16], [4, 16]), ([0, 2, 0, 1, 2, 3, 4, 5, 6, 7, 8, 9, 10, 11, 12, 13, 14, 15, 16, 17], [0, 2]), ([18, 17, 0, 1, 2, 3, 4, 5, 6, 7, 8, 9, 10, 11, 12, 13, 14, 15, 16, 17], [17, 18])])
def natural_parse.B5 : List Nat := [0, 0, 2, 7, 15, 0, 0, 64, 192, 0, 960, 2016, 4064, 0, 8192, 24576, 65504, 131071, 262143, 524287]
theorem natural_parse.tab5 : rtab .any (opsOf Tryd.f77 5) = natural_parse.T5 := by kernel_rfl
theorem natural_parse.bits5 : waitsOk natural_parse.T5.2 natural_parse.B5 = true := by kernel_rfl
set_option maxHeartbeats 8000000 in
set_option maxRecDepth 100000 in
theorem natural_parse.calls (k : Nat) (a0 : ByteArray) (r : List Int) (w : World) (h : natural_parse.f k a0 = some r) :
  Calls Tryd.prog 77 #[.string a0] w fun e w' => ∃ v0_ : Value, e = .returned (v0_) ∧ Kd.V (Kd.int .u32) 85 w' w.heap.size (fun k_ => (w.heap.size ≤ k_)) v0_ r ∧ Below w.heap.size w w' := by
 have HB := Aside0.mk (Below.refl w.heap.size w)
 have H : (if 0 ≤ (wrap64 (Int.tdiv (wrap64 ((wrap64 ((a0.size : Int) + 4)) - 1)) 4)) then (if (wrap64 (Int.tdiv (wrap64 ((wrap64 ((a0.size : Int) + 4)) - 1)) 4) : Int).toNat ≤ 70368744177664 then (natural_parse.l0 k a0 (List.replicate (wrap64 (Int.tdiv (wrap64 ((wrap64 ((a0.size : Int) + 4)) - 1)) 4) : Int).toNat 0) (a0.size : Int) 0) else (none)) else (none)) = some r := h
 clear h
 obtain ⟨ji2, hji2⟩ : ∃ j_ : Int, (wrap64 (Int.tdiv (wrap64 ((wrap64 ((a0.size : Int) + 4)) - 1)) 4)) = j_ := ⟨_, rfl⟩
 replace H : (if 0 ≤ (ji2) then (if (ji2 : Int).toNat ≤ 70368744177664 then (natural_parse.l0 k a0 (List.replicate (ji2 : Int).toNat 0) (a0.size : Int) 0) else (none)) else (none)) = some r := by first | (rw [hji2] at H; exact H) | (simp only [hji2] at H ⊢; exact H)
 have hji2w : (IntKind.i64.wrap (Int.tdiv (wrap64 ((wrap64 ((a0.size : Int) + 4)) - 1)) 4)) = ji2 := (i64_w _).trans hji2
 by_cases c3 : 0 ≤ (ji2)
 rotate_left
 ·rw [if_neg c3] at H
  exact absurd H (by simp)
 rw [if_pos c3] at H
 have c3b0 := eq_true c3
 have c3b1 : decide (0 ≤ (ji2)) = true := decide_eq_true c3
 clear c3
 by_cases c4 : (ji2 : Int).toNat ≤ 70368744177664
 rotate_left
 ·rw [if_neg c4] at H
  exact absurd H (by simp)
 rw [if_pos c4] at H
 have c4b0 := eq_true c4
 have c4b1 : decide ((ji2 : Int).toNat ≤ 70368744177664) = true := decide_eq_true c4
 clear c4
 obtain ⟨y272, hy272⟩ : ∃ y_ : List Int, y_ = (List.replicate (ji2 : Int).toNat 0) := ⟨_, rfl⟩
 replace H : (natural_parse.l0 k a0 y272 (a0.size : Int) 0) = some r := by first | (rw [hy272]; with_reducible exact H) | (have H2_ := (Option.bind_some _ _).symm.trans H; rw [hy272]; with_reducible exact H2_) | (have H2_ := (Option.bind_some _ _).symm.trans H; with_reducible exact H2_) | with_reducible exact H | (rw [hy272]; exact H) | exact H
 have Ny272 := Aside0.mk hy272
 clear hy272
 have H' := Aside0.mk H
 clear H
 go_enter Tryd.func77, Tryd.ntmps77
 go_wp2_with (first | ((with_reducible refine gate_dst (N := 10) rfl ?_); refine Kd.R_make (Kd.int .u32) _ 85 rfl (N := 10) rfl 83 _ _ rfl ji2 rfl rfl Tryd.underlying83 (.int .u32 0) 4 info85 rfl (by decide) (by omega) 0 (ok := fun _ => True) (okp := fun _ => True) rfl (fun _ hk => hk) trivial (xa) (Nat.le_trans (Nat.mul_le_mul_right _ (xa : ji2.toNat ≤ 70368744177664)) (by omega)) (Below.refl _ _) (Nat.le_refl _) ?_; intro v273 w5 ho6 hb hg_ hnew_; clear hg_ hnew_; (first | rw [← Ny272.out] at ho6 | (simp only [Int.reduceToNat] at ho6; rw [← Ny272.out] at ho6)); have HO274 := Aside0.mk (Kd.R_lower (Kd.R_newM (M := fun k_ => (w.heap.size ≤ k_)) ho6 (below_size (xs HB)) (fun k_ h_ => h_)) (below_size (xs HB))); replace HB := xS HB hb; clear hb ho6))
 go_loopg [13] k (fun kq v13 w' => ∃ (x3_1 : List Int) (x13_1 : Int), v13 = .int .i64 x13_1 ∧ Aside0 (natural_parse.l0 kq a0 x3_1 (a0.size : Int) x13_1 = some r) ∧ Aside0 (kq ≤ k) ∧ Aside0 (Kd.R (Kd.int .u32) 85 w' w.heap.size (fun k_ => (w.heap.size ≤ k_)) v273 x3_1) ∧ Aside0 (Below w.heap.size w w'))
 case atStart => exact ⟨(y272), (0), xz, H', ⟨Nat.le_refl _⟩, ⟨by (with_reducible repeat (first | apply Kd.R_alloc | apply Kd.R_drewN | apply Kd.R_drew)); exact Kd.R_mono HO274.out (fun _ hk => hk.1)⟩, ⟨xs HB⟩⟩
 case round =>
  clear H'
  try clear p2
  try clear c3
  try clear c3b0
  try clear c3b1
  try clear c4
  try clear c4b0
  try clear c4b1
  try clear p6
  obtain ⟨x3_1, x13_1, rfl, HA, HK1, HO_3, HB⟩ := hrel
  cases gk with
  | zero => exact absurd HA.out (by simp [natural_parse.l0])
  | succ k1 =>
   have H := HA.out
   clear HA
   simp only [natural_parse.l0] at H
   by_cases c7 : x13_1 < (a0.size : Int)
   ·rw [if_pos c7] at H
    have c7b0 : decide (x13_1 < (a0.size : Int)) = true := decide_eq_true c7
    clear c7
    obtain ⟨ji8, hji8⟩ : ∃ j_ : Int, (wrap64 (Int.tdiv x13_1 4)) = j_ := ⟨_, rfl⟩
    replace H : (if 0 ≤ (ji8) then (if (ji8) < (x3_1.length : Int) then (if 0 ≤ (wrap64 ((wrap64 ((a0.size : Int) - 1)) - x13_1)) then (if (wrap64 ((wrap64 ((a0.size : Int) - 1)) - x13_1)) < (a0.size : Int) then (if 0 ≤ (wrap64 (8 * (Int.tmod x13_1 4))) then (natural_parse.l0 k1 a0 (x3_1.set ((ji8) : Int).toNat (Go.bits .or .u32 (rd x3_1 (ji8)) (shl .u32 ((bt a0 (wrap64 ((wrap64 ((a0.size : Int) - 1)) - x13_1))) % 4294967296) (wrap64 (8 * (Int.tmod x13_1 4)))))) (a0.size : Int) (wrap64 (x13_1 + 1))) else (none)) else (none)) else (none)) else (none)) else (none)) = some r := by first | (rw [hji8] at H; exact H) | (simp only [hji8] at H ⊢; exact H)
    have hji8w : (IntKind.i64.wrap (Int.tdiv x13_1 4)) = ji8 := (i64_w _).trans hji8
    by_cases c9 : 0 ≤ (ji8)
    rotate_left
    ·rw [if_neg c9] at H
     exact absurd H (by simp)
    rw [if_pos c9] at H
    have c9b0 : decide (0 ≤ (ji8)) = true := decide_eq_true c9
    clear c9
    by_cases c10 : (ji8) < (x3_1.length : Int)
    rotate_left
    ·rw [if_neg c10] at H
     exact absurd H (by simp)
    rw [if_pos c10] at H
    have c10b0 : decide ((ji8) < (x3_1.length : Int)) = true := decide_eq_true c10
    clear c10
    obtain ⟨ji11, hji11⟩ : ∃ j_ : Int, (wrap64 ((wrap64 ((a0.size : Int) - 1)) - x13_1)) = j_ := ⟨_, rfl⟩
    replace H : (if 0 ≤ (ji11) then (if (ji11) < (a0.size : Int) then (if 0 ≤ (wrap64 (8 * (Int.tmod x13_1 4))) then (natural_parse.l0 k1 a0 (x3_1.set ((ji8) : Int).toNat (Go.bits .or .u32 (rd x3_1 (ji8)) (shl .u32 ((bt a0 (ji11)) % 4294967296) (wrap64 (8 * (Int.tmod x13_1 4)))))) (a0.size : Int) (wrap64 (x13_1 + 1))) else (none)) else (none)) else (none)) = some r := by first | (rw [hji11] at H; exact H) | (simp only [hji11] at H ⊢; exact H)
    have hji11w : (IntKind.i64.wrap ((wrap64 ((a0.size : Int) - 1)) - x13_1)) = ji11 := (i64_w _).trans hji11
    by_cases c12 : 0 ≤ (ji11)
    rotate_left
    ·rw [if_neg c12] at H
     exact absurd H (by simp)
    rw [if_pos c12] at H
    have c12b0 : decide (0 ≤ (ji11)) = true := decide_eq_true c12
    clear c12
    by_cases c13 : (ji11) < (a0.size : Int)
    rotate_left
    ·rw [if_neg c13] at H
     exact absurd H (by simp)
    rw [if_pos c13] at H
    have c13b0 : decide ((ji11) < (a0.size : Int)) = true := decide_eq_true c13
    clear c13
    obtain ⟨ji15, hji15⟩ : ∃ j_ : Int, (wrap64 (8 * (Int.tmod x13_1 4))) = j_ := ⟨_, rfl⟩
    replace H : (if 0 ≤ (ji15) then (natural_parse.l0 k1 a0 (x3_1.set ((ji8) : Int).toNat (Go.bits .or .u32 (rd x3_1 (ji8)) (shl .u32 ((bt a0 (ji11)) % 4294967296) (ji15)))) (a0.size : Int) (wrap64 (x13_1 + 1))) else (none)) = some r := by first | (rw [hji15] at H; exact H) | (simp only [hji15] at H ⊢; exact H)
    have hji15w : (IntKind.i64.wrap (8 * (Int.tmod x13_1 4))) = ji15 := (i64_w _).trans hji15
    by_cases c16 : 0 ≤ (ji15)
    rotate_left
    ·rw [if_neg c16] at H
     exact absurd H (by simp)
    rw [if_pos c16] at H
    have c16b0 := eq_true c16
    have c16b1 : decide (0 ≤ (ji15)) = true := decide_eq_true c16
    clear c16
    obtain ⟨ji17, hji17⟩ : ∃ j_ : Int, (shl .u32 ((bt a0 (ji11)) % 4294967296) (ji15)) = j_ := ⟨_, rfl⟩
    replace H : (natural_parse.l0 k1 a0 (x3_1.set ((ji8) : Int).toNat (Go.bits .or .u32 (rd x3_1 (ji8)) (ji17))) (a0.size : Int) (wrap64 (x13_1 + 1))) = some r := by first | (rw [hji17] at H; exact H) | (simp only [hji17] at H ⊢; exact H)
    have hji17_ : (IntKind.u32.wrap (((bt a0 (ji11)) % 4294967296) * 2 ^ min (ji15).toNat 32)) = ji17 := hji17
    have hji17m : (((bt a0 (ji11)) % 4294967296) * 2 ^ min (ji15).toNat 32) % 4294967296 = ji17 := (IntKind.wrap_u32 _).symm.trans hji17
    have hji17z : (ji15) ≤ 32 → (IntKind.u32.wrap (((bt a0 (ji11)) % 4294967296) * 2 ^ (ji15).toNat)) = ji17 := shl_small hji17
    obtain ⟨y276, hy276⟩ : ∃ y_ : List Int, y_ = (x3_1.set ((ji8) : Int).toNat (Go.bits .or .u32 (rd x3_1 (ji8)) (ji17))) := ⟨_, rfl⟩
    replace H : (natural_parse.l0 k1 a0 y276 (a0.size : Int) (wrap64 (x13_1 + 1))) = some r := by first | (rw [hy276]; with_reducible exact H) | (have H2_ := (Option.bind_some _ _).symm.trans H; rw [hy276]; with_reducible exact H2_) | (have H2_ := (Option.bind_some _ _).symm.trans H; with_reducible exact H2_) | with_reducible exact H | (rw [hy276]; exact H) | exact H
    have Ny276 := Aside0.mk hy276
    clear hy276
    have H' := Aside0.mk H
    clear H
    try go_wp2
    replace HO_3 := Aside0.mk (Kd.R_drew HO_3.out)
    replace HB := xW HB
    obtain ⟨Ao20, co20, eo20⟩ := Kd.R_slice HO_3.out
    (first | subst eo20 | (injection eo20 with f1_ f2_ f3_; have f4_ := f1_.symm; have f5_ := f3_.symm; clear f1_ f2_ f3_; subst f4_; subst f5_))
    have p275 : 0 ≤ ((ji8) : Int) := xa
    have q275 : (ji8) < (x3_1.length : Int) := xa
    obtain ⟨ad275, e275, hx275_0⟩ := Kd.at_int (Kd.R_reads' HO_3.out).2.2 (ji8) p275 q275
    cases e275
    replace p275 := eq_true p275
    replace q275 := eq_true q275
    have p14 : 0 ≤ ((ji11) : Int) := xa
    have q14 : (ji11) < (a0.size : Int) := xa
    have hx14 := bt_at a0 (ji11)
    replace p14 := eq_true p14
    replace q14 := eq_true q14
    have p18 : 0 ≤ ((ji8) : Int) := xa
    have q18 : ((ji8) : Int) < ((x3_1.length : Int) : Int) := xa
    obtain ⟨go18, co18, eo18, gb18, gl18, cl18, HG18⟩ := Kd.R_form HO_3.out (by omega)
    (first | cases eo18 | (injection eo18 with ea_ en_ ec_; (first | subst ea_ | (injection ea_ with ea_; subst ea_)); subst ec_; clear en_))
    have GB18 := Aside0.mk gb18
    have GG18 := Aside0.mk HG18
    clear gb18 gl18 HG18
    (first | simp only [add_plain] at hx275_0 | skip)
    obtain ⟨hx18_0, hf18_0⟩ := Kd.R_celln 0 HO_3.out ((ji8) : Int) p18 q18
    replace p18 := eq_true p18
    replace q18 := eq_true q18
    have HP21 := Kd.R_putn HO_3.out ((ji8) : Int) (Go.bits .or .u32 (rd x3_1 (ji8)) (ji17))
    rw [← Ny276.out] at HP21
    have HQ21 := Aside0.mk HP21
    clear HP21
    refine start_ (n := 20) (S := fun w' => w'.cell? ⟨go18, ((ji8)).toNat, none⟩ = some (.int .u32 (rd x3_1 (ji8)))) (ds := [19]) #[false, false, false, false, false, false, false, false, false, false, false, false, false, false, false, false, false, false, false, false] (by kernel_rfl) rfl rfl (hx275_0) (fun hHeld => ?_); refine with_tabW natural_parse.tab5 natural_parse.bits5 (fun HT_ HW_ => ?_)
    generalize wr.drew = w19 at HO_3 HB GG18 HQ21 hf18_0 hx18_0 hx275_0 hHeld ⊢
    refine xP 0 (some 16) (b 20 1) rfl rfl ?_
    refine xP 1 (some 17) (b 20 3) rfl rfl ?_
    refine xP 2 (some 18) (b 20 7) rfl rfl ?_
    refine xP 3 (some 19) (b 20 15) rfl rfl ?_
    refine xP 5 (some 21) (b 20 47) rfl rfl ?_
    refine xP 6 (some 22) (b 20 111) rfl rfl ?_
    refine xP 7 (some 23) (b 20 239) rfl rfl ?_
    refine xP 8 (some 24) (b 20 495) rfl rfl ?_
    refine xP 9 (some 25) (b 20 1007) rfl rfl ?_
    refine xP 10 (some 26) (b 20 2031) rfl rfl ?_
    refine xP 13 (some 29) (b 20 10223) rfl rfl ?_
    refine xP 14 (some 30) (b 20 26607) rfl rfl ?_
    refine xP 15 (some 31) (b 20 59375) rfl rfl ?_
    refine xT 4 (some 20) (b 20 59391) rfl rfl hHeld ?_
    refine xT 11 (some 27) (b 20 61439) rfl rfl hHeld ?_
    refine xP 12 (some 28) (b 20 65535) rfl rfl ?_
    refine xP 16 (some 32) (b 20 131071) rfl rfl ?_
    refine xP 17 (some 33) (b 20 262143) rfl rfl ?_
    refine xP 18 (some 34) (b 20 524287) rfl rfl ?_
    refine xZ 19 none (b 20 1048575) rfl rfl fun K hK => ?_
    refine xk ?_
    refine hK.out _ _ ?_
    clear hK K
    refine done_ (done_of HT_.out (by kernel_rfl)) ?_
    try go_wp2
    (first | go_roundg k1 | (refine Handed.intro k1 ?measure ?_; rotate_left; go_step; (repeat apply Exists.intro); refine ⟨?rel, (by first | rfl | (simp only [add_plain]; rfl))⟩))
    case measure => have := HK1.out; omega
    case rel => exact ⟨(y276), (wrap64 (x13_1 + 1)), xz, H', ⟨by have := HK1.out; omega⟩, ⟨by (with_reducible repeat (first | apply Kd.R_alloc | apply Kd.R_drewN | apply Kd.R_drew)); (first | exact HQ21.out | (have q_ := HQ21.out; simp only [← hji17m] at q_; exact q_))⟩, ⟨xs HB⟩⟩
   ·rw [if_neg c7] at H
    have c7b0 : decide (x13_1 < (a0.size : Int)) = false := decide_eq_false c7
    clear c7
    replace H := xH H; obtain ⟨t277, A22, H⟩ := H
    obtain rfl := Option.some.inj H
    obtain ⟨Ao23, co23, eo23⟩ := Kd.R_slice HO_3.out
    subst eo23
    go_wp2_with (first | (refine xg Tryd.func98 (some 37) #[.slice Ao23 x3_1.length co23] ?_; (with_reducible refine (natural_limbs_trim.calls k1 (fun k_ => some k_ = (.slice Ao23 x3_1.length co23 : Value).ownBlock) _ _ x3_1 t277 _ ?side1 A22.out).mono ?_); (case side1 => exact Kd.R_V (Kd.R_tight rfl (HO_3.out))); rintro e w24 ⟨v278, rfl, ho0, hb⟩; refine ⟨_, rfl, ?_⟩; have HO279 := Aside0.mk (Kd.V_lower (Kd.V_mono (ok' := fun k_ => (w.heap.size ≤ k_)) ho0 (fun k_ hk_ => Or.elim hk_ (fun hs_ => ((HO_3.out).1 k_ hs_.symm)) (fun hn_ => (Nat.le_trans (below_size (xs HB)) hn_)))) (below_size (xs HB))); replace HO_3 := Aside0.mk (Kd.R_below (xr HO_3.out) hb); replace HB := xS HB hb; clear hb ho0))
    go_ret
    exact ⟨_, by first | rfl | (simp [errW_none, errW_some] <;> rfl) | (simp only [← hji2]; first | rfl | (simp [errW_none, errW_some] <;> rfl)) | (simp [*, errW_none, errW_some] <;> rfl), by (with_reducible repeat (first | apply Kd.V_alloc | apply Kd.V_drewN | apply Kd.V_drew)); exact HO279.out, xs HB⟩
/-! ### natural_limbs_text: function 78 -/
def natural_limbs_text.l0 : Nat → List Int → List Int → Int → Int → Option (ByteArray)
 | 0, _, _, _, _ => none
 | k + 1, x0, x3, x10, x11 => if x11 < x10 then (if 0 ≤ (wrap64 (Int.tdiv x11 4)) then (if (wrap64 (Int.tdiv x11 4)) < (x0.length : Int) then (if 0 ≤ (wrap64 (8 * (Int.tmod x11 4))) then (if 0 ≤ (wrap64 ((wrap64 ((x3.length : Int) - 1)) - x11)) then (if (wrap64 ((wrap64 ((x3.length : Int) - 1)) - x11)) < (x3.length : Int) then (natural_limbs_text.l0 k x0 (x3.set ((wrap64 ((wrap64 ((x3.length : Int) - 1)) - x11)) : Int).toNat ((shr .u32 (rd x0 (wrap64 (Int.tdiv x11 4))) (wrap64 (8 * (Int.tmod x11 4)))) % 256)) x10 (wrap64 (x11 + 1))) else (none)) else (none)) else (none)) else (none)) else (none)) else ((natural_Normalize.f k (strOfNums x3)).bind fun t285 => (some t285))
def natural_limbs_text.f (k : Nat) (l0 : List Int) : Option (ByteArray) := if 0 ≤ (wrap64 ((l0.length : Int) * 4)) then (if (wrap64 ((l0.length : Int) * 4) : Int).toNat ≤ 281474976710656 then ((some (List.replicate (wrap64 ((l0.length : Int) * 4) : Int).toNat 0 : List Int)).bind fun y280 => (natural_limbs_text.l0 k l0 y280 (y280.length : Int) 0)) else (none)) else (none)
theorem natural_limbs_text.mono_l : ∀ k, (∀ y0 y1 y2 y3, LeO (natural_limbs_text.l0 k y0 y1 y2 y3) (natural_limbs_text.l0 (k + 1) y0 y1 y2 y3))
 | 0 => fun _ _ _ _ r h => by simp [natural_limbs_text.l0] at h
 | k + 1 => by
  have ih0 := natural_limbs_text.mono_l k
  ·intro y0 y1 y2 y3
   unfold natural_limbs_text.l0
   have m0 := @ih0; have m1 := @natural_Normalize.mono; exact xM
theorem natural_limbs_text.mono : ∀ a0 k, LeO (natural_limbs_text.f k a0) (natural_limbs_text.f (k + 1) a0) := by
 intro a0 k
 have ih0 := natural_limbs_text.mono_l k
 unfold natural_limbs_text.f
 have m0 := @ih0; have m1 := @natural_Normalize.mono; exact xM
set_option maxHeartbeats 8000000 in
set_option maxRecDepth 100000 in
theorem natural_limbs_text.calls (k : Nat) (A0 : Option Addr) (c0 : Nat) (l0 : List Int) (r : ByteArray) (w : World) (hr0 : Kd.C (Kd.int .u32) w A0 l0.length l0) (hc0 : l0.length ≤ c0) (h : natural_limbs_text.f k l0 = some r) :
  Calls Tryd.prog 78 #[.slice A0 l0.length c0] w fun e w' => e = .returned (.string r) ∧ Below w.heap.size w w' := by
 have HR0 := Aside0.mk hr0
 have HC0 := Aside0.mk hc0
 clear hr0 hc0
 have HB := Aside0.mk (Below.refl w.heap.size w)
 have H : (if 0 ≤ (wrap64 ((l0.length : Int) * 4)) then (if (wrap64 ((l0.length : Int) * 4) : Int).toNat ≤ 281474976710656 then ((some (List.replicate (wrap64 ((l0.length : Int) * 4) : Int).toNat 0 : List Int)).bind fun y280 => (natural_limbs_text.l0 k l0 y280 (y280.length : Int) 0)) else (none)) else (none)) = some r := h
 clear h
 obtain ⟨ji2, hji2⟩ : ∃ j_ : Int, (wrap64 ((l0.length : Int) * 4)) = j_ := ⟨_, rfl⟩
 replace H : (if 0 ≤ (ji2) then (if (ji2 : Int).toNat ≤ 281474976710656 then ((some (List.replicate (ji2 : Int).toNat 0 : List Int)).bind fun y280 => (natural_limbs_text.l0 k l0 y280 (y280.length : Int) 0)) else (none)) else (none)) = some r := by first | (rw [hji2] at H; exact H) | (simp only [hji2] at H ⊢; exact H)
 have hji2w : (IntKind.i64.wrap ((l0.length : Int) * 4)) = ji2 := (i64_w _).trans hji2
 by_cases c3 : 0 ≤ (ji2)
 rotate_left
 ·rw [if_neg c3] at H
  exact absurd H (by simp)
 rw [if_pos c3] at H
 have c3b0 := eq_true c3
 have c3b1 : decide (0 ≤ (ji2)) = true := decide_eq_true c3
 clear c3
 by_cases c4 : (ji2 : Int).toNat ≤ 281474976710656
 rotate_left
 ·rw [if_neg c4] at H
  exact absurd H (by simp)
 rw [if_pos c4] at H
 have c4b0 := eq_true c4
 have c4b1 : decide ((ji2 : Int).toNat ≤ 281474976710656) = true := decide_eq_true c4
 clear c4
 obtain ⟨y280, hy280⟩ : ∃ y_ : List Int, y_ = (List.replicate (ji2 : Int).toNat 0) := ⟨_, rfl⟩
 replace H : (natural_limbs_text.l0 k l0 y280 (y280.length : Int) 0) = some r := by first | (rw [hy280]; with_reducible exact H) | (have H2_ := (Option.bind_some _ _).symm.trans H; rw [hy280]; with_reducible exact H2_) | (have H2_ := (Option.bind_some _ _).symm.trans H; with_reducible exact H2_) | with_reducible exact H | (rw [hy280]; exact H) | exact H
 have Ny280 := Aside0.mk hy280
 clear hy280
 have H' := Aside0.mk H
 clear H
 go_enter Tryd.func78, Tryd.ntmps78
 go_wp2_with (first | ((with_reducible refine gate_dst (N := 8) rfl ?_); refine Kd.R_make (Kd.int .u8) _ 5 rfl (N := 8) rfl 103 _ _ rfl ji2 rfl rfl Tryd.underlying103 (.int .u8 0) 1 info5 rfl (by decide) (by omega) 0 (ok := fun _ => True) (okp := fun _ => True) rfl (fun _ hk => hk) trivial (xa) (Nat.le_trans (Nat.mul_le_mul_right _ (xa : ji2.toNat ≤ 281474976710656)) (by omega)) (Below.refl _ _) (Nat.le_refl _) ?_; intro v281 w5 ho6 hb hg_ hnew_; clear hg_ hnew_; (first | rw [← Ny280.out] at ho6 | (simp only [Int.reduceToNat] at ho6; rw [← Ny280.out] at ho6)); have HO282 := Aside0.mk (Kd.R_lower ho6 (below_size (xs HB))); replace HB := xS HB hb; clear hb ho6; obtain ⟨Ao7, co7, eo7⟩ := Kd.R_slice HO282.out; subst eo7))
 go_loopg [11] k (fun kq v11 w' => ∃ (x3_1 : List Int) (x11_1 : Int), v11 = .int .i64 x11_1 ∧ Aside0 (natural_limbs_text.l0 kq l0 x3_1 (y280.length : Int) x11_1 = some r) ∧ Aside0 (kq ≤ k) ∧ Aside0 (Kd.R (Kd.int .u8) 5 w' w.heap.size (fun _ => True) (.slice Ao7 y280.length co7) x3_1) ∧ Aside0 (Below w.heap.size w w'))
 case atStart => exact ⟨(y280), (0), xz, H', ⟨Nat.le_refl _⟩, ⟨xr HO282.out⟩, ⟨xs HB⟩⟩
 case round =>
  clear H'
  try clear p2
  try clear c3
  try clear c3b0
  try clear c3b1
  try clear c4
  try clear c4b0
  try clear c4b1
  try clear p6
  try clear c7
  obtain ⟨x3_1, x11_1, rfl, HA, HK1, HO_3, HB⟩ := hrel
  have hl3_1 := (Kd.R_reads' HO_3.out).1
  rw [hl3_1] at HO_3
  (try simp only [hl3_1])
  cases gk with
  | zero => exact absurd HA.out (by simp [natural_limbs_text.l0])
  | succ k1 =>
   have H := HA.out
   clear HA
   simp only [natural_limbs_text.l0] at H
   by_cases c8 : x11_1 < (y280.length : Int)
   ·rw [if_pos c8] at H
    have c8b0 : decide (x11_1 < (y280.length : Int)) = true := decide_eq_true c8
    (try simp only [hl3_1] at c8b0)
    clear c8
    obtain ⟨ji9, hji9⟩ : ∃ j_ : Int, (wrap64 (Int.tdiv x11_1 4)) = j_ := ⟨_, rfl⟩
    replace H : (if 0 ≤ (ji9) then (if (ji9) < (l0.length : Int) then (if 0 ≤ (wrap64 (8 * (Int.tmod x11_1 4))) then (if 0 ≤ (wrap64 ((wrap64 ((x3_1.length : Int) - 1)) - x11_1)) then (if (wrap64 ((wrap64 ((x3_1.length : Int) - 1)) - x11_1)) < (x3_1.length : Int) then (natural_limbs_text.l0 k1 l0 (x3_1.set ((wrap64 ((wrap64 ((x3_1.length : Int) - 1)) - x11_1)) : Int).toNat ((shr .u32 (rd l0 (ji9)) (wrap64 (8 * (Int.tmod x11_1 4)))) % 256)) (y280.length : Int) (wrap64 (x11_1 + 1))) else (none)) else (none)) else (none)) else (none)) else (none)) = some r := by first | (rw [hji9] at H; exact H) | (simp only [hji9] at H ⊢; exact H)
    have hji9w : (IntKind.i64.wrap (Int.tdiv x11_1 4)) = ji9 := (i64_w _).trans hji9
    by_cases c10 : 0 ≤ (ji9)
    rotate_left
    ·rw [if_neg c10] at H
     exact absurd H (by simp)
    rw [if_pos c10] at H
    have c10b0 : decide (0 ≤ (ji9)) = true := decide_eq_true c10
    clear c10
    by_cases c11 : (ji9) < (l0.length : Int)
    rotate_left
    ·rw [if_neg c11] at H
     exact absurd H (by simp)
    rw [if_pos c11] at H
    have c11b0 : decide ((ji9) < (l0.length : Int)) = true := decide_eq_true c11
    (try simp only [hl3_1] at c11b0)
    clear c11
    obtain ⟨ji12, hji12⟩ : ∃ j_ : Int, (wrap64 (8 * (Int.tmod x11_1 4))) = j_ := ⟨_, rfl⟩
    replace H : (if 0 ≤ (ji12) then (if 0 ≤ (wrap64 ((wrap64 ((x3_1.length : Int) - 1)) - x11_1)) then (if (wrap64 ((wrap64 ((x3_1.length : Int) - 1)) - x11_1)) < (x3_1.length : Int) then (natural_limbs_text.l0 k1 l0 (x3_1.set ((wrap64 ((wrap64 ((x3_1.length : Int) - 1)) - x11_1)) : Int).toNat ((shr .u32 (rd l0 (ji9)) (ji12)) % 256)) (y280.length : Int) (wrap64 (x11_1 + 1))) else (none)) else (none)) else (none)) = some r := by first | (rw [hji12] at H; exact H) | (simp only [hji12] at H ⊢; exact H)
    have hji12w : (IntKind.i64.wrap (8 * (Int.tmod x11_1 4))) = ji12 := (i64_w _).trans hji12
    by_cases c13 : 0 ≤ (ji12)
    rotate_left
    ·rw [if_neg c13] at H
     exact absurd H (by simp)
    rw [if_pos c13] at H
    have c13b0 := eq_true c13
    have c13b1 : decide (0 ≤ (ji12)) = true := decide_eq_true c13
    clear c13
    obtain ⟨ji14, hji14⟩ : ∃ j_ : Int, (shr .u32 (rd l0 (ji9)) (ji12)) = j_ := ⟨_, rfl⟩
    replace H : (if 0 ≤ (wrap64 ((wrap64 ((x3_1.length : Int) - 1)) - x11_1)) then (if (wrap64 ((wrap64 ((x3_1.length : Int) - 1)) - x11_1)) < (x3_1.length : Int) then (natural_limbs_text.l0 k1 l0 (x3_1.set ((wrap64 ((wrap64 ((x3_1.length : Int) - 1)) - x11_1)) : Int).toNat ((ji14) % 256)) (y280.length : Int) (wrap64 (x11_1 + 1))) else (none)) else (none)) = some r := by first | (rw [hji14] at H; exact H) | (simp only [hji14] at H ⊢; exact H)
    have hji14_ : ((rd l0 (ji9)) / 2 ^ min (ji12).toNat 32) = ji14 := hji14
    have hji14z : (ji12) ≤ 32 → ((rd l0 (ji9)) / 2 ^ (ji12).toNat) = ji14 := shr_small hji14
    obtain ⟨ji15, hji15⟩ : ∃ j_ : Int, (wrap64 ((wrap64 ((x3_1.length : Int) - 1)) - x11_1)) = j_ := ⟨_, rfl⟩
    replace H : (if 0 ≤ (ji15) then (if (ji15) < (x3_1.length : Int) then (natural_limbs_text.l0 k1 l0 (x3_1.set ((ji15) : Int).toNat ((ji14) % 256)) (y280.length : Int) (wrap64 (x11_1 + 1))) else (none)) else (none)) = some r := by first | (rw [hji15] at H; exact H) | (simp only [hji15] at H ⊢; exact H)
    have hji15w : (IntKind.i64.wrap ((wrap64 ((x3_1.length : Int) - 1)) - x11_1)) = ji15 := (i64_w _).trans hji15
    by_cases c16 : 0 ≤ (ji15)
    rotate_left
    ·rw [if_neg c16] at H
     exact absurd H (by simp)
    rw [if_pos c16] at H
    have c16b0 : decide (0 ≤ (ji15)) = true := decide_eq_true c16
    clear c16
    by_cases c17 : (ji15) < (x3_1.length : Int)
    rotate_left
    ·rw [if_neg c17] at H
     exact absurd H (by simp)
    rw [if_pos c17] at H
    have c17b0 : decide ((ji15) < (x3_1.length : Int)) = true := decide_eq_true c17
    (try simp only [hl3_1] at c17b0)
    clear c17
    obtain ⟨y284, hy284⟩ : ∃ y_ : List Int, y_ = (x3_1.set ((ji15) : Int).toNat ((ji14) % 256)) := ⟨_, rfl⟩
    replace H : (natural_limbs_text.l0 k1 l0 y284 (y280.length : Int) (wrap64 (x11_1 + 1))) = some r := by first | (rw [hy284]; with_reducible exact H) | (have H2_ := (Option.bind_some _ _).symm.trans H; rw [hy284]; with_reducible exact H2_) | (have H2_ := (Option.bind_some _ _).symm.trans H; with_reducible exact H2_) | with_reducible exact H | (rw [hy284]; exact H) | exact H
    have Ny284 := Aside0.mk hy284
    clear hy284
    have H' := Aside0.mk H
    clear H
    have p283 : 0 ≤ ((ji9) : Int) := xa
    have q283 : (ji9) < (l0.length : Int) := xa
    obtain ⟨ad283, e283, hx283_0⟩ := Kd.at_int HR0.out (ji9) p283 q283
    cases e283
    (try replace hx283_0 := (HB.out.cell (World.block_lt_of_cell? w _ hx283_0)).trans hx283_0)
    replace p283 := eq_true p283
    replace q283 := eq_true q283
    have p18 : 0 ≤ ((ji15) : Int) := xa
    have q18 : ((ji15) : Int) < ((x3_1.length : Int) : Int) := xa
    obtain ⟨go18, co18, eo18, gb18, gl18, cl18, HG18⟩ := Kd.R_form HO_3.out (by omega)
    (first | cases eo18 | (injection eo18 with ea_ en_ ec_; (first | subst ea_ | (injection ea_ with ea_; subst ea_)); subst ec_; clear en_))
    have GB18 := Aside0.mk gb18
    have GG18 := Aside0.mk HG18
    clear gb18 gl18 HG18
    obtain ⟨hx18_0, hf18_0⟩ := Kd.R_celln 0 HO_3.out ((ji15) : Int) p18 q18
    replace p18 := eq_true p18
    replace q18 := eq_true q18
    have HP19 := Kd.R_putg HO_3.out ((ji15) : Int) ((ji14) % 256)
    go_wp2_with (first | ((with_reducible refine gate_store (t := 5) (p := 30) rfl ?_); refine store_event (t := 5) (p := 30) (v := ?vo_w20) (w1 := (wr.setCell ⟨go18, ((ji15) : Int).toNat, none⟩ (.int .u8 ((ji14) % 256)))) ?hg ?ho ?hn ?hr ?_; (case ho => rfl); (case hg => rfl); (case hn => rfl); (case hr => first | (go_simp; done) | (go_simp; rfl)); intro w20 hw; have hg : wr.grownBy w20 (some go18) := (by rw [hw]; exact HP19.2); have hp_ : Kd.R (Kd.int .u8) 5 w20 w.heap.size (fun _ => True) (.slice (some ⟨go18, 0, none⟩) x3_1.length co7) y284 := (by rw [hw, Ny284.out]; exact HP19.1); clear HP19; replace HO_3 := Aside0.mk (hp_); replace HB := Aside0.mk ((by rw [hw]; exact below_set (HB.out) GB18.out : Below w.heap.size w w20)); clear hg hw hp_))
    (try simp only [← hl3_1])
    (first | go_roundg k1 | (refine Handed.intro k1 ?measure ?_; rotate_left; go_step; (repeat apply Exists.intro); refine ⟨?rel, (by first | rfl | (simp only [add_plain]; rfl))⟩))
    case measure => have := HK1.out; omega
    case rel => exact ⟨(y284), (wrap64 (x11_1 + 1)), xz, H', ⟨by have := HK1.out; omega⟩, ⟨by (try simp only [hl3_1]); (with_reducible repeat (first | apply Kd.R_alloc | apply Kd.R_drewN | apply Kd.R_drew)); exact HO_3.out⟩, ⟨xs HB⟩⟩
   ·rw [if_neg c8] at H
    have c8b0 : decide (x11_1 < (y280.length : Int)) = false := decide_eq_false c8
    (try simp only [hl3_1] at c8b0)
    clear c8
    replace H := xH H; obtain ⟨t285, A21, H⟩ := H
    obtain rfl := Option.some.inj H
    have hcv22 := own_string (P := Tryd.prog) Tryd.underlying103 Tryd.underlying5 Tryd.underlying9 (Kd.own_of_R HO_3.out)
    go_wp2_with (first | (refine xC Tryd.func74 (some 34) (natural_Normalize.calls k1 (strOfNums x3_1) t285 _ A21.out) ?_; rintro w23 hb; replace HO_3 := Aside0.mk (Kd.R_below (xr HO_3.out) hb); replace HB := xS HB hb; clear hb))
    go_ret
    exact ⟨by first | rfl | (simp [errW_none, errW_some] <;> rfl) | (simp only [← hji2]; first | rfl | (simp [errW_none, errW_some] <;> rfl)) | (simp [*, errW_none, errW_some] <;> rfl), xs HB⟩
/-! ### natural_sign: function 75 -/
def natural_sign.f (a0 : Int) : Option (Int) := if a0 < 0 then (some (-1)) else (if a0 > 0 then (some 1) else (some 0))
set_option maxHeartbeats 8000000 in
set_option maxRecDepth 100000 in
theorem natural_sign.calls (a0 : Int) (r : Int) (w : World) (h : natural_sign.f a0 = some r) :
  Calls Tryd.prog 75 #[.int .i64 a0] w fun e w' => e = .returned (.int .i64 r) ∧ Drawn0 w w' := by
 have H : (if a0 < 0 then (some (-1)) else (if a0 > 0 then (some 1) else (some 0))) = some r := h
 clear h
 by_cases c2 : a0 < 0
 ·rw [if_pos c2] at H
  have c2b0 : decide (a0 < 0) = true := decide_eq_true c2
  clear c2
  obtain rfl := Option.some.inj H
  go_enter Tryd.func75, Tryd.ntmps75
  go_wp2
  go_ret
  exact ⟨xz, xd⟩
 ·rw [if_neg c2] at H
  have c2b0 : decide (a0 < 0) = false := decide_eq_false c2
  clear c2
  by_cases c3 : a0 > 0
  ·rw [if_pos c3] at H
   have c3b0 : decide (0 < a0) = true := decide_eq_true c3
   clear c3
   obtain rfl := Option.some.inj H
   go_enter Tryd.func75, Tryd.ntmps75
   go_wp2
   go_ret
   exact ⟨xz, xd⟩
  ·rw [if_neg c3] at H
   have c3b0 : decide (0 < a0) = false := decide_eq_false c3
   clear c3
   obtain rfl := Option.some.inj H
   go_enter Tryd.func75, Tryd.ntmps75
   go_wp2
   go_ret
   exact ⟨xz, xd⟩
/-! ### natural_compare: function 94 -/
def natural_compare.l0 : Nat → List Int → List Int → Int → Option (Int)
 | 0, _, _, _ => none
 | k + 1, x0, x1, x5 => if x5 ≥ 0 then (if 0 ≤ x5 then (if x5 < (x0.length : Int) then (if x5 < (x1.length : Int) then (if (rd x0 x5) = (rd x1 x5) then (natural_compare.l0 k x0 x1 (wrap64 (x5 - 1))) else (if (rd x0 x5) < (rd x1 x5) then (some (-1)) else (some 1))) else (none)) else (none)) else (none)) else (some 0)
def natural_compare.f (k : Nat) (l0 : List Int) (l1 : List Int) : Option (Int) := if (l0.length : Int) = (l1.length : Int) then (natural_compare.l0 k l0 l1 (wrap64 ((l0.length : Int) - 1))) else ((natural_sign.f (wrap64 ((l0.length : Int) - (l1.length : Int)))).bind fun t286 => (some t286))
theorem natural_compare.mono_l : ∀ k, (∀ y0 y1 y2, LeO (natural_compare.l0 k y0 y1 y2) (natural_compare.l0 (k + 1) y0 y1 y2))
 | 0 => fun _ _ _ r h => by simp [natural_compare.l0] at h
 | k + 1 => by
  have ih0 := natural_compare.mono_l k
  ·intro y0 y1 y2
   unfold natural_compare.l0
   have m0 := @ih0; exact xM
theorem natural_compare.mono : ∀ a0 a1 k, LeO (natural_compare.f k a0 a1) (natural_compare.f (k + 1) a0 a1) := by
 intro a0 a1 k
 have ih0 := natural_compare.mono_l k
 unfold natural_compare.f
 have m0 := @ih0; exact xM
set_option maxHeartbeats 8000000 in
set_option maxRecDepth 100000 in
theorem natural_compare.calls (k : Nat) (A0 : Option Addr) (c0 : Nat) (l0 : List Int) (A1 : Option Addr) (c1 : Nat) (l1 : List Int) (r : Int) (w : World) (hr0 : Kd.C (Kd.int .u32) w A0 l0.length l0) (hc0 : l0.length ≤ c0) (hr1 : Kd.C (Kd.int .u32) w A1 l1.length l1) (hc1 : l1.length ≤ c1) (h : natural_compare.f k l0 l1 = some r) :
  Calls Tryd.prog 94 #[.slice A0 l0.length c0, .slice A1 l1.length c1] w fun e w' => e = .returned (.int .i64 r) ∧ Drawn0 w w' := by
 have HR0 := Aside0.mk hr0
 have HC0 := Aside0.mk hc0
 clear hr0 hc0
 have HR1 := Aside0.mk hr1
 have HC1 := Aside0.mk hc1
 clear hr1 hc1
 have H : (if (l0.length : Int) = (l1.length : Int) then (natural_compare.l0 k l0 l1 (wrap64 ((l0.length : Int) - 1))) else ((natural_sign.f (wrap64 ((l0.length : Int) - (l1.length : Int)))).bind fun t286 => (some t286))) = some r := h
 clear h
 by_cases c3 : (l0.length : Int) = (l1.length : Int)
 ·rw [if_pos c3] at H
  have c3b0 : ((l0.length : Int) == (l1.length : Int)) = true := beq_iff_eq.mpr c3
  have c3b1 : ((l0.length : Int) != (l1.length : Int)) = false := bne_eq_false_iff_eq.mpr c3
  have c3b2 : (l0.length == l1.length) = true := by first | simpa using c3 | (simp at c3 ⊢; omega)
  clear c3
  have H' := Aside0.mk H
  clear H
  go_enter Tryd.func94, Tryd.ntmps94
  go_wp2
  repeat (go_quiet (fail); try go_wp2)
  go_loopg [5] k (fun kq v5 w' => ∃ (x5_1 : Int), v5 = .int .i64 x5_1 ∧ Aside0 (natural_compare.l0 kq l0 l1 x5_1 = some r) ∧ Aside0 (kq ≤ k) ∧ Drawn0 w w')
  case atStart => exact ⟨(wrap64 ((l0.length : Int) - 1)), xz, H', ⟨Nat.le_refl _⟩, xd⟩
  case round =>
   clear H'
   try clear c1
   try clear p2
   try clear c3
   try clear c3b0
   try clear c3b1
   try clear c3b2
   obtain ⟨x5_1, rfl, HA, HK1, ⟨m1, rfl⟩⟩ := hrel
   cases gk with
   | zero => exact absurd HA.out (by simp [natural_compare.l0])
   | succ k1 =>
    have H := HA.out
    clear HA
    simp only [natural_compare.l0] at H
    by_cases c4 : x5_1 ≥ 0
    ·rw [if_pos c4] at H
     have c4b0 : decide (0 ≤ x5_1) = true := decide_eq_true c4
     clear c4
     by_cases c5 : 0 ≤ x5_1
     rotate_left
     ·rw [if_neg c5] at H
      exact absurd H (by simp)
     rw [if_pos c5] at H
     have c5b0 : decide (0 ≤ x5_1) = true := decide_eq_true c5
     clear c5
     by_cases c6 : x5_1 < (l0.length : Int)
     rotate_left
     ·rw [if_neg c6] at H
      exact absurd H (by simp)
     rw [if_pos c6] at H
     have c6b0 : decide (x5_1 < (l0.length : Int)) = true := decide_eq_true c6
     clear c6
     by_cases c7 : x5_1 < (l1.length : Int)
     rotate_left
     ·rw [if_neg c7] at H
      exact absurd H (by simp)
     rw [if_pos c7] at H
     have c7b0 : decide (x5_1 < (l1.length : Int)) = true := decide_eq_true c7
     clear c7
     by_cases c8 : (rd l0 x5_1) = (rd l1 x5_1)
     ·rw [if_pos c8] at H
      have c8b0 : ((rd l0 x5_1) == (rd l1 x5_1)) = true := beq_iff_eq.mpr c8
      have c8b1 : ((rd l0 x5_1) != (rd l1 x5_1)) = false := bne_eq_false_iff_eq.mpr c8
      clear c8
      have H' := Aside0.mk H
      clear H
      have p287 : 0 ≤ (x5_1 : Int) := xa
      have q287 : x5_1 < (l0.length : Int) := xa
      obtain ⟨ad287, e287, hx287_0⟩ := Kd.at_int HR0.out x5_1 p287 q287
      cases e287
      replace p287 := eq_true p287
      replace q287 := eq_true q287
      have p288 : 0 ≤ (x5_1 : Int) := xa
      have q288 : x5_1 < (l1.length : Int) := xa
      obtain ⟨ad288, e288, hx288_0⟩ := Kd.at_int HR1.out x5_1 p288 q288
      cases e288
      replace p288 := eq_true p288
      replace q288 := eq_true q288
      go_wp2
      repeat (go_quiet (fail); try go_wp2)
      (first | go_roundg k1 | (refine Handed.intro k1 ?measure ?_; rotate_left; go_step; (repeat apply Exists.intro); refine ⟨?rel, (by first | rfl | (simp only [add_plain]; rfl))⟩))
      case measure => have := HK1.out; omega
      case rel => exact ⟨(wrap64 (x5_1 - 1)), xz, H', ⟨by have := HK1.out; omega⟩, xd⟩
     ·rw [if_neg c8] at H
      have c8b0 : ((rd l0 x5_1) == (rd l1 x5_1)) = false := beq_eq_false_iff_ne.mpr c8
      have c8b1 : ((rd l0 x5_1) != (rd l1 x5_1)) = true := bne_iff_ne.mpr c8
      by_cases c9 : (rd l0 x5_1) < (rd l1 x5_1)
      ·rw [if_pos c9] at H
       have c9b0 : decide ((rd l0 x5_1) < (rd l1 x5_1)) = true := decide_eq_true c9
       clear c9
       obtain rfl := Option.some.inj H
       have p287 : 0 ≤ (x5_1 : Int) := xa
       have q287 : x5_1 < (l0.length : Int) := xa
       obtain ⟨ad287, e287, hx287_0⟩ := Kd.at_int HR0.out x5_1 p287 q287
       cases e287
       replace p287 := eq_true p287
       replace q287 := eq_true q287
       have p288 : 0 ≤ (x5_1 : Int) := xa
       have q288 : x5_1 < (l1.length : Int) := xa
       obtain ⟨ad288, e288, hx288_0⟩ := Kd.at_int HR1.out x5_1 p288 q288
       cases e288
       replace p288 := eq_true p288
       replace q288 := eq_true q288
       have p289 : 0 ≤ (x5_1 : Int) := xa
       have q289 : x5_1 < (l0.length : Int) := xa
       obtain ⟨ad289, e289, hx289_0⟩ := Kd.at_int HR0.out x5_1 p289 q289
       obtain rfl : ad287 = ad289 := (by injection e289)
       replace p289 := eq_true p289
       replace q289 := eq_true q289
       have p290 : 0 ≤ (x5_1 : Int) := xa
       have q290 : x5_1 < (l1.length : Int) := xa
       obtain ⟨ad290, e290, hx290_0⟩ := Kd.at_int HR1.out x5_1 p290 q290
       obtain rfl : ad288 = ad290 := (by injection e290)
       replace p290 := eq_true p290
       replace q290 := eq_true q290
       go_wp2
       repeat (go_quiet (fail); try go_wp2)
       go_ret
       exact ⟨xz, xd⟩
      ·rw [if_neg c9] at H
       have c9b0 : decide ((rd l0 x5_1) < (rd l1 x5_1)) = false := decide_eq_false c9
       clear c9
       obtain rfl := Option.some.inj H
       have p287 : 0 ≤ (x5_1 : Int) := xa
       have q287 : x5_1 < (l0.length : Int) := xa
       obtain ⟨ad287, e287, hx287_0⟩ := Kd.at_int HR0.out x5_1 p287 q287
       cases e287
       replace p287 := eq_true p287
       replace q287 := eq_true q287
       have p288 : 0 ≤ (x5_1 : Int) := xa
       have q288 : x5_1 < (l1.length : Int) := xa
       obtain ⟨ad288, e288, hx288_0⟩ := Kd.at_int HR1.out x5_1 p288 q288
       cases e288
       replace p288 := eq_true p288
       replace q288 := eq_true q288
       have p289 : 0 ≤ (x5_1 : Int) := xa
       have q289 : x5_1 < (l0.length : Int) := xa
       obtain ⟨ad289, e289, hx289_0⟩ := Kd.at_int HR0.out x5_1 p289 q289
       obtain rfl : ad287 = ad289 := (by injection e289)
       replace p289 := eq_true p289
       replace q289 := eq_true q289
       have p290 : 0 ≤ (x5_1 : Int) := xa
       have q290 : x5_1 < (l1.length : Int) := xa
       obtain ⟨ad290, e290, hx290_0⟩ := Kd.at_int HR1.out x5_1 p290 q290
       obtain rfl : ad288 = ad290 := (by injection e290)
       replace p290 := eq_true p290
       replace q290 := eq_true q290
       go_wp2
       repeat (go_quiet (fail); try go_wp2)
       go_ret
       exact ⟨xz, xd⟩
    ·rw [if_neg c4] at H
     have c4b0 : decide (0 ≤ x5_1) = false := decide_eq_false c4
     clear c4
     obtain rfl := Option.some.inj H
     go_wp2
     repeat (go_quiet (fail); try go_wp2)
     go_ret
     exact ⟨xz, xd⟩
 ·rw [if_neg c3] at H
  have c3b0 : ((l0.length : Int) == (l1.length : Int)) = false := beq_eq_false_iff_ne.mpr c3
  have c3b1 : ((l0.length : Int) != (l1.length : Int)) = true := bne_iff_ne.mpr c3
  have c3b2 : (l0.length == l1.length) = false := by first | simpa using c3 | (simp at c3 ⊢; omega)
  replace H := xH H; obtain ⟨t286, A10, H⟩ := H
  obtain rfl := Option.some.inj H
  go_enter Tryd.func94, Tryd.ntmps94
  go_wp2_with (first | (go_at_call 75; (with_reducible refine (natural_sign.calls (wrap64 ((l0.length : Int) - (l1.length : Int))) t286 _ A10.out).mono ?_); rintro e w' ⟨rfl, ⟨nd, rfl⟩⟩; (try first | exact ⟨rfl, _, World.drewN_drewN _ _ _⟩ | exact ⟨rfl, _, Eq.trans (World.drewN_drewN _ _ _) (congrArg (World.drewN _) (Nat.add_assoc _ _ _))⟩)))
  repeat (go_quiet (first | (go_at_call 75; (with_reducible refine (natural_sign.calls (wrap64 ((l0.length : Int) - (l1.length : Int))) t286 _ A10.out).mono ?_); rintro e w' ⟨rfl, ⟨nd, rfl⟩⟩; (try first | exact ⟨rfl, _, World.drewN_drewN _ _ _⟩ | exact ⟨rfl, _, Eq.trans (World.drewN_drewN _ _ _) (congrArg (World.drewN _) (Nat.add_assoc _ _ _))⟩))); try go_wp2_with (first | (go_at_call 75; (with_reducible refine (natural_sign.calls (wrap64 ((l0.length : Int) - (l1.length : Int))) t286 _ A10.out).mono ?_); rintro e w' ⟨rfl, ⟨nd, rfl⟩⟩; (try first | exact ⟨rfl, _, World.drewN_drewN _ _ _⟩ | exact ⟨rfl, _, Eq.trans (World.drewN_drewN _ _ _) (congrArg (World.drewN _) (Nat.add_assoc _ _ _))⟩))))
  go_ret
  exact ⟨xz, xd⟩
/-! ### natural_divideSmall: function 109 -/
def natural_divideSmall.l0 : Nat → List Int → Int → List Int → Int → Int → Option (List Int × Int)
 | 0, _, _, _, _, _ => none
 | k + 1, x0, x1, x6, x7, x8 => if x8 ≥ 0 then (if 0 ≤ x8 then (if x8 < (x0.length : Int) then (if (IntKind.u64.wrap (x1)) = 0 then (none) else (if x8 < (x6.length : Int) then (natural_divideSmall.l0 k x0 x1 (x6.set (x8 : Int).toNat ((IntKind.u64.wrap (Int.tdiv (Go.bits .or .u64 (IntKind.u64.wrap (x7 * 4294967296)) (IntKind.u64.wrap (rd x0 x8))) (IntKind.u64.wrap (x1)))) % 4294967296)) (Int.tmod (Go.bits .or .u64 (IntKind.u64.wrap (x7 * 4294967296)) (IntKind.u64.wrap (rd x0 x8))) (IntKind.u64.wrap (x1))) (wrap64 (x8 - 1))) else (none))) else (none)) else (none)) else ((natural_limbs_trim.f k x6).bind fun t296 => (some (t296, (x7) % 4294967296)))
def natural_divideSmall.f (k : Nat) (l0 : List Int) (a1 : Int) : Option (List Int × Int) := if 0 ≤ (l0.length : Int) then (if ((l0.length : Int) : Int).toNat ≤ 70368744177664 then (natural_divideSmall.l0 k l0 a1 (List.replicate ((l0.length : Int) : Int).toNat 0) 0 (wrap64 ((l0.length : Int) - 1))) else (none)) else (none)
theorem natural_divideSmall.mono_l : ∀ k, (∀ y0 y1 y2 y3 y4, LeO (natural_divideSmall.l0 k y0 y1 y2 y3 y4) (natural_divideSmall.l0 (k + 1) y0 y1 y2 y3 y4))
 | 0 => fun _ _ _ _ _ r h => by simp [natural_divideSmall.l0] at h
 | k + 1 => by
  have ih0 := natural_divideSmall.mono_l k
  ·intro y0 y1 y2 y3 y4
   unfold natural_divideSmall.l0
   have m0 := @ih0; have m1 := @natural_limbs_trim.mono; exact xM
theorem natural_divideSmall.mono : ∀ a0 a1 k, LeO (natural_divideSmall.f k a0 a1) (natural_divideSmall.f (k + 1) a0 a1) := by
 intro a0 a1 k
 have ih0 := natural_divideSmall.mono_l k
 unfold natural_divideSmall.f
 have m0 := @ih0; have m1 := @natural_limbs_trim.mono; exact xM
set_option maxHeartbeats 8000000 in
set_option maxRecDepth 100000 in
theorem natural_divideSmall.calls (k : Nat) (A0 : Option Addr) (c0 : Nat) (l0 : List Int) (a1 : Int) (r1 : List Int) (r2 : Int) (w : World) (hr0 : Kd.C (Kd.int .u32) w A0 l0.length l0) (hc0 : l0.length ≤ c0) (h : natural_divideSmall.f k l0 a1 = some (r1, r2)) :
  Calls Tryd.prog 109 #[.slice A0 l0.length c0, .int .u32 a1] w fun e w' => ∃ v0_ : Value, e = .returned (.tuple #[v0_, .int .u32 r2]) ∧ Kd.V (Kd.int .u32) 85 w' w.heap.size (fun k_ => (w.heap.size ≤ k_)) v0_ r1 ∧ Below w.heap.size w w' := by
 have HR0 := Aside0.mk hr0
 have HC0 := Aside0.mk hc0
 clear hr0 hc0
 have HB := Aside0.mk (Below.refl w.heap.size w)
 have H : (if 0 ≤ (l0.length : Int) then (if ((l0.length : Int) : Int).toNat ≤ 70368744177664 then (natural_divideSmall.l0 k l0 a1 (List.replicate ((l0.length : Int) : Int).toNat 0) 0 (wrap64 ((l0.length : Int) - 1))) else (none)) else (none)) = some (r1, r2) := h
 clear h
 by_cases c3 : 0 ≤ (l0.length : Int)
 rotate_left
 ·rw [if_neg c3] at H
  exact absurd H (by simp)
 rw [if_pos c3] at H
 have c3b0 := eq_true c3
 have c3b1 : decide (0 ≤ (l0.length : Int)) = true := decide_eq_true c3
 clear c3
 by_cases c4 : ((l0.length : Int) : Int).toNat ≤ 70368744177664
 rotate_left
 ·rw [if_neg c4] at H
  exact absurd H (by simp)
 rw [if_pos c4] at H
 have c4b0 := eq_true c4
 have c4b1 : decide (((l0.length : Int) : Int).toNat ≤ 70368744177664) = true := decide_eq_true c4
 clear c4
 obtain ⟨y291, hy291⟩ : ∃ y_ : List Int, y_ = (List.replicate ((l0.length : Int) : Int).toNat 0) := ⟨_, rfl⟩
 replace H : (natural_divideSmall.l0 k l0 a1 y291 0 (wrap64 ((l0.length : Int) - 1))) = some (r1, r2) := by first | (rw [hy291]; with_reducible exact H) | (have H2_ := (Option.bind_some _ _).symm.trans H; rw [hy291]; with_reducible exact H2_) | (have H2_ := (Option.bind_some _ _).symm.trans H; with_reducible exact H2_) | with_reducible exact H | (rw [hy291]; exact H) | exact H
 have Ny291 := Aside0.mk hy291
 clear hy291
 have H' := Aside0.mk H
 clear H
 go_enter Tryd.func109, Tryd.ntmps109
 go_wp2_with (first | ((with_reducible refine gate_dst (N := 12) rfl ?_); refine Kd.R_make (Kd.int .u32) _ 85 rfl (N := 12) rfl 83 _ _ rfl (l0.length : Int) rfl rfl Tryd.underlying83 (.int .u32 0) 4 info85 rfl (by decide) (by omega) 0 (ok := fun _ => True) (okp := fun _ => True) rfl (fun _ hk => hk) trivial (xa) (Nat.le_trans (Nat.mul_le_mul_right _ (xa : (l0.length : Int).toNat ≤ 70368744177664)) (by omega)) (Below.refl _ _) (Nat.le_refl _) ?_; intro v292 w5 ho6 hb hg_ hnew_; clear hg_ hnew_; (first | rw [← Ny291.out] at ho6 | (simp only [Int.reduceToNat] at ho6; rw [← Ny291.out] at ho6)); have HO293 := Aside0.mk (Kd.R_lower (Kd.R_newM (M := fun k_ => (w.heap.size ≤ k_)) ho6 (below_size (xs HB)) (fun k_ h_ => h_)) (below_size (xs HB))); replace HB := xS HB hb; clear hb ho6))
 go_loopg [7, 8] k (fun kq v7 v8 w' => ∃ (x6_1 : List Int) (x7_1 : Int) (x8_1 : Int), v7 = .int .u64 x7_1 ∧ v8 = .int .i64 x8_1 ∧ Aside0 (natural_divideSmall.l0 kq l0 a1 x6_1 x7_1 x8_1 = some (r1, r2)) ∧ Aside0 (kq ≤ k) ∧ Aside0 (Kd.R (Kd.int .u32) 85 w' w.heap.size (fun k_ => (w.heap.size ≤ k_)) v292 x6_1) ∧ Aside0 (Below w.heap.size w w'))
 case atStart => exact ⟨(y291), (0), (wrap64 ((l0.length : Int) - 1)), xz, xz, H', ⟨Nat.le_refl _⟩, ⟨by (with_reducible repeat (first | apply Kd.R_alloc | apply Kd.R_drewN | apply Kd.R_drew)); exact Kd.R_mono HO293.out (fun _ hk => hk.1)⟩, ⟨xs HB⟩⟩
 case round =>
  clear H'
  try clear c1
  try clear p2
  try clear c3
  try clear c3b0
  try clear c3b1
  try clear c4
  try clear c4b0
  try clear c4b1
  try clear p6
  obtain ⟨x6_1, x7_1, x8_1, rfl, rfl, HA, HK1, HO_6, HB⟩ := hrel
  cases gk with
  | zero => exact absurd HA.out (by simp [natural_divideSmall.l0])
  | succ k1 =>
   have H := HA.out
   clear HA
   simp only [natural_divideSmall.l0] at H
   by_cases c7 : x8_1 ≥ 0
   ·rw [if_pos c7] at H
    have c7b0 : decide (0 ≤ x8_1) = true := decide_eq_true c7
    clear c7
    by_cases c8 : 0 ≤ x8_1
    rotate_left
    ·rw [if_neg c8] at H
     exact absurd H (by simp)
    rw [if_pos c8] at H
    have c8b0 : decide (0 ≤ x8_1) = true := decide_eq_true c8
    clear c8
    by_cases c9 : x8_1 < (l0.length : Int)
    rotate_left
    ·rw [if_neg c9] at H
     exact absurd H (by simp)
    rw [if_pos c9] at H
    have c9b0 : decide (x8_1 < (l0.length : Int)) = true := decide_eq_true c9
    clear c9
    by_cases c10 : (IntKind.u64.wrap (a1)) = 0
    ·rw [if_pos c10] at H
     exact absurd H (by simp)
    ·rw [if_neg c10] at H
     have c10b0 : ((IntKind.u64.wrap (a1)) == 0) = false := beq_eq_false_iff_ne.mpr c10
     have c10b1 : ((IntKind.u64.wrap (a1)) != 0) = true := bne_iff_ne.mpr c10
     by_cases c11 : x8_1 < (x6_1.length : Int)
     rotate_left
     ·rw [if_neg c11] at H
      exact absurd H (by simp)
     rw [if_pos c11] at H
     have c11b0 : decide (x8_1 < (x6_1.length : Int)) = true := decide_eq_true c11
     clear c11
     obtain ⟨y295, hy295⟩ : ∃ y_ : List Int, y_ = (x6_1.set (x8_1 : Int).toNat ((IntKind.u64.wrap (Int.tdiv (Go.bits .or .u64 (IntKind.u64.wrap (x7_1 * 4294967296)) (IntKind.u64.wrap (rd l0 x8_1))) (IntKind.u64.wrap (a1)))) % 4294967296)) := ⟨_, rfl⟩
     replace H : (natural_divideSmall.l0 k1 l0 a1 y295 (Int.tmod (Go.bits .or .u64 (IntKind.u64.wrap (x7_1 * 4294967296)) (IntKind.u64.wrap (rd l0 x8_1))) (IntKind.u64.wrap (a1))) (wrap64 (x8_1 - 1))) = some (r1, r2) := by first | (rw [hy295]; with_reducible exact H) | (have H2_ := (Option.bind_some _ _).symm.trans H; rw [hy295]; with_reducible exact H2_) | (have H2_ := (Option.bind_some _ _).symm.trans H; with_reducible exact H2_) | with_reducible exact H | (rw [hy295]; exact H) | exact H
     have Ny295 := Aside0.mk hy295
     clear hy295
     have H' := Aside0.mk H
     clear H
     have p294 : 0 ≤ (x8_1 : Int) := xa
     have q294 : x8_1 < (l0.length : Int) := xa
     obtain ⟨ad294, e294, hx294_0⟩ := Kd.at_int HR0.out x8_1 p294 q294
     cases e294
     (try replace hx294_0 := (HB.out.cell (World.block_lt_of_cell? w _ hx294_0)).trans hx294_0)
     replace p294 := eq_true p294
     replace q294 := eq_true q294
     have p12 : 0 ≤ (x8_1 : Int) := xa
     have q12 : (x8_1 : Int) < ((x6_1.length : Int) : Int) := xa
     obtain ⟨go12, co12, eo12, gb12, gl12, cl12, HG12⟩ := Kd.R_form HO_6.out (by omega)
     (first | cases eo12 | (injection eo12 with ea_ en_ ec_; (first | subst ea_ | (injection ea_ with ea_; subst ea_)); subst ec_; clear en_))
     have GB12 := Aside0.mk gb12
     have GG12 := Aside0.mk HG12
     clear gb12 gl12 HG12
     obtain ⟨hx12_0, hf12_0⟩ := Kd.R_celln 0 HO_6.out (x8_1 : Int) p12 q12
     replace p12 := eq_true p12
     replace q12 := eq_true q12
     have HP13 := Kd.R_putg HO_6.out (x8_1 : Int) ((IntKind.u64.wrap (Int.tdiv (Go.bits .or .u64 (IntKind.u64.wrap (x7_1 * 4294967296)) (IntKind.u64.wrap (rd l0 x8_1))) (IntKind.u64.wrap (a1)))) % 4294967296)
     go_wp2_with (first | ((with_reducible refine gate_store (t := 85) (p := 35) rfl ?_); refine store_event (t := 85) (p := 35) (v := ?vo_w14) (w1 := (wr.setCell ⟨go12, (x8_1 : Int).toNat, none⟩ (.int .u32 ((IntKind.u64.wrap (Int.tdiv (Go.bits .or .u64 (IntKind.u64.wrap (x7_1 * 4294967296)) (IntKind.u64.wrap (rd l0 x8_1))) (IntKind.u64.wrap (a1)))) % 4294967296)))) ?hg ?ho ?hn ?hr ?_; (case ho => rfl); (case hg => rfl); (case hn => rfl); (case hr => first | (go_simp; done) | (go_simp; rfl)); intro w14 hw; have hg : wr.grownBy w14 (some go12) := (by rw [hw]; exact HP13.2); have hp_ : Kd.R (Kd.int .u32) 85 w14 w.heap.size (fun k_ => (w.heap.size ≤ k_)) (.slice (some ⟨go12, 0, none⟩) x6_1.length co12) y295 := (by rw [hw, Ny295.out]; exact HP13.1); clear HP13; replace HO_6 := Aside0.mk (hp_); replace HB := Aside0.mk ((by rw [hw]; exact below_set (HB.out) GB12.out : Below w.heap.size w w14)); clear hg hw hp_))
     (first | go_roundg k1 | (refine Handed.intro k1 ?measure ?_; rotate_left; go_step; (repeat apply Exists.intro); refine ⟨?rel, (by first | rfl | (simp only [add_plain]; rfl))⟩))
     case measure => have := HK1.out; omega
     case rel => exact ⟨(y295), (Int.tmod (Go.bits .or .u64 (IntKind.u64.wrap (x7_1 * 4294967296)) (IntKind.u64.wrap (rd l0 x8_1))) (IntKind.u64.wrap (a1))), (wrap64 (x8_1 - 1)), xz, xz, H', ⟨by have := HK1.out; omega⟩, ⟨xr HO_6.out⟩, ⟨xs HB⟩⟩
   ·rw [if_neg c7] at H
    have c7b0 : decide (0 ≤ x8_1) = false := decide_eq_false c7
    clear c7
    replace H := xH H; obtain ⟨t296, A15, H⟩ := H
    simp only [Option.some.injEq, Prod.mk.injEq] at H
    obtain ⟨rfl, rfl⟩ := H
    obtain ⟨Ao16, co16, eo16⟩ := Kd.R_slice HO_6.out
    subst eo16
    go_wp2_with (first | (refine xg Tryd.func98 (some 41) #[.slice Ao16 x6_1.length co16] ?_; (with_reducible refine (natural_limbs_trim.calls k1 (fun k_ => some k_ = (.slice Ao16 x6_1.length co16 : Value).ownBlock) _ _ x6_1 t296 _ ?side1 A15.out).mono ?_); (case side1 => exact Kd.R_V (Kd.R_tight rfl (HO_6.out))); rintro e w17 ⟨v297, rfl, ho0, hb⟩; refine ⟨_, rfl, ?_⟩; have HO298 := Aside0.mk (Kd.V_lower (Kd.V_mono (ok' := fun k_ => (w.heap.size ≤ k_)) ho0 (fun k_ hk_ => Or.elim hk_ (fun hs_ => ((HO_6.out).1 k_ hs_.symm)) (fun hn_ => (Nat.le_trans (below_size (xs HB)) hn_)))) (below_size (xs HB))); replace HO_6 := Aside0.mk (Kd.R_below (xr HO_6.out) hb); replace HB := xS HB hb; clear hb ho0))
    go_ret2
    exact ⟨_, xy, by (with_reducible repeat (first | apply Kd.V_alloc | apply Kd.V_drewN | apply Kd.V_drew)); exact HO298.out, xs HB⟩
-- NOT PRINTED: function 118 (bits_Len32)
/-! ### bits_LeadingZeros32: function 110 -/
def bits_LeadingZeros32.f (a0 : Int) : Option Int := if 0 ≤ a0 ∧ a0 ≤ 4294967295 then some (32 - (Go.Lib.bitLen a0.toNat : Int)) else none
theorem bits_LeadingZeros32.calls (a0 : Int) (r : Int) (w : World) (h : bits_LeadingZeros32.f a0 = some r) :
  Calls Tryd.prog 110 #[.int .u32 a0] w fun e w' => e = .returned (.int .i64 r) ∧ Drawn0 w w' := by
 unfold bits_LeadingZeros32.f at h
 by_cases c : 0 ≤ a0 ∧ a0 ≤ 4294967295
 ·rw [if_pos c] at h
  obtain rfl := Option.some.inj h
  refine (Go.Proofs.Tryd.bits_LeadingZeros32 a0 w c.1 c.2).mono ?_
  rintro e w' ⟨rfl, rfl⟩
  exact ⟨rfl, Drawn0.refl _⟩
 ·rw [if_neg c] at h
  cases h
/-! ### natural_shift: function 111 -/
def natural_shift.l0 : Nat → Int → Int → List Int → List Int → Int → Int → Option (List Int)
 | 0, _, _, _, _, _, _ => none
 | k + 1, x1, x2, x7, x13, x14, x15 => if x15 < x14 then (if 0 ≤ x15 then (if x15 < (x13.length : Int) then (if 0 ≤ x1 then (if x15 < (x7.length : Int) then ((some (x7.set (x15 : Int).toNat (Go.bits .or .u32 (rd x7 x15) ((shl .u64 (IntKind.u64.wrap (rd x13 x15)) x1) % 4294967296)) : List Int)).bind fun y304 => (if (wrap64 (x15 + 1)) < x2 then (if 0 ≤ (wrap64 (x15 + 1)) then (if (wrap64 (x15 + 1)) < (x7.length : Int) then (natural_shift.l0 k x1 x2 (y304.set ((wrap64 (x15 + 1)) : Int).toNat (Go.bits .or .u32 (rd y304 (wrap64 (x15 + 1))) (((shl .u64 (IntKind.u64.wrap (rd x13 x15)) x1) / 4294967296) % 4294967296))) x13 x14 (wrap64 (x15 + 1))) else (none)) else (none)) else (natural_shift.l0 k x1 x2 y304 x13 x14 (wrap64 (x15 + 1))))) else (none)) else (none)) else (none)) else (none)) else (some x7)
def natural_shift.f (k : Nat) (l0 : List Int) (a1 : Int) (a2 : Int) : Option (List Int) := if 0 ≤ a2 then (if (a2 : Int).toNat ≤ 70368744177664 then (natural_shift.l0 k a1 a2 (List.replicate (a2 : Int).toNat 0) l0 (l0.length : Int) 0) else (none)) else (none)
theorem natural_shift.mono_l : ∀ k, (∀ y0 y1 y2 y3 y4 y5, LeO (natural_shift.l0 k y0 y1 y2 y3 y4 y5) (natural_shift.l0 (k + 1) y0 y1 y2 y3 y4 y5))
 | 0 => fun _ _ _ _ _ _ r h => by simp [natural_shift.l0] at h
 | k + 1 => by
  have ih0 := natural_shift.mono_l k
  ·intro y0 y1 y2 y3 y4 y5
   unfold natural_shift.l0
   have m0 := @ih0; exact xM
theorem natural_shift.mono : ∀ a0 a1 a2 k, LeO (natural_shift.f k a0 a1 a2) (natural_shift.f (k + 1) a0 a1 a2) := by
 intro a0 a1 a2 k
 have ih0 := natural_shift.mono_l k
 unfold natural_shift.f
 have m0 := @ih0; exact xM
set_option maxHeartbeats 8000000 in
set_option maxRecDepth 100000 in
theorem natural_shift.calls (k : Nat) (A0 : Option Addr) (c0 : Nat) (l0 : List Int) (a1 : Int) (a2 : Int) (r : List Int) (w : World) (hr0 : Kd.C (Kd.int .u32) w A0 l0.length l0) (hc0 : l0.length ≤ c0) (h : natural_shift.f k l0 a1 a2 = some r) :
  Calls Tryd.prog 111 #[.slice A0 l0.length c0, .int .u64 a1, .int .i64 a2] w fun e w' => ∃ v0_ : Value, e = .returned (v0_) ∧ Kd.R (Kd.int .u32) 85 w' w.heap.size (fun _ => True) v0_ r ∧ Below w.heap.size w w' := by
 have HR0 := Aside0.mk hr0
 have HC0 := Aside0.mk hc0
 clear hr0 hc0
 have HB := Aside0.mk (Below.refl w.heap.size w)
 have H : (if 0 ≤ a2 then (if (a2 : Int).toNat ≤ 70368744177664 then (natural_shift.l0 k a1 a2 (List.replicate (a2 : Int).toNat 0) l0 (l0.length : Int) 0) else (none)) else (none)) = some r := h
 clear h
 by_cases c4 : 0 ≤ a2
 rotate_left
 ·rw [if_neg c4] at H
  exact absurd H (by simp)
 rw [if_pos c4] at H
 have c4b0 := eq_true c4
 have c4b1 : decide (0 ≤ a2) = true := decide_eq_true c4
 clear c4
 by_cases c5 : (a2 : Int).toNat ≤ 70368744177664
 rotate_left
 ·rw [if_neg c5] at H
  exact absurd H (by simp)
 rw [if_pos c5] at H
 have c5b0 := eq_true c5
 have c5b1 : decide ((a2 : Int).toNat ≤ 70368744177664) = true := decide_eq_true c5
 clear c5
 obtain ⟨y299, hy299⟩ : ∃ y_ : List Int, y_ = (List.replicate (a2 : Int).toNat 0) := ⟨_, rfl⟩
 replace H : (natural_shift.l0 k a1 a2 y299 l0 (l0.length : Int) 0) = some r := by first | (rw [hy299]; with_reducible exact H) | (have H2_ := (Option.bind_some _ _).symm.trans H; rw [hy299]; with_reducible exact H2_) | (have H2_ := (Option.bind_some _ _).symm.trans H; with_reducible exact H2_) | with_reducible exact H | (rw [hy299]; exact H) | exact H
 have Ny299 := Aside0.mk hy299
 clear hy299
 have H' := Aside0.mk H
 clear H
 go_enter Tryd.func111, Tryd.ntmps111
 go_wp2_with (first | ((with_reducible refine gate_dst (N := 12) rfl ?_); refine Kd.R_make (Kd.int .u32) _ 85 rfl (N := 12) rfl 83 _ _ rfl a2 rfl rfl Tryd.underlying83 (.int .u32 0) 4 info85 rfl (by decide) (by omega) 0 (ok := fun _ => True) (okp := fun _ => True) rfl (fun _ hk => hk) trivial (xa) (Nat.le_trans (Nat.mul_le_mul_right _ (xa : a2.toNat ≤ 70368744177664)) (by omega)) (Below.refl _ _) (Nat.le_refl _) ?_; intro v300 w6 ho7 hb hg_ hnew_; clear hg_ hnew_; (first | rw [← Ny299.out] at ho7 | (simp only [Int.reduceToNat] at ho7; rw [← Ny299.out] at ho7)); have HO301 := Aside0.mk (Kd.R_lower ho7 (below_size (xs HB))); replace HB := xS HB hb; clear hb ho7))
 go_loopg [15] k (fun kq v15 w' => ∃ (x7_1 : List Int) (x15_1 : Int), v15 = .int .i64 x15_1 ∧ Aside0 (natural_shift.l0 kq a1 a2 x7_1 l0 (l0.length : Int) x15_1 = some r) ∧ Aside0 (kq ≤ k) ∧ Aside0 (Kd.R (Kd.int .u32) 85 w' w.heap.size (fun _ => True) v300 x7_1) ∧ Aside0 (Below w.heap.size w w'))
 case atStart => exact ⟨(y299), (0), xz, H', ⟨Nat.le_refl _⟩, ⟨xr HO301.out⟩, ⟨xs HB⟩⟩
 case round =>
  clear H'
  try clear c1
  try clear p2
  try clear c4
  try clear c4b0
  try clear c4b1
  try clear c5
  try clear c5b0
  try clear c5b1
  obtain ⟨x7_1, x15_1, rfl, HA, HK1, HO_7, HB⟩ := hrel
  cases gk with
  | zero => exact absurd HA.out (by simp [natural_shift.l0])
  | succ k1 =>
   have H := HA.out
   clear HA
   simp only [natural_shift.l0] at H
   by_cases c8 : x15_1 < (l0.length : Int)
   ·rw [if_pos c8] at H
    have c8b0 : decide (x15_1 < (l0.length : Int)) = true := decide_eq_true c8
    clear c8
    by_cases c9 : 0 ≤ x15_1
    rotate_left
    ·rw [if_neg c9] at H
     exact absurd H (by simp)
    rw [if_pos c9] at H
    have c9b0 : decide (0 ≤ x15_1) = true := decide_eq_true c9
    clear c9
    by_cases c10 : x15_1 < (l0.length : Int)
    rotate_left
    ·rw [if_neg c10] at H
     exact absurd H (by simp)
    rw [if_pos c10] at H
    have c10b0 : decide (x15_1 < (l0.length : Int)) = true := decide_eq_true c10
    clear c10
    by_cases c11 : 0 ≤ a1
    rotate_left
    ·rw [if_neg c11] at H
     exact absurd H (by simp)
    rw [if_pos c11] at H
    have c11b0 := eq_true c11
    have c11b1 : decide (0 ≤ a1) = true := decide_eq_true c11
    clear c11
    obtain ⟨ji12, hji12⟩ : ∃ j_ : Int, (shl .u64 (IntKind.u64.wrap (rd l0 x15_1)) a1) = j_ := ⟨_, rfl⟩
    replace H : (if x15_1 < (x7_1.length : Int) then ((some (x7_1.set (x15_1 : Int).toNat (Go.bits .or .u32 (rd x7_1 x15_1) ((ji12) % 4294967296)) : List Int)).bind fun y304 => (if (wrap64 (x15_1 + 1)) < a2 then (if 0 ≤ (wrap64 (x15_1 + 1)) then (if (wrap64 (x15_1 + 1)) < (x7_1.length : Int) then (natural_shift.l0 k1 a1 a2 (y304.set ((wrap64 (x15_1 + 1)) : Int).toNat (Go.bits .or .u32 (rd y304 (wrap64 (x15_1 + 1))) (((ji12) / 4294967296) % 4294967296))) l0 (l0.length : Int) (wrap64 (x15_1 + 1))) else (none)) else (none)) else (natural_shift.l0 k1 a1 a2 y304 l0 (l0.length : Int) (wrap64 (x15_1 + 1))))) else (none)) = some r := by first | (rw [hji12] at H; exact H) | (simp only [hji12] at H ⊢; exact H)
    have hji12_ : (IntKind.u64.wrap ((IntKind.u64.wrap (rd l0 x15_1)) * 2 ^ min a1.toNat 64)) = ji12 := hji12
    have hji12z : a1 ≤ 64 → (IntKind.u64.wrap ((IntKind.u64.wrap (rd l0 x15_1)) * 2 ^ a1.toNat)) = ji12 := shl_small hji12
    by_cases c13 : x15_1 < (x7_1.length : Int)
    rotate_left
    ·rw [if_neg c13] at H
     exact absurd H (by simp)
    rw [if_pos c13] at H
    have c13b0 : decide (x15_1 < (x7_1.length : Int)) = true := decide_eq_true c13
    clear c13
    obtain ⟨y304, hy304⟩ : ∃ y_ : List Int, y_ = (x7_1.set (x15_1 : Int).toNat (Go.bits .or .u32 (rd x7_1 x15_1) ((ji12) % 4294967296))) := ⟨_, rfl⟩
    replace H : (if (wrap64 (x15_1 + 1)) < a2 then (if 0 ≤ (wrap64 (x15_1 + 1)) then (if (wrap64 (x15_1 + 1)) < (x7_1.length : Int) then (natural_shift.l0 k1 a1 a2 (y304.set ((wrap64 (x15_1 + 1)) : Int).toNat (Go.bits .or .u32 (rd y304 (wrap64 (x15_1 + 1))) (((ji12) / 4294967296) % 4294967296))) l0 (l0.length : Int) (wrap64 (x15_1 + 1))) else (none)) else (none)) else (natural_shift.l0 k1 a1 a2 y304 l0 (l0.length : Int) (wrap64 (x15_1 + 1)))) = some r := by first | (rw [hy304]; with_reducible exact H) | (have H2_ := (Option.bind_some _ _).symm.trans H; rw [hy304]; with_reducible exact H2_) | (have H2_ := (Option.bind_some _ _).symm.trans H; with_reducible exact H2_) | with_reducible exact H | (rw [hy304]; exact H) | exact H
    have Ny304 := Aside0.mk hy304
    clear hy304
    by_cases c15 : (wrap64 (x15_1 + 1)) < a2
    ·rw [if_pos c15] at H
     have c15b0 : decide ((wrap64 (x15_1 + 1)) < a2) = true := decide_eq_true c15
     clear c15
     obtain ⟨ji16, hji16⟩ : ∃ j_ : Int, (wrap64 (x15_1 + 1)) = j_ := ⟨_, rfl⟩
     replace H : (if 0 ≤ (ji16) then (if (ji16) < (x7_1.length : Int) then (natural_shift.l0 k1 a1 a2 (y304.set ((ji16) : Int).toNat (Go.bits .or .u32 (rd y304 (ji16)) (((ji12) / 4294967296) % 4294967296))) l0 (l0.length : Int) ji16) else (none)) else (none)) = some r := by first | (rw [hji16] at H; exact H) | (simp only [hji16] at H ⊢; exact H)
     (try rw [hji16] at c15b0)
     have hji16w : (IntKind.i64.wrap (x15_1 + 1)) = ji16 := (i64_w _).trans hji16
     by_cases c17 : 0 ≤ (ji16)
     rotate_left
     ·rw [if_neg c17] at H
      exact absurd H (by simp)
     rw [if_pos c17] at H
     have c17b0 : decide (0 ≤ (ji16)) = true := decide_eq_true c17
     clear c17
     by_cases c18 : (ji16) < (x7_1.length : Int)
     rotate_left
     ·rw [if_neg c18] at H
      exact absurd H (by simp)
     rw [if_pos c18] at H
     have c18b0 : decide ((ji16) < (x7_1.length : Int)) = true := decide_eq_true c18
     clear c18
     obtain ⟨y306, hy306⟩ : ∃ y_ : List Int, y_ = (y304.set ((ji16) : Int).toNat (Go.bits .or .u32 (rd y304 (ji16)) (((ji12) / 4294967296) % 4294967296))) := ⟨_, rfl⟩
     replace H : (natural_shift.l0 k1 a1 a2 y306 l0 (l0.length : Int) ji16) = some r := by first | (rw [hy306]; with_reducible exact H) | (have H2_ := (Option.bind_some _ _).symm.trans H; rw [hy306]; with_reducible exact H2_) | (have H2_ := (Option.bind_some _ _).symm.trans H; with_reducible exact H2_) | with_reducible exact H | (rw [hy306]; exact H) | exact H
     have Ny306 := Aside0.mk hy306
     clear hy306
     have H' := Aside0.mk H
     clear H
     have p302 : 0 ≤ (x15_1 : Int) := xa
     have q302 : x15_1 < (l0.length : Int) := xa
     obtain ⟨ad302, e302, hx302_0⟩ := Kd.at_int HR0.out x15_1 p302 q302
     cases e302
     (try replace hx302_0 := (HB.out.cell (World.block_lt_of_cell? w _ hx302_0)).trans hx302_0)
     replace p302 := eq_true p302
     replace q302 := eq_true q302
     obtain ⟨Ao20, co20, eo20⟩ := Kd.R_slice HO_7.out
     subst eo20
     have p303 : 0 ≤ (x15_1 : Int) := xa
     have q303 : x15_1 < (x7_1.length : Int) := xa
     obtain ⟨ad303, e303, hx303_0⟩ := Kd.at_int (Kd.R_reads' HO_7.out).2.2 x15_1 p303 q303
     cases e303
     replace p303 := eq_true p303
     replace q303 := eq_true q303
     have p14 : 0 ≤ (x15_1 : Int) := xa
     have q14 : (x15_1 : Int) < ((x7_1.length : Int) : Int) := xa
     obtain ⟨go14, co14, eo14, gb14, gl14, cl14, HG14⟩ := Kd.R_form HO_7.out (by omega)
     (first | cases eo14 | (injection eo14 with ea_ en_ ec_; (first | subst ea_ | (injection ea_ with ea_; subst ea_)); subst ec_; clear en_))
     have GB14 := Aside0.mk gb14
     have GG14 := Aside0.mk HG14
     clear gb14 gl14 HG14
     (first | simp only [add_plain] at hx303_0 | skip)
     obtain ⟨hx14_0, hf14_0⟩ := Kd.R_celln 0 HO_7.out (x15_1 : Int) p14 q14
     replace p14 := eq_true p14
     replace q14 := eq_true q14
     have HP21 := Kd.R_putg HO_7.out (x15_1 : Int) (Go.bits .or .u32 (rd x7_1 x15_1) ((ji12) % 4294967296))
     go_wp2_with (first | ((with_reducible refine gate_store (t := 85) (p := 31) rfl ?_); refine store_event (t := 85) (p := 31) (v := ?vo_w22) (w1 := (wr.setCell ⟨go14, (x15_1 : Int).toNat, none⟩ (.int .u32 (Go.bits .or .u32 (rd x7_1 x15_1) ((ji12) % 4294967296))))) ?hg ?ho ?hn ?hr ?_; (case ho => rfl); (case hg => rfl); (case hn => rfl); (case hr => first | (go_simp; done) | (go_simp; rfl)); intro w22 hw; have hg : wr.grownBy w22 (some go14) := (by rw [hw]; exact HP21.2); have hp_ : Kd.R (Kd.int .u32) 85 w22 w.heap.size (fun _ => True) (.slice (some ⟨go14, 0, none⟩) x7_1.length co20) y304 := (by rw [hw, Ny304.out]; exact HP21.1); clear HP21; replace HO_7 := Aside0.mk (hp_); replace HB := Aside0.mk ((by rw [hw]; exact below_set (HB.out) GB14.out : Below w.heap.size w w22)); clear hg hw hp_; have p305 : 0 ≤ ((ji16) : Int) := xa; have q305 : (ji16) < (y304.length : Int) := (by have h_ : ((ji16) : Int) < ((x7_1.length : Int) : Int) := xa; first | (have e_ := (Kd.R_reads' HO_7.out).1; omega) | simpa only [Ny304.out, List.length_set] using h_); have ql305 : (((ji16) : Int) < ((x7_1.length : Int) : Int)) = True := eq_true (xa); obtain ⟨ad305, e305, hx305_0⟩ := Kd.at_int (Kd.R_reads' HO_7.out).2.2 (ji16) p305 q305; obtain rfl : (⟨go14, 0, none⟩ : Addr) = ad305 := (by injection e305); (first | simp only [add_plain] at hx305_0 | simp only [add_at] at hx305_0 | simp only [Addr.add, Nat.zero_add] at hx305_0 | skip); replace p305 := eq_true p305; replace q305 := eq_true q305; have p19 : 0 ≤ ((ji16) : Int) := xa; have q19 : ((ji16) : Int) < ((x7_1.length : Int) : Int) := xa; obtain ⟨hx19_0, hf19_0⟩ := Kd.R_celln 0 HO_7.out ((ji16) : Int) p19 q19; replace p19 := eq_true p19; replace q19 := eq_true q19; obtain ⟨hy23_, hz23_⟩ := Kd.R_celln 0 HO_7.out ((ji16) : Int) (xa) (xa); have HP23 := Kd.R_putg HO_7.out ((ji16) : Int) (Go.bits .or .u32 (rd y304 (ji16)) (((ji12) / 4294967296) % 4294967296))) | ((with_reducible refine gate_store (t := 85) (p := 45) rfl ?_); refine store_event (t := 85) (p := 45) (v := ?vo_w24) (w1 := (w22.setCell ⟨go14, ((ji16) : Int).toNat, none⟩ (.int .u32 (Go.bits .or .u32 (rd y304 (ji16)) (((ji12) / 4294967296) % 4294967296))))) ?hg ?ho ?hn ?hr ?_; (case ho => rfl); (case hg => rfl); (case hn => rfl); (case hr => first | (go_simp; done) | (go_simp; rfl)); intro w24 hw; have hg : w22.grownBy w24 (some go14) := (by rw [hw]; exact HP23.2); have hp_ : Kd.R (Kd.int .u32) 85 w24 w.heap.size (fun _ => True) (.slice (some ⟨go14, 0, none⟩) x7_1.length co20) y306 := (by rw [hw, Ny306.out]; exact HP23.1); clear HP23; replace HO_7 := Aside0.mk (hp_); replace HB := Aside0.mk ((by rw [hw]; exact below_set (HB.out) GB14.out : Below w.heap.size w w24)); clear hg hw hp_))
     (first | go_roundg k1 | (refine Handed.intro k1 ?measure ?_; rotate_left; go_step; (repeat apply Exists.intro); refine ⟨?rel, (by first | rfl | (simp only [add_plain]; rfl))⟩))
     case measure => have := HK1.out; omega
     case rel => exact ⟨(y306), (ji16), (by first | rfl | (simp; done) | (simp only [← hji16] <;> (first | rfl | simp)) | (simp [*]; done)), H', ⟨by have := HK1.out; omega⟩, ⟨xr HO_7.out⟩, ⟨xs HB⟩⟩
    ·rw [if_neg c15] at H
     have c15b0 : decide ((wrap64 (x15_1 + 1)) < a2) = false := decide_eq_false c15
     clear c15
     have H' := Aside0.mk H
     clear H
     have p302 : 0 ≤ (x15_1 : Int) := xa
     have q302 : x15_1 < (l0.length : Int) := xa
     obtain ⟨ad302, e302, hx302_0⟩ := Kd.at_int HR0.out x15_1 p302 q302
     cases e302
     (try replace hx302_0 := (HB.out.cell (World.block_lt_of_cell? w _ hx302_0)).trans hx302_0)
     replace p302 := eq_true p302
     replace q302 := eq_true q302
     obtain ⟨Ao25, co25, eo25⟩ := Kd.R_slice HO_7.out
     subst eo25
     have p303 : 0 ≤ (x15_1 : Int) := xa
     have q303 : x15_1 < (x7_1.length : Int) := xa
     obtain ⟨ad303, e303, hx303_0⟩ := Kd.at_int (Kd.R_reads' HO_7.out).2.2 x15_1 p303 q303
     cases e303
     replace p303 := eq_true p303
     replace q303 := eq_true q303
     have p14 : 0 ≤ (x15_1 : Int) := xa
     have q14 : (x15_1 : Int) < ((x7_1.length : Int) : Int) := xa
     obtain ⟨go14, co14, eo14, gb14, gl14, cl14, HG14⟩ := Kd.R_form HO_7.out (by omega)
     (first | cases eo14 | (injection eo14 with ea_ en_ ec_; (first | subst ea_ | (injection ea_ with ea_; subst ea_)); subst ec_; clear en_))
     have GB14 := Aside0.mk gb14
     have GG14 := Aside0.mk HG14
     clear gb14 gl14 HG14
     (first | simp only [add_plain] at hx303_0 | skip)
     obtain ⟨hx14_0, hf14_0⟩ := Kd.R_celln 0 HO_7.out (x15_1 : Int) p14 q14
     replace p14 := eq_true p14
     replace q14 := eq_true q14
     have HP26 := Kd.R_putg HO_7.out (x15_1 : Int) (Go.bits .or .u32 (rd x7_1 x15_1) ((ji12) % 4294967296))
     go_wp2_with (first | ((with_reducible refine gate_store (t := 85) (p := 31) rfl ?_); refine store_event (t := 85) (p := 31) (v := ?vo_w27) (w1 := (wr.setCell ⟨go14, (x15_1 : Int).toNat, none⟩ (.int .u32 (Go.bits .or .u32 (rd x7_1 x15_1) ((ji12) % 4294967296))))) ?hg ?ho ?hn ?hr ?_; (case ho => rfl); (case hg => rfl); (case hn => rfl); (case hr => first | (go_simp; done) | (go_simp; rfl)); intro w27 hw; have hg : wr.grownBy w27 (some go14) := (by rw [hw]; exact HP26.2); have hp_ : Kd.R (Kd.int .u32) 85 w27 w.heap.size (fun _ => True) (.slice (some ⟨go14, 0, none⟩) x7_1.length co25) y304 := (by rw [hw, Ny304.out]; exact HP26.1); clear HP26; replace HO_7 := Aside0.mk (hp_); replace HB := Aside0.mk ((by rw [hw]; exact below_set (HB.out) GB14.out : Below w.heap.size w w27)); clear hg hw hp_))
     (first | go_roundg k1 | (refine Handed.intro k1 ?measure ?_; rotate_left; go_step; (repeat apply Exists.intro); refine ⟨?rel, (by first | rfl | (simp only [add_plain]; rfl))⟩))
     case measure => have := HK1.out; omega
     case rel => exact ⟨(y304), (wrap64 (x15_1 + 1)), xz, H', ⟨by have := HK1.out; omega⟩, ⟨xr HO_7.out⟩, ⟨xs HB⟩⟩
   ·rw [if_neg c8] at H
    have c8b0 : decide (x15_1 < (l0.length : Int)) = false := decide_eq_false c8
    clear c8
    obtain rfl := Option.some.inj H
    go_wp2
    go_ret
    exact ⟨_, xy, by (with_reducible repeat (first | apply Kd.R_alloc | apply Kd.R_drewN | apply Kd.R_drew)); exact HO_7.out, xs HB⟩
/-! ### bits_Add32: function 93 -/
def bits_Add32.f (a0 : Int) (a1 : Int) (a2 : Int) : Option (Int × Int) := some ((IntKind.u64.wrap ((IntKind.u64.wrap ((IntKind.u64.wrap (a0)) + (IntKind.u64.wrap (a1)))) + (IntKind.u64.wrap (a2)))) % 4294967296, ((IntKind.u64.wrap ((IntKind.u64.wrap ((IntKind.u64.wrap (a0)) + (IntKind.u64.wrap (a1)))) + (IntKind.u64.wrap (a2)))) / 4294967296) % 4294967296)
set_option maxHeartbeats 8000000 in
set_option maxRecDepth 100000 in
theorem bits_Add32.calls (a0 : Int) (a1 : Int) (a2 : Int) (r1 : Int) (r2 : Int) (w : World) (h : bits_Add32.f a0 a1 a2 = some (r1, r2)) :
  Calls Tryd.prog 93 #[.int .u32 a0, .int .u32 a1, .int .u32 a2] w fun e w' => e = .returned (.tuple #[.int .u32 r1, .int .u32 r2]) ∧ Drawn0 w w' := by
 have H : (some ((IntKind.u64.wrap ((IntKind.u64.wrap ((IntKind.u64.wrap (a0)) + (IntKind.u64.wrap (a1)))) + (IntKind.u64.wrap (a2)))) % 4294967296, ((IntKind.u64.wrap ((IntKind.u64.wrap ((IntKind.u64.wrap (a0)) + (IntKind.u64.wrap (a1)))) + (IntKind.u64.wrap (a2)))) / 4294967296) % 4294967296)) = some (r1, r2) := h
 clear h
 simp only [Option.some.injEq, Prod.mk.injEq] at H
 obtain ⟨rfl, rfl⟩ := H
 go_enter Tryd.func93, Tryd.ntmps93
 go_wp2
 go_ret2
 exact ⟨xz, xd⟩
/-! ### bits_Sub32: function 103 -/
def bits_Sub32.f (a0 : Int) (a1 : Int) (a2 : Int) : Option (Int × Int) := some ((((a0 - a1) % 4294967296) - a2) % 4294967296, (Go.bits .or .u32 (Go.bits .and .u32 (Go.bits .xor .u32 4294967295 a0) a1) (Go.bits .and .u32 (Go.bits .xor .u32 4294967295 (Go.bits .xor .u32 a0 a1)) ((((a0 - a1) % 4294967296) - a2) % 4294967296))) / 2147483648)
set_option maxHeartbeats 8000000 in
set_option maxRecDepth 100000 in
theorem bits_Sub32.calls (a0 : Int) (a1 : Int) (a2 : Int) (r1 : Int) (r2 : Int) (w : World) (h : bits_Sub32.f a0 a1 a2 = some (r1, r2)) :
  Calls Tryd.prog 103 #[.int .u32 a0, .int .u32 a1, .int .u32 a2] w fun e w' => e = .returned (.tuple #[.int .u32 r1, .int .u32 r2]) ∧ Drawn0 w w' := by
 have H : (some ((((a0 - a1) % 4294967296) - a2) % 4294967296, (Go.bits .or .u32 (Go.bits .and .u32 (Go.bits .xor .u32 4294967295 a0) a1) (Go.bits .and .u32 (Go.bits .xor .u32 4294967295 (Go.bits .xor .u32 a0 a1)) ((((a0 - a1) % 4294967296) - a2) % 4294967296))) / 2147483648)) = some (r1, r2) := h
 clear h
 simp only [Option.some.injEq, Prod.mk.injEq] at H
 obtain ⟨rfl, rfl⟩ := H
 go_enter Tryd.func103, Tryd.ntmps103
 go_wp2
 go_ret2
 exact ⟨xz, xd⟩
end Go.Proofs.YtpoogjcgjpkbeaaDoor.XC
