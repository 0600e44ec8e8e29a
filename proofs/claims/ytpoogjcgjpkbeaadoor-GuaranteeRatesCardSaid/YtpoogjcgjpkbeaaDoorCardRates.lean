/- THE CARD: the law GuaranteeRates returns true for every input that the given row lets in, and leaves its arguments as they were. Conditions: those of the given row alone. -/
import Derived.Test.YtpoogjcgjpkbeaaDoorRows
import Derived.Test.YtpoogjcgjpkbeaaDoorXA4
import Derived.Test.YtpoogjcgjpkbeaaDoorQA2
import Derived.Test.YtpoogjcgjpkbeaaDoorOR
import Derived.WalkKit
import Derived.ProofKit
import Derived.OpenShut
import Derived.ShutString
import Derived.ChangeOld
import Derived.Below
import Derived.LaidMore
import Derived.Lay
import Derived.SevenTiedAt
import Derived.LaidLaws
import Derived.Test.YtpoogjcgjpkbeaaDoorTie
import Derived.Test.YtpoogjcgjpkbeaaDoorCards
namespace Go.Proofs.YtpoogjcgjpkbeaaDoor.guaranteeRates
open Go.ChangeShapes Go.WideShapes Go.ChangeAt Go.RowKit Go.Proofs.YtpoogjcgjpkbeaaDoorW.PrintWords
set_option linter.unusedVariables false
theorem own : ownKnob Tryd.prog.godebug = none := by kernel_rfl
theorem laidOut : laidOutB Tryd.prog = true := by kernel_rfl
set_option maxRecDepth 100000 in
theorem lifted (os : Os) (started : os.Started) (H : Type) (enc : TypeId × Value → H) :
    ReturnsInHanded {} Tryd.checked os 6 .any (fun w args => (Rows.guaranteeRatesSpec.pre enc Tryd.prog Tryd.f6 Rows.guaranteeRatesRow.domain false w args ∧ laidMetH Tryd.prog Rows.guaranteeRatesRow.laid w) ∧ sizedMet enc Tryd.prog Tryd.f6 (OpenSpec.ofChange Rows.guaranteeRatesSpec) false w args) (Rows.guaranteeRatesSpec.post enc Tryd.prog Tryd.f6 false true false false) := by
  refine returnsInHanded_of_change_and (C := Tryd.checked) (X := fun w _ => laidMetH Tryd.prog Rows.guaranteeRatesRow.laid w) (fun _ _ _ hh h => h.of_heap hh) own started (by kernel_rfl) Tryd.func6
    (ChangeSpec.witness_shaped (enc := enc) (C := Tryd.checked) (os := os) (X := fun w _ => laidMetH Tryd.prog Rows.guaranteeRatesRow.laid w) false (World.laidAll Tryd.prog os Rows.guaranteeRatesRow.laid) #[.agg #[.bool false, .string ⟨#[]⟩, .string ⟨#[]⟩], .slice none 0 0, .slice none 0 0] 8 (World.laidAll_os _ _ _)
      (World.shaped_of_ZipB (by kernel_rfl) (by kernel_rfl)) (by kernel_rfl) (by kernel_rfl) (by kernel_rfl)
      (by rw [MakeChecks.laidMetH_plain _ _ _ (by kernel_rfl)]; exact laidMet_laidAll _ (by kernel_rfl) (by kernel_rfl))) ?_
  intro W base args ds gs before hval0 hW hcnd hsz0 _ _
  have hval : ∀ (j : Nat) t v, Tryd.f6.params[j]? = some t → args[j]? = some v → Value.okWide Tryd.prog W .any base t v := hval0
  have hW' := hW
  obtain ⟨p, q, hA0, hV, rfl, hfz, hnd⟩ := hW
  have hA : DataW.TrodAll enc Tryd.prog W 0 (fun _ => true) true Tryd.f6.params.toList args.toList ds p := hA0
  rw [Tryd.params6] at hA hval
  obtain ⟨v0, vs0, d0, ds0, p0, q0, hargs, rfl, rfl, h0, r0⟩ := trodAll_cons hA
  obtain ⟨v1, vs1, d1, ds1, p1, q1, rfl, rfl, rfl, h1, r1⟩ := trodAll_cons r0
  obtain ⟨v2, vs2, d2, ds2, p2, q2, rfl, rfl, rfl, h2, r2⟩ := trodAll_cons r1
  obtain ⟨rfl, rfl, rfl⟩ := trodAll_nil r2
  obtain rfl : args = #[v0, v1, v2] := by cases args; simp_all
  obtain ⟨rfl, rfl⟩ := trodVars_none hV
  have lt0 : ∀ x ∈ p0, x.block < W.heap.size := by obtain ⟨m, hm⟩ := h0; exact DataW.trod_lt m _ _ _ hm
  obtain ⟨cs0, rfl, _⟩ := okWide_struct Tryd.underlying25 (hval 0 25 v0 rfl rfl)
  have k0 := h0
  obtain ⟨s0, hs0⟩ : ∃ s : XA.S25, Value.agg cs0 = .agg #[.bool s.f0, .string s.f1, .string s.f2] := by obtain ⟨m, hm⟩ := h0; exact XA.open_rat' hm
  rw [hs0] at k0 hW' ⊢
  have lt1 : ∀ x ∈ p1, x.block < W.heap.size := by obtain ⟨m, hm⟩ := h1; exact DataW.trod_lt m _ _ _ hm
  obtain ⟨a1, len1, cap1, rfl⟩ := okWide_slice Tryd.underlying27 (hval 1 27 v1 rfl rfl)
  have k1 := h1
  obtain ⟨l1, rfl, hc1, hC1⟩ : ∃ l : List XA.S25, l.length = len1 ∧ len1 ≤ cap1 ∧ Kd.C XA.k25 W a1 l.length l := by obtain ⟨m, hm⟩ := h1; exact XA.open_rats' hm
  have lt2 : ∀ x ∈ p2, x.block < W.heap.size := by obtain ⟨m, hm⟩ := h2; exact DataW.trod_lt m _ _ _ hm
  obtain ⟨a2, len2, cap2, rfl⟩ := okWide_slice Tryd.underlying27 (hval 2 27 v2 rfl rfl)
  have k2 := h2
  obtain ⟨l2, rfl, hc2, hC2⟩ : ∃ l : List XA.S25, l.length = len2 ∧ len2 ≤ cap2 ∧ Kd.C XA.k25 W a2 l.length l := by obtain ⟨m, hm⟩ := h2; exact XA.open_rats' hm
  obtain ⟨K, hK⟩ := (Pure.rates_law s0 l1 l2).rounds
  refine (XA.insolvencylaw18_GuaranteeRates.calls K _ _ _ _ _ l1 _ _ l2 true W hC1 hc1 hC2 hc2 hK).mono fun e W' ⟨he, bel⟩ => ?_
  subst he
  exact ⟨_, rfl, _, _, _, [], _, [], hW', trodAll_mk1 (shut_bool Tryd.underlying4 _), (trodAll_cons_mk (Below.trod laidOut (by kernel_rfl) (of_decide_eq_true (by kernel_rfl)) k0 bel lt0) (trodAll_cons_mk (Below.trod laidOut (by kernel_rfl) (of_decide_eq_true (by kernel_rfl)) k1 bel lt1) (trodAll_cons_mk (Below.trod laidOut (by kernel_rfl) (of_decide_eq_true (by kernel_rfl)) k2 bel lt2) trodAll_mk0))), rfl, bel.frame _, fun h => by cases h⟩
theorem over : Rows.guaranteeRatesRow.holds Tryd.pinned (OpenSpec.ofChange Rows.guaranteeRatesSpec) :=
  OpenClaim.holds_of_wide 6 Tryd.f6 rfl rfl rfl rfl rfl rfl rfl ⟨rfl, rfl, rfl, rfl, rfl⟩ rfl rfl rfl rfl rfl (by kernel_rfl) Tryd.func6 (by kernel_rfl)
    (of_decide_eq_true (by kernel_rfl)) (by unfold Func.isWrapper; first | (rw [if_pos (by decide +kernel)]; kernel_rfl) | (rw [if_neg (by decide +kernel)]; exact ⟨rfl, rfl⟩))
    (fun os started H enc _ => lifted os started H enc)
theorem proved : Rows.GuaranteeRatesSaid := over
end Go.Proofs.YtpoogjcgjpkbeaaDoor.guaranteeRates
namespace Go.Proofs.YtpoogjcgjpkbeaaDoor
/-- The row, under a short name, for the claim. -/
theorem guaranteeRates_holds : Rows.GuaranteeRatesSaid := guaranteeRates.proved
/-- THE CARD. -/
theorem guaranteeRatesCard_holds : Rows.GuaranteeRatesCardSaid :=
  Claim7.holds_tied_plain_at .later [] Rows.guaranteeRatesCard.laidKinds true Rows.guaranteeRatesCard.stood.harness false guaranteeRates_holds (fun _ h => by cases h) (by kernel_rfl) (fun _ h => by cases h) guaranteeRates_row_tie rfl ⟨rfl, rfl⟩ (by kernel_rfl) rfl
    (fun f fn hf hfn => by
      obtain rfl : f = 6 := Option.some.inj ((show Tryd.prog.funcNamed Rows.guaranteeRatesRow.func = some 6 by kernel_rfl).symm.trans hf) |>.symm
      obtain rfl : fn = Tryd.f6 := (Option.some.inj (Tryd.func6.symm.trans hfn)).symm
      exact ⟨by kernel_rfl, fun j t ht => by
        rw [Tryd.params6] at ht
        have hm : t ∈ [25, 27] := by
          have := Array.mem_of_getElem? ht
          simp only [List.mem_toArray, List.mem_cons, List.not_mem_nil, or_false] at this ⊢
          grind
        have hall : ([25, 27].all fun u => !Tryd.prog.wantsStandIn u) = true := by kernel_rfl
        exact (show Tryd.prog.wantsStandIn t = false by simpa using List.all_eq_true.1 hall t hm)⟩)
    (by kernel_rfl)
#print axioms guaranteeRatesCard_holds
end Go.Proofs.YtpoogjcgjpkbeaaDoor
