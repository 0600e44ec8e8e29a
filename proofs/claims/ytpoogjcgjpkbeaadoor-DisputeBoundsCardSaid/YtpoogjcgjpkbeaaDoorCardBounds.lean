/- THE CARD: the law DisputeBounds returns true for every input that the given row lets in, and leaves its arguments as they were. Conditions: those of the given row alone. -/
import Derived.Test.YtpoogjcgjpkbeaaDoorRows
import Derived.Test.YtpoogjcgjpkbeaaDoorXA4
import Derived.Test.YtpoogjcgjpkbeaaDoorQA2
import Derived.Test.YtpoogjcgjpkbeaaDoorOB
import Derived.WalkKit
import Derived.ProofKit
import Derived.OpenShut
import Derived.ShutString
import Derived.ChangeOld
import Derived.Below
import Derived.LaidMore
import Derived.Lay
import Derived.SevenTiedAt
import Derived.LaidLaws
import Derived.Test.YtpoogjcgjpkbeaaDoorTie
import Derived.Test.YtpoogjcgjpkbeaaDoorCards
namespace Go.Proofs.YtpoogjcgjpkbeaaDoor.disputeBounds
open Go.ChangeShapes Go.WideShapes Go.ChangeAt Go.RowKit Go.Proofs.YtpoogjcgjpkbeaaDoorW.PrintWords
set_option linter.unusedVariables false
theorem own : ownKnob Tryd.prog.godebug = none := by kernel_rfl
theorem laidOut : laidOutB Tryd.prog = true := by kernel_rfl
set_option maxRecDepth 100000 in
theorem lifted (os : Os) (started : os.Started) (H : Type) (enc : TypeId × Value → H) :
    ReturnsInHanded {} Tryd.checked os 9 .any (fun w args => (Rows.disputeBoundsSpec.pre enc Tryd.prog Tryd.f9 Rows.disputeBoundsRow.domain false w args ∧ laidMetH Tryd.prog Rows.disputeBoundsRow.laid w) ∧ sizedMet enc Tryd.prog Tryd.f9 (OpenSpec.ofChange Rows.disputeBoundsSpec) false w args) (Rows.disputeBoundsSpec.post enc Tryd.prog Tryd.f9 false true false false) := by
  refine returnsInHanded_of_change_and (C := Tryd.checked) (X := fun w _ => laidMetH Tryd.prog Rows.disputeBoundsRow.laid w) (fun _ _ _ hh h => h.of_heap hh) own started (by kernel_rfl) Tryd.func9
    (ChangeSpec.witness_shaped (enc := enc) (C := Tryd.checked) (os := os) (X := fun w _ => laidMetH Tryd.prog Rows.disputeBoundsRow.laid w) false (World.laidAll Tryd.prog os Rows.disputeBoundsRow.laid) #[.agg #[.int .i64 0, .int .i64 0, .slice none 0 0]] 8 (World.laidAll_os _ _ _)
      (World.shaped_of_ZipB (by kernel_rfl) (by kernel_rfl)) (by kernel_rfl) (by kernel_rfl) (by kernel_rfl)
      (by rw [MakeChecks.laidMetH_plain _ _ _ (by kernel_rfl)]; exact laidMet_laidAll _ (by kernel_rfl) (by kernel_rfl))) ?_
  intro W base args ds gs before hval0 hW hcnd hsz0 _ _
  have hval : ∀ (j : Nat) t v, Tryd.f9.params[j]? = some t → args[j]? = some v → Value.okWide Tryd.prog W .any base t v := hval0
  have hW' := hW
  obtain ⟨p, q, hA0, hV, rfl, hfz, hnd⟩ := hW
  have hA : DataW.TrodAll enc Tryd.prog W 0 (fun _ => true) true Tryd.f9.params.toList args.toList ds p := hA0
  rw [Tryd.params9] at hA hval
  obtain ⟨v0, vs0, d0, ds0, p0, q0, hargs, rfl, rfl, h0, r0⟩ := trodAll_cons hA
  obtain ⟨rfl, rfl, rfl⟩ := trodAll_nil r0
  obtain rfl : args = #[v0] := by cases args; simp_all
  obtain ⟨rfl, rfl⟩ := trodVars_none hV
  have lt0 : ∀ x ∈ p0, x.block < W.heap.size := by obtain ⟨m, hm⟩ := h0; exact DataW.trod_lt m _ _ _ hm
  obtain ⟨cs0, rfl, _⟩ := okWide_struct Tryd.underlying50 (hval 0 50 v0 rfl rfl)
  have k0 := h0
  obtain ⟨e0, c0, A0, n0, l0, hs0, hc0, hC0⟩ := (show ∃ (e c : Int) (A : Option Addr) (c0 : Nat) (l : List XA.S54), Value.agg cs0 = .agg #[.int .i64 e, .int .i64 c, .slice A l.length c0] ∧ l.length ≤ c0 ∧ Kd.C XA.k54 W A l.length l by obtain ⟨m, hm⟩ := h0; exact XA.open_debt' hm)
  rw [hs0] at k0 hW' ⊢
  obtain ⟨K, t, g1, g2, g3, g4, q1, q2, q3, hf, hG, hG1, hQ, hQ1⟩ := Pure.bounds_law e0 c0 l0
  refine (XA.il_DisputeBounds.few K e0 c0 A0 n0 l0 W hC0 hc0 t hf Pure.awake22_some hG hG1 hQ hQ1).mono fun e W' ⟨he, bel⟩ => ?_
  subst he
  exact ⟨_, rfl, _, _, _, [], _, [], hW', trodAll_mk1 (shut_bool Tryd.underlying4 _), (trodAll_cons_mk (Below.trod laidOut (by kernel_rfl) (of_decide_eq_true (by kernel_rfl)) k0 bel lt0) trodAll_mk0), rfl, bel.frame _, fun h => by cases h⟩
theorem over : Rows.disputeBoundsRow.holds Tryd.pinned (OpenSpec.ofChange Rows.disputeBoundsSpec) :=
  OpenClaim.holds_of_wide 9 Tryd.f9 rfl rfl rfl rfl rfl rfl rfl ⟨rfl, rfl, rfl, rfl, rfl⟩ rfl rfl rfl rfl rfl (by kernel_rfl) Tryd.func9 (by kernel_rfl)
    (of_decide_eq_true (by kernel_rfl)) (by unfold Func.isWrapper; first | (rw [if_pos (by decide +kernel)]; kernel_rfl) | (rw [if_neg (by decide +kernel)]; exact ⟨rfl, rfl⟩))
    (fun os started H enc _ => lifted os started H enc)
theorem proved : Rows.DisputeBoundsSaid := over
end Go.Proofs.YtpoogjcgjpkbeaaDoor.disputeBounds
namespace Go.Proofs.YtpoogjcgjpkbeaaDoor
/-- The row, under a short name, for the claim. -/
theorem disputeBounds_holds : Rows.DisputeBoundsSaid := disputeBounds.proved
/-- THE CARD. -/
theorem disputeBoundsCard_holds : Rows.DisputeBoundsCardSaid :=
  Claim7.holds_tied_plain_at .later [] Rows.disputeBoundsCard.laidKinds true Rows.disputeBoundsCard.stood.harness false disputeBounds_holds (fun _ h => by cases h) (by kernel_rfl) (fun _ h => by cases h) disputeBounds_row_tie rfl ⟨rfl, rfl⟩ (by kernel_rfl) rfl
    (fun f fn hf hfn => by
      obtain rfl : f = 9 := Option.some.inj ((show Tryd.prog.funcNamed Rows.disputeBoundsRow.func = some 9 by kernel_rfl).symm.trans hf) |>.symm
      obtain rfl : fn = Tryd.f9 := (Option.some.inj (Tryd.func9.symm.trans hfn)).symm
      exact ⟨by kernel_rfl, fun j t ht => by
        rw [Tryd.params9] at ht
        have hm : t ∈ [50] := by
          have := Array.mem_of_getElem? ht
          simp only [List.mem_toArray, List.mem_cons, List.not_mem_nil, or_false] at this ⊢
          grind
        have hall : ([50].all fun u => !Tryd.prog.wantsStandIn u) = true := by kernel_rfl
        exact (show Tryd.prog.wantsStandIn t = false by simpa using List.all_eq_true.1 hall t hm)⟩)
    (by kernel_rfl)
#print axioms disputeBoundsCard_holds
end Go.Proofs.YtpoogjcgjpkbeaaDoor
