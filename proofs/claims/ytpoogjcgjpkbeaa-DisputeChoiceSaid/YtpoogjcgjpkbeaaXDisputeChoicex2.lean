/- A walk of functions of the program: a plain Lean function for each, and a proof that a call answers as it says. Written by a program (the kit's print with changes). -/
import Derived.Test.YtpoogjcgjpkbeaaXDisputeChoicex0
import Derived.Test.YtpoogjcgjpkbeaaXDisputeChoicex1
namespace Go.Proofs.Ytpoogjcgjpkbeaa.XDisputeChoice
open Go.RowKit Go.Proofs.YtpoogjcgjpkbeaaW.PrintWords Go.Proofs.YtpoogjcgjpkbeaaW.PrintLast Go.Proofs.YtpoogjcgjpkbeaaW.PrintMore
attribute [local go_sem] max2_int min2_int max_two min_two max_three min_three max_four min_four   -- for this text's walks alone
set_option linter.unusedVariables false
set_option linter.unusedSimpArgs false

/-! ### insolvencylaw22_awake: function 6 -/
def insolvencylaw22_awake.f (k : Nat)  : Option (Bool) := if 2 ≤ 5864062014805 then (if 3 ≤ 5864062014805 then ((some (([(⟨(⟨0, 0⟩ : S27), (List.replicate 2 z84)⟩ : S29), (⟨(⟨0, 0⟩ : S27), (List.replicate 3 z84)⟩ : S29)] : List (S29)) : List (S29))).bind fun y116 => ((dispute_Choice.f k y116 3).bind fun bt119 => (if bt119.2 = true then ((dispute_Count.f k y116).bind fun t123 => (if t123 = 6 then (if (bt119.1.length : Int) = 2 then (if 0 < (bt119.1.length : Int) then (if (rd bt119.1 0) = 1 then (if 1 < (bt119.1.length : Int) then (some ((rd bt119.1 1) == 1)) else (none)) else (some false)) else (none)) else (some false)) else (some false))) else (some false)))) else (none)) else (none)
theorem insolvencylaw22_awake.mono : ∀ k, LeO (insolvencylaw22_awake.f k ) (insolvencylaw22_awake.f (k + 1) ) := by
  intro  k
  unfold insolvencylaw22_awake.f
  repeat' first
      | (with_reducible exact dispute_Choice.mono _ _ _)
      | (with_reducible exact dispute_Count.mono _ _)
      | (with_reducible exact LeO.refl _)
      | (with_reducible exact LeO.none _)
      | (with_reducible refine LeO.ite ?_ ?_)
      | (with_reducible refine LeO.bind ?_ (fun _ => ?_))
      | exact dispute_Choice.mono _ _ _
      | exact dispute_Count.mono _ _
      | exact LeO.none _
      | refine LeO.ite ?_ ?_
      | refine LeO.bind ?_ (fun _ => ?_)
set_option maxHeartbeats 8000000 in
set_option maxRecDepth 100000 in
theorem insolvencylaw22_awake.calls (k : Nat)  (r : Bool) (w : World) (h : insolvencylaw22_awake.f k  = some r) :
    Calls Try.prog 6 #[] w fun e w' => e = .returned (.bool r) ∧ Below w.heap.size w w' := by
  have hu29 := Try.underlying29
  have HB := Aside0.mk (Below.refl w.heap.size w)
  have H : (if 2 ≤ 5864062014805 then (if 3 ≤ 5864062014805 then ((some (([(⟨(⟨0, 0⟩ : S27), (List.replicate 2 z84)⟩ : S29), (⟨(⟨0, 0⟩ : S27), (List.replicate 3 z84)⟩ : S29)] : List (S29)) : List (S29))).bind fun y116 => ((dispute_Choice.f k y116 3).bind fun bt119 => (if bt119.2 = true then ((dispute_Count.f k y116).bind fun t123 => (if t123 = 6 then (if (bt119.1.length : Int) = 2 then (if 0 < (bt119.1.length : Int) then (if (rd bt119.1 0) = 1 then (if 1 < (bt119.1.length : Int) then (some ((rd bt119.1 1) == 1)) else (none)) else (some false)) else (none)) else (some false)) else (some false))) else (some false)))) else (none)) else (none)) = some r := h
  clear h
  by_cases c1 : 2 ≤ 5864062014805
  · rw [if_pos c1] at H
    have c1b0 := eq_true c1
    have c1b1 : decide (2 ≤ 5864062014805) = true := decide_eq_true c1
    clear c1
    obtain ⟨y110, hy110⟩ : ∃ y_ : List (S84), y_ = (List.replicate 2 z84) := ⟨_, rfl⟩
    replace H : (if 3 ≤ 5864062014805 then ((some (([(⟨(⟨0, 0⟩ : S27), y110⟩ : S29), (⟨(⟨0, 0⟩ : S27), (List.replicate 3 z84)⟩ : S29)] : List (S29)) : List (S29))).bind fun y116 => ((dispute_Choice.f k y116 3).bind fun bt119 => (if bt119.2 = true then ((dispute_Count.f k y116).bind fun t123 => (if t123 = 6 then (if (bt119.1.length : Int) = 2 then (if 0 < (bt119.1.length : Int) then (if (rd bt119.1 0) = 1 then (if 1 < (bt119.1.length : Int) then (some ((rd bt119.1 1) == 1)) else (none)) else (some false)) else (none)) else (some false)) else (some false))) else (some false)))) else (none)) = some r := by first | (rw [hy110]; with_reducible exact H) | (have H2_ := (Option.bind_some _ _).symm.trans H; rw [hy110]; with_reducible exact H2_) | (have H2_ := (Option.bind_some _ _).symm.trans H; with_reducible exact H2_) | with_reducible exact H | (rw [hy110]; exact H) | exact H
    have Ny110 := Aside0.mk hy110
    clear hy110
    by_cases c2 : 3 ≤ 5864062014805
    · rw [if_pos c2] at H
      have c2b0 := eq_true c2
      have c2b1 : decide (3 ≤ 5864062014805) = true := decide_eq_true c2
      clear c2
      obtain ⟨y113, hy113⟩ : ∃ y_ : List (S84), y_ = (List.replicate 3 z84) := ⟨_, rfl⟩
      replace H : ((some (([(⟨(⟨0, 0⟩ : S27), y110⟩ : S29), (⟨(⟨0, 0⟩ : S27), y113⟩ : S29)] : List (S29)) : List (S29))).bind fun y116 => ((dispute_Choice.f k y116 3).bind fun bt119 => (if bt119.2 = true then ((dispute_Count.f k y116).bind fun t123 => (if t123 = 6 then (if (bt119.1.length : Int) = 2 then (if 0 < (bt119.1.length : Int) then (if (rd bt119.1 0) = 1 then (if 1 < (bt119.1.length : Int) then (some ((rd bt119.1 1) == 1)) else (none)) else (some false)) else (none)) else (some false)) else (some false))) else (some false)))) = some r := by first | (rw [hy113]; with_reducible exact H) | (have H2_ := (Option.bind_some _ _).symm.trans H; rw [hy113]; with_reducible exact H2_) | (have H2_ := (Option.bind_some _ _).symm.trans H; with_reducible exact H2_) | with_reducible exact H | (rw [hy113]; exact H) | exact H
      have Ny113 := Aside0.mk hy113
      clear hy113
      obtain ⟨y116, hy116⟩ : ∃ y_ : List (S29), y_ = (([(⟨(⟨0, 0⟩ : S27), y110⟩ : S29), (⟨(⟨0, 0⟩ : S27), y113⟩ : S29)] : List (S29))) := ⟨_, rfl⟩
      replace H : ((dispute_Choice.f k y116 3).bind fun bt119 => (if bt119.2 = true then ((dispute_Count.f k y116).bind fun t123 => (if t123 = 6 then (if (bt119.1.length : Int) = 2 then (if 0 < (bt119.1.length : Int) then (if (rd bt119.1 0) = 1 then (if 1 < (bt119.1.length : Int) then (some ((rd bt119.1 1) == 1)) else (none)) else (some false)) else (none)) else (some false)) else (some false))) else (some false))) = some r := by first | (rw [hy116]; with_reducible exact H) | (have H2_ := (Option.bind_some _ _).symm.trans H; rw [hy116]; with_reducible exact H2_) | (have H2_ := (Option.bind_some _ _).symm.trans H; with_reducible exact H2_) | with_reducible exact H | (rw [hy116]; exact H) | exact H
      have Ny116 := Aside0.mk hy116
      clear hy116
      replace H := Option.bind_eq_some_iff.mp H
      obtain ⟨⟨t119, t120⟩, A30, H⟩ := H
      replace H : (if t120 = true then ((dispute_Count.f k y116).bind fun t123 => (if t123 = 6 then (if (t119.length : Int) = 2 then (if 0 < (t119.length : Int) then (if (rd t119 0) = 1 then (if 1 < (t119.length : Int) then (some ((rd t119 1) == 1)) else (none)) else (some false)) else (none)) else (some false)) else (some false))) else (some false)) = some r := H
      have A3 := Aside0.mk A30
      clear A30
      by_cases c4 : t120 = true
      · subst c4
        have H1 : ((dispute_Count.f k y116).bind fun t123 => (if t123 = 6 then (if (t119.length : Int) = 2 then (if 0 < (t119.length : Int) then (if (rd t119 0) = 1 then (if 1 < (t119.length : Int) then (some ((rd t119 1) == 1)) else (none)) else (some false)) else (none)) else (some false)) else (some false))) = some r := by rw [if_pos rfl] at H; exact H
        clear H
        have H := H1
        clear H1
        replace H := Option.bind_eq_some_iff.mp H
        obtain ⟨t123, A50, H⟩ := H
        replace H : (if t123 = 6 then (if (t119.length : Int) = 2 then (if 0 < (t119.length : Int) then (if (rd t119 0) = 1 then (if 1 < (t119.length : Int) then (some ((rd t119 1) == 1)) else (none)) else (some false)) else (none)) else (some false)) else (some false)) = some r := H
        have A5 := Aside0.mk A50
        clear A50
        by_cases c6 : t123 = 6
        · rw [if_pos c6] at H
          have c6b0 : (t123 == 6) = true := beq_iff_eq.mpr c6
          have c6b1 : (t123 != 6) = false := bne_eq_false_iff_eq.mpr c6
          clear c6
          by_cases c7 : (t119.length : Int) = 2
          · rw [if_pos c7] at H
            have c7b0 : ((t119.length : Int) == 2) = true := beq_iff_eq.mpr c7
            have c7b1 : ((t119.length : Int) != 2) = false := bne_eq_false_iff_eq.mpr c7
            clear c7
            by_cases c8 : 0 < (t119.length : Int)
            · rw [if_pos c8] at H
              have c8b0 : decide (0 < (t119.length : Int)) = true := decide_eq_true c8
              have c8b1 : decide (0 < t119.length) = true := decide_eq_true (by omega)
              clear c8
              by_cases c9 : (rd t119 0) = 1
              · rw [if_pos c9] at H
                have c9b0 : ((rd t119 0) == 1) = true := beq_iff_eq.mpr c9
                have c9b1 : ((rd t119 0) != 1) = false := bne_eq_false_iff_eq.mpr c9
                clear c9
                by_cases c10 : 1 < (t119.length : Int)
                · rw [if_pos c10] at H
                  have c10b0 : decide (1 < (t119.length : Int)) = true := decide_eq_true c10
                  have c10b1 : decide (1 < t119.length) = true := decide_eq_true (by omega)
                  clear c10
                  obtain rfl := Option.some.inj H
                  go_enter Try.func6, Try.ntmps6
                  try go_wp2
                  have n0_ := Aside0.mk (below_drew1 HB.out)
                  clear HB
                  have HB := n0_
                  clear n0_
                  refine start_ (n := 6) (S := fun w' => True) (ds := []) #[false, false, false, false, false, false] (by kernel_rfl) rfl rfl trivial (fun hHeld => ?_)
                  generalize w.drew = w11 at HB hHeld ⊢
                  refine join_ (σ := Value × Value) 2 #[true, true, true, true, false, false] (fun s_ => [(4, s_.1), (6, s_.2), (5, .agg #[.int .i64 0, .int .i64 0, s_.1]), (7, .agg #[.int .i64 0, .int .i64 0, s_.2])]) (fun s_ w' => (Kd.R k84 84 w' w.heap.size (fun k_ => some k_ ≠ (s_.2 : Value).ownBlock) s_.1 y110) ∧ (Kd.R k84 84 w' w.heap.size (fun k_ => some k_ ≠ (s_.1 : Value).ownBlock) s_.2 y113) ∧ (Below w.heap.size w w')) ?_ ?_
                  rotate_left
                  · intro hCont
                    refine two_ (i := 0) (j := 2) (Ni := some 4) (Nj := some 6) #[true, false, false, false, false, false] #[false, false, true, false, false, false] rfl rfl rfl rfl (by kernel_rfl) (by decide) (by decide) (fun K hK => ?_) (fun K hK => ?_)
                    · skip
                      refine Kd.R_make_step k84 _ 84 (by rfl) (N := 4) rfl 25 _ _ rfl 2 rfl rfl Try.underlying25 (.agg #[(.bool false), (.string ⟨#[]⟩), (.string ⟨#[]⟩), (.int .i64 0)]) 48 info84 rfl (by decide) (by omega) z84 (ok := fun _ => True) (okp := fun _ => True) (k84_mkM _ _ _ z84 ) (fun _ hk => hk) trivial (by omega) (by omega) (Below.refl _ _) (Nat.le_refl _) ?_
                      intro v111 w12 ho13 hb hg_ hnew_
                      clear hg_ hnew_
                      (first | rw [← Ny110.out] at ho13 | (simp only [Int.reduceToNat] at ho13; rw [← Ny110.out] at ho13))
                      have n0_ := Aside0.mk (Kd.R_lower ho13 (below_size (by repeat (first | (with_reducible first | exact HB.out | apply below_alloc | apply pw_below_drewN | apply below_drew1) | exact HB.out))))
                      have n1_ := Aside0.mk (below_step (by repeat (first | (with_reducible first | exact HB.out | apply below_alloc | apply pw_below_drewN | apply below_drew1) | exact HB.out)) hb)
                      clear HB
                      have HO112 := n0_
                      have HB := n1_
                      clear n0_ n1_
                      clear hb ho13
                      obtain ⟨Ao14, co14, eo14⟩ := Kd.R_slice HO112.out
                      (first | subst eo14 | (injection eo14 with f1_ f2_ f3_; have f4_ := f1_.symm; have f5_ := f3_.symm; clear f1_ f2_ f3_; subst f4_; subst f5_))
                      refine hK.out _ _ trivial (fun hHeld => ?_)
                      clear hK K
                      refine norm_ (a' := ?_) ?_ ?_
                      rotate_left
                      · show Act.put _ (some 4) _ = _
                        simp only [Act.put, List.setIfInBounds_toArray, List.set_cons_zero, List.set_cons_succ, i64_w, i32_w]
                        rfl
                      refine pure_ (i := 1) (N := some 5) (v := ?_) (a' := ?_) #[true, true, false, false, false, false] rfl rfl (by kernel_rfl) (fun _ _ _ h => h) (Or.inl ⟨by rfl, ?_⟩) ?_ ?_
                      rotate_left
                      · intro w'
                        go_simp
                        with_reducible rfl
                      rotate_left
                      · simp only [Act.put, List.setIfInBounds_toArray, List.set_cons_zero, List.set_cons_succ, i64_w, i32_w]
                        rfl
                      refine one_ (i := 2) (N := some 6) #[true, true, true, false, false, false] rfl rfl (by kernel_rfl) (by decide) (fun K hK => ?_)
                      refine Kd.R_make_step k84 _ 84 (by rfl) (N := 6) rfl 25 _ _ rfl 3 rfl rfl Try.underlying25 (.agg #[(.bool false), (.string ⟨#[]⟩), (.string ⟨#[]⟩), (.int .i64 0)]) 48 info84 rfl (by decide) (by omega) z84 (ok := fun _ => True) (okp := fun _ => True) (k84_mkM _ _ _ z84 ) (fun _ hk => hk) trivial (by omega) (by omega) (Below.refl _ _) (Nat.le_refl _) ?_
                      intro v114 w15 ho16 hb hg_ hnew_
                      clear hg_ hnew_
                      (first | rw [← Ny113.out] at ho16 | (simp only [Int.reduceToNat] at ho16; rw [← Ny113.out] at ho16))
                      have n0_ := Aside0.mk (Kd.R_elder' (by (with_reducible repeat (first | apply Kd.R_alloc | apply Kd.R_drewN | apply Kd.R_drew)); exact HO112.out) (Kd.R_base ho16) hb)
                      have n1_ := Aside0.mk (Kd.R_lower (Kd.R_new' ho16 (Kd.R_lt (by (with_reducible repeat (first | apply Kd.R_alloc | apply Kd.R_drewN | apply Kd.R_drew)); exact HO112.out))) (below_size (by repeat (first | (with_reducible first | exact HB.out | apply below_alloc | apply pw_below_drewN | apply below_drew1) | exact HB.out))))
                      have n2_ := Aside0.mk (below_step (by repeat (first | (with_reducible first | exact HB.out | apply below_alloc | apply pw_below_drewN | apply below_drew1) | exact HB.out)) hb)
                      clear HO112
                      clear HB
                      have HO112 := n0_
                      have HO115 := n1_
                      have HB := n2_
                      clear n0_ n1_ n2_
                      clear hb ho16
                      obtain ⟨Ao17, co17, eo17⟩ := Kd.R_slice HO115.out
                      (first | subst eo17 | (injection eo17 with f1_ f2_ f3_; have f4_ := f1_.symm; have f5_ := f3_.symm; clear f1_ f2_ f3_; subst f4_; subst f5_))
                      refine hK.out _ _ trivial (fun hHeld => ?_)
                      clear hK K
                      refine norm_ (a' := ?_) ?_ ?_
                      rotate_left
                      · show Act.put _ (some 6) _ = _
                        simp only [Act.put, List.setIfInBounds_toArray, List.set_cons_zero, List.set_cons_succ, i64_w, i32_w]
                        rfl
                      refine pure_ (i := 3) (N := some 7) (v := ?_) (a' := ?_) #[true, true, true, true, false, false] rfl rfl (by kernel_rfl) (fun _ _ _ h => h) (Or.inl ⟨by rfl, ?_⟩) ?_ ?_
                      rotate_left
                      · intro w'
                        go_simp
                        with_reducible rfl
                      rotate_left
                      · simp only [Act.put, List.setIfInBounds_toArray, List.set_cons_zero, List.set_cons_succ, i64_w, i32_w]
                        rfl
                      exact norm_ (by simp only [putAll, Act.put, List.setIfInBounds_toArray, List.set_cons_zero, List.set_cons_succ]) (hCont (.slice Ao14 y110.length co14, .slice Ao17 y113.length co17) _ ⟨(by (with_reducible repeat (first | apply Kd.R_alloc | apply Kd.R_drewN | apply Kd.R_drew)); exact Kd.R_mono HO112.out (fun _ hk => hk.2)), (by (with_reducible repeat (first | apply Kd.R_alloc | apply Kd.R_drewN | apply Kd.R_drew)); exact Kd.R_mono HO115.out (fun _ hk => hk.2)), (by repeat (first | (with_reducible first | exact HB.out | apply below_alloc | apply pw_below_drewN | apply below_drew1) | exact HB.out))⟩)
                    · skip
                      refine Kd.R_make_step k84 _ 84 (by rfl) (N := 6) rfl 25 _ _ rfl 3 rfl rfl Try.underlying25 (.agg #[(.bool false), (.string ⟨#[]⟩), (.string ⟨#[]⟩), (.int .i64 0)]) 48 info84 rfl (by decide) (by omega) z84 (ok := fun _ => True) (okp := fun _ => True) (k84_mkM _ _ _ z84 ) (fun _ hk => hk) trivial (by omega) (by omega) (Below.refl _ _) (Nat.le_refl _) ?_
                      intro v114 w12 ho13 hb hg_ hnew_
                      clear hg_ hnew_
                      (first | rw [← Ny113.out] at ho13 | (simp only [Int.reduceToNat] at ho13; rw [← Ny113.out] at ho13))
                      have n0_ := Aside0.mk (Kd.R_lower ho13 (below_size (by repeat (first | (with_reducible first | exact HB.out | apply below_alloc | apply pw_below_drewN | apply below_drew1) | exact HB.out))))
                      have n1_ := Aside0.mk (below_step (by repeat (first | (with_reducible first | exact HB.out | apply below_alloc | apply pw_below_drewN | apply below_drew1) | exact HB.out)) hb)
                      clear HB
                      have HO115 := n0_
                      have HB := n1_
                      clear n0_ n1_
                      clear hb ho13
                      obtain ⟨Ao14, co14, eo14⟩ := Kd.R_slice HO115.out
                      (first | subst eo14 | (injection eo14 with f1_ f2_ f3_; have f4_ := f1_.symm; have f5_ := f3_.symm; clear f1_ f2_ f3_; subst f4_; subst f5_))
                      refine hK.out _ _ trivial (fun hHeld => ?_)
                      clear hK K
                      refine norm_ (a' := ?_) ?_ ?_
                      rotate_left
                      · show Act.put _ (some 6) _ = _
                        simp only [Act.put, List.setIfInBounds_toArray, List.set_cons_zero, List.set_cons_succ, i64_w, i32_w]
                        rfl
                      refine pure_ (i := 3) (N := some 7) (v := ?_) (a' := ?_) #[false, false, true, true, false, false] rfl rfl (by kernel_rfl) (fun _ _ _ h => h) (Or.inl ⟨by rfl, ?_⟩) ?_ ?_
                      rotate_left
                      · intro w'
                        go_simp
                        with_reducible rfl
                      rotate_left
                      · simp only [Act.put, List.setIfInBounds_toArray, List.set_cons_zero, List.set_cons_succ, i64_w, i32_w]
                        rfl
                      refine one_ (i := 0) (N := some 4) #[true, false, true, true, false, false] rfl rfl (by kernel_rfl) (by decide) (fun K hK => ?_)
                      refine Kd.R_make_step k84 _ 84 (by rfl) (N := 4) rfl 25 _ _ rfl 2 rfl rfl Try.underlying25 (.agg #[(.bool false), (.string ⟨#[]⟩), (.string ⟨#[]⟩), (.int .i64 0)]) 48 info84 rfl (by decide) (by omega) z84 (ok := fun _ => True) (okp := fun _ => True) (k84_mkM _ _ _ z84 ) (fun _ hk => hk) trivial (by omega) (by omega) (Below.refl _ _) (Nat.le_refl _) ?_
                      intro v111 w15 ho16 hb hg_ hnew_
                      clear hg_ hnew_
                      (first | rw [← Ny110.out] at ho16 | (simp only [Int.reduceToNat] at ho16; rw [← Ny110.out] at ho16))
                      have n0_ := Aside0.mk (Kd.R_elder' (by (with_reducible repeat (first | apply Kd.R_alloc | apply Kd.R_drewN | apply Kd.R_drew)); exact HO115.out) (Kd.R_base ho16) hb)
                      have n1_ := Aside0.mk (Kd.R_lower (Kd.R_new' ho16 (Kd.R_lt (by (with_reducible repeat (first | apply Kd.R_alloc | apply Kd.R_drewN | apply Kd.R_drew)); exact HO115.out))) (below_size (by repeat (first | (with_reducible first | exact HB.out | apply below_alloc | apply pw_below_drewN | apply below_drew1) | exact HB.out))))
                      have n2_ := Aside0.mk (below_step (by repeat (first | (with_reducible first | exact HB.out | apply below_alloc | apply pw_below_drewN | apply below_drew1) | exact HB.out)) hb)
                      clear HO115
                      clear HB
                      have HO115 := n0_
                      have HO112 := n1_
                      have HB := n2_
                      clear n0_ n1_ n2_
                      clear hb ho16
                      obtain ⟨Ao17, co17, eo17⟩ := Kd.R_slice HO112.out
                      (first | subst eo17 | (injection eo17 with f1_ f2_ f3_; have f4_ := f1_.symm; have f5_ := f3_.symm; clear f1_ f2_ f3_; subst f4_; subst f5_))
                      refine hK.out _ _ trivial (fun hHeld => ?_)
                      clear hK K
                      refine norm_ (a' := ?_) ?_ ?_
                      rotate_left
                      · show Act.put _ (some 4) _ = _
                        simp only [Act.put, List.setIfInBounds_toArray, List.set_cons_zero, List.set_cons_succ, i64_w, i32_w]
                        rfl
                      refine pure_ (i := 1) (N := some 5) (v := ?_) (a' := ?_) #[true, true, true, true, false, false] rfl rfl (by kernel_rfl) (fun _ _ _ h => h) (Or.inl ⟨by rfl, ?_⟩) ?_ ?_
                      rotate_left
                      · intro w'
                        go_simp
                        with_reducible rfl
                      rotate_left
                      · simp only [Act.put, List.setIfInBounds_toArray, List.set_cons_zero, List.set_cons_succ, i64_w, i32_w]
                        rfl
                      exact norm_ (by simp only [putAll, Act.put, List.setIfInBounds_toArray, List.set_cons_zero, List.set_cons_succ]) (hCont (.slice Ao17 y110.length co17, .slice Ao14 y113.length co14) _ ⟨(by (with_reducible repeat (first | apply Kd.R_alloc | apply Kd.R_drewN | apply Kd.R_drew)); exact Kd.R_mono HO112.out (fun _ hk => hk.2)), (by (with_reducible repeat (first | apply Kd.R_alloc | apply Kd.R_drewN | apply Kd.R_drew)); exact Kd.R_mono HO115.out (fun _ hk => hk.2)), (by repeat (first | (with_reducible first | exact HB.out | apply below_alloc | apply pw_below_drewN | apply below_drew1) | exact HB.out))⟩)
                  rintro ⟨v111, v114⟩ w18 ⟨h0_, h1_, h2_⟩
                  have n0_ : Aside0 (Kd.R k84 84 w18 w.heap.size (fun k_ => some k_ ≠ (v114 : Value).ownBlock) v111 y110) := ⟨h0_⟩
                  have n1_ : Aside0 (Kd.R k84 84 w18 w.heap.size (fun k_ => some k_ ≠ (v111 : Value).ownBlock) v114 y113) := ⟨h1_⟩
                  have n2_ : Aside0 (Below w.heap.size w w18) := ⟨h2_⟩
                  clear HB
                  clear h0_ h1_ h2_
                  have HO112 := n0_
                  have HO115 := n1_
                  have HB := n2_
                  clear n0_ n1_ n2_
                  have hHeld := trivial
                  obtain ⟨Ao19, co19, eo19⟩ := Kd.R_slice HO112.out
                  (first | subst eo19 | (injection eo19 with f1_ f2_ f3_; have f4_ := f1_.symm; have f5_ := f3_.symm; clear f1_ f2_ f3_; subst f4_; subst f5_))
                  obtain ⟨Ao20, co20, eo20⟩ := Kd.R_slice HO115.out
                  (first | subst eo20 | (injection eo20 with f1_ f2_ f3_; have f4_ := f1_.symm; have f5_ := f3_.symm; clear f1_ f2_ f3_; subst f4_; subst f5_))
                  refine norm_ (a' := ?_) ?_ ?_
                  rotate_left
                  · simp only [putAll, Act.put, List.setIfInBounds_toArray, List.set_cons_zero, List.set_cons_succ]
                    rfl
                  refine one_ (i := 4) (N := some 8) #[true, true, true, true, true, false] rfl rfl (by kernel_rfl) (by decide) (fun K hK => ?_)
                  refine Kd.N_lit_step k29 _ 29 ?hg (N' := 8) ?hd (xs := ([(⟨(⟨0, 0⟩ : S27), y110⟩ : S29), (⟨(⟨0, 0⟩ : S27), y113⟩ : S29)] : List (S29))) (inner := [.int .i64 0, .int .i64 0, .slice Ao19 y110.length co19, .int .i64 0, .int .i64 0, .slice Ao20 y113.length co20]) (ok := (fun _ => True)) (okp := (fun _ => True)) ?hr ?hp (fun _ hk => hk) ((show ∀ k_, w18.heap.size ≤ k_ → (fun _ => True) k_ from fun k_ hk => trivial) _ (Nat.le_refl _)) (Below.refl _ _) (Nat.le_refl _) (by simp) ?_; (case hd => rfl); (case hg => rfl); (case hr => first | (go_simp; done) | (go_simp; rfl)); (case hp => exact (Reps.c3 (show Kd.FK k29 _ _ (⟨(⟨0, 0⟩ : S27), y110⟩ : S29) [.int .i64 0, .int .i64 0, .slice Ao19 y110.length co19] from (k29_mkF _ _ (⟨(⟨0, 0⟩ : S27), y110⟩ : S29) (Kd.R_reads' (Kd.R_mono (ok' := (fun _ => True)) (HO112.out) (fun k_ hk => trivial))).2.1 (Kd.R_F (Kd.R_mono (ok' := (fun _ => True)) (HO112.out) (fun k_ hk => trivial))))) (Reps.c3 (show Kd.FK k29 _ _ (⟨(⟨0, 0⟩ : S27), y113⟩ : S29) [.int .i64 0, .int .i64 0, .slice Ao20 y113.length co20] from (k29_mkF _ _ (⟨(⟨0, 0⟩ : S27), y113⟩ : S29) (Kd.R_reads' (Kd.R_mono (ok' := (fun _ => True)) (HO115.out) (fun k_ hk => trivial))).2.1 (Kd.R_F (Kd.R_mono (ok' := (fun _ => True)) (HO115.out) (fun k_ hk => trivial))))) (Reps.none _ _))))
                  intro v117 w21 ho22 hb hg_ hnew_
                  clear hg_ hnew_
                  (first | rw [← Ny116.out] at ho22 | (simp only [Int.reduceToNat] at ho22; rw [← Ny116.out] at ho22))
                  have n0_ := Aside0.mk (Kd.N_lower ho22 (below_size (by repeat (first | (with_reducible first | exact HB.out | apply below_alloc | apply pw_below_drewN | apply below_drew1) | exact HB.out))))
                  have n1_ := Aside0.mk (below_step (by repeat (first | (with_reducible first | exact HB.out | apply below_alloc | apply pw_below_drewN | apply below_drew1) | exact HB.out)) hb)
                  clear HB
                  clear HO112
                  clear HO115
                  have HO118 := n0_
                  have HB := n1_
                  clear n0_ n1_
                  clear hb ho22
                  refine hK.out _ _ trivial (fun hHeld => ?_)
                  clear hK K
                  refine norm_ (a' := ?_) ?_ ?_
                  rotate_left
                  · show Act.put _ (some 8) _ = _
                    simp only [Act.put, List.setIfInBounds_toArray, List.set_cons_zero, List.set_cons_succ, i64_w, i32_w]
                    rfl
                  refine pure_ (i := 5) (N := some 1) (v := ?_) (a' := ?_) #[true, true, true, true, true, true] rfl rfl (by kernel_rfl) (fun _ _ _ h => h) (Or.inl ⟨by rfl, ?_⟩) ?_ ?_
                  rotate_left
                  · intro w'
                    go_simp
                    with_reducible rfl
                  rotate_left
                  · simp only [Act.put, List.setIfInBounds_toArray, List.set_cons_zero, List.set_cons_succ, i64_w, i32_w]
                    rfl
                  refine done_ (by kernel_rfl) ?_
                  obtain ⟨Ao23, co23, eo23⟩ := Kd.N_slice HO118.out
                  subst eo23
                  try go_wp2_with (first | ((with_reducible refine gate_callee (f := 9) rfl ?_); refine goesL_ (some 11) rfl rfl Try.func9 (by kernel_rfl) rfl #[.slice Ao23 y116.length co23, .int .i64 3] rfl (by (try simp only [List.map_toArray, List.map_cons, List.map_nil]); first | done | rfl | (simp only [List.length_drop, List.length_take]; rfl)) ?_; (with_reducible refine (dispute_Choice.calls k _ _ y116 3 t119 true _ ?side1 ?side2 A3.out).mono ?_); (case side1 => repeat (first | exact (Kd.N_reads' HO118.out).2.2 | (with_reducible refine Kd.C_alloc ?_ _) | (with_reducible refine Kd.C_drewN ?_ _) | (with_reducible refine Kd.C_drew ?_))); (case side2 => exact (Kd.N_reads' HO118.out).2.1); rintro e w24 ⟨v121, rfl, ho0, hb⟩; refine ⟨_, rfl, ?_⟩; have n0_ := Aside0.mk (Kd.N_elder' (by (with_reducible repeat (first | apply Kd.N_alloc | apply Kd.N_drewN | apply Kd.N_drew)); exact HO118.out) (Kd.R_base ho0) hb); have n1_ := Aside0.mk (Kd.R_lower ho0 (below_size (by repeat (first | (with_reducible first | exact HB.out | apply below_alloc | apply pw_below_drewN | apply below_drew1) | exact HB.out)))); have n2_ := Aside0.mk (below_step (by repeat (first | (with_reducible first | exact HB.out | apply below_alloc | apply pw_below_drewN | apply below_drew1) | exact HB.out)) hb); clear HO118; clear HB; have HO118 := n0_; have HO122 := n1_; have HB := n2_; clear n0_ n1_ n2_; (try clear hb); (try clear hb2); (try clear hk); (try clear hi); (try clear ho0)) | (go_at_call 7; (with_reducible refine (dispute_Count.calls k _ _ y116 t123 _ ?side1 ?side2 A5.out).mono ?_); (case side1 => repeat (first | exact (Kd.N_reads' HO118.out).2.2 | (with_reducible refine Kd.C_alloc ?_ _) | (with_reducible refine Kd.C_drewN ?_ _) | (with_reducible refine Kd.C_drew ?_))); (case side2 => exact (Kd.N_reads' HO118.out).2.1); rintro e w25 ⟨rfl, hb⟩; have n0_ := Aside0.mk (Kd.N_below (by (with_reducible repeat (first | apply Kd.N_alloc | apply Kd.N_drewN | apply Kd.N_drew)); exact HO118.out) hb); have n1_ := Aside0.mk (Kd.R_below (by (with_reducible repeat (first | apply Kd.R_alloc | apply Kd.R_drewN | apply Kd.R_drew)); exact HO122.out) hb); have n2_ := Aside0.mk (below_step (by repeat (first | (with_reducible first | exact HB.out | apply below_alloc | apply pw_below_drewN | apply below_drew1) | exact HB.out)) hb); clear HO118; clear HO122; clear HB; have HO118 := n0_; have HO122 := n1_; have HB := n2_; clear n0_ n1_ n2_; (try clear hb); (try clear hb2); (try clear hk); (try clear hi); obtain ⟨Ao26, co26, eo26⟩ := Kd.R_slice HO122.out; subst eo26; have p124 : 0 ≤ (0 : Int) := (by omega); have q124 : 0 < (t119.length : Int) := of_decide_eq_true (by first | (with_reducible assumption) | assumption); obtain ⟨ad124, e124, hx124_0⟩ := Kd.at_int (Kd.R_reads' HO122.out).2.2 0 p124 q124; cases e124; have qi124 : (0 < t119.length) = True := eq_true (by omega); (try rw [show ((0 : Int)).toNat = 0 from rfl] at hx124_0); (try rw [Addr.add_zero'] at hx124_0); replace p124 := eq_true p124; replace q124 := eq_true q124; have p125 : 0 ≤ (1 : Int) := (by omega); have q125 : 1 < (t119.length : Int) := of_decide_eq_true (by first | (with_reducible assumption) | assumption); obtain ⟨ad125, e125, hx125_0⟩ := Kd.at_int (Kd.R_reads' HO122.out).2.2 1 p125 q125; obtain rfl : ad124 = ad125 := (by injection e125); (try simp only [show (1 : Int).toNat = 1 from rfl, Nat.reduceMul, Nat.reduceEqDiff, Go.Addr.add, ↓reduceIte] at hx125_0); have qi125 : (1 < t119.length) = True := eq_true (by omega); (try rw [show ((1 : Int)).toNat = 1 from rfl] at hx125_0); replace p125 := eq_true p125; replace q125 := eq_true q125))
                  go_ret
                  exact ⟨by first | rfl | (simp [errW_none, errW_some] <;> rfl) | (simp [*, errW_none, errW_some] <;> rfl), by repeat (first | (with_reducible first | exact HB.out | apply below_alloc | apply pw_below_drewN | apply below_drew1) | exact HB.out)⟩
                · rw [if_neg c10] at H
                  exact absurd H (by simp)
              · rw [if_neg c9] at H
                have c9b0 : ((rd t119 0) == 1) = false := beq_eq_false_iff_ne.mpr c9
                have c9b1 : ((rd t119 0) != 1) = true := bne_iff_ne.mpr c9
                obtain rfl := Option.some.inj H
                go_enter Try.func6, Try.ntmps6
                try go_wp2
                have n0_ := Aside0.mk (below_drew1 HB.out)
                clear HB
                have HB := n0_
                clear n0_
                refine start_ (n := 6) (S := fun w' => True) (ds := []) #[false, false, false, false, false, false] (by kernel_rfl) rfl rfl trivial (fun hHeld => ?_)
                generalize w.drew = w27 at HB hHeld ⊢
                refine join_ (σ := Value × Value) 2 #[true, true, true, true, false, false] (fun s_ => [(4, s_.1), (6, s_.2), (5, .agg #[.int .i64 0, .int .i64 0, s_.1]), (7, .agg #[.int .i64 0, .int .i64 0, s_.2])]) (fun s_ w' => (Kd.R k84 84 w' w.heap.size (fun k_ => some k_ ≠ (s_.2 : Value).ownBlock) s_.1 y110) ∧ (Kd.R k84 84 w' w.heap.size (fun k_ => some k_ ≠ (s_.1 : Value).ownBlock) s_.2 y113) ∧ (Below w.heap.size w w')) ?_ ?_
                rotate_left
                · intro hCont
                  refine two_ (i := 0) (j := 2) (Ni := some 4) (Nj := some 6) #[true, false, false, false, false, false] #[false, false, true, false, false, false] rfl rfl rfl rfl (by kernel_rfl) (by decide) (by decide) (fun K hK => ?_) (fun K hK => ?_)
                  · skip
                    refine Kd.R_make_step k84 _ 84 (by rfl) (N := 4) rfl 25 _ _ rfl 2 rfl rfl Try.underlying25 (.agg #[(.bool false), (.string ⟨#[]⟩), (.string ⟨#[]⟩), (.int .i64 0)]) 48 info84 rfl (by decide) (by omega) z84 (ok := fun _ => True) (okp := fun _ => True) (k84_mkM _ _ _ z84 ) (fun _ hk => hk) trivial (by omega) (by omega) (Below.refl _ _) (Nat.le_refl _) ?_
                    intro v111 w28 ho29 hb hg_ hnew_
                    clear hg_ hnew_
                    (first | rw [← Ny110.out] at ho29 | (simp only [Int.reduceToNat] at ho29; rw [← Ny110.out] at ho29))
                    have n0_ := Aside0.mk (Kd.R_lower ho29 (below_size (by repeat (first | (with_reducible first | exact HB.out | apply below_alloc | apply pw_below_drewN | apply below_drew1) | exact HB.out))))
                    have n1_ := Aside0.mk (below_step (by repeat (first | (with_reducible first | exact HB.out | apply below_alloc | apply pw_below_drewN | apply below_drew1) | exact HB.out)) hb)
                    clear HB
                    have HO112 := n0_
                    have HB := n1_
                    clear n0_ n1_
                    clear hb ho29
                    obtain ⟨Ao30, co30, eo30⟩ := Kd.R_slice HO112.out
                    (first | subst eo30 | (injection eo30 with f1_ f2_ f3_; have f4_ := f1_.symm; have f5_ := f3_.symm; clear f1_ f2_ f3_; subst f4_; subst f5_))
                    refine hK.out _ _ trivial (fun hHeld => ?_)
                    clear hK K
                    refine norm_ (a' := ?_) ?_ ?_
                    rotate_left
                    · show Act.put _ (some 4) _ = _
                      simp only [Act.put, List.setIfInBounds_toArray, List.set_cons_zero, List.set_cons_succ, i64_w, i32_w]
                      rfl
                    refine pure_ (i := 1) (N := some 5) (v := ?_) (a' := ?_) #[true, true, false, false, false, false] rfl rfl (by kernel_rfl) (fun _ _ _ h => h) (Or.inl ⟨by rfl, ?_⟩) ?_ ?_
                    rotate_left
                    · intro w'
                      go_simp
                      with_reducible rfl
                    rotate_left
                    · simp only [Act.put, List.setIfInBounds_toArray, List.set_cons_zero, List.set_cons_succ, i64_w, i32_w]
                      rfl
                    refine one_ (i := 2) (N := some 6) #[true, true, true, false, false, false] rfl rfl (by kernel_rfl) (by decide) (fun K hK => ?_)
                    refine Kd.R_make_step k84 _ 84 (by rfl) (N := 6) rfl 25 _ _ rfl 3 rfl rfl Try.underlying25 (.agg #[(.bool false), (.string ⟨#[]⟩), (.string ⟨#[]⟩), (.int .i64 0)]) 48 info84 rfl (by decide) (by omega) z84 (ok := fun _ => True) (okp := fun _ => True) (k84_mkM _ _ _ z84 ) (fun _ hk => hk) trivial (by omega) (by omega) (Below.refl _ _) (Nat.le_refl _) ?_
                    intro v114 w31 ho32 hb hg_ hnew_
                    clear hg_ hnew_
                    (first | rw [← Ny113.out] at ho32 | (simp only [Int.reduceToNat] at ho32; rw [← Ny113.out] at ho32))
                    have n0_ := Aside0.mk (Kd.R_elder' (by (with_reducible repeat (first | apply Kd.R_alloc | apply Kd.R_drewN | apply Kd.R_drew)); exact HO112.out) (Kd.R_base ho32) hb)
                    have n1_ := Aside0.mk (Kd.R_lower (Kd.R_new' ho32 (Kd.R_lt (by (with_reducible repeat (first | apply Kd.R_alloc | apply Kd.R_drewN | apply Kd.R_drew)); exact HO112.out))) (below_size (by repeat (first | (with_reducible first | exact HB.out | apply below_alloc | apply pw_below_drewN | apply below_drew1) | exact HB.out))))
                    have n2_ := Aside0.mk (below_step (by repeat (first | (with_reducible first | exact HB.out | apply below_alloc | apply pw_below_drewN | apply below_drew1) | exact HB.out)) hb)
                    clear HO112
                    clear HB
                    have HO112 := n0_
                    have HO115 := n1_
                    have HB := n2_
                    clear n0_ n1_ n2_
                    clear hb ho32
                    obtain ⟨Ao33, co33, eo33⟩ := Kd.R_slice HO115.out
                    (first | subst eo33 | (injection eo33 with f1_ f2_ f3_; have f4_ := f1_.symm; have f5_ := f3_.symm; clear f1_ f2_ f3_; subst f4_; subst f5_))
                    refine hK.out _ _ trivial (fun hHeld => ?_)
                    clear hK K
                    refine norm_ (a' := ?_) ?_ ?_
                    rotate_left
                    · show Act.put _ (some 6) _ = _
                      simp only [Act.put, List.setIfInBounds_toArray, List.set_cons_zero, List.set_cons_succ, i64_w, i32_w]
                      rfl
                    refine pure_ (i := 3) (N := some 7) (v := ?_) (a' := ?_) #[true, true, true, true, false, false] rfl rfl (by kernel_rfl) (fun _ _ _ h => h) (Or.inl ⟨by rfl, ?_⟩) ?_ ?_
                    rotate_left
                    · intro w'
                      go_simp
                      with_reducible rfl
                    rotate_left
                    · simp only [Act.put, List.setIfInBounds_toArray, List.set_cons_zero, List.set_cons_succ, i64_w, i32_w]
                      rfl
                    exact norm_ (by simp only [putAll, Act.put, List.setIfInBounds_toArray, List.set_cons_zero, List.set_cons_succ]) (hCont (.slice Ao30 y110.length co30, .slice Ao33 y113.length co33) _ ⟨(by (with_reducible repeat (first | apply Kd.R_alloc | apply Kd.R_drewN | apply Kd.R_drew)); exact Kd.R_mono HO112.out (fun _ hk => hk.2)), (by (with_reducible repeat (first | apply Kd.R_alloc | apply Kd.R_drewN | apply Kd.R_drew)); exact Kd.R_mono HO115.out (fun _ hk => hk.2)), (by repeat (first | (with_reducible first | exact HB.out | apply below_alloc | apply pw_below_drewN | apply below_drew1) | exact HB.out))⟩)
                  · skip
                    refine Kd.R_make_step k84 _ 84 (by rfl) (N := 6) rfl 25 _ _ rfl 3 rfl rfl Try.underlying25 (.agg #[(.bool false), (.string ⟨#[]⟩), (.string ⟨#[]⟩), (.int .i64 0)]) 48 info84 rfl (by decide) (by omega) z84 (ok := fun _ => True) (okp := fun _ => True) (k84_mkM _ _ _ z84 ) (fun _ hk => hk) trivial (by omega) (by omega) (Below.refl _ _) (Nat.le_refl _) ?_
                    intro v114 w28 ho29 hb hg_ hnew_
                    clear hg_ hnew_
                    (first | rw [← Ny113.out] at ho29 | (simp only [Int.reduceToNat] at ho29; rw [← Ny113.out] at ho29))
                    have n0_ := Aside0.mk (Kd.R_lower ho29 (below_size (by repeat (first | (with_reducible first | exact HB.out | apply below_alloc | apply pw_below_drewN | apply below_drew1) | exact HB.out))))
                    have n1_ := Aside0.mk (below_step (by repeat (first | (with_reducible first | exact HB.out | apply below_alloc | apply pw_below_drewN | apply below_drew1) | exact HB.out)) hb)
                    clear HB
                    have HO115 := n0_
                    have HB := n1_
                    clear n0_ n1_
                    clear hb ho29
                    obtain ⟨Ao30, co30, eo30⟩ := Kd.R_slice HO115.out
                    (first | subst eo30 | (injection eo30 with f1_ f2_ f3_; have f4_ := f1_.symm; have f5_ := f3_.symm; clear f1_ f2_ f3_; subst f4_; subst f5_))
                    refine hK.out _ _ trivial (fun hHeld => ?_)
                    clear hK K
                    refine norm_ (a' := ?_) ?_ ?_
                    rotate_left
                    · show Act.put _ (some 6) _ = _
                      simp only [Act.put, List.setIfInBounds_toArray, List.set_cons_zero, List.set_cons_succ, i64_w, i32_w]
                      rfl
                    refine pure_ (i := 3) (N := some 7) (v := ?_) (a' := ?_) #[false, false, true, true, false, false] rfl rfl (by kernel_rfl) (fun _ _ _ h => h) (Or.inl ⟨by rfl, ?_⟩) ?_ ?_
                    rotate_left
                    · intro w'
                      go_simp
                      with_reducible rfl
                    rotate_left
                    · simp only [Act.put, List.setIfInBounds_toArray, List.set_cons_zero, List.set_cons_succ, i64_w, i32_w]
                      rfl
                    refine one_ (i := 0) (N := some 4) #[true, false, true, true, false, false] rfl rfl (by kernel_rfl) (by decide) (fun K hK => ?_)
                    refine Kd.R_make_step k84 _ 84 (by rfl) (N := 4) rfl 25 _ _ rfl 2 rfl rfl Try.underlying25 (.agg #[(.bool false), (.string ⟨#[]⟩), (.string ⟨#[]⟩), (.int .i64 0)]) 48 info84 rfl (by decide) (by omega) z84 (ok := fun _ => True) (okp := fun _ => True) (k84_mkM _ _ _ z84 ) (fun _ hk => hk) trivial (by omega) (by omega) (Below.refl _ _) (Nat.le_refl _) ?_
                    intro v111 w31 ho32 hb hg_ hnew_
                    clear hg_ hnew_
                    (first | rw [← Ny110.out] at ho32 | (simp only [Int.reduceToNat] at ho32; rw [← Ny110.out] at ho32))
                    have n0_ := Aside0.mk (Kd.R_elder' (by (with_reducible repeat (first | apply Kd.R_alloc | apply Kd.R_drewN | apply Kd.R_drew)); exact HO115.out) (Kd.R_base ho32) hb)
                    have n1_ := Aside0.mk (Kd.R_lower (Kd.R_new' ho32 (Kd.R_lt (by (with_reducible repeat (first | apply Kd.R_alloc | apply Kd.R_drewN | apply Kd.R_drew)); exact HO115.out))) (below_size (by repeat (first | (with_reducible first | exact HB.out | apply below_alloc | apply pw_below_drewN | apply below_drew1) | exact HB.out))))
                    have n2_ := Aside0.mk (below_step (by repeat (first | (with_reducible first | exact HB.out | apply below_alloc | apply pw_below_drewN | apply below_drew1) | exact HB.out)) hb)
                    clear HO115
                    clear HB
                    have HO115 := n0_
                    have HO112 := n1_
                    have HB := n2_
                    clear n0_ n1_ n2_
                    clear hb ho32
                    obtain ⟨Ao33, co33, eo33⟩ := Kd.R_slice HO112.out
                    (first | subst eo33 | (injection eo33 with f1_ f2_ f3_; have f4_ := f1_.symm; have f5_ := f3_.symm; clear f1_ f2_ f3_; subst f4_; subst f5_))
                    refine hK.out _ _ trivial (fun hHeld => ?_)
                    clear hK K
                    refine norm_ (a' := ?_) ?_ ?_
                    rotate_left
                    · show Act.put _ (some 4) _ = _
                      simp only [Act.put, List.setIfInBounds_toArray, List.set_cons_zero, List.set_cons_succ, i64_w, i32_w]
                      rfl
                    refine pure_ (i := 1) (N := some 5) (v := ?_) (a' := ?_) #[true, true, true, true, false, false] rfl rfl (by kernel_rfl) (fun _ _ _ h => h) (Or.inl ⟨by rfl, ?_⟩) ?_ ?_
                    rotate_left
                    · intro w'
                      go_simp
                      with_reducible rfl
                    rotate_left
                    · simp only [Act.put, List.setIfInBounds_toArray, List.set_cons_zero, List.set_cons_succ, i64_w, i32_w]
                      rfl
                    exact norm_ (by simp only [putAll, Act.put, List.setIfInBounds_toArray, List.set_cons_zero, List.set_cons_succ]) (hCont (.slice Ao33 y110.length co33, .slice Ao30 y113.length co30) _ ⟨(by (with_reducible repeat (first | apply Kd.R_alloc | apply Kd.R_drewN | apply Kd.R_drew)); exact Kd.R_mono HO112.out (fun _ hk => hk.2)), (by (with_reducible repeat (first | apply Kd.R_alloc | apply Kd.R_drewN | apply Kd.R_drew)); exact Kd.R_mono HO115.out (fun _ hk => hk.2)), (by repeat (first | (with_reducible first | exact HB.out | apply below_alloc | apply pw_below_drewN | apply below_drew1) | exact HB.out))⟩)
                rintro ⟨v111, v114⟩ w34 ⟨h0_, h1_, h2_⟩
                have n0_ : Aside0 (Kd.R k84 84 w34 w.heap.size (fun k_ => some k_ ≠ (v114 : Value).ownBlock) v111 y110) := ⟨h0_⟩
                have n1_ : Aside0 (Kd.R k84 84 w34 w.heap.size (fun k_ => some k_ ≠ (v111 : Value).ownBlock) v114 y113) := ⟨h1_⟩
                have n2_ : Aside0 (Below w.heap.size w w34) := ⟨h2_⟩
                clear HB
                clear h0_ h1_ h2_
                have HO112 := n0_
                have HO115 := n1_
                have HB := n2_
                clear n0_ n1_ n2_
                have hHeld := trivial
                obtain ⟨Ao35, co35, eo35⟩ := Kd.R_slice HO112.out
                (first | subst eo35 | (injection eo35 with f1_ f2_ f3_; have f4_ := f1_.symm; have f5_ := f3_.symm; clear f1_ f2_ f3_; subst f4_; subst f5_))
                obtain ⟨Ao36, co36, eo36⟩ := Kd.R_slice HO115.out
                (first | subst eo36 | (injection eo36 with f1_ f2_ f3_; have f4_ := f1_.symm; have f5_ := f3_.symm; clear f1_ f2_ f3_; subst f4_; subst f5_))
                refine norm_ (a' := ?_) ?_ ?_
                rotate_left
                · simp only [putAll, Act.put, List.setIfInBounds_toArray, List.set_cons_zero, List.set_cons_succ]
                  rfl
                refine one_ (i := 4) (N := some 8) #[true, true, true, true, true, false] rfl rfl (by kernel_rfl) (by decide) (fun K hK => ?_)
                refine Kd.N_lit_step k29 _ 29 ?hg (N' := 8) ?hd (xs := ([(⟨(⟨0, 0⟩ : S27), y110⟩ : S29), (⟨(⟨0, 0⟩ : S27), y113⟩ : S29)] : List (S29))) (inner := [.int .i64 0, .int .i64 0, .slice Ao35 y110.length co35, .int .i64 0, .int .i64 0, .slice Ao36 y113.length co36]) (ok := (fun _ => True)) (okp := (fun _ => True)) ?hr ?hp (fun _ hk => hk) ((show ∀ k_, w34.heap.size ≤ k_ → (fun _ => True) k_ from fun k_ hk => trivial) _ (Nat.le_refl _)) (Below.refl _ _) (Nat.le_refl _) (by simp) ?_; (case hd => rfl); (case hg => rfl); (case hr => first | (go_simp; done) | (go_simp; rfl)); (case hp => exact (Reps.c3 (show Kd.FK k29 _ _ (⟨(⟨0, 0⟩ : S27), y110⟩ : S29) [.int .i64 0, .int .i64 0, .slice Ao35 y110.length co35] from (k29_mkF _ _ (⟨(⟨0, 0⟩ : S27), y110⟩ : S29) (Kd.R_reads' (Kd.R_mono (ok' := (fun _ => True)) (HO112.out) (fun k_ hk => trivial))).2.1 (Kd.R_F (Kd.R_mono (ok' := (fun _ => True)) (HO112.out) (fun k_ hk => trivial))))) (Reps.c3 (show Kd.FK k29 _ _ (⟨(⟨0, 0⟩ : S27), y113⟩ : S29) [.int .i64 0, .int .i64 0, .slice Ao36 y113.length co36] from (k29_mkF _ _ (⟨(⟨0, 0⟩ : S27), y113⟩ : S29) (Kd.R_reads' (Kd.R_mono (ok' := (fun _ => True)) (HO115.out) (fun k_ hk => trivial))).2.1 (Kd.R_F (Kd.R_mono (ok' := (fun _ => True)) (HO115.out) (fun k_ hk => trivial))))) (Reps.none _ _))))
                intro v117 w37 ho38 hb hg_ hnew_
                clear hg_ hnew_
                (first | rw [← Ny116.out] at ho38 | (simp only [Int.reduceToNat] at ho38; rw [← Ny116.out] at ho38))
                have n0_ := Aside0.mk (Kd.N_lower ho38 (below_size (by repeat (first | (with_reducible first | exact HB.out | apply below_alloc | apply pw_below_drewN | apply below_drew1) | exact HB.out))))
                have n1_ := Aside0.mk (below_step (by repeat (first | (with_reducible first | exact HB.out | apply below_alloc | apply pw_below_drewN | apply below_drew1) | exact HB.out)) hb)
                clear HB
                clear HO112
                clear HO115
                have HO118 := n0_
                have HB := n1_
                clear n0_ n1_
                clear hb ho38
                refine hK.out _ _ trivial (fun hHeld => ?_)
                clear hK K
                refine norm_ (a' := ?_) ?_ ?_
                rotate_left
                · show Act.put _ (some 8) _ = _
                  simp only [Act.put, List.setIfInBounds_toArray, List.set_cons_zero, List.set_cons_succ, i64_w, i32_w]
                  rfl
                refine pure_ (i := 5) (N := some 1) (v := ?_) (a' := ?_) #[true, true, true, true, true, true] rfl rfl (by kernel_rfl) (fun _ _ _ h => h) (Or.inl ⟨by rfl, ?_⟩) ?_ ?_
                rotate_left
                · intro w'
                  go_simp
                  with_reducible rfl
                rotate_left
                · simp only [Act.put, List.setIfInBounds_toArray, List.set_cons_zero, List.set_cons_succ, i64_w, i32_w]
                  rfl
                refine done_ (by kernel_rfl) ?_
                obtain ⟨Ao39, co39, eo39⟩ := Kd.N_slice HO118.out
                subst eo39
                try go_wp2_with (first | ((with_reducible refine gate_callee (f := 9) rfl ?_); refine goesL_ (some 11) rfl rfl Try.func9 (by kernel_rfl) rfl #[.slice Ao39 y116.length co39, .int .i64 3] rfl (by (try simp only [List.map_toArray, List.map_cons, List.map_nil]); first | done | rfl | (simp only [List.length_drop, List.length_take]; rfl)) ?_; (with_reducible refine (dispute_Choice.calls k _ _ y116 3 t119 true _ ?side1 ?side2 A3.out).mono ?_); (case side1 => repeat (first | exact (Kd.N_reads' HO118.out).2.2 | (with_reducible refine Kd.C_alloc ?_ _) | (with_reducible refine Kd.C_drewN ?_ _) | (with_reducible refine Kd.C_drew ?_))); (case side2 => exact (Kd.N_reads' HO118.out).2.1); rintro e w40 ⟨v121, rfl, ho0, hb⟩; refine ⟨_, rfl, ?_⟩; have n0_ := Aside0.mk (Kd.N_elder' (by (with_reducible repeat (first | apply Kd.N_alloc | apply Kd.N_drewN | apply Kd.N_drew)); exact HO118.out) (Kd.R_base ho0) hb); have n1_ := Aside0.mk (Kd.R_lower ho0 (below_size (by repeat (first | (with_reducible first | exact HB.out | apply below_alloc | apply pw_below_drewN | apply below_drew1) | exact HB.out)))); have n2_ := Aside0.mk (below_step (by repeat (first | (with_reducible first | exact HB.out | apply below_alloc | apply pw_below_drewN | apply below_drew1) | exact HB.out)) hb); clear HO118; clear HB; have HO118 := n0_; have HO122 := n1_; have HB := n2_; clear n0_ n1_ n2_; (try clear hb); (try clear hb2); (try clear hk); (try clear hi); (try clear ho0)) | (go_at_call 7; (with_reducible refine (dispute_Count.calls k _ _ y116 t123 _ ?side1 ?side2 A5.out).mono ?_); (case side1 => repeat (first | exact (Kd.N_reads' HO118.out).2.2 | (with_reducible refine Kd.C_alloc ?_ _) | (with_reducible refine Kd.C_drewN ?_ _) | (with_reducible refine Kd.C_drew ?_))); (case side2 => exact (Kd.N_reads' HO118.out).2.1); rintro e w41 ⟨rfl, hb⟩; have n0_ := Aside0.mk (Kd.N_below (by (with_reducible repeat (first | apply Kd.N_alloc | apply Kd.N_drewN | apply Kd.N_drew)); exact HO118.out) hb); have n1_ := Aside0.mk (Kd.R_below (by (with_reducible repeat (first | apply Kd.R_alloc | apply Kd.R_drewN | apply Kd.R_drew)); exact HO122.out) hb); have n2_ := Aside0.mk (below_step (by repeat (first | (with_reducible first | exact HB.out | apply below_alloc | apply pw_below_drewN | apply below_drew1) | exact HB.out)) hb); clear HO118; clear HO122; clear HB; have HO118 := n0_; have HO122 := n1_; have HB := n2_; clear n0_ n1_ n2_; (try clear hb); (try clear hb2); (try clear hk); (try clear hi); obtain ⟨Ao42, co42, eo42⟩ := Kd.R_slice HO122.out; subst eo42; have p124 : 0 ≤ (0 : Int) := (by omega); have q124 : 0 < (t119.length : Int) := of_decide_eq_true (by first | (with_reducible assumption) | assumption); obtain ⟨ad124, e124, hx124_0⟩ := Kd.at_int (Kd.R_reads' HO122.out).2.2 0 p124 q124; cases e124; have qi124 : (0 < t119.length) = True := eq_true (by omega); (try rw [show ((0 : Int)).toNat = 0 from rfl] at hx124_0); (try rw [Addr.add_zero'] at hx124_0); replace p124 := eq_true p124; replace q124 := eq_true q124))
                go_ret
                exact ⟨by first | rfl | (simp [errW_none, errW_some] <;> rfl) | (simp [*, errW_none, errW_some] <;> rfl), by repeat (first | (with_reducible first | exact HB.out | apply below_alloc | apply pw_below_drewN | apply below_drew1) | exact HB.out)⟩
            · rw [if_neg c8] at H
              exact absurd H (by simp)
          · rw [if_neg c7] at H
            have c7b0 : ((t119.length : Int) == 2) = false := beq_eq_false_iff_ne.mpr c7
            have c7b1 : ((t119.length : Int) != 2) = true := bne_iff_ne.mpr c7
            obtain rfl := Option.some.inj H
            go_enter Try.func6, Try.ntmps6
            try go_wp2
            have n0_ := Aside0.mk (below_drew1 HB.out)
            clear HB
            have HB := n0_
            clear n0_
            refine start_ (n := 6) (S := fun w' => True) (ds := []) #[false, false, false, false, false, false] (by kernel_rfl) rfl rfl trivial (fun hHeld => ?_)
            generalize w.drew = w43 at HB hHeld ⊢
            refine join_ (σ := Value × Value) 2 #[true, true, true, true, false, false] (fun s_ => [(4, s_.1), (6, s_.2), (5, .agg #[.int .i64 0, .int .i64 0, s_.1]), (7, .agg #[.int .i64 0, .int .i64 0, s_.2])]) (fun s_ w' => (Kd.R k84 84 w' w.heap.size (fun k_ => some k_ ≠ (s_.2 : Value).ownBlock) s_.1 y110) ∧ (Kd.R k84 84 w' w.heap.size (fun k_ => some k_ ≠ (s_.1 : Value).ownBlock) s_.2 y113) ∧ (Below w.heap.size w w')) ?_ ?_
            rotate_left
            · intro hCont
              refine two_ (i := 0) (j := 2) (Ni := some 4) (Nj := some 6) #[true, false, false, false, false, false] #[false, false, true, false, false, false] rfl rfl rfl rfl (by kernel_rfl) (by decide) (by decide) (fun K hK => ?_) (fun K hK => ?_)
              · skip
                refine Kd.R_make_step k84 _ 84 (by rfl) (N := 4) rfl 25 _ _ rfl 2 rfl rfl Try.underlying25 (.agg #[(.bool false), (.string ⟨#[]⟩), (.string ⟨#[]⟩), (.int .i64 0)]) 48 info84 rfl (by decide) (by omega) z84 (ok := fun _ => True) (okp := fun _ => True) (k84_mkM _ _ _ z84 ) (fun _ hk => hk) trivial (by omega) (by omega) (Below.refl _ _) (Nat.le_refl _) ?_
                intro v111 w44 ho45 hb hg_ hnew_
                clear hg_ hnew_
                (first | rw [← Ny110.out] at ho45 | (simp only [Int.reduceToNat] at ho45; rw [← Ny110.out] at ho45))
                have n0_ := Aside0.mk (Kd.R_lower ho45 (below_size (by repeat (first | (with_reducible first | exact HB.out | apply below_alloc | apply pw_below_drewN | apply below_drew1) | exact HB.out))))
                have n1_ := Aside0.mk (below_step (by repeat (first | (with_reducible first | exact HB.out | apply below_alloc | apply pw_below_drewN | apply below_drew1) | exact HB.out)) hb)
                clear HB
                have HO112 := n0_
                have HB := n1_
                clear n0_ n1_
                clear hb ho45
                obtain ⟨Ao46, co46, eo46⟩ := Kd.R_slice HO112.out
                (first | subst eo46 | (injection eo46 with f1_ f2_ f3_; have f4_ := f1_.symm; have f5_ := f3_.symm; clear f1_ f2_ f3_; subst f4_; subst f5_))
                refine hK.out _ _ trivial (fun hHeld => ?_)
                clear hK K
                refine norm_ (a' := ?_) ?_ ?_
                rotate_left
                · show Act.put _ (some 4) _ = _
                  simp only [Act.put, List.setIfInBounds_toArray, List.set_cons_zero, List.set_cons_succ, i64_w, i32_w]
                  rfl
                refine pure_ (i := 1) (N := some 5) (v := ?_) (a' := ?_) #[true, true, false, false, false, false] rfl rfl (by kernel_rfl) (fun _ _ _ h => h) (Or.inl ⟨by rfl, ?_⟩) ?_ ?_
                rotate_left
                · intro w'
                  go_simp
                  with_reducible rfl
                rotate_left
                · simp only [Act.put, List.setIfInBounds_toArray, List.set_cons_zero, List.set_cons_succ, i64_w, i32_w]
                  rfl
                refine one_ (i := 2) (N := some 6) #[true, true, true, false, false, false] rfl rfl (by kernel_rfl) (by decide) (fun K hK => ?_)
                refine Kd.R_make_step k84 _ 84 (by rfl) (N := 6) rfl 25 _ _ rfl 3 rfl rfl Try.underlying25 (.agg #[(.bool false), (.string ⟨#[]⟩), (.string ⟨#[]⟩), (.int .i64 0)]) 48 info84 rfl (by decide) (by omega) z84 (ok := fun _ => True) (okp := fun _ => True) (k84_mkM _ _ _ z84 ) (fun _ hk => hk) trivial (by omega) (by omega) (Below.refl _ _) (Nat.le_refl _) ?_
                intro v114 w47 ho48 hb hg_ hnew_
                clear hg_ hnew_
                (first | rw [← Ny113.out] at ho48 | (simp only [Int.reduceToNat] at ho48; rw [← Ny113.out] at ho48))
                have n0_ := Aside0.mk (Kd.R_elder' (by (with_reducible repeat (first | apply Kd.R_alloc | apply Kd.R_drewN | apply Kd.R_drew)); exact HO112.out) (Kd.R_base ho48) hb)
                have n1_ := Aside0.mk (Kd.R_lower (Kd.R_new' ho48 (Kd.R_lt (by (with_reducible repeat (first | apply Kd.R_alloc | apply Kd.R_drewN | apply Kd.R_drew)); exact HO112.out))) (below_size (by repeat (first | (with_reducible first | exact HB.out | apply below_alloc | apply pw_below_drewN | apply below_drew1) | exact HB.out))))
                have n2_ := Aside0.mk (below_step (by repeat (first | (with_reducible first | exact HB.out | apply below_alloc | apply pw_below_drewN | apply below_drew1) | exact HB.out)) hb)
                clear HO112
                clear HB
                have HO112 := n0_
                have HO115 := n1_
                have HB := n2_
                clear n0_ n1_ n2_
                clear hb ho48
                obtain ⟨Ao49, co49, eo49⟩ := Kd.R_slice HO115.out
                (first | subst eo49 | (injection eo49 with f1_ f2_ f3_; have f4_ := f1_.symm; have f5_ := f3_.symm; clear f1_ f2_ f3_; subst f4_; subst f5_))
                refine hK.out _ _ trivial (fun hHeld => ?_)
                clear hK K
                refine norm_ (a' := ?_) ?_ ?_
                rotate_left
                · show Act.put _ (some 6) _ = _
                  simp only [Act.put, List.setIfInBounds_toArray, List.set_cons_zero, List.set_cons_succ, i64_w, i32_w]
                  rfl
                refine pure_ (i := 3) (N := some 7) (v := ?_) (a' := ?_) #[true, true, true, true, false, false] rfl rfl (by kernel_rfl) (fun _ _ _ h => h) (Or.inl ⟨by rfl, ?_⟩) ?_ ?_
                rotate_left
                · intro w'
                  go_simp
                  with_reducible rfl
                rotate_left
                · simp only [Act.put, List.setIfInBounds_toArray, List.set_cons_zero, List.set_cons_succ, i64_w, i32_w]
                  rfl
                exact norm_ (by simp only [putAll, Act.put, List.setIfInBounds_toArray, List.set_cons_zero, List.set_cons_succ]) (hCont (.slice Ao46 y110.length co46, .slice Ao49 y113.length co49) _ ⟨(by (with_reducible repeat (first | apply Kd.R_alloc | apply Kd.R_drewN | apply Kd.R_drew)); exact Kd.R_mono HO112.out (fun _ hk => hk.2)), (by (with_reducible repeat (first | apply Kd.R_alloc | apply Kd.R_drewN | apply Kd.R_drew)); exact Kd.R_mono HO115.out (fun _ hk => hk.2)), (by repeat (first | (with_reducible first | exact HB.out | apply below_alloc | apply pw_below_drewN | apply below_drew1) | exact HB.out))⟩)
              · skip
                refine Kd.R_make_step k84 _ 84 (by rfl) (N := 6) rfl 25 _ _ rfl 3 rfl rfl Try.underlying25 (.agg #[(.bool false), (.string ⟨#[]⟩), (.string ⟨#[]⟩), (.int .i64 0)]) 48 info84 rfl (by decide) (by omega) z84 (ok := fun _ => True) (okp := fun _ => True) (k84_mkM _ _ _ z84 ) (fun _ hk => hk) trivial (by omega) (by omega) (Below.refl _ _) (Nat.le_refl _) ?_
                intro v114 w44 ho45 hb hg_ hnew_
                clear hg_ hnew_
                (first | rw [← Ny113.out] at ho45 | (simp only [Int.reduceToNat] at ho45; rw [← Ny113.out] at ho45))
                have n0_ := Aside0.mk (Kd.R_lower ho45 (below_size (by repeat (first | (with_reducible first | exact HB.out | apply below_alloc | apply pw_below_drewN | apply below_drew1) | exact HB.out))))
                have n1_ := Aside0.mk (below_step (by repeat (first | (with_reducible first | exact HB.out | apply below_alloc | apply pw_below_drewN | apply below_drew1) | exact HB.out)) hb)
                clear HB
                have HO115 := n0_
                have HB := n1_
                clear n0_ n1_
                clear hb ho45
                obtain ⟨Ao46, co46, eo46⟩ := Kd.R_slice HO115.out
                (first | subst eo46 | (injection eo46 with f1_ f2_ f3_; have f4_ := f1_.symm; have f5_ := f3_.symm; clear f1_ f2_ f3_; subst f4_; subst f5_))
                refine hK.out _ _ trivial (fun hHeld => ?_)
                clear hK K
                refine norm_ (a' := ?_) ?_ ?_
                rotate_left
                · show Act.put _ (some 6) _ = _
                  simp only [Act.put, List.setIfInBounds_toArray, List.set_cons_zero, List.set_cons_succ, i64_w, i32_w]
                  rfl
                refine pure_ (i := 3) (N := some 7) (v := ?_) (a' := ?_) #[false, false, true, true, false, false] rfl rfl (by kernel_rfl) (fun _ _ _ h => h) (Or.inl ⟨by rfl, ?_⟩) ?_ ?_
                rotate_left
                · intro w'
                  go_simp
                  with_reducible rfl
                rotate_left
                · simp only [Act.put, List.setIfInBounds_toArray, List.set_cons_zero, List.set_cons_succ, i64_w, i32_w]
                  rfl
                refine one_ (i := 0) (N := some 4) #[true, false, true, true, false, false] rfl rfl (by kernel_rfl) (by decide) (fun K hK => ?_)
                refine Kd.R_make_step k84 _ 84 (by rfl) (N := 4) rfl 25 _ _ rfl 2 rfl rfl Try.underlying25 (.agg #[(.bool false), (.string ⟨#[]⟩), (.string ⟨#[]⟩), (.int .i64 0)]) 48 info84 rfl (by decide) (by omega) z84 (ok := fun _ => True) (okp := fun _ => True) (k84_mkM _ _ _ z84 ) (fun _ hk => hk) trivial (by omega) (by omega) (Below.refl _ _) (Nat.le_refl _) ?_
                intro v111 w47 ho48 hb hg_ hnew_
                clear hg_ hnew_
                (first | rw [← Ny110.out] at ho48 | (simp only [Int.reduceToNat] at ho48; rw [← Ny110.out] at ho48))
                have n0_ := Aside0.mk (Kd.R_elder' (by (with_reducible repeat (first | apply Kd.R_alloc | apply Kd.R_drewN | apply Kd.R_drew)); exact HO115.out) (Kd.R_base ho48) hb)
                have n1_ := Aside0.mk (Kd.R_lower (Kd.R_new' ho48 (Kd.R_lt (by (with_reducible repeat (first | apply Kd.R_alloc | apply Kd.R_drewN | apply Kd.R_drew)); exact HO115.out))) (below_size (by repeat (first | (with_reducible first | exact HB.out | apply below_alloc | apply pw_below_drewN | apply below_drew1) | exact HB.out))))
                have n2_ := Aside0.mk (below_step (by repeat (first | (with_reducible first | exact HB.out | apply below_alloc | apply pw_below_drewN | apply below_drew1) | exact HB.out)) hb)
                clear HO115
                clear HB
                have HO115 := n0_
                have HO112 := n1_
                have HB := n2_
                clear n0_ n1_ n2_
                clear hb ho48
                obtain ⟨Ao49, co49, eo49⟩ := Kd.R_slice HO112.out
                (first | subst eo49 | (injection eo49 with f1_ f2_ f3_; have f4_ := f1_.symm; have f5_ := f3_.symm; clear f1_ f2_ f3_; subst f4_; subst f5_))
                refine hK.out _ _ trivial (fun hHeld => ?_)
                clear hK K
                refine norm_ (a' := ?_) ?_ ?_
                rotate_left
                · show Act.put _ (some 4) _ = _
                  simp only [Act.put, List.setIfInBounds_toArray, List.set_cons_zero, List.set_cons_succ, i64_w, i32_w]
                  rfl
                refine pure_ (i := 1) (N := some 5) (v := ?_) (a' := ?_) #[true, true, true, true, false, false] rfl rfl (by kernel_rfl) (fun _ _ _ h => h) (Or.inl ⟨by rfl, ?_⟩) ?_ ?_
                rotate_left
                · intro w'
                  go_simp
                  with_reducible rfl
                rotate_left
                · simp only [Act.put, List.setIfInBounds_toArray, List.set_cons_zero, List.set_cons_succ, i64_w, i32_w]
                  rfl
                exact norm_ (by simp only [putAll, Act.put, List.setIfInBounds_toArray, List.set_cons_zero, List.set_cons_succ]) (hCont (.slice Ao49 y110.length co49, .slice Ao46 y113.length co46) _ ⟨(by (with_reducible repeat (first | apply Kd.R_alloc | apply Kd.R_drewN | apply Kd.R_drew)); exact Kd.R_mono HO112.out (fun _ hk => hk.2)), (by (with_reducible repeat (first | apply Kd.R_alloc | apply Kd.R_drewN | apply Kd.R_drew)); exact Kd.R_mono HO115.out (fun _ hk => hk.2)), (by repeat (first | (with_reducible first | exact HB.out | apply below_alloc | apply pw_below_drewN | apply below_drew1) | exact HB.out))⟩)
            rintro ⟨v111, v114⟩ w50 ⟨h0_, h1_, h2_⟩
            have n0_ : Aside0 (Kd.R k84 84 w50 w.heap.size (fun k_ => some k_ ≠ (v114 : Value).ownBlock) v111 y110) := ⟨h0_⟩
            have n1_ : Aside0 (Kd.R k84 84 w50 w.heap.size (fun k_ => some k_ ≠ (v111 : Value).ownBlock) v114 y113) := ⟨h1_⟩
            have n2_ : Aside0 (Below w.heap.size w w50) := ⟨h2_⟩
            clear HB
            clear h0_ h1_ h2_
            have HO112 := n0_
            have HO115 := n1_
            have HB := n2_
            clear n0_ n1_ n2_
            have hHeld := trivial
            obtain ⟨Ao51, co51, eo51⟩ := Kd.R_slice HO112.out
            (first | subst eo51 | (injection eo51 with f1_ f2_ f3_; have f4_ := f1_.symm; have f5_ := f3_.symm; clear f1_ f2_ f3_; subst f4_; subst f5_))
            obtain ⟨Ao52, co52, eo52⟩ := Kd.R_slice HO115.out
            (first | subst eo52 | (injection eo52 with f1_ f2_ f3_; have f4_ := f1_.symm; have f5_ := f3_.symm; clear f1_ f2_ f3_; subst f4_; subst f5_))
            refine norm_ (a' := ?_) ?_ ?_
            rotate_left
            · simp only [putAll, Act.put, List.setIfInBounds_toArray, List.set_cons_zero, List.set_cons_succ]
              rfl
            refine one_ (i := 4) (N := some 8) #[true, true, true, true, true, false] rfl rfl (by kernel_rfl) (by decide) (fun K hK => ?_)
            refine Kd.N_lit_step k29 _ 29 ?hg (N' := 8) ?hd (xs := ([(⟨(⟨0, 0⟩ : S27), y110⟩ : S29), (⟨(⟨0, 0⟩ : S27), y113⟩ : S29)] : List (S29))) (inner := [.int .i64 0, .int .i64 0, .slice Ao51 y110.length co51, .int .i64 0, .int .i64 0, .slice Ao52 y113.length co52]) (ok := (fun _ => True)) (okp := (fun _ => True)) ?hr ?hp (fun _ hk => hk) ((show ∀ k_, w50.heap.size ≤ k_ → (fun _ => True) k_ from fun k_ hk => trivial) _ (Nat.le_refl _)) (Below.refl _ _) (Nat.le_refl _) (by simp) ?_; (case hd => rfl); (case hg => rfl); (case hr => first | (go_simp; done) | (go_simp; rfl)); (case hp => exact (Reps.c3 (show Kd.FK k29 _ _ (⟨(⟨0, 0⟩ : S27), y110⟩ : S29) [.int .i64 0, .int .i64 0, .slice Ao51 y110.length co51] from (k29_mkF _ _ (⟨(⟨0, 0⟩ : S27), y110⟩ : S29) (Kd.R_reads' (Kd.R_mono (ok' := (fun _ => True)) (HO112.out) (fun k_ hk => trivial))).2.1 (Kd.R_F (Kd.R_mono (ok' := (fun _ => True)) (HO112.out) (fun k_ hk => trivial))))) (Reps.c3 (show Kd.FK k29 _ _ (⟨(⟨0, 0⟩ : S27), y113⟩ : S29) [.int .i64 0, .int .i64 0, .slice Ao52 y113.length co52] from (k29_mkF _ _ (⟨(⟨0, 0⟩ : S27), y113⟩ : S29) (Kd.R_reads' (Kd.R_mono (ok' := (fun _ => True)) (HO115.out) (fun k_ hk => trivial))).2.1 (Kd.R_F (Kd.R_mono (ok' := (fun _ => True)) (HO115.out) (fun k_ hk => trivial))))) (Reps.none _ _))))
            intro v117 w53 ho54 hb hg_ hnew_
            clear hg_ hnew_
            (first | rw [← Ny116.out] at ho54 | (simp only [Int.reduceToNat] at ho54; rw [← Ny116.out] at ho54))
            have n0_ := Aside0.mk (Kd.N_lower ho54 (below_size (by repeat (first | (with_reducible first | exact HB.out | apply below_alloc | apply pw_below_drewN | apply below_drew1) | exact HB.out))))
            have n1_ := Aside0.mk (below_step (by repeat (first | (with_reducible first | exact HB.out | apply below_alloc | apply pw_below_drewN | apply below_drew1) | exact HB.out)) hb)
            clear HB
            clear HO112
            clear HO115
            have HO118 := n0_
            have HB := n1_
            clear n0_ n1_
            clear hb ho54
            refine hK.out _ _ trivial (fun hHeld => ?_)
            clear hK K
            refine norm_ (a' := ?_) ?_ ?_
            rotate_left
            · show Act.put _ (some 8) _ = _
              simp only [Act.put, List.setIfInBounds_toArray, List.set_cons_zero, List.set_cons_succ, i64_w, i32_w]
              rfl
            refine pure_ (i := 5) (N := some 1) (v := ?_) (a' := ?_) #[true, true, true, true, true, true] rfl rfl (by kernel_rfl) (fun _ _ _ h => h) (Or.inl ⟨by rfl, ?_⟩) ?_ ?_
            rotate_left
            · intro w'
              go_simp
              with_reducible rfl
            rotate_left
            · simp only [Act.put, List.setIfInBounds_toArray, List.set_cons_zero, List.set_cons_succ, i64_w, i32_w]
              rfl
            refine done_ (by kernel_rfl) ?_
            obtain ⟨Ao55, co55, eo55⟩ := Kd.N_slice HO118.out
            subst eo55
            try go_wp2_with (first | ((with_reducible refine gate_callee (f := 9) rfl ?_); refine goesL_ (some 11) rfl rfl Try.func9 (by kernel_rfl) rfl #[.slice Ao55 y116.length co55, .int .i64 3] rfl (by (try simp only [List.map_toArray, List.map_cons, List.map_nil]); first | done | rfl | (simp only [List.length_drop, List.length_take]; rfl)) ?_; (with_reducible refine (dispute_Choice.calls k _ _ y116 3 t119 true _ ?side1 ?side2 A3.out).mono ?_); (case side1 => repeat (first | exact (Kd.N_reads' HO118.out).2.2 | (with_reducible refine Kd.C_alloc ?_ _) | (with_reducible refine Kd.C_drewN ?_ _) | (with_reducible refine Kd.C_drew ?_))); (case side2 => exact (Kd.N_reads' HO118.out).2.1); rintro e w56 ⟨v121, rfl, ho0, hb⟩; refine ⟨_, rfl, ?_⟩; have n0_ := Aside0.mk (Kd.N_elder' (by (with_reducible repeat (first | apply Kd.N_alloc | apply Kd.N_drewN | apply Kd.N_drew)); exact HO118.out) (Kd.R_base ho0) hb); have n1_ := Aside0.mk (Kd.R_lower ho0 (below_size (by repeat (first | (with_reducible first | exact HB.out | apply below_alloc | apply pw_below_drewN | apply below_drew1) | exact HB.out)))); have n2_ := Aside0.mk (below_step (by repeat (first | (with_reducible first | exact HB.out | apply below_alloc | apply pw_below_drewN | apply below_drew1) | exact HB.out)) hb); clear HO118; clear HB; have HO118 := n0_; have HO122 := n1_; have HB := n2_; clear n0_ n1_ n2_; (try clear hb); (try clear hb2); (try clear hk); (try clear hi); (try clear ho0)) | (go_at_call 7; (with_reducible refine (dispute_Count.calls k _ _ y116 t123 _ ?side1 ?side2 A5.out).mono ?_); (case side1 => repeat (first | exact (Kd.N_reads' HO118.out).2.2 | (with_reducible refine Kd.C_alloc ?_ _) | (with_reducible refine Kd.C_drewN ?_ _) | (with_reducible refine Kd.C_drew ?_))); (case side2 => exact (Kd.N_reads' HO118.out).2.1); rintro e w57 ⟨rfl, hb⟩; have n0_ := Aside0.mk (Kd.N_below (by (with_reducible repeat (first | apply Kd.N_alloc | apply Kd.N_drewN | apply Kd.N_drew)); exact HO118.out) hb); have n1_ := Aside0.mk (Kd.R_below (by (with_reducible repeat (first | apply Kd.R_alloc | apply Kd.R_drewN | apply Kd.R_drew)); exact HO122.out) hb); have n2_ := Aside0.mk (below_step (by repeat (first | (with_reducible first | exact HB.out | apply below_alloc | apply pw_below_drewN | apply below_drew1) | exact HB.out)) hb); clear HO118; clear HO122; clear HB; have HO118 := n0_; have HO122 := n1_; have HB := n2_; clear n0_ n1_ n2_; (try clear hb); (try clear hb2); (try clear hk); (try clear hi); obtain ⟨Ao58, co58, eo58⟩ := Kd.R_slice HO122.out; subst eo58))
            go_ret
            exact ⟨by first | rfl | (simp [errW_none, errW_some] <;> rfl) | (simp [*, errW_none, errW_some] <;> rfl), by repeat (first | (with_reducible first | exact HB.out | apply below_alloc | apply pw_below_drewN | apply below_drew1) | exact HB.out)⟩
        · rw [if_neg c6] at H
          have c6b0 : (t123 == 6) = false := beq_eq_false_iff_ne.mpr c6
          have c6b1 : (t123 != 6) = true := bne_iff_ne.mpr c6
          obtain rfl := Option.some.inj H
          go_enter Try.func6, Try.ntmps6
          try go_wp2
          have n0_ := Aside0.mk (below_drew1 HB.out)
          clear HB
          have HB := n0_
          clear n0_
          refine start_ (n := 6) (S := fun w' => True) (ds := []) #[false, false, false, false, false, false] (by kernel_rfl) rfl rfl trivial (fun hHeld => ?_)
          generalize w.drew = w59 at HB hHeld ⊢
          refine join_ (σ := Value × Value) 2 #[true, true, true, true, false, false] (fun s_ => [(4, s_.1), (6, s_.2), (5, .agg #[.int .i64 0, .int .i64 0, s_.1]), (7, .agg #[.int .i64 0, .int .i64 0, s_.2])]) (fun s_ w' => (Kd.R k84 84 w' w.heap.size (fun k_ => some k_ ≠ (s_.2 : Value).ownBlock) s_.1 y110) ∧ (Kd.R k84 84 w' w.heap.size (fun k_ => some k_ ≠ (s_.1 : Value).ownBlock) s_.2 y113) ∧ (Below w.heap.size w w')) ?_ ?_
          rotate_left
          · intro hCont
            refine two_ (i := 0) (j := 2) (Ni := some 4) (Nj := some 6) #[true, false, false, false, false, false] #[false, false, true, false, false, false] rfl rfl rfl rfl (by kernel_rfl) (by decide) (by decide) (fun K hK => ?_) (fun K hK => ?_)
            · skip
              refine Kd.R_make_step k84 _ 84 (by rfl) (N := 4) rfl 25 _ _ rfl 2 rfl rfl Try.underlying25 (.agg #[(.bool false), (.string ⟨#[]⟩), (.string ⟨#[]⟩), (.int .i64 0)]) 48 info84 rfl (by decide) (by omega) z84 (ok := fun _ => True) (okp := fun _ => True) (k84_mkM _ _ _ z84 ) (fun _ hk => hk) trivial (by omega) (by omega) (Below.refl _ _) (Nat.le_refl _) ?_
              intro v111 w60 ho61 hb hg_ hnew_
              clear hg_ hnew_
              (first | rw [← Ny110.out] at ho61 | (simp only [Int.reduceToNat] at ho61; rw [← Ny110.out] at ho61))
              have n0_ := Aside0.mk (Kd.R_lower ho61 (below_size (by repeat (first | (with_reducible first | exact HB.out | apply below_alloc | apply pw_below_drewN | apply below_drew1) | exact HB.out))))
              have n1_ := Aside0.mk (below_step (by repeat (first | (with_reducible first | exact HB.out | apply below_alloc | apply pw_below_drewN | apply below_drew1) | exact HB.out)) hb)
              clear HB
              have HO112 := n0_
              have HB := n1_
              clear n0_ n1_
              clear hb ho61
              obtain ⟨Ao62, co62, eo62⟩ := Kd.R_slice HO112.out
              (first | subst eo62 | (injection eo62 with f1_ f2_ f3_; have f4_ := f1_.symm; have f5_ := f3_.symm; clear f1_ f2_ f3_; subst f4_; subst f5_))
              refine hK.out _ _ trivial (fun hHeld => ?_)
              clear hK K
              refine norm_ (a' := ?_) ?_ ?_
              rotate_left
              · show Act.put _ (some 4) _ = _
                simp only [Act.put, List.setIfInBounds_toArray, List.set_cons_zero, List.set_cons_succ, i64_w, i32_w]
                rfl
              refine pure_ (i := 1) (N := some 5) (v := ?_) (a' := ?_) #[true, true, false, false, false, false] rfl rfl (by kernel_rfl) (fun _ _ _ h => h) (Or.inl ⟨by rfl, ?_⟩) ?_ ?_
              rotate_left
              · intro w'
                go_simp
                with_reducible rfl
              rotate_left
              · simp only [Act.put, List.setIfInBounds_toArray, List.set_cons_zero, List.set_cons_succ, i64_w, i32_w]
                rfl
              refine one_ (i := 2) (N := some 6) #[true, true, true, false, false, false] rfl rfl (by kernel_rfl) (by decide) (fun K hK => ?_)
              refine Kd.R_make_step k84 _ 84 (by rfl) (N := 6) rfl 25 _ _ rfl 3 rfl rfl Try.underlying25 (.agg #[(.bool false), (.string ⟨#[]⟩), (.string ⟨#[]⟩), (.int .i64 0)]) 48 info84 rfl (by decide) (by omega) z84 (ok := fun _ => True) (okp := fun _ => True) (k84_mkM _ _ _ z84 ) (fun _ hk => hk) trivial (by omega) (by omega) (Below.refl _ _) (Nat.le_refl _) ?_
              intro v114 w63 ho64 hb hg_ hnew_
              clear hg_ hnew_
              (first | rw [← Ny113.out] at ho64 | (simp only [Int.reduceToNat] at ho64; rw [← Ny113.out] at ho64))
              have n0_ := Aside0.mk (Kd.R_elder' (by (with_reducible repeat (first | apply Kd.R_alloc | apply Kd.R_drewN | apply Kd.R_drew)); exact HO112.out) (Kd.R_base ho64) hb)
              have n1_ := Aside0.mk (Kd.R_lower (Kd.R_new' ho64 (Kd.R_lt (by (with_reducible repeat (first | apply Kd.R_alloc | apply Kd.R_drewN | apply Kd.R_drew)); exact HO112.out))) (below_size (by repeat (first | (with_reducible first | exact HB.out | apply below_alloc | apply pw_below_drewN | apply below_drew1) | exact HB.out))))
              have n2_ := Aside0.mk (below_step (by repeat (first | (with_reducible first | exact HB.out | apply below_alloc | apply pw_below_drewN | apply below_drew1) | exact HB.out)) hb)
              clear HO112
              clear HB
              have HO112 := n0_
              have HO115 := n1_
              have HB := n2_
              clear n0_ n1_ n2_
              clear hb ho64
              obtain ⟨Ao65, co65, eo65⟩ := Kd.R_slice HO115.out
              (first | subst eo65 | (injection eo65 with f1_ f2_ f3_; have f4_ := f1_.symm; have f5_ := f3_.symm; clear f1_ f2_ f3_; subst f4_; subst f5_))
              refine hK.out _ _ trivial (fun hHeld => ?_)
              clear hK K
              refine norm_ (a' := ?_) ?_ ?_
              rotate_left
              · show Act.put _ (some 6) _ = _
                simp only [Act.put, List.setIfInBounds_toArray, List.set_cons_zero, List.set_cons_succ, i64_w, i32_w]
                rfl
              refine pure_ (i := 3) (N := some 7) (v := ?_) (a' := ?_) #[true, true, true, true, false, false] rfl rfl (by kernel_rfl) (fun _ _ _ h => h) (Or.inl ⟨by rfl, ?_⟩) ?_ ?_
              rotate_left
              · intro w'
                go_simp
                with_reducible rfl
              rotate_left
              · simp only [Act.put, List.setIfInBounds_toArray, List.set_cons_zero, List.set_cons_succ, i64_w, i32_w]
                rfl
              exact norm_ (by simp only [putAll, Act.put, List.setIfInBounds_toArray, List.set_cons_zero, List.set_cons_succ]) (hCont (.slice Ao62 y110.length co62, .slice Ao65 y113.length co65) _ ⟨(by (with_reducible repeat (first | apply Kd.R_alloc | apply Kd.R_drewN | apply Kd.R_drew)); exact Kd.R_mono HO112.out (fun _ hk => hk.2)), (by (with_reducible repeat (first | apply Kd.R_alloc | apply Kd.R_drewN | apply Kd.R_drew)); exact Kd.R_mono HO115.out (fun _ hk => hk.2)), (by repeat (first | (with_reducible first | exact HB.out | apply below_alloc | apply pw_below_drewN | apply below_drew1) | exact HB.out))⟩)
            · skip
              refine Kd.R_make_step k84 _ 84 (by rfl) (N := 6) rfl 25 _ _ rfl 3 rfl rfl Try.underlying25 (.agg #[(.bool false), (.string ⟨#[]⟩), (.string ⟨#[]⟩), (.int .i64 0)]) 48 info84 rfl (by decide) (by omega) z84 (ok := fun _ => True) (okp := fun _ => True) (k84_mkM _ _ _ z84 ) (fun _ hk => hk) trivial (by omega) (by omega) (Below.refl _ _) (Nat.le_refl _) ?_
              intro v114 w60 ho61 hb hg_ hnew_
              clear hg_ hnew_
              (first | rw [← Ny113.out] at ho61 | (simp only [Int.reduceToNat] at ho61; rw [← Ny113.out] at ho61))
              have n0_ := Aside0.mk (Kd.R_lower ho61 (below_size (by repeat (first | (with_reducible first | exact HB.out | apply below_alloc | apply pw_below_drewN | apply below_drew1) | exact HB.out))))
              have n1_ := Aside0.mk (below_step (by repeat (first | (with_reducible first | exact HB.out | apply below_alloc | apply pw_below_drewN | apply below_drew1) | exact HB.out)) hb)
              clear HB
              have HO115 := n0_
              have HB := n1_
              clear n0_ n1_
              clear hb ho61
              obtain ⟨Ao62, co62, eo62⟩ := Kd.R_slice HO115.out
              (first | subst eo62 | (injection eo62 with f1_ f2_ f3_; have f4_ := f1_.symm; have f5_ := f3_.symm; clear f1_ f2_ f3_; subst f4_; subst f5_))
              refine hK.out _ _ trivial (fun hHeld => ?_)
              clear hK K
              refine norm_ (a' := ?_) ?_ ?_
              rotate_left
              · show Act.put _ (some 6) _ = _
                simp only [Act.put, List.setIfInBounds_toArray, List.set_cons_zero, List.set_cons_succ, i64_w, i32_w]
                rfl
              refine pure_ (i := 3) (N := some 7) (v := ?_) (a' := ?_) #[false, false, true, true, false, false] rfl rfl (by kernel_rfl) (fun _ _ _ h => h) (Or.inl ⟨by rfl, ?_⟩) ?_ ?_
              rotate_left
              · intro w'
                go_simp
                with_reducible rfl
              rotate_left
              · simp only [Act.put, List.setIfInBounds_toArray, List.set_cons_zero, List.set_cons_succ, i64_w, i32_w]
                rfl
              refine one_ (i := 0) (N := some 4) #[true, false, true, true, false, false] rfl rfl (by kernel_rfl) (by decide) (fun K hK => ?_)
              refine Kd.R_make_step k84 _ 84 (by rfl) (N := 4) rfl 25 _ _ rfl 2 rfl rfl Try.underlying25 (.agg #[(.bool false), (.string ⟨#[]⟩), (.string ⟨#[]⟩), (.int .i64 0)]) 48 info84 rfl (by decide) (by omega) z84 (ok := fun _ => True) (okp := fun _ => True) (k84_mkM _ _ _ z84 ) (fun _ hk => hk) trivial (by omega) (by omega) (Below.refl _ _) (Nat.le_refl _) ?_
              intro v111 w63 ho64 hb hg_ hnew_
              clear hg_ hnew_
              (first | rw [← Ny110.out] at ho64 | (simp only [Int.reduceToNat] at ho64; rw [← Ny110.out] at ho64))
              have n0_ := Aside0.mk (Kd.R_elder' (by (with_reducible repeat (first | apply Kd.R_alloc | apply Kd.R_drewN | apply Kd.R_drew)); exact HO115.out) (Kd.R_base ho64) hb)
              have n1_ := Aside0.mk (Kd.R_lower (Kd.R_new' ho64 (Kd.R_lt (by (with_reducible repeat (first | apply Kd.R_alloc | apply Kd.R_drewN | apply Kd.R_drew)); exact HO115.out))) (below_size (by repeat (first | (with_reducible first | exact HB.out | apply below_alloc | apply pw_below_drewN | apply below_drew1) | exact HB.out))))
              have n2_ := Aside0.mk (below_step (by repeat (first | (with_reducible first | exact HB.out | apply below_alloc | apply pw_below_drewN | apply below_drew1) | exact HB.out)) hb)
              clear HO115
              clear HB
              have HO115 := n0_
              have HO112 := n1_
              have HB := n2_
              clear n0_ n1_ n2_
              clear hb ho64
              obtain ⟨Ao65, co65, eo65⟩ := Kd.R_slice HO112.out
              (first | subst eo65 | (injection eo65 with f1_ f2_ f3_; have f4_ := f1_.symm; have f5_ := f3_.symm; clear f1_ f2_ f3_; subst f4_; subst f5_))
              refine hK.out _ _ trivial (fun hHeld => ?_)
              clear hK K
              refine norm_ (a' := ?_) ?_ ?_
              rotate_left
              · show Act.put _ (some 4) _ = _
                simp only [Act.put, List.setIfInBounds_toArray, List.set_cons_zero, List.set_cons_succ, i64_w, i32_w]
                rfl
              refine pure_ (i := 1) (N := some 5) (v := ?_) (a' := ?_) #[true, true, true, true, false, false] rfl rfl (by kernel_rfl) (fun _ _ _ h => h) (Or.inl ⟨by rfl, ?_⟩) ?_ ?_
              rotate_left
              · intro w'
                go_simp
                with_reducible rfl
              rotate_left
              · simp only [Act.put, List.setIfInBounds_toArray, List.set_cons_zero, List.set_cons_succ, i64_w, i32_w]
                rfl
              exact norm_ (by simp only [putAll, Act.put, List.setIfInBounds_toArray, List.set_cons_zero, List.set_cons_succ]) (hCont (.slice Ao65 y110.length co65, .slice Ao62 y113.length co62) _ ⟨(by (with_reducible repeat (first | apply Kd.R_alloc | apply Kd.R_drewN | apply Kd.R_drew)); exact Kd.R_mono HO112.out (fun _ hk => hk.2)), (by (with_reducible repeat (first | apply Kd.R_alloc | apply Kd.R_drewN | apply Kd.R_drew)); exact Kd.R_mono HO115.out (fun _ hk => hk.2)), (by repeat (first | (with_reducible first | exact HB.out | apply below_alloc | apply pw_below_drewN | apply below_drew1) | exact HB.out))⟩)
          rintro ⟨v111, v114⟩ w66 ⟨h0_, h1_, h2_⟩
          have n0_ : Aside0 (Kd.R k84 84 w66 w.heap.size (fun k_ => some k_ ≠ (v114 : Value).ownBlock) v111 y110) := ⟨h0_⟩
          have n1_ : Aside0 (Kd.R k84 84 w66 w.heap.size (fun k_ => some k_ ≠ (v111 : Value).ownBlock) v114 y113) := ⟨h1_⟩
          have n2_ : Aside0 (Below w.heap.size w w66) := ⟨h2_⟩
          clear HB
          clear h0_ h1_ h2_
          have HO112 := n0_
          have HO115 := n1_
          have HB := n2_
          clear n0_ n1_ n2_
          have hHeld := trivial
          obtain ⟨Ao67, co67, eo67⟩ := Kd.R_slice HO112.out
          (first | subst eo67 | (injection eo67 with f1_ f2_ f3_; have f4_ := f1_.symm; have f5_ := f3_.symm; clear f1_ f2_ f3_; subst f4_; subst f5_))
          obtain ⟨Ao68, co68, eo68⟩ := Kd.R_slice HO115.out
          (first | subst eo68 | (injection eo68 with f1_ f2_ f3_; have f4_ := f1_.symm; have f5_ := f3_.symm; clear f1_ f2_ f3_; subst f4_; subst f5_))
          refine norm_ (a' := ?_) ?_ ?_
          rotate_left
          · simp only [putAll, Act.put, List.setIfInBounds_toArray, List.set_cons_zero, List.set_cons_succ]
            rfl
          refine one_ (i := 4) (N := some 8) #[true, true, true, true, true, false] rfl rfl (by kernel_rfl) (by decide) (fun K hK => ?_)
          refine Kd.N_lit_step k29 _ 29 ?hg (N' := 8) ?hd (xs := ([(⟨(⟨0, 0⟩ : S27), y110⟩ : S29), (⟨(⟨0, 0⟩ : S27), y113⟩ : S29)] : List (S29))) (inner := [.int .i64 0, .int .i64 0, .slice Ao67 y110.length co67, .int .i64 0, .int .i64 0, .slice Ao68 y113.length co68]) (ok := (fun _ => True)) (okp := (fun _ => True)) ?hr ?hp (fun _ hk => hk) ((show ∀ k_, w66.heap.size ≤ k_ → (fun _ => True) k_ from fun k_ hk => trivial) _ (Nat.le_refl _)) (Below.refl _ _) (Nat.le_refl _) (by simp) ?_; (case hd => rfl); (case hg => rfl); (case hr => first | (go_simp; done) | (go_simp; rfl)); (case hp => exact (Reps.c3 (show Kd.FK k29 _ _ (⟨(⟨0, 0⟩ : S27), y110⟩ : S29) [.int .i64 0, .int .i64 0, .slice Ao67 y110.length co67] from (k29_mkF _ _ (⟨(⟨0, 0⟩ : S27), y110⟩ : S29) (Kd.R_reads' (Kd.R_mono (ok' := (fun _ => True)) (HO112.out) (fun k_ hk => trivial))).2.1 (Kd.R_F (Kd.R_mono (ok' := (fun _ => True)) (HO112.out) (fun k_ hk => trivial))))) (Reps.c3 (show Kd.FK k29 _ _ (⟨(⟨0, 0⟩ : S27), y113⟩ : S29) [.int .i64 0, .int .i64 0, .slice Ao68 y113.length co68] from (k29_mkF _ _ (⟨(⟨0, 0⟩ : S27), y113⟩ : S29) (Kd.R_reads' (Kd.R_mono (ok' := (fun _ => True)) (HO115.out) (fun k_ hk => trivial))).2.1 (Kd.R_F (Kd.R_mono (ok' := (fun _ => True)) (HO115.out) (fun k_ hk => trivial))))) (Reps.none _ _))))
          intro v117 w69 ho70 hb hg_ hnew_
          clear hg_ hnew_
          (first | rw [← Ny116.out] at ho70 | (simp only [Int.reduceToNat] at ho70; rw [← Ny116.out] at ho70))
          have n0_ := Aside0.mk (Kd.N_lower ho70 (below_size (by repeat (first | (with_reducible first | exact HB.out | apply below_alloc | apply pw_below_drewN | apply below_drew1) | exact HB.out))))
          have n1_ := Aside0.mk (below_step (by repeat (first | (with_reducible first | exact HB.out | apply below_alloc | apply pw_below_drewN | apply below_drew1) | exact HB.out)) hb)
          clear HB
          clear HO112
          clear HO115
          have HO118 := n0_
          have HB := n1_
          clear n0_ n1_
          clear hb ho70
          refine hK.out _ _ trivial (fun hHeld => ?_)
          clear hK K
          refine norm_ (a' := ?_) ?_ ?_
          rotate_left
          · show Act.put _ (some 8) _ = _
            simp only [Act.put, List.setIfInBounds_toArray, List.set_cons_zero, List.set_cons_succ, i64_w, i32_w]
            rfl
          refine pure_ (i := 5) (N := some 1) (v := ?_) (a' := ?_) #[true, true, true, true, true, true] rfl rfl (by kernel_rfl) (fun _ _ _ h => h) (Or.inl ⟨by rfl, ?_⟩) ?_ ?_
          rotate_left
          · intro w'
            go_simp
            with_reducible rfl
          rotate_left
          · simp only [Act.put, List.setIfInBounds_toArray, List.set_cons_zero, List.set_cons_succ, i64_w, i32_w]
            rfl
          refine done_ (by kernel_rfl) ?_
          obtain ⟨Ao71, co71, eo71⟩ := Kd.N_slice HO118.out
          subst eo71
          try go_wp2_with (first | ((with_reducible refine gate_callee (f := 9) rfl ?_); refine goesL_ (some 11) rfl rfl Try.func9 (by kernel_rfl) rfl #[.slice Ao71 y116.length co71, .int .i64 3] rfl (by (try simp only [List.map_toArray, List.map_cons, List.map_nil]); first | done | rfl | (simp only [List.length_drop, List.length_take]; rfl)) ?_; (with_reducible refine (dispute_Choice.calls k _ _ y116 3 t119 true _ ?side1 ?side2 A3.out).mono ?_); (case side1 => repeat (first | exact (Kd.N_reads' HO118.out).2.2 | (with_reducible refine Kd.C_alloc ?_ _) | (with_reducible refine Kd.C_drewN ?_ _) | (with_reducible refine Kd.C_drew ?_))); (case side2 => exact (Kd.N_reads' HO118.out).2.1); rintro e w72 ⟨v121, rfl, ho0, hb⟩; refine ⟨_, rfl, ?_⟩; have n0_ := Aside0.mk (Kd.N_elder' (by (with_reducible repeat (first | apply Kd.N_alloc | apply Kd.N_drewN | apply Kd.N_drew)); exact HO118.out) (Kd.R_base ho0) hb); have n1_ := Aside0.mk (Kd.R_lower ho0 (below_size (by repeat (first | (with_reducible first | exact HB.out | apply below_alloc | apply pw_below_drewN | apply below_drew1) | exact HB.out)))); have n2_ := Aside0.mk (below_step (by repeat (first | (with_reducible first | exact HB.out | apply below_alloc | apply pw_below_drewN | apply below_drew1) | exact HB.out)) hb); clear HO118; clear HB; have HO118 := n0_; have HO122 := n1_; have HB := n2_; clear n0_ n1_ n2_; (try clear hb); (try clear hb2); (try clear hk); (try clear hi); (try clear ho0)) | (go_at_call 7; (with_reducible refine (dispute_Count.calls k _ _ y116 t123 _ ?side1 ?side2 A5.out).mono ?_); (case side1 => repeat (first | exact (Kd.N_reads' HO118.out).2.2 | (with_reducible refine Kd.C_alloc ?_ _) | (with_reducible refine Kd.C_drewN ?_ _) | (with_reducible refine Kd.C_drew ?_))); (case side2 => exact (Kd.N_reads' HO118.out).2.1); rintro e w73 ⟨rfl, hb⟩; have n0_ := Aside0.mk (Kd.N_below (by (with_reducible repeat (first | apply Kd.N_alloc | apply Kd.N_drewN | apply Kd.N_drew)); exact HO118.out) hb); have n1_ := Aside0.mk (Kd.R_below (by (with_reducible repeat (first | apply Kd.R_alloc | apply Kd.R_drewN | apply Kd.R_drew)); exact HO122.out) hb); have n2_ := Aside0.mk (below_step (by repeat (first | (with_reducible first | exact HB.out | apply below_alloc | apply pw_below_drewN | apply below_drew1) | exact HB.out)) hb); clear HO118; clear HO122; clear HB; have HO118 := n0_; have HO122 := n1_; have HB := n2_; clear n0_ n1_ n2_; (try clear hb); (try clear hb2); (try clear hk); (try clear hi)))
          go_ret
          exact ⟨by first | rfl | (simp [errW_none, errW_some] <;> rfl) | (simp [*, errW_none, errW_some] <;> rfl), by repeat (first | (with_reducible first | exact HB.out | apply below_alloc | apply pw_below_drewN | apply below_drew1) | exact HB.out)⟩
      · replace c4 := Bool.eq_false_iff.mpr c4
        subst c4
        have H1 : (some false) = some r := by rw [if_neg (show ¬ (false = true) by decide)] at H; exact H
        clear H
        have H := H1
        clear H1
        obtain rfl := Option.some.inj H
        go_enter Try.func6, Try.ntmps6
        try go_wp2
        have n0_ := Aside0.mk (below_drew1 HB.out)
        clear HB
        have HB := n0_
        clear n0_
        refine start_ (n := 6) (S := fun w' => True) (ds := []) #[false, false, false, false, false, false] (by kernel_rfl) rfl rfl trivial (fun hHeld => ?_)
        generalize w.drew = w74 at HB hHeld ⊢
        refine join_ (σ := Value × Value) 2 #[true, true, true, true, false, false] (fun s_ => [(4, s_.1), (6, s_.2), (5, .agg #[.int .i64 0, .int .i64 0, s_.1]), (7, .agg #[.int .i64 0, .int .i64 0, s_.2])]) (fun s_ w' => (Kd.R k84 84 w' w.heap.size (fun k_ => some k_ ≠ (s_.2 : Value).ownBlock) s_.1 y110) ∧ (Kd.R k84 84 w' w.heap.size (fun k_ => some k_ ≠ (s_.1 : Value).ownBlock) s_.2 y113) ∧ (Below w.heap.size w w')) ?_ ?_
        rotate_left
        · intro hCont
          refine two_ (i := 0) (j := 2) (Ni := some 4) (Nj := some 6) #[true, false, false, false, false, false] #[false, false, true, false, false, false] rfl rfl rfl rfl (by kernel_rfl) (by decide) (by decide) (fun K hK => ?_) (fun K hK => ?_)
          · skip
            refine Kd.R_make_step k84 _ 84 (by rfl) (N := 4) rfl 25 _ _ rfl 2 rfl rfl Try.underlying25 (.agg #[(.bool false), (.string ⟨#[]⟩), (.string ⟨#[]⟩), (.int .i64 0)]) 48 info84 rfl (by decide) (by omega) z84 (ok := fun _ => True) (okp := fun _ => True) (k84_mkM _ _ _ z84 ) (fun _ hk => hk) trivial (by omega) (by omega) (Below.refl _ _) (Nat.le_refl _) ?_
            intro v111 w75 ho76 hb hg_ hnew_
            clear hg_ hnew_
            (first | rw [← Ny110.out] at ho76 | (simp only [Int.reduceToNat] at ho76; rw [← Ny110.out] at ho76))
            have n0_ := Aside0.mk (Kd.R_lower ho76 (below_size (by repeat (first | (with_reducible first | exact HB.out | apply below_alloc | apply pw_below_drewN | apply below_drew1) | exact HB.out))))
            have n1_ := Aside0.mk (below_step (by repeat (first | (with_reducible first | exact HB.out | apply below_alloc | apply pw_below_drewN | apply below_drew1) | exact HB.out)) hb)
            clear HB
            have HO112 := n0_
            have HB := n1_
            clear n0_ n1_
            clear hb ho76
            obtain ⟨Ao77, co77, eo77⟩ := Kd.R_slice HO112.out
            (first | subst eo77 | (injection eo77 with f1_ f2_ f3_; have f4_ := f1_.symm; have f5_ := f3_.symm; clear f1_ f2_ f3_; subst f4_; subst f5_))
            refine hK.out _ _ trivial (fun hHeld => ?_)
            clear hK K
            refine norm_ (a' := ?_) ?_ ?_
            rotate_left
            · show Act.put _ (some 4) _ = _
              simp only [Act.put, List.setIfInBounds_toArray, List.set_cons_zero, List.set_cons_succ, i64_w, i32_w]
              rfl
            refine pure_ (i := 1) (N := some 5) (v := ?_) (a' := ?_) #[true, true, false, false, false, false] rfl rfl (by kernel_rfl) (fun _ _ _ h => h) (Or.inl ⟨by rfl, ?_⟩) ?_ ?_
            rotate_left
            · intro w'
              go_simp
              with_reducible rfl
            rotate_left
            · simp only [Act.put, List.setIfInBounds_toArray, List.set_cons_zero, List.set_cons_succ, i64_w, i32_w]
              rfl
            refine one_ (i := 2) (N := some 6) #[true, true, true, false, false, false] rfl rfl (by kernel_rfl) (by decide) (fun K hK => ?_)
            refine Kd.R_make_step k84 _ 84 (by rfl) (N := 6) rfl 25 _ _ rfl 3 rfl rfl Try.underlying25 (.agg #[(.bool false), (.string ⟨#[]⟩), (.string ⟨#[]⟩), (.int .i64 0)]) 48 info84 rfl (by decide) (by omega) z84 (ok := fun _ => True) (okp := fun _ => True) (k84_mkM _ _ _ z84 ) (fun _ hk => hk) trivial (by omega) (by omega) (Below.refl _ _) (Nat.le_refl _) ?_
            intro v114 w78 ho79 hb hg_ hnew_
            clear hg_ hnew_
            (first | rw [← Ny113.out] at ho79 | (simp only [Int.reduceToNat] at ho79; rw [← Ny113.out] at ho79))
            have n0_ := Aside0.mk (Kd.R_elder' (by (with_reducible repeat (first | apply Kd.R_alloc | apply Kd.R_drewN | apply Kd.R_drew)); exact HO112.out) (Kd.R_base ho79) hb)
            have n1_ := Aside0.mk (Kd.R_lower (Kd.R_new' ho79 (Kd.R_lt (by (with_reducible repeat (first | apply Kd.R_alloc | apply Kd.R_drewN | apply Kd.R_drew)); exact HO112.out))) (below_size (by repeat (first | (with_reducible first | exact HB.out | apply below_alloc | apply pw_below_drewN | apply below_drew1) | exact HB.out))))
            have n2_ := Aside0.mk (below_step (by repeat (first | (with_reducible first | exact HB.out | apply below_alloc | apply pw_below_drewN | apply below_drew1) | exact HB.out)) hb)
            clear HO112
            clear HB
            have HO112 := n0_
            have HO115 := n1_
            have HB := n2_
            clear n0_ n1_ n2_
            clear hb ho79
            obtain ⟨Ao80, co80, eo80⟩ := Kd.R_slice HO115.out
            (first | subst eo80 | (injection eo80 with f1_ f2_ f3_; have f4_ := f1_.symm; have f5_ := f3_.symm; clear f1_ f2_ f3_; subst f4_; subst f5_))
            refine hK.out _ _ trivial (fun hHeld => ?_)
            clear hK K
            refine norm_ (a' := ?_) ?_ ?_
            rotate_left
            · show Act.put _ (some 6) _ = _
              simp only [Act.put, List.setIfInBounds_toArray, List.set_cons_zero, List.set_cons_succ, i64_w, i32_w]
              rfl
            refine pure_ (i := 3) (N := some 7) (v := ?_) (a' := ?_) #[true, true, true, true, false, false] rfl rfl (by kernel_rfl) (fun _ _ _ h => h) (Or.inl ⟨by rfl, ?_⟩) ?_ ?_
            rotate_left
            · intro w'
              go_simp
              with_reducible rfl
            rotate_left
            · simp only [Act.put, List.setIfInBounds_toArray, List.set_cons_zero, List.set_cons_succ, i64_w, i32_w]
              rfl
            exact norm_ (by simp only [putAll, Act.put, List.setIfInBounds_toArray, List.set_cons_zero, List.set_cons_succ]) (hCont (.slice Ao77 y110.length co77, .slice Ao80 y113.length co80) _ ⟨(by (with_reducible repeat (first | apply Kd.R_alloc | apply Kd.R_drewN | apply Kd.R_drew)); exact Kd.R_mono HO112.out (fun _ hk => hk.2)), (by (with_reducible repeat (first | apply Kd.R_alloc | apply Kd.R_drewN | apply Kd.R_drew)); exact Kd.R_mono HO115.out (fun _ hk => hk.2)), (by repeat (first | (with_reducible first | exact HB.out | apply below_alloc | apply pw_below_drewN | apply below_drew1) | exact HB.out))⟩)
          · skip
            refine Kd.R_make_step k84 _ 84 (by rfl) (N := 6) rfl 25 _ _ rfl 3 rfl rfl Try.underlying25 (.agg #[(.bool false), (.string ⟨#[]⟩), (.string ⟨#[]⟩), (.int .i64 0)]) 48 info84 rfl (by decide) (by omega) z84 (ok := fun _ => True) (okp := fun _ => True) (k84_mkM _ _ _ z84 ) (fun _ hk => hk) trivial (by omega) (by omega) (Below.refl _ _) (Nat.le_refl _) ?_
            intro v114 w75 ho76 hb hg_ hnew_
            clear hg_ hnew_
            (first | rw [← Ny113.out] at ho76 | (simp only [Int.reduceToNat] at ho76; rw [← Ny113.out] at ho76))
            have n0_ := Aside0.mk (Kd.R_lower ho76 (below_size (by repeat (first | (with_reducible first | exact HB.out | apply below_alloc | apply pw_below_drewN | apply below_drew1) | exact HB.out))))
            have n1_ := Aside0.mk (below_step (by repeat (first | (with_reducible first | exact HB.out | apply below_alloc | apply pw_below_drewN | apply below_drew1) | exact HB.out)) hb)
            clear HB
            have HO115 := n0_
            have HB := n1_
            clear n0_ n1_
            clear hb ho76
            obtain ⟨Ao77, co77, eo77⟩ := Kd.R_slice HO115.out
            (first | subst eo77 | (injection eo77 with f1_ f2_ f3_; have f4_ := f1_.symm; have f5_ := f3_.symm; clear f1_ f2_ f3_; subst f4_; subst f5_))
            refine hK.out _ _ trivial (fun hHeld => ?_)
            clear hK K
            refine norm_ (a' := ?_) ?_ ?_
            rotate_left
            · show Act.put _ (some 6) _ = _
              simp only [Act.put, List.setIfInBounds_toArray, List.set_cons_zero, List.set_cons_succ, i64_w, i32_w]
              rfl
            refine pure_ (i := 3) (N := some 7) (v := ?_) (a' := ?_) #[false, false, true, true, false, false] rfl rfl (by kernel_rfl) (fun _ _ _ h => h) (Or.inl ⟨by rfl, ?_⟩) ?_ ?_
            rotate_left
            · intro w'
              go_simp
              with_reducible rfl
            rotate_left
            · simp only [Act.put, List.setIfInBounds_toArray, List.set_cons_zero, List.set_cons_succ, i64_w, i32_w]
              rfl
            refine one_ (i := 0) (N := some 4) #[true, false, true, true, false, false] rfl rfl (by kernel_rfl) (by decide) (fun K hK => ?_)
            refine Kd.R_make_step k84 _ 84 (by rfl) (N := 4) rfl 25 _ _ rfl 2 rfl rfl Try.underlying25 (.agg #[(.bool false), (.string ⟨#[]⟩), (.string ⟨#[]⟩), (.int .i64 0)]) 48 info84 rfl (by decide) (by omega) z84 (ok := fun _ => True) (okp := fun _ => True) (k84_mkM _ _ _ z84 ) (fun _ hk => hk) trivial (by omega) (by omega) (Below.refl _ _) (Nat.le_refl _) ?_
            intro v111 w78 ho79 hb hg_ hnew_
            clear hg_ hnew_
            (first | rw [← Ny110.out] at ho79 | (simp only [Int.reduceToNat] at ho79; rw [← Ny110.out] at ho79))
            have n0_ := Aside0.mk (Kd.R_elder' (by (with_reducible repeat (first | apply Kd.R_alloc | apply Kd.R_drewN | apply Kd.R_drew)); exact HO115.out) (Kd.R_base ho79) hb)
            have n1_ := Aside0.mk (Kd.R_lower (Kd.R_new' ho79 (Kd.R_lt (by (with_reducible repeat (first | apply Kd.R_alloc | apply Kd.R_drewN | apply Kd.R_drew)); exact HO115.out))) (below_size (by repeat (first | (with_reducible first | exact HB.out | apply below_alloc | apply pw_below_drewN | apply below_drew1) | exact HB.out))))
            have n2_ := Aside0.mk (below_step (by repeat (first | (with_reducible first | exact HB.out | apply below_alloc | apply pw_below_drewN | apply below_drew1) | exact HB.out)) hb)
            clear HO115
            clear HB
            have HO115 := n0_
            have HO112 := n1_
            have HB := n2_
            clear n0_ n1_ n2_
            clear hb ho79
            obtain ⟨Ao80, co80, eo80⟩ := Kd.R_slice HO112.out
            (first | subst eo80 | (injection eo80 with f1_ f2_ f3_; have f4_ := f1_.symm; have f5_ := f3_.symm; clear f1_ f2_ f3_; subst f4_; subst f5_))
            refine hK.out _ _ trivial (fun hHeld => ?_)
            clear hK K
            refine norm_ (a' := ?_) ?_ ?_
            rotate_left
            · show Act.put _ (some 4) _ = _
              simp only [Act.put, List.setIfInBounds_toArray, List.set_cons_zero, List.set_cons_succ, i64_w, i32_w]
              rfl
            refine pure_ (i := 1) (N := some 5) (v := ?_) (a' := ?_) #[true, true, true, true, false, false] rfl rfl (by kernel_rfl) (fun _ _ _ h => h) (Or.inl ⟨by rfl, ?_⟩) ?_ ?_
            rotate_left
            · intro w'
              go_simp
              with_reducible rfl
            rotate_left
            · simp only [Act.put, List.setIfInBounds_toArray, List.set_cons_zero, List.set_cons_succ, i64_w, i32_w]
              rfl
            exact norm_ (by simp only [putAll, Act.put, List.setIfInBounds_toArray, List.set_cons_zero, List.set_cons_succ]) (hCont (.slice Ao80 y110.length co80, .slice Ao77 y113.length co77) _ ⟨(by (with_reducible repeat (first | apply Kd.R_alloc | apply Kd.R_drewN | apply Kd.R_drew)); exact Kd.R_mono HO112.out (fun _ hk => hk.2)), (by (with_reducible repeat (first | apply Kd.R_alloc | apply Kd.R_drewN | apply Kd.R_drew)); exact Kd.R_mono HO115.out (fun _ hk => hk.2)), (by repeat (first | (with_reducible first | exact HB.out | apply below_alloc | apply pw_below_drewN | apply below_drew1) | exact HB.out))⟩)
        rintro ⟨v111, v114⟩ w81 ⟨h0_, h1_, h2_⟩
        have n0_ : Aside0 (Kd.R k84 84 w81 w.heap.size (fun k_ => some k_ ≠ (v114 : Value).ownBlock) v111 y110) := ⟨h0_⟩
        have n1_ : Aside0 (Kd.R k84 84 w81 w.heap.size (fun k_ => some k_ ≠ (v111 : Value).ownBlock) v114 y113) := ⟨h1_⟩
        have n2_ : Aside0 (Below w.heap.size w w81) := ⟨h2_⟩
        clear HB
        clear h0_ h1_ h2_
        have HO112 := n0_
        have HO115 := n1_
        have HB := n2_
        clear n0_ n1_ n2_
        have hHeld := trivial
        obtain ⟨Ao82, co82, eo82⟩ := Kd.R_slice HO112.out
        (first | subst eo82 | (injection eo82 with f1_ f2_ f3_; have f4_ := f1_.symm; have f5_ := f3_.symm; clear f1_ f2_ f3_; subst f4_; subst f5_))
        obtain ⟨Ao83, co83, eo83⟩ := Kd.R_slice HO115.out
        (first | subst eo83 | (injection eo83 with f1_ f2_ f3_; have f4_ := f1_.symm; have f5_ := f3_.symm; clear f1_ f2_ f3_; subst f4_; subst f5_))
        refine norm_ (a' := ?_) ?_ ?_
        rotate_left
        · simp only [putAll, Act.put, List.setIfInBounds_toArray, List.set_cons_zero, List.set_cons_succ]
          rfl
        refine one_ (i := 4) (N := some 8) #[true, true, true, true, true, false] rfl rfl (by kernel_rfl) (by decide) (fun K hK => ?_)
        refine Kd.N_lit_step k29 _ 29 ?hg (N' := 8) ?hd (xs := ([(⟨(⟨0, 0⟩ : S27), y110⟩ : S29), (⟨(⟨0, 0⟩ : S27), y113⟩ : S29)] : List (S29))) (inner := [.int .i64 0, .int .i64 0, .slice Ao82 y110.length co82, .int .i64 0, .int .i64 0, .slice Ao83 y113.length co83]) (ok := (fun _ => True)) (okp := (fun _ => True)) ?hr ?hp (fun _ hk => hk) ((show ∀ k_, w81.heap.size ≤ k_ → (fun _ => True) k_ from fun k_ hk => trivial) _ (Nat.le_refl _)) (Below.refl _ _) (Nat.le_refl _) (by simp) ?_; (case hd => rfl); (case hg => rfl); (case hr => first | (go_simp; done) | (go_simp; rfl)); (case hp => exact (Reps.c3 (show Kd.FK k29 _ _ (⟨(⟨0, 0⟩ : S27), y110⟩ : S29) [.int .i64 0, .int .i64 0, .slice Ao82 y110.length co82] from (k29_mkF _ _ (⟨(⟨0, 0⟩ : S27), y110⟩ : S29) (Kd.R_reads' (Kd.R_mono (ok' := (fun _ => True)) (HO112.out) (fun k_ hk => trivial))).2.1 (Kd.R_F (Kd.R_mono (ok' := (fun _ => True)) (HO112.out) (fun k_ hk => trivial))))) (Reps.c3 (show Kd.FK k29 _ _ (⟨(⟨0, 0⟩ : S27), y113⟩ : S29) [.int .i64 0, .int .i64 0, .slice Ao83 y113.length co83] from (k29_mkF _ _ (⟨(⟨0, 0⟩ : S27), y113⟩ : S29) (Kd.R_reads' (Kd.R_mono (ok' := (fun _ => True)) (HO115.out) (fun k_ hk => trivial))).2.1 (Kd.R_F (Kd.R_mono (ok' := (fun _ => True)) (HO115.out) (fun k_ hk => trivial))))) (Reps.none _ _))))
        intro v117 w84 ho85 hb hg_ hnew_
        clear hg_ hnew_
        (first | rw [← Ny116.out] at ho85 | (simp only [Int.reduceToNat] at ho85; rw [← Ny116.out] at ho85))
        have n0_ := Aside0.mk (Kd.N_lower ho85 (below_size (by repeat (first | (with_reducible first | exact HB.out | apply below_alloc | apply pw_below_drewN | apply below_drew1) | exact HB.out))))
        have n1_ := Aside0.mk (below_step (by repeat (first | (with_reducible first | exact HB.out | apply below_alloc | apply pw_below_drewN | apply below_drew1) | exact HB.out)) hb)
        clear HB
        clear HO112
        clear HO115
        have HO118 := n0_
        have HB := n1_
        clear n0_ n1_
        clear hb ho85
        refine hK.out _ _ trivial (fun hHeld => ?_)
        clear hK K
        refine norm_ (a' := ?_) ?_ ?_
        rotate_left
        · show Act.put _ (some 8) _ = _
          simp only [Act.put, List.setIfInBounds_toArray, List.set_cons_zero, List.set_cons_succ, i64_w, i32_w]
          rfl
        refine pure_ (i := 5) (N := some 1) (v := ?_) (a' := ?_) #[true, true, true, true, true, true] rfl rfl (by kernel_rfl) (fun _ _ _ h => h) (Or.inl ⟨by rfl, ?_⟩) ?_ ?_
        rotate_left
        · intro w'
          go_simp
          with_reducible rfl
        rotate_left
        · simp only [Act.put, List.setIfInBounds_toArray, List.set_cons_zero, List.set_cons_succ, i64_w, i32_w]
          rfl
        refine done_ (by kernel_rfl) ?_
        obtain ⟨Ao86, co86, eo86⟩ := Kd.N_slice HO118.out
        subst eo86
        try go_wp2_with (first | ((with_reducible refine gate_callee (f := 9) rfl ?_); refine goesL_ (some 11) rfl rfl Try.func9 (by kernel_rfl) rfl #[.slice Ao86 y116.length co86, .int .i64 3] rfl (by (try simp only [List.map_toArray, List.map_cons, List.map_nil]); first | done | rfl | (simp only [List.length_drop, List.length_take]; rfl)) ?_; (with_reducible refine (dispute_Choice.calls k _ _ y116 3 t119 false _ ?side1 ?side2 A3.out).mono ?_); (case side1 => repeat (first | exact (Kd.N_reads' HO118.out).2.2 | (with_reducible refine Kd.C_alloc ?_ _) | (with_reducible refine Kd.C_drewN ?_ _) | (with_reducible refine Kd.C_drew ?_))); (case side2 => exact (Kd.N_reads' HO118.out).2.1); rintro e w87 ⟨v121, rfl, ho0, hb⟩; refine ⟨_, rfl, ?_⟩; have n0_ := Aside0.mk (Kd.N_elder' (by (with_reducible repeat (first | apply Kd.N_alloc | apply Kd.N_drewN | apply Kd.N_drew)); exact HO118.out) (Kd.R_base ho0) hb); have n1_ := Aside0.mk (Kd.R_lower ho0 (below_size (by repeat (first | (with_reducible first | exact HB.out | apply below_alloc | apply pw_below_drewN | apply below_drew1) | exact HB.out)))); have n2_ := Aside0.mk (below_step (by repeat (first | (with_reducible first | exact HB.out | apply below_alloc | apply pw_below_drewN | apply below_drew1) | exact HB.out)) hb); clear HO118; clear HB; have HO118 := n0_; have HO122 := n1_; have HB := n2_; clear n0_ n1_ n2_; (try clear hb); (try clear hb2); (try clear hk); (try clear hi); (try clear ho0)))
        go_ret
        exact ⟨by first | rfl | (simp [errW_none, errW_some] <;> rfl) | (simp [*, errW_none, errW_some] <;> rfl), by repeat (first | (with_reducible first | exact HB.out | apply below_alloc | apply pw_below_drewN | apply below_drew1) | exact HB.out)⟩
    · rw [if_neg c2] at H
      exact absurd H (by simp)
  · rw [if_neg c1] at H
    exact absurd H (by simp)

end Go.Proofs.Ytpoogjcgjpkbeaa.XDisputeChoice
