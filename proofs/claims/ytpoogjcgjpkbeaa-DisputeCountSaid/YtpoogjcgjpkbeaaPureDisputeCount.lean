/- The law DisputeCount returns true for every list of sizes: the program's Count of disputes agrees with the reference's Count (P22.2). No condition beyond the bounds that the row itself lays. -/
import Derived.Test.YtpoogjcgjpkbeaaPDisputeCountx3
namespace Go.Proofs.Ytpoogjcgjpkbeaa.Pure
open Go.RowKit Go.Proofs.Ytpoogjcgjpkbeaa.PDisputeCount Go.Proofs.YtpoogjcgjpkbeaaW.PrintWords Go.Proofs.YtpoogjcgjpkbeaaW.PrintLast Go.Proofs.YtpoogjcgjpkbeaaW.PrintMore

theorem w64 {x : Int} (h : -9223372036854775808 ≤ x) (h2 : x ≤ 9223372036854775807) : wrap64 x = x := by unfold wrap64; omega
def lens (l : List S29) : List Int := l.map fun d => (d.f1.length : Int)
def stp (n m : Int) : Int := mn (n * mn m 4097) 4097
def cnt (n : Int) (l : List Int) : Int := l.foldl stp n
theorem mn_min (a b : Int) : mn a b = min a b := by unfold mn; split <;> omega
theorem stp_mul {n m : Int} (h0 : 0 ≤ n) (h1 : n ≤ 4097) (hm : 0 ≤ m) : 0 ≤ n * mn m 4097 ∧ n * mn m 4097 ≤ 16785409 := by
  have a : 0 ≤ mn m 4097 ∧ mn m 4097 ≤ 4097 := by rw [mn_min]; omega
  refine ⟨Int.mul_nonneg h0 a.1, ?_⟩
  have := Int.mul_le_mul h1 a.2 a.1 (by omega)
  omega
theorem stp_bd {n m : Int} (h0 : 0 ≤ n) (h1 : n ≤ 4097) (hm : 0 ≤ m) : 0 ≤ stp n m ∧ stp n m ≤ 4097 := by
  have := stp_mul h0 h1 hm
  unfold stp; rw [mn_min (n * _)]; omega
theorem lens_drop (l : List S29) (i : Nat) (h : i < l.length) : (lens l).drop i = ((rd_T29 l (i : Int)).f1.length : Int) :: (lens l).drop (i + 1) := by
  unfold lens
  rw [List.drop_eq_getElem_cons (by simpa using h)]
  simp [rd_T29, List.getD_eq_getElem?_getD, List.getElem?_eq_getElem h]
theorem lens_end (l : List S29) (i : Nat) (h : l.length ≤ i) : (lens l).drop i = [] := List.drop_eq_nil_of_le (by simpa [lens] using h)
theorem lens_pos (l : List S29) : ∀ m ∈ lens l, 0 ≤ m := by
  intro m hm
  obtain ⟨d, _, rfl⟩ := List.mem_map.1 hm
  omega
theorem count_l0 (l : List S29) (hl : l.length ≤ 1000) (d : Nat) : ∀ (i : Nat) (n : Int), i + d = l.length → 0 ≤ n → n ≤ 4097 → Ev (fun k => dispute_Count.l0 k n l l.length i) (cnt n ((lens l).drop i)) := by
  induction d with
  | zero =>
    intro i n hi h0 h1
    rw [lens_end l i (by omega)]
    refine Ev.step (f := fun _ => some n) (fun k => ?_) (Ev.now _)
    simp only [dispute_Count.l0]; rw [if_neg (by omega)]
  | succ d ih =>
    intro i n hi h0 h1
    have hm : 0 ≤ (((rd_T29 l (i : Int)).f1).length : Int) := by omega
    have hs := stp_bd h0 h1 hm
    have hp := stp_mul h0 h1 hm
    have := ih (i + 1) (stp n (((rd_T29 l (i : Int)).f1).length : Int)) (by omega) hs.1 hs.2
    rw [lens_drop l i (by omega)]
    refine Ev.step (fun k => ?_) this
    simp only [dispute_Count.l0]; rw [if_pos (by omega), if_pos (by omega), if_pos (by omega), w64 (by omega) (by omega), w64 (x := (i : Int) + 1) (by omega) (by omega)]
    rfl
theorem count_ev (l : List S29) (hl : l.length ≤ 1000) : Ev (fun k => dispute_Count.f k l) (cnt 1 (lens l)) := by
  have := count_l0 l hl l.length 0 1 (by omega) (by omega) (by omega)
  simpa [dispute_Count.f] using this
theorem cnt_zero (l : List Int) (h : ∀ m ∈ l, 0 ≤ m) : cnt 0 l = 0 := by
  induction l with
  | nil => rfl
  | cons a l ih =>
    have e : stp 0 a = 0 := by simp [stp, mn]
    show cnt (stp 0 a) l = 0
    rw [e]; exact ih fun m hm => h m (List.mem_cons_of_mem _ hm)
theorem cnt_has (l : List Int) (h : ∀ m ∈ l, 0 ≤ m) (h0 : (0 : Int) ∈ l) : ∀ n, cnt n l = 0 := by
  induction l with
  | nil => simp at h0
  | cons a l ih =>
    intro n
    show cnt (stp n a) l = 0
    by_cases e : a = 0
    · subst e
      have e : stp n 0 = 0 := by simp [stp, mn]
      rw [e]; exact cnt_zero l fun m hm => h m (List.mem_cons_of_mem _ hm)
    · exact ih (fun m hm => h m (List.mem_cons_of_mem _ hm)) (by simpa [Ne.symm e] using h0) _
theorem ref_l1 (l : List S29) (hl : l.length ≤ 1000) (d : Nat) : ∀ (i : Nat) (n : Int), i + d = l.length → 0 ≤ n → n ≤ 4097 → Ev (fun k => insolvencyref21_Count.l1 k l n i) (cnt n ((lens l).drop i)) := by
  induction d with
  | zero =>
    intro i n hi h0 h1
    rw [lens_end l i (by omega)]
    refine Ev.step (f := fun _ => some n) (fun k => ?_) (Ev.now _)
    simp only [insolvencyref21_Count.l1]; rw [if_neg (by omega)]
  | succ d ih =>
    intro i n hi h0 h1
    have hm : 0 ≤ (((rd_T29 l (i : Int)).f1).length : Int) := by omega
    have hs := stp_bd h0 h1 hm
    have hp := stp_mul h0 h1 hm
    have := ih (i + 1) (stp n (((rd_T29 l (i : Int)).f1).length : Int)) (by omega) hs.1 hs.2
    rw [lens_drop l i (by omega)]
    refine Ev.step (fun k => ?_) this
    simp only [insolvencyref21_Count.l1]; rw [if_pos (by omega), if_pos (by omega), w64 (by omega) (by omega), w64 (x := (i : Int) + 1) (by omega) (by omega)]
    rfl
theorem ref_l0 (l : List S29) (hl : l.length ≤ 1000) (d : Nat) : ∀ (i : Nat), i + d = l.length → (∀ m ∈ (lens l).take i, m ≠ 0) → Ev (fun k => insolvencyref21_Count.l0 k l i) (cnt 1 (lens l)) := by
  induction d with
  | zero =>
    intro i hi hz
    have := ref_l1 l hl l.length 0 1 (by omega) (by omega) (by omega)
    refine Ev.step (fun k => ?_) this
    simp only [insolvencyref21_Count.l0]; rw [if_neg (by omega)]; rfl
  | succ d ih =>
    intro i hi hz
    have hd := lens_drop l i (by omega)
    by_cases e : (((rd_T29 l (i : Int)).f1).length : Int) = 0
    · have hin : (0 : Int) ∈ lens l := by
        have : (0 : Int) ∈ (lens l).drop i := by rw [hd, e]; simp
        exact List.mem_of_mem_drop this
      rw [cnt_has _ (lens_pos l) hin]
      refine Ev.step (f := fun _ => some 0) (fun k => ?_) (Ev.now _)
      simp only [insolvencyref21_Count.l0]; rw [if_pos (by omega), if_pos (by omega), if_pos e]
    · refine Ev.step (fun k => ?_) (ih (i + 1) (by omega) ?_)
      · simp only [insolvencyref21_Count.l0]; rw [if_pos (by omega), if_pos (by omega), if_neg e, w64 (by omega) (by omega)]
        rfl
      · intro m hm
        have hg : (lens l)[i]? = some (((rd_T29 l (i : Int)).f1).length : Int) := by
          have := congrArg (fun x : List Int => x[0]?) hd
          simpa using this
        rw [List.take_add_one, hg] at hm
        rcases List.mem_append.1 hm with h | h
        · exact hz m h
        · simp at h; rw [h]; exact e
theorem ref_ev (l : List S29) (hl : l.length ≤ 1000) : Ev (fun k => insolvencyref21_Count.f k l) (cnt 1 (lens l)) := by
  have := ref_l0 l hl l.length 0 (by omega) (by simp)
  simpa [insolvencyref21_Count.f] using this
theorem awake_ev : Ev (fun k => insolvencylaw22_awake.f k) true := by
  refine Ev.of insolvencylaw22_awake.mono (k := 10) ?_
  decide +kernel
theorem law_l0 (s : List Int) (hs : s.length ≤ 12) (hw : ∀ x ∈ s, 0 ≤ x ∧ x ≤ 255) (d : Nat) : ∀ (i : Nat) (l : List S29), i + d = s.length → l.length = i → Ev (fun k => insolvencylaw22_DisputeCount.l0 k s l i) true := by
  induction d with
  | zero =>
    intro i l hi hl
    refine Ev.step (f := fun k => ((insolvencylaw22_awake.f k).bind fun t136 => (if t136 = true then ((dispute_Count.f k l).bind fun t137 => ((insolvencyref21_Count.f k l).bind fun t138 => (some (t137 == t138)))) else (some false)))) (fun k => ?_) ?_
    · simp only [insolvencylaw22_DisputeCount.l0]; rw [if_neg (by omega)]
    · refine Ev.bind awake_ev ?_
      simp only [if_true]
      refine Ev.bind (count_ev l (by omega)) (Ev.bind (ref_ev l (by omega)) ?_)
      simp only [beq_self_eq_true]
      exact Ev.now _
  | succ d ih =>
    intro i l hi hl
    have hx : 0 ≤ rd s (i : Int) ∧ rd s (i : Int) ≤ 255 := by
      have hi' : i < s.length := by omega
      have := hw s[i] (List.getElem_mem _)
      simpa [rd, List.getD_eq_getElem?_getD, List.getElem?_eq_getElem hi'] using this
    refine Ev.step (fun k => ?_) (ih (i + 1) (l ++ [(⟨(⟨0, 0⟩ : S27), (List.replicate (rd s (i : Int)).toNat z84)⟩ : S29)]) (by omega) (by simp [hl]))
    simp only [insolvencylaw22_DisputeCount.l0]
    rw [w64 (x := rd s (i : Int)) (by omega) (by omega), if_pos (by omega), if_pos (by omega), if_pos (by omega), if_pos (by omega), if_pos (by omega), w64 (by omega) (by omega)]
    rfl
theorem DisputeCount : insolvencylaw22_DisputeCount.Pure := by
  intro s hs _ hw
  have hw' : ∀ x ∈ s, 0 ≤ x ∧ x ≤ 255 := by
    intro x hx
    have := hw x hx
    simpa [Lit.wf, IntKind.min, IntKind.max, IntKind.signed, IntKind.bits] using this
  apply Ev.rounds
  unfold insolvencylaw22_DisputeCount.f
  by_cases h : (s.length : Int) > 12
  · simp only [if_pos h]
    exact Ev.bind awake_ev (Ev.now _)
  · simp only [if_neg h]
    exact law_l0 s (by omega) hw' s.length 0 [] (by omega) rfl
end Go.Proofs.Ytpoogjcgjpkbeaa.Pure
