/- The law DisputeChoice returns true for every input that the row lets in: the program's Choice and Index of disputes agree with the reference's (P22.3). No condition beyond the bounds that the row itself lays. -/
import Derived.Test.YtpoogjcgjpkbeaaXDisputeChoicex5
namespace Go.Proofs.Ytpoogjcgjpkbeaa.Pure
open Go.RowKit Go.Proofs.Ytpoogjcgjpkbeaa.XDisputeChoice Go.Proofs.YtpoogjcgjpkbeaaW.PrintWords Go.Proofs.YtpoogjcgjpkbeaaW.PrintLast Go.Proofs.YtpoogjcgjpkbeaaW.PrintMore

theorem w64 {x : Int} (h : -9223372036854775808 ≤ x) (h2 : x ≤ 9223372036854775807) : wrap64 x = x := by unfold wrap64; omega
def lens (l : List S29) : List Int := l.map fun d => (d.f1.length : Int)
def stp (n m : Int) : Int := mn (n * mn m 4097) 4097
def cnt (n : Int) (l : List Int) : Int := l.foldl stp n
theorem mn_min (a b : Int) : mn a b = min a b := by unfold mn; split <;> omega
theorem stp_mul {n m : Int} (h0 : 0 ≤ n) (h1 : n ≤ 4097) (hm : 0 ≤ m) : 0 ≤ n * mn m 4097 ∧ n * mn m 4097 ≤ 16785409 := by
  have a : 0 ≤ mn m 4097 ∧ mn m 4097 ≤ 4097 := by rw [mn_min]; omega
  refine ⟨Int.mul_nonneg h0 a.1, ?_⟩
  have := Int.mul_le_mul h1 a.2 a.1 (by omega)
  omega
theorem stp_bd {n m : Int} (h0 : 0 ≤ n) (h1 : n ≤ 4097) (hm : 0 ≤ m) : 0 ≤ stp n m ∧ stp n m ≤ 4097 := by
  have := stp_mul h0 h1 hm
  unfold stp; rw [mn_min (n * _)]; omega
theorem lens_drop (l : List S29) (i : Nat) (h : i < l.length) : (lens l).drop i = ((rd_T29 l (i : Int)).f1.length : Int) :: (lens l).drop (i + 1) := by
  unfold lens
  rw [List.drop_eq_getElem_cons (by simpa using h)]
  simp [rd_T29, List.getD_eq_getElem?_getD, List.getElem?_eq_getElem h]
theorem lens_end (l : List S29) (i : Nat) (h : l.length ≤ i) : (lens l).drop i = [] := List.drop_eq_nil_of_le (by simpa [lens] using h)
theorem lens_pos (l : List S29) : ∀ m ∈ lens l, 0 ≤ m := by
  intro m hm
  obtain ⟨d, _, rfl⟩ := List.mem_map.1 hm
  omega
theorem count_l0 (l : List S29) (hl : l.length ≤ 1000) (d : Nat) : ∀ (i : Nat) (n : Int), i + d = l.length → 0 ≤ n → n ≤ 4097 → Ev (fun k => dispute_Count.l0 k n l l.length i) (cnt n ((lens l).drop i)) := by
  induction d with
  | zero =>
    intro i n hi h0 h1
    rw [lens_end l i (by omega)]
    refine Ev.step (f := fun _ => some n) (fun k => ?_) (Ev.now _)
    simp only [dispute_Count.l0]; rw [if_neg (by omega)]
  | succ d ih =>
    intro i n hi h0 h1
    have hm : 0 ≤ (((rd_T29 l (i : Int)).f1).length : Int) := by omega
    have hs := stp_bd h0 h1 hm
    have hp := stp_mul h0 h1 hm
    have := ih (i + 1) (stp n (((rd_T29 l (i : Int)).f1).length : Int)) (by omega) hs.1 hs.2
    rw [lens_drop l i (by omega)]
    refine Ev.step (fun k => ?_) this
    simp only [dispute_Count.l0]; rw [if_pos (by omega), if_pos (by omega), if_pos (by omega), w64 (by omega) (by omega), w64 (x := (i : Int) + 1) (by omega) (by omega)]
    rfl
theorem count_ev (l : List S29) (hl : l.length ≤ 1000) : Ev (fun k => dispute_Count.f k l) (cnt 1 (lens l)) := by
  have := count_l0 l hl l.length 0 1 (by omega) (by omega) (by omega)
  simpa [dispute_Count.f] using this
theorem cnt_zero (l : List Int) (h : ∀ m ∈ l, 0 ≤ m) : cnt 0 l = 0 := by
  induction l with
  | nil => rfl
  | cons a l ih =>
    have e : stp 0 a = 0 := by simp [stp, mn]
    show cnt (stp 0 a) l = 0
    rw [e]; exact ih fun m hm => h m (List.mem_cons_of_mem _ hm)
theorem cnt_has (l : List Int) (h : ∀ m ∈ l, 0 ≤ m) (h0 : (0 : Int) ∈ l) : ∀ n, cnt n l = 0 := by
  induction l with
  | nil => simp at h0
  | cons a l ih =>
    intro n
    show cnt (stp n a) l = 0
    by_cases e : a = 0
    · subst e
      have e : stp n 0 = 0 := by simp [stp, mn]
      rw [e]; exact cnt_zero l fun m hm => h m (List.mem_cons_of_mem _ hm)
    · exact ih (fun m hm => h m (List.mem_cons_of_mem _ hm)) (by simpa [Ne.symm e] using h0) _
theorem ref_l1 (l : List S29) (hl : l.length ≤ 1000) (d : Nat) : ∀ (i : Nat) (n : Int), i + d = l.length → 0 ≤ n → n ≤ 4097 → Ev (fun k => insolvencyref21_Count.l1 k l n i) (cnt n ((lens l).drop i)) := by
  induction d with
  | zero =>
    intro i n hi h0 h1
    rw [lens_end l i (by omega)]
    refine Ev.step (f := fun _ => some n) (fun k => ?_) (Ev.now _)
    simp only [insolvencyref21_Count.l1]; rw [if_neg (by omega)]
  | succ d ih =>
    intro i n hi h0 h1
    have hm : 0 ≤ (((rd_T29 l (i : Int)).f1).length : Int) := by omega
    have hs := stp_bd h0 h1 hm
    have hp := stp_mul h0 h1 hm
    have := ih (i + 1) (stp n (((rd_T29 l (i : Int)).f1).length : Int)) (by omega) hs.1 hs.2
    rw [lens_drop l i (by omega)]
    refine Ev.step (fun k => ?_) this
    simp only [insolvencyref21_Count.l1]; rw [if_pos (by omega), if_pos (by omega), w64 (by omega) (by omega), w64 (x := (i : Int) + 1) (by omega) (by omega)]
    rfl
theorem ref_l0 (l : List S29) (hl : l.length ≤ 1000) (d : Nat) : ∀ (i : Nat), i + d = l.length → (∀ m ∈ (lens l).take i, m ≠ 0) → Ev (fun k => insolvencyref21_Count.l0 k l i) (cnt 1 (lens l)) := by
  induction d with
  | zero =>
    intro i hi hz
    have := ref_l1 l hl l.length 0 1 (by omega) (by omega) (by omega)
    refine Ev.step (fun k => ?_) this
    simp only [insolvencyref21_Count.l0]; rw [if_neg (by omega)]; rfl
  | succ d ih =>
    intro i hi hz
    have hd := lens_drop l i (by omega)
    by_cases e : (((rd_T29 l (i : Int)).f1).length : Int) = 0
    · have hin : (0 : Int) ∈ lens l := by
        have : (0 : Int) ∈ (lens l).drop i := by rw [hd, e]; simp
        exact List.mem_of_mem_drop this
      rw [cnt_has _ (lens_pos l) hin]
      refine Ev.step (f := fun _ => some 0) (fun k => ?_) (Ev.now _)
      simp only [insolvencyref21_Count.l0]; rw [if_pos (by omega), if_pos (by omega), if_pos e]
    · refine Ev.step (fun k => ?_) (ih (i + 1) (by omega) ?_)
      · simp only [insolvencyref21_Count.l0]; rw [if_pos (by omega), if_pos (by omega), if_neg e, w64 (by omega) (by omega)]
        rfl
      · intro m hm
        have hg : (lens l)[i]? = some (((rd_T29 l (i : Int)).f1).length : Int) := by
          have := congrArg (fun x : List Int => x[0]?) hd
          simpa using this
        rw [List.take_add_one, hg] at hm
        rcases List.mem_append.1 hm with h | h
        · exact hz m h
        · simp at h; rw [h]; exact e
theorem ref_ev (l : List S29) (hl : l.length ≤ 1000) : Ev (fun k => insolvencyref21_Count.f k l) (cnt 1 (lens l)) := by
  have := ref_l0 l hl l.length 0 (by omega) (by simp)
  simpa [insolvencyref21_Count.f] using this
theorem awake_ev : Ev (fun k => insolvencylaw22_awake.f k) true := by
  refine Ev.of insolvencylaw22_awake.mono (k := 10) ?_
  decide +kernel

/-! Choice -/
def digs (k : Int) : List Int → List Int
  | [] => []
  | m :: l => Int.tmod k m :: digs (Int.tdiv k m) l
theorem tdiv_bd {k m : Int} (h0 : 0 ≤ k) (h1 : k ≤ 4096) (hm : 0 < m) : 0 ≤ Int.tdiv k m ∧ Int.tdiv k m ≤ 4096 := by
  rw [Int.tdiv_eq_ediv_of_nonneg h0]
  refine ⟨Int.ediv_nonneg h0 (by omega), ?_⟩
  have := Int.ediv_le_self m h0
  omega
theorem choice_l0 (l : List S29) (hl : l.length ≤ 1000) (hp : ∀ m ∈ lens l, m ≠ 0) (d : Nat) : ∀ (i : Nat) (k : Int) (out : List Int), i + d = l.length → 0 ≤ k → k ≤ 4096 → out.length = l.length →
    Ev (fun f => dispute_Choice.l0 f k out l l.length i) (out.take i ++ digs k ((lens l).drop i), true) := by
  induction d with
  | zero =>
    intro i k out hi h0 h1 ho
    rw [lens_end l i (by omega)]
    refine Ev.step (f := fun _ => some (out, true)) (fun k => ?_) ?_
    · simp only [dispute_Choice.l0]; rw [if_neg (by omega)]
    · simp only [digs, List.append_nil]
      rw [List.take_of_length_le (by omega)]
      exact Ev.now _
  | succ d ih =>
    intro i k out hi h0 h1 ho
    have hd := lens_drop l i (by omega)
    have hm : 0 < (((rd_T29 l (i : Int)).f1).length : Int) := by
      have : (((rd_T29 l (i : Int)).f1).length : Int) ∈ lens l := List.mem_of_mem_drop (i := i) (by rw [hd]; exact List.mem_cons_self)
      have := hp _ this
      omega
    have hb := tdiv_bd h0 h1 hm
    have := ih (i + 1) (Int.tdiv k (((rd_T29 l (i : Int)).f1).length : Int)) (out.set i (Int.tmod k (((rd_T29 l (i : Int)).f1).length : Int))) (by omega) hb.1 hb.2 (by simpa using ho)
    have ht : (out.set i (Int.tmod k (((rd_T29 l (i : Int)).f1).length : Int))).take (i + 1) = out.take i ++ [Int.tmod k (((rd_T29 l (i : Int)).f1).length : Int)] := by
      rw [List.take_add_one, List.take_set_of_le (Nat.le_refl _), List.getElem?_set_self (by omega)]; rfl
    rw [hd]
    simp only [digs]
    rw [ht, List.append_assoc] at this
    refine Ev.step (fun f => ?_) this
    simp only [dispute_Choice.l0]; rw [if_pos (by omega), if_pos (by omega), if_pos (by omega), if_neg (by omega), if_pos (by omega), w64 (by omega) (by omega), w64 (x := (i : Int) + 1) (by omega) (by omega)]
    rfl
theorem rchoice_l0 (l : List S29) (hl : l.length ≤ 1000) (hp : ∀ m ∈ lens l, m ≠ 0) (d : Nat) : ∀ (i : Nat) (k : Int) (out : List Int), i + d = l.length → 0 ≤ k → k ≤ 4096 → out.length = i →
    Ev (fun f => insolvencyref21_Choice.l0 f l k out i) (out ++ digs k ((lens l).drop i), true) := by
  induction d with
  | zero =>
    intro i k out hi h0 h1 ho
    rw [lens_end l i (by omega)]
    refine Ev.step (f := fun _ => some (out, true)) (fun k => ?_) ?_
    · simp only [insolvencyref21_Choice.l0]; rw [if_neg (by omega)]
    · simp only [digs, List.append_nil]
      exact Ev.now _
  | succ d ih =>
    intro i k out hi h0 h1 ho
    have hd := lens_drop l i (by omega)
    have hm : 0 < (((rd_T29 l (i : Int)).f1).length : Int) := by
      have : (((rd_T29 l (i : Int)).f1).length : Int) ∈ lens l := List.mem_of_mem_drop (i := i) (by rw [hd]; exact List.mem_cons_self)
      have := hp _ this
      omega
    have hb := tdiv_bd h0 h1 hm
    have := ih (i + 1) (Int.tdiv k (((rd_T29 l (i : Int)).f1).length : Int)) (out ++ [Int.tmod k (((rd_T29 l (i : Int)).f1).length : Int)]) (by omega) hb.1 hb.2 (by simpa using ho)
    rw [hd]
    simp only [digs]
    rw [List.append_assoc] at this
    refine Ev.step (fun f => ?_) this
    simp only [insolvencyref21_Choice.l0]; rw [if_pos (by omega), if_pos (by omega), if_neg (by omega), if_pos (by omega), w64 (by omega) (by omega), w64 (x := (i : Int) + 1) (by omega) (by omega)]
    rfl
theorem cnt_pos {l : List S29} (h : 0 < cnt 1 (lens l)) : ∀ m ∈ lens l, m ≠ 0 := by
  intro m hm e
  subst e
  have := cnt_has (lens l) (lens_pos l) hm 1
  omega
def chs (l : List S29) (k : Int) : List Int × Bool := if k < 0 ∨ cnt 1 (lens l) ≤ k ∨ 4096 < cnt 1 (lens l) then ([], false) else (digs k (lens l), true)
theorem choice_ev (l : List S29) (hl : l.length ≤ 1000) (k : Int) : Ev (fun f => dispute_Choice.f f l k) (chs l k) := by
  refine Ev.bind (count_ev l hl) ?_
  by_cases h : k < 0 ∨ cnt 1 (lens l) ≤ k ∨ 4096 < cnt 1 (lens l)
  · have hr : chs l k = ([], false) := if_pos h
    have hj : Ev (fun f => dispute_Choice.j0 f l k true) ([], false) := Ev.step (f := fun _ => some ([], false)) (fun f => by simp only [dispute_Choice.j0, if_true]) (Ev.now _)
    rw [hr]
    by_cases h1 : k < 0
    · simp only [if_pos h1]; exact hj
    · by_cases h2 : k ≥ cnt 1 (lens l)
      · simp only [if_neg h1, if_pos h2]; exact hj
      · have h3 : cnt 1 (lens l) > 4096 := by omega
        simp only [if_neg h1, if_neg h2, h3, decide_true]; exact hj
  · have hr : chs l k = (digs k (lens l), true) := if_neg h
    have h1 : ¬ k < 0 := by omega
    have h2 : ¬ k ≥ cnt 1 (lens l) := by omega
    have h3 : ¬ cnt 1 (lens l) > 4096 := by omega
    simp only [if_neg h1, if_neg h2, h3, decide_false]
    rw [hr]
    have := choice_l0 l hl (cnt_pos (by omega)) l.length 0 k (List.replicate l.length 0) (by omega) (by omega) (by omega) (by simp)
    refine Ev.step (fun f => ?_) this
    simp only [dispute_Choice.j0]; rw [if_neg (by decide), if_pos (by omega), if_pos (by omega)]
    rfl
theorem rchoice_ev (l : List S29) (hl : l.length ≤ 1000) (k : Int) : Ev (fun f => insolvencyref21_Choice.f f l k) (chs l k) := by
  have hc := ref_ev l hl
  by_cases h : k < 0 ∨ cnt 1 (lens l) ≤ k ∨ 4096 < cnt 1 (lens l)
  · have hr : chs l k = ([], false) := if_pos h
    have hj : Ev (fun f => insolvencyref21_Choice.j0 f l k true) ([], false) := Ev.step (f := fun _ => some ([], false)) (fun f => by simp only [insolvencyref21_Choice.j0, if_true]) (Ev.now _)
    rw [hr]
    unfold insolvencyref21_Choice.f
    by_cases h1 : k < 0
    · simp only [if_pos h1]; exact hj
    · simp only [if_neg h1]
      refine Ev.bind hc ?_
      by_cases h2 : k ≥ cnt 1 (lens l)
      · simp only [if_pos h2]; exact hj
      · have h3 : cnt 1 (lens l) > 4096 := by omega
        simp only [if_neg h2]
        refine Ev.bind hc ?_
        simp only [h3, decide_true]; exact hj
  · have hr : chs l k = (digs k (lens l), true) := if_neg h
    have h1 : ¬ k < 0 := by omega
    have h2 : ¬ k ≥ cnt 1 (lens l) := by omega
    have h3 : ¬ cnt 1 (lens l) > 4096 := by omega
    unfold insolvencyref21_Choice.f
    simp only [if_neg h1]
    refine Ev.bind hc ?_
    simp only [if_neg h2]
    refine Ev.bind hc ?_
    simp only [h3, decide_false]
    rw [hr]
    have := rchoice_l0 l hl (cnt_pos (by omega)) l.length 0 k [] (by omega) (by omega) (by omega) rfl
    refine Ev.step (fun f => ?_) this
    simp only [insolvencyref21_Choice.j0]; rw [if_neg (by decide)]
    rfl
/-! Index -/
def okb : List Int → List Int → Bool
  | m :: ms, c :: cs => decide (0 ≤ c) && decide (c < m) && okb ms cs
  | _, _ => true
theorem rd_drop (c : List Int) (i : Nat) (h : i < c.length) : c.drop i = rd c (i : Int) :: c.drop (i + 1) := by
  rw [List.drop_eq_getElem_cons h]
  simp [rd, List.getD_eq_getElem?_getD, List.getElem?_eq_getElem h]
theorem chooses_l0 (l : List S29) (c : List Int) (hl : l.length ≤ 1000) (hc : c.length = l.length) (d : Nat) : ∀ (i : Nat), i + d = l.length →
    Ev (fun f => dispute_chooses.l0 f l c c.length i) (okb ((lens l).drop i) (c.drop i)) := by
  induction d with
  | zero =>
    intro i hi
    have hcd : c.drop i = [] := List.drop_eq_nil_of_le (by omega)
    rw [lens_end l i (by omega), hcd]
    refine Ev.step (f := fun _ => some true) (fun k => ?_) (Ev.now _)
    simp only [dispute_chooses.l0]; rw [if_neg (by omega)]
  | succ d ih =>
    intro i hi
    have hd := lens_drop l i (by omega)
    rw [hd, rd_drop c i (by omega)]
    by_cases h1 : rd c (i : Int) < 0
    · have e : okb ((((rd_T29 l (i : Int)).f1).length : Int) :: (lens l).drop (i + 1)) (rd c (i : Int) :: c.drop (i + 1)) = false := by simp [okb]; omega
      rw [e]
      refine Ev.step (f := fun _ => some false) (fun k => ?_) (Ev.now _)
      simp only [dispute_chooses.l0]; rw [if_pos (by omega), if_pos (by omega), if_pos (by omega), if_pos h1]
    · by_cases h2 : rd c (i : Int) ≥ (((rd_T29 l (i : Int)).f1).length : Int)
      · have e : okb ((((rd_T29 l (i : Int)).f1).length : Int) :: (lens l).drop (i + 1)) (rd c (i : Int) :: c.drop (i + 1)) = false := by simp [okb]; omega
        rw [e]
        refine Ev.step (f := fun _ => some false) (fun k => ?_) (Ev.now _)
        simp only [dispute_chooses.l0]; rw [if_pos (by omega), if_pos (by omega), if_pos (by omega), if_neg h1, if_pos (by omega), if_pos h2]
      · have e : okb ((((rd_T29 l (i : Int)).f1).length : Int) :: (lens l).drop (i + 1)) (rd c (i : Int) :: c.drop (i + 1)) = okb ((lens l).drop (i + 1)) (c.drop (i + 1)) := by
          have a : decide (0 ≤ rd c (i : Int)) = true := by simp; omega
          have b : decide (rd c (i : Int) < (((rd_T29 l (i : Int)).f1).length : Int)) = true := by simp; omega
          simp only [okb, a, b, Bool.true_and]
        rw [e]
        refine Ev.step (fun k => ?_) (ih (i + 1) (by omega))
        simp only [dispute_chooses.l0]; rw [if_pos (by omega), if_pos (by omega), if_pos (by omega), if_neg h1, if_pos (by omega), if_neg h2, w64 (x := (i : Int) + 1) (by omega) (by omega)]
        rfl
theorem fits_l0 (l : List S29) (c : List Int) (hl : l.length ≤ 1000) (hc : c.length = l.length) (d : Nat) : ∀ (i : Nat), i + d = l.length →
    Ev (fun f => insolvencyref21_fits.l0 f l c i) (if okb ((lens l).drop i) (c.drop i) then 0 else 41) := by
  induction d with
  | zero =>
    intro i hi
    have hcd : c.drop i = [] := List.drop_eq_nil_of_le (by omega)
    rw [lens_end l i (by omega), hcd]
    refine Ev.step (f := fun _ => some 0) (fun k => ?_) (Ev.now _)
    simp only [insolvencyref21_fits.l0]; rw [if_neg (by omega)]
  | succ d ih =>
    intro i hi
    have hd := lens_drop l i (by omega)
    rw [hd, rd_drop c i (by omega)]
    by_cases h1 : rd c (i : Int) < 0
    · have e : okb ((((rd_T29 l (i : Int)).f1).length : Int) :: (lens l).drop (i + 1)) (rd c (i : Int) :: c.drop (i + 1)) = false := by simp [okb]; omega
      rw [e]
      refine Ev.step (f := fun _ => some 41) (fun k => ?_) (Ev.now _)
      simp only [insolvencyref21_fits.l0]; rw [if_pos (by omega), if_pos (by omega), if_pos (by omega), if_pos h1]
    · by_cases h2 : rd c (i : Int) ≥ (((rd_T29 l (i : Int)).f1).length : Int)
      · have e : okb ((((rd_T29 l (i : Int)).f1).length : Int) :: (lens l).drop (i + 1)) (rd c (i : Int) :: c.drop (i + 1)) = false := by simp [okb]; omega
        rw [e]
        refine Ev.step (f := fun _ => some 41) (fun k => ?_) (Ev.now _)
        simp only [insolvencyref21_fits.l0]; rw [if_pos (by omega), if_pos (by omega), if_pos (by omega), if_neg h1, if_pos h2]
      · have e : okb ((((rd_T29 l (i : Int)).f1).length : Int) :: (lens l).drop (i + 1)) (rd c (i : Int) :: c.drop (i + 1)) = okb ((lens l).drop (i + 1)) (c.drop (i + 1)) := by
          have a : decide (0 ≤ rd c (i : Int)) = true := by simp; omega
          have b : decide (rd c (i : Int) < (((rd_T29 l (i : Int)).f1).length : Int)) = true := by simp; omega
          simp only [okb, a, b, Bool.true_and]
        rw [e]
        refine Ev.step (fun k => ?_) (ih (i + 1) (by omega))
        simp only [insolvencyref21_fits.l0]; rw [if_pos (by omega), if_pos (by omega), if_pos (by omega), if_neg h1, if_neg h2, w64 (x := (i : Int) + 1) (by omega) (by omega)]
        rfl
def ix (l : List S29) (c : List Int) : Nat → Int → Int
  | 0, a => a
  | i + 1, a => ix l c i (wrap64 ((wrap64 (a * (((rd_T29 l (i : Int)).f1).length : Int))) + (rd c (i : Int))))
theorem index_l0 (l : List S29) (c : List Int) (hl : l.length ≤ 1000) (hc : c.length = l.length) (i : Nat) : ∀ (a : Int), i ≤ l.length →
    Ev (fun f => dispute_Index.l0 f l c a ((i : Int) - 1)) (ix l c i a, true) ∧ Ev (fun f => insolvencyref21_Index.l0 f l c a ((i : Int) - 1)) (ix l c i a, true) := by
  induction i with
  | zero =>
    intro a hi
    refine ⟨Ev.step (f := fun _ => some (a, true)) (fun k => ?_) (Ev.now _), Ev.step (f := fun _ => some (a, true)) (fun k => ?_) (Ev.now _)⟩
    · simp only [dispute_Index.l0]; rw [if_neg (by omega)]
    · simp only [insolvencyref21_Index.l0]; rw [if_neg (by omega)]
  | succ i ih =>
    intro a hi
    have e : ((i + 1 : Nat) : Int) - 1 = (i : Int) := by omega
    have := ih (wrap64 ((wrap64 (a * (((rd_T29 l (i : Int)).f1).length : Int))) + (rd c (i : Int)))) (by omega)
    rw [e]
    refine ⟨Ev.step (fun k => ?_) this.1, Ev.step (fun k => ?_) this.2⟩
    · simp only [dispute_Index.l0]; rw [if_pos (by omega), if_pos (by omega), if_pos (by omega), if_pos (by omega), w64 (x := (i : Int) - 1) (by omega) (by omega)]
    · simp only [insolvencyref21_Index.l0]; rw [if_pos (by omega), if_pos (by omega), if_pos (by omega), if_pos (by omega), w64 (x := (i : Int) - 1) (by omega) (by omega)]
theorem index_both (l : List S29) (c : List Int) (hl : l.length ≤ 1000) : ∃ r, Ev (fun f => dispute_Index.f f l c) r ∧ Ev (fun f => insolvencyref21_Index.f f l c) r := by
  have hj : Ev (fun f => dispute_Index.j0 f l c true) (0, false) := Ev.step (f := fun _ => some (0, false)) (fun f => by simp only [dispute_Index.j0, if_true]) (Ev.now _)
  have hj' : Ev (fun f => insolvencyref21_Index.j0 f l c true) (0, false) := Ev.step (f := fun _ => some (0, false)) (fun f => by simp only [insolvencyref21_Index.j0, if_true]) (Ev.now _)
  by_cases hc : (c.length : Int) = (l.length : Int)
  · have hcn : c.length = l.length := by omega
    have h1 : Ev (fun f => dispute_chooses.f f l c) (okb (lens l) c) := by
      have := chooses_l0 l c hl hcn l.length 0 (by omega)
      simpa [dispute_chooses.f] using this
    have h2 : Ev (fun f => insolvencyref21_fits.f f l c) (if okb (lens l) c then 0 else 41) := by
      have := fits_l0 l c hl hcn l.length 0 (by omega)
      simp only [insolvencyref21_fits.f, if_pos hc]
      simpa using this
    unfold dispute_Index.f insolvencyref21_Index.f
    simp only [if_pos hc]
    cases hb : okb (lens l) c with
    | false =>
      rw [hb] at h1 h2
      refine ⟨(0, false), Ev.bind h1 ?_, Ev.bind h2 ?_⟩
      · simp only [Bool.false_eq_true, if_false]; exact hj
      · have : ¬ ((if false = true then (0 : Int) else 41) = 0) := by decide
        simp only [if_neg this]; exact hj'
    | true =>
      rw [hb] at h1 h2
      by_cases hn : cnt 1 (lens l) > 4096
      · refine ⟨(0, false), Ev.bind h1 ?_, Ev.bind h2 ?_⟩
        · simp only [if_true]
          refine Ev.bind (count_ev l hl) ?_
          simp only [hn, decide_true]; exact hj
        · simp only [if_true]
          refine Ev.bind (ref_ev l hl) ?_
          simp only [hn, decide_true]; exact hj'
      · have := index_l0 l c hl hcn l.length 0 (Nat.le_refl _)
        refine ⟨(ix l c l.length 0, true), Ev.bind h1 ?_, Ev.bind h2 ?_⟩
        · simp only [if_true]
          refine Ev.bind (count_ev l hl) ?_
          simp only [hn, decide_false]
          refine Ev.step (fun f => ?_) this.1
          simp only [dispute_Index.j0]; rw [if_neg (by decide), w64 (by omega) (by omega)]
        · simp only [if_true]
          refine Ev.bind (ref_ev l hl) ?_
          simp only [hn, decide_false]
          refine Ev.step (fun f => ?_) this.2
          simp only [insolvencyref21_Index.j0]; rw [if_neg (by decide), w64 (by omega) (by omega)]
  · refine ⟨(0, false), ?_, ?_⟩
    · unfold dispute_Index.f
      simp only [if_neg hc]; exact hj
    · unfold insolvencyref21_Index.f insolvencyref21_fits.f
      simp only [if_neg hc]
      refine Ev.bind (Ev.now (4 : Int)) ?_
      have : ¬ ((4 : Int) = 0) := by decide
      simp only [if_neg this]; exact hj'
theorem same_l0 (a : List Int) (ha : a.length ≤ 1000) (d : Nat) : ∀ (i : Nat), i + d = a.length → Ev (fun f => insolvencyref1_SameInts.l0 f a a i) true := by
  induction d with
  | zero =>
    intro i hi
    refine Ev.step (f := fun _ => some true) (fun k => ?_) (Ev.now _)
    simp only [insolvencyref1_SameInts.l0]; rw [if_neg (by omega)]
  | succ d ih =>
    intro i hi
    refine Ev.step (fun k => ?_) (ih (i + 1) (by omega))
    simp only [insolvencyref1_SameInts.l0]; rw [if_pos (by omega), if_pos (by omega), if_pos (by omega), w64 (by omega) (by omega)]
    simp only [if_true]; rfl
theorem same_ev (a : List Int) (ha : a.length ≤ 1000) : Ev (fun f => insolvencyref1_SameInts.f f a a) true := by
  have := same_l0 a ha a.length 0 (by omega)
  simp only [insolvencyref1_SameInts.f, if_true]
  simpa using this
theorem digs_len (l : List Int) : ∀ k, (digs k l).length = l.length := by
  induction l with
  | nil => intro k; rfl
  | cons m l ih => intro k; simp [digs, ih]
theorem chs_len (l : List S29) (k : Int) : (chs l k).1.length ≤ l.length := by
  unfold chs
  split
  · simp
  · simp [digs_len, lens]
theorem law_l0 (s : List Int) (k : Int) (c : List Int) (hs : s.length ≤ 8) (hw : ∀ x ∈ s, 0 ≤ x ∧ x ≤ 255) (d : Nat) : ∀ (i : Nat) (l : List S29), i + d = s.length → l.length = i → Ev (fun f => insolvencylaw22_DisputeChoice.l0 f s k c l i) true := by
  induction d with
  | zero =>
    intro i l hi hl
    obtain ⟨r, hr1, hr2⟩ := index_both l c (by omega)
    have hx := chs_len l k
    refine Ev.step (f := fun k_ => ((dispute_Choice.f k_ l k).bind fun bt158 => ((insolvencyref21_Choice.f k_ l k).bind fun bt162 => ((dispute_Index.f k_ l c).bind fun bt166 => ((insolvencyref21_Index.f k_ l c).bind fun bt168 => ((insolvencylaw22_awake.f k_).bind fun t170 => (if t170 = true then (if (bt158.2 == bt162.2) = true then ((insolvencyref1_SameInts.f k_ bt158.1 bt162.1).bind fun t171 => (if t171 = true then (if bt166.1 = bt168.1 then (some (bt166.2 == bt168.2)) else (some false)) else (some false))) else (some false)) else (some false)))))))) (fun f => ?_) ?_
    · simp only [insolvencylaw22_DisputeChoice.l0]; rw [if_neg (by omega)]
    refine Ev.bind (choice_ev l (by omega) k) (Ev.bind (rchoice_ev l (by omega) k) (Ev.bind hr1 (Ev.bind hr2 (Ev.bind awake_ev ?_))))
    simp only [if_true, beq_self_eq_true]
    refine Ev.bind (same_ev (chs l k).1 (by omega)) ?_
    simp only [if_true]
    exact Ev.now _
  | succ d ih =>
    intro i l hi hl
    have hx : 0 ≤ rd s (i : Int) ∧ rd s (i : Int) ≤ 255 := by
      have hi' : i < s.length := by omega
      have := hw s[i] (List.getElem_mem _)
      simpa [rd, List.getD_eq_getElem?_getD, List.getElem?_eq_getElem hi'] using this
    have ht : 0 ≤ Int.tmod (rd s (i : Int)) 6 ∧ Int.tmod (rd s (i : Int)) 6 ≤ 5 := by
      rw [Int.tmod_eq_emod_of_nonneg hx.1]; omega
    refine Ev.step (fun f => ?_) (ih (i + 1) (l ++ [(⟨(⟨0, 0⟩ : S27), (List.replicate (Int.tmod (rd s (i : Int)) 6).toNat z84)⟩ : S29)]) (by omega) (by simp [hl]))
    simp only [insolvencylaw22_DisputeChoice.l0]
    rw [w64 (x := Int.tmod (rd s (i : Int)) 6) (by omega) (by omega), if_pos (by omega), if_pos (by omega), if_pos (by omega), if_pos (by omega), if_pos (by omega), w64 (by omega) (by omega)]
    rfl
theorem DisputeChoice : insolvencylaw22_DisputeChoice.Pure := by
  intro s k c hs _ hw _ hc _ _
  have hw' : ∀ x ∈ s, 0 ≤ x ∧ x ≤ 255 := by
    intro x hx
    have := hw x hx
    simpa [Lit.wf, IntKind.min, IntKind.max, IntKind.signed, IntKind.bits] using this
  apply Ev.rounds
  have hj : Ev (fun f => insolvencylaw22_DisputeChoice.j0 f s k c true) true := by
    refine Ev.step (f := fun f => (insolvencylaw22_awake.f f).bind fun t => some t) (fun f => by simp only [insolvencylaw22_DisputeChoice.j0, if_true]) (Ev.bind awake_ev (Ev.now _))
  unfold insolvencylaw22_DisputeChoice.f
  by_cases h : (s.length : Int) > 8
  · simp only [if_pos h]
    exact hj
  · simp only [if_neg h]
    by_cases h2 : (c.length : Int) > 10
    · simp only [h2, decide_true]; exact hj
    · simp only [h2, decide_false]
      refine Ev.step (fun f => ?_) (law_l0 s k c (by omega) hw' s.length 0 [] (by omega) rfl)
      simp only [insolvencylaw22_DisputeChoice.j0]; rw [if_neg (by decide)]
      rfl
end Go.Proofs.Ytpoogjcgjpkbeaa.Pure
