/- Plain theory: numbers as limbs and as bytes, exact rationals and their one valid form, refunds over exact numbers. No Go in it; no conditions. -/
import Derived.Lib.ItoaNum
set_option linter.unusedVariables false
set_option linter.unusedSimpArgs false
namespace T
def val : List Int → Int
 | [] => 0
 | x :: l => x + 4294967296 * val l
def Lim (l : List Int) : Prop := ∀ x ∈ l, 0 ≤ x ∧ x < 4294967296
def Can (l : List Int) : Prop := Lim l ∧ ∀ x, l.getLast? = some x → x ≠ 0
theorem Lim.nil : Lim [] := fun _ h => by cases h
theorem Lim.cons {x : Int} {l : List Int} (h0 : 0 ≤ x) (h1 : x < 4294967296) (h : Lim l) : Lim (x :: l) := by
 intro y hy
 rcases List.mem_cons.1 hy with rfl | hy
 ·exact ⟨h0, h1⟩
 ·exact h y hy
theorem Lim.head {x : Int} {l : List Int} (h : Lim (x :: l)) : 0 ≤ x ∧ x < 4294967296 := h x List.mem_cons_self
theorem Lim.tail {x : Int} {l : List Int} (h : Lim (x :: l)) : Lim l := fun y hy => h y (List.mem_cons_of_mem _ hy)
theorem Lim.append {l m : List Int} (h : Lim l) (h' : Lim m) : Lim (l ++ m) := by
 intro y hy
 rcases List.mem_append.1 hy with hy | hy
 ·exact h y hy
 ·exact h' y hy
theorem Lim.take {l : List Int} (h : Lim l) (n : Nat) : Lim (l.take n) := fun y hy => h y (List.mem_of_mem_take hy)
theorem Lim.drop {l : List Int} (h : Lim l) (n : Nat) : Lim (l.drop n) := fun y hy => h y (List.mem_of_mem_drop hy)
theorem Lim.set {l : List Int} (h : Lim l) (n : Nat) {x : Int} (h0 : 0 ≤ x) (h1 : x < 4294967296) : Lim (l.set n x) := by
 intro y hy
 rcases List.mem_or_eq_of_mem_set hy with hy | rfl
 ·exact h y hy
 ·exact ⟨h0, h1⟩
theorem Lim.zeros (n : Nat) : Lim (List.replicate n 0) := by
 intro y hy
 rw [List.eq_of_mem_replicate hy]; omega
theorem Lim.get {l : List Int} (h : Lim l) (n : Nat) : 0 ≤ l.getD n 0 ∧ l.getD n 0 < 4294967296 := by
 rw [List.getD_eq_getElem?_getD]
 rcases Nat.lt_or_ge n l.length with hn | hn
 ·rw [List.getElem?_eq_getElem hn]; exact h _ (List.getElem_mem _)
 ·rw [List.getElem?_eq_none hn]; simp
theorem val_nonneg {l : List Int} (h : Lim l) : 0 ≤ val l := by
 induction l with
 | nil => simp [val]
 | cons x l ih =>
  have := ih h.tail
  have := h.head
  simp only [val]; omega
def bp (n : Nat) : Int := 4294967296 ^ n
theorem bp_zero : bp 0 = 1 := rfl
theorem bp_succ (n : Nat) : bp (n + 1) = 4294967296 * bp n := by unfold bp; rw [Int.pow_succ, Int.mul_comm]
theorem bp_pos (n : Nat) : 0 < bp n := by
 induction n with
 | zero => decide
 | succ n ih => rw [bp_succ]; omega
theorem bp_add (m n : Nat) : bp (m + n) = bp m * bp n := by unfold bp; rw [Int.pow_add]
theorem bp_mono {m n : Nat} (h : m ≤ n) : bp m ≤ bp n := by
 induction n with
 | zero => have : m = 0 := by omega
           rw [this]; exact Int.le_refl _
 | succ n ih =>
  have p := bp_pos n
  rcases Nat.lt_or_ge n m with hm | hm
  ·have : m = n + 1 := by omega
   rw [this]; exact Int.le_refl _
  ·have := ih hm
   rw [bp_succ]; omega
theorem val_lt {l : List Int} (h : Lim l) : val l < bp l.length := by
 induction l with
 | nil => decide
 | cons x l ih =>
  have := ih h.tail
  have := h.head
  simp only [val, List.length_cons]; rw [bp_succ]; omega
theorem val_append (l m : List Int) : val (l ++ m) = val l + bp l.length * val m := by
 induction l with
 | nil => simp [val, bp_zero]
 | cons x l ih =>
  simp only [List.cons_append, val, List.length_cons, ih, bp_succ]
  rw [Int.mul_add, Int.mul_assoc]; omega
theorem val_zeros (n : Nat) : val (List.replicate n 0) = 0 := by
 induction n with
 | zero => rfl
 | succ n ih => simp only [List.replicate_succ, val, ih]; omega
theorem val_set (l : List Int) (n : Nat) (x : Int) (h : n < l.length) : val (l.set n x) = val l + bp n * (x - l.getD n 0) := by
 induction l generalizing n with
 | nil => simp at h
 | cons y l ih =>
  cases n with
  | zero => simp [val, bp_zero]; omega
  | succ n =>
   have := ih n (by simpa using h)
   simp only [List.set_cons_succ, val, this, bp_succ, List.getD_cons_succ]
   rw [Int.mul_add, Int.mul_assoc]; omega
theorem val_take_drop (l : List Int) (n : Nat) (h : n ≤ l.length) : val l = val (l.take n) + bp n * val (l.drop n) := by
 have := val_append (l.take n) (l.drop n)
 rw [List.take_append_drop, List.length_take, Nat.min_eq_left h] at this
 exact this
theorem val_take_succ (l : List Int) (n : Nat) (h : n < l.length) : val (l.take (n + 1)) = val (l.take n) + bp n * l.getD n 0 := by
 have e : l.take (n + 1) = l.take n ++ [l.getD n 0] := by
  rw [List.take_succ_eq_append_getElem h, List.getD_eq_getElem?_getD, List.getElem?_eq_getElem h]; rfl
 rw [e, val_append, List.length_take, Nat.min_eq_left (by omega)]
 simp [val]
def lenc (n : Nat) : List Int := if h : n = 0 then [] else ((n % 4294967296 : Nat) : Int) :: lenc (n / 4294967296)
termination_by n
decreasing_by omega
theorem lenc_zero : lenc 0 = [] := by rw [lenc]; simp
theorem lenc_pos {n : Nat} (h : n ≠ 0) : lenc n = ((n % 4294967296 : Nat) : Int) :: lenc (n / 4294967296) := by rw [lenc]; simp [h]
theorem lenc_can (n : Nat) : Can (lenc n) := by
 induction n using Nat.strongRecOn with
 | _ n ih =>
  by_cases h : n = 0
  ·subst h; rw [lenc_zero]; exact ⟨Lim.nil, by simp⟩
  ·have := ih (n / 4294967296) (by omega)
   rw [lenc_pos h]
   refine ⟨Lim.cons (by omega) (by omega) this.1, ?_⟩
   intro x hx
   rw [List.getLast?_cons] at hx
   by_cases h2 : n / 4294967296 = 0
   ·rw [h2, lenc_zero] at hx
    simp at hx; omega
   ·have h3 : (lenc (n / 4294967296)) ≠ [] := by rw [lenc_pos h2]; simp
    obtain ⟨y, hy⟩ : ∃ y, (lenc (n / 4294967296)).getLast? = some y := ⟨_, List.getLast?_eq_some_getLast h3⟩
    rw [hy] at hx
    simp at hx
    exact this.2 x (by rw [hy, hx])
theorem lenc_val (n : Nat) : val (lenc n) = n := by
 induction n using Nat.strongRecOn with
 | _ n ih =>
  by_cases h : n = 0
  ·subst h; rw [lenc_zero]; rfl
  ·rw [lenc_pos h]
   simp only [val]
   rw [ih (n / 4294967296) (by omega)]; omega
theorem can_zero {l : List Int} (h : Can l) (hv : val l = 0) : l = [] := by
 induction l with
 | nil => rfl
 | cons x l ih =>
  exfalso
  have h0 := h.1.head
  have h1 := val_nonneg h.1.tail
  simp only [val] at hv
  have hl : l = [] := ih ⟨h.1.tail, fun y hy => h.2 y (by rw [List.getLast?_cons, hy]; rfl)⟩ (by omega)
  subst hl
  exact h.2 x rfl (by simp [val] at hv; omega)
theorem Can.tail {x : Int} {l : List Int} (h : Can (x :: l)) : Can l := ⟨h.1.tail, fun y hy => h.2 y (by rw [List.getLast?_cons, hy]; rfl)⟩
theorem can_unique {l m : List Int} (h : Can l) (h' : Can m) (e : val l = val m) : l = m := by
 induction l generalizing m with
 | nil => exact (can_zero h' (by simp [val] at e; omega)).symm
 | cons x l ih =>
  cases m with
  | nil => exact can_zero h (by simp [val] at e ⊢; omega)
  | cons y m =>
   have hx := h.1.head
   have hy := h'.1.head
   simp only [val] at e
   have hxy : x = y := by omega
   subst hxy
   rw [ih h.tail h'.tail (by omega)]
theorem can_eq {l : List Int} (h : Can l) : l = lenc (val l).toNat := by
 have := val_nonneg h.1
 exact can_unique h (lenc_can _) (by rw [lenc_val]; omega)
theorem lenc_nil {n : Nat} : lenc n = [] ↔ n = 0 := by
 constructor
 ·intro h
  have := lenc_val n
  rw [h] at this
  simp [val] at this; omega
 ·rintro rfl; exact lenc_zero
theorem can_low {l : List Int} (h : Can l) (hl : l ≠ []) : bp (l.length - 1) ≤ val l := by
 induction l with
 | nil => exact absurd rfl hl
 | cons x l ih =>
  have hx := h.1.head
  by_cases e : l = []
  ·subst e
   have := h.2 x rfl
   simp [val, bp_zero]; omega
  ·have := ih h.tail e
   have hp : 0 < l.length := List.length_pos_iff.2 e
   have e2 : (x :: l).length - 1 = (l.length - 1) + 1 := by simp; omega
   rw [e2, bp_succ]
   simp only [val]; omega
def nl (n : Nat) : Nat := (lenc n).length
theorem lt_nl (n : Nat) : (n : Int) < bp (nl n) := by
 have := val_lt (lenc_can n).1
 rw [lenc_val] at this; exact this
theorem nl_le {n : Nat} {k : Nat} (h : (n : Int) < bp k) : nl n ≤ k := by
 rcases Nat.lt_or_ge k (nl n) with hk | hk
 ·exfalso
  have hne : lenc n ≠ [] := by intro e; simp [nl, e] at hk
  have h1 := can_low (lenc_can n) hne
  rw [lenc_val] at h1
  have h2 : bp k ≤ bp ((lenc n).length - 1) := bp_mono (by have : nl n = (lenc n).length := rfl; omega)
  omega
 ·exact hk
theorem nl_mono {m n : Nat} (h : m ≤ n) : nl m ≤ nl n := nl_le (by have := lt_nl n; omega)
def blv : List UInt8 → Nat
 | [] => 0
 | b :: l => b.toNat + 256 * blv l
def bval (s : ByteArray) : Nat := blv s.data.toList.reverse
def BCan (s : ByteArray) : Prop := ∀ b, s.data.toList.head? = some b → b ≠ 0
def bdig (n : Nat) : List UInt8 := if h : n = 0 then [] else UInt8.ofNat (n % 256) :: bdig (n / 256)
termination_by n
decreasing_by omega
def benc (n : Nat) : ByteArray := ⟨(bdig n).reverse.toArray⟩
theorem bdig_zero : bdig 0 = [] := by rw [bdig]; simp
theorem bdig_pos {n : Nat} (h : n ≠ 0) : bdig n = UInt8.ofNat (n % 256) :: bdig (n / 256) := by rw [bdig]; simp [h]
theorem u8_lt (b : UInt8) : b.toNat < 256 := b.toNat_lt
theorem blv_append (l m : List UInt8) : blv (l ++ m) = blv l + 256 ^ l.length * blv m := by
 induction l with
 | nil => simp [blv]
 | cons b l ih => simp only [List.cons_append, blv, ih, List.length_cons, Nat.pow_succ]; rw [Nat.mul_add, Nat.mul_comm (256 ^ l.length) 256, Nat.mul_assoc]; omega
theorem blv_lt (l : List UInt8) : blv l < 256 ^ l.length := by
 induction l with
 | nil => simp [blv]
 | cons b l ih => have := u8_lt b; simp only [blv, List.length_cons, Nat.pow_succ]; omega
theorem blv_bdig (n : Nat) : blv (bdig n) = n := by
 induction n using Nat.strongRecOn with
 | _ n ih =>
  by_cases h : n = 0
  ·subst h; rw [bdig_zero]; rfl
  ·rw [bdig_pos h]
   simp only [blv]
   rw [ih (n / 256) (by omega)]
   simp; omega
theorem bdig_last (n : Nat) : ∀ b, (bdig n).getLast? = some b → b ≠ 0 := by
 induction n using Nat.strongRecOn with
 | _ n ih =>
  intro b hb
  by_cases h : n = 0
  ·subst h; rw [bdig_zero] at hb; simp at hb
  ·rw [bdig_pos h, List.getLast?_cons] at hb
   by_cases h2 : n / 256 = 0
   ·rw [h2, bdig_zero] at hb
    simp at hb
    subst hb
    intro e
    have := congrArg UInt8.toNat e
    simp at this; omega
   ·have h3 : bdig (n / 256) ≠ [] := by rw [bdig_pos h2]; simp
    obtain ⟨y, hy⟩ : ∃ y, (bdig (n / 256)).getLast? = some y := ⟨_, List.getLast?_eq_some_getLast h3⟩
    rw [hy] at hb
    simp at hb
    exact ih (n / 256) (by omega) b (by rw [hy, hb])
theorem blv_zero {l : List UInt8} (h : ∀ b, l.getLast? = some b → b ≠ 0) (hv : blv l = 0) : l = [] := by
 induction l with
 | nil => rfl
 | cons x l ih =>
  exfalso
  simp only [blv] at hv
  have hl : l = [] := ih (fun y hy => h y (by rw [List.getLast?_cons, hy]; rfl)) (by omega)
  subst hl
  refine h x rfl ?_
  have : x.toNat = 0 := by omega
  exact UInt8.toNat_inj.1 (by simpa using this)
theorem blv_unique {l m : List UInt8} (h : ∀ b, l.getLast? = some b → b ≠ 0) (h' : ∀ b, m.getLast? = some b → b ≠ 0) (e : blv l = blv m) : l = m := by
 induction l generalizing m with
 | nil => exact (blv_zero h' (by simp [blv] at e; omega)).symm
 | cons x l ih =>
  cases m with
  | nil => exact blv_zero h (by simp [blv] at e ⊢; omega)
  | cons y m =>
   have hx := u8_lt x
   have hy := u8_lt y
   simp only [blv] at e
   have hxy : x = y := UInt8.toNat_inj.1 (by omega)
   subst hxy
   rw [ih (fun y hy => h y (by rw [List.getLast?_cons, hy]; rfl)) (fun y hy => h' y (by rw [List.getLast?_cons, hy]; rfl)) (by omega)]
theorem bval_benc (n : Nat) : bval (benc n) = n := by simp [bval, benc, blv_bdig]
theorem bcan_benc (n : Nat) : BCan (benc n) := by
 intro b hb
 simp [benc] at hb
 exact bdig_last n b hb
theorem ba_ext {s t : ByteArray} (h : s.data.toList = t.data.toList) : s = t := by
 have := Array.toList_inj.1 h
 cases s; cases t
 exact congrArg ByteArray.mk this
theorem bcan_unique {s t : ByteArray} (h : BCan s) (h' : BCan t) (e : bval s = bval t) : s = t := by
 have := blv_unique (l := s.data.toList.reverse) (m := t.data.toList.reverse) (fun b hb => h b (by simpa using hb)) (fun b hb => h' b (by simpa using hb)) e
 exact ba_ext (List.reverse_inj.1 this)
theorem bcan_eq {s : ByteArray} (h : BCan s) : s = benc (bval s) := bcan_unique h (bcan_benc _) (bval_benc _).symm
theorem benc_inj {m n : Nat} (h : benc m = benc n) : m = n := by rw [← bval_benc m, h, bval_benc]
theorem benc_zero : benc 0 = ⟨#[]⟩ := by simp [benc, bdig_zero]
theorem bval_empty : bval ⟨#[]⟩ = 0 := rfl
def nb (n : Nat) : Nat := (bdig n).length
theorem benc_size (n : Nat) : (benc n).size = nb n := by simp [benc, nb, ByteArray.size]
theorem bval_lt (s : ByteArray) : bval s < 256 ^ s.size := by
 have := blv_lt s.data.toList.reverse
 rw [List.length_reverse, Array.length_toList] at this
 exact this
theorem lt_nb (n : Nat) : n < 256 ^ nb n := by
 have := blv_lt (bdig n)
 rwa [blv_bdig] at this
theorem nb_zero : nb 0 = 0 := by simp [nb, bdig_zero]
theorem nb_pos {n : Nat} (h : n ≠ 0) : nb n = nb (n / 256) + 1 := by unfold nb; rw [bdig_pos h]; rfl
theorem nb_low (n : Nat) (h : n ≠ 0) : 256 ^ (nb n - 1) ≤ n := by
 induction n using Nat.strongRecOn with
 | _ n ih =>
  rw [nb_pos h]
  by_cases h2 : n / 256 = 0
  ·rw [h2, nb_zero]; simp; omega
  ·have := ih (n / 256) (by omega) h2
   have h3 : nb (n / 256) ≠ 0 := by rw [nb_pos h2]; omega
   have e : nb (n / 256) + 1 - 1 = (nb (n / 256) - 1) + 1 := by omega
   rw [e, Nat.pow_succ]; omega
theorem nb_le {n k : Nat} (h : n < 256 ^ k) : nb n ≤ k := by
 rcases Nat.lt_or_ge k (nb n) with hk | hk
 ·exfalso
  have hne : n ≠ 0 := by rintro rfl; simp [nb_zero] at hk
  have h1 := nb_low n hne
  have h2 : 256 ^ k ≤ 256 ^ (nb n - 1) := Nat.pow_le_pow_right (by decide) (by omega)
  omega
 ·exact hk
theorem nb_mono {m n : Nat} (h : m ≤ n) : nb m ≤ nb n := nb_le (by have := lt_nb n; omega)
theorem nb_add (m n : Nat) : nb (m + n) ≤ max (nb m) (nb n) + 1 := by
 apply nb_le
 have h1 := lt_nb m
 have h2 := lt_nb n
 have h3 : 256 ^ nb m ≤ 256 ^ (max (nb m) (nb n)) := Nat.pow_le_pow_right (by decide) (Nat.le_max_left _ _)
 have h4 : 256 ^ nb n ≤ 256 ^ (max (nb m) (nb n)) := Nat.pow_le_pow_right (by decide) (Nat.le_max_right _ _)
 rw [Nat.pow_succ]; omega
theorem nb_mul (m n : Nat) : nb (m * n) ≤ nb m + nb n := by
 apply nb_le
 have h1 := lt_nb m
 have h2 := lt_nb n
 rw [Nat.pow_add]
 exact Nat.mul_lt_mul_of_lt_of_le h1 (Nat.le_of_lt h2) (by omega)
theorem nb_bval (s : ByteArray) : nb (bval s) ≤ s.size := nb_le (bval_lt s)
theorem bp_256 (k : Nat) : bp k = ((256 ^ (4 * k) : Nat) : Int) := by
 unfold bp
 rw [Nat.pow_mul]
 simp
theorem nb_nl (n : Nat) : nb n ≤ 4 * nl n := by
 apply nb_le
 have := lt_nl n
 rw [bp_256] at this
 exact Int.ofNat_lt.1 this
theorem nl_nb (n : Nat) : nl n ≤ (nb n + 3) / 4 := by
 apply nl_le
 have := lt_nb n
 rw [bp_256]
 apply Int.ofNat_lt.2
 exact Nat.lt_of_lt_of_le this (Nat.pow_le_pow_right (by decide) (by omega))
theorem nl_nb' (n : Nat) : nl n ≤ nb n := by have := nl_nb n; omega
theorem knuth_dec {U V P W T q : Int} (hV : P * W ≤ V) (hU : U < P * (T + 1)) (hq : 0 ≤ q) (hP : 0 < P) (h : T < q * W) : U < q * V := by
 have h1 : P * (T + 1) ≤ P * (q * W) := Int.mul_le_mul_of_nonneg_left (by omega) (by omega)
 have h2 : q * (P * W) ≤ q * V := Int.mul_le_mul_of_nonneg_left hV hq
 have h3 : P * (q * W) = q * (P * W) := by grind
 omega
theorem knuth_le {U V P W T q : Int} (hV : V < P * (W + 1)) (hU : P * T ≤ U) (hq : 1 ≤ q) (hqW : q ≤ W + 1) (hP : 0 < P) (h : q * W ≤ T) : (q - 1) * V ≤ U := by
 have h1 : (q - 1) * V ≤ (q - 1) * (P * (W + 1)) := Int.mul_le_mul_of_nonneg_left (by omega) (by omega)
 have h2 : (q - 1) * (P * (W + 1)) = P * (q * W + (q - W - 1)) := by grind
 have h3 : P * (q * W + (q - W - 1)) ≤ P * T := Int.mul_le_mul_of_nonneg_left (by omega) (by omega)
 omega
theorem quot_is {U V q : Int} (hV : 0 < V) (h1 : q * V ≤ U) (h2 : U < (q + 1) * V) : U / V = q ∧ U % V = U - q * V := by
 have h3 : (q + 1) * V = q * V + V := by grind
 have e : U = (U - q * V) + q * V := by omega
 have : U / V = q := by
  rw [e, Int.add_mul_ediv_right _ _ (by omega), Int.ediv_eq_zero_of_lt (by omega) (by omega)]; omega
 refine ⟨this, ?_⟩
 have := Int.emod_def U V
 rw [‹U / V = q›] at this
 rw [this, Int.mul_comm]
theorem getD_take {l : List Int} {n i : Nat} (h : i < n) : (l.take n).getD i 0 = l.getD i 0 := by
 rw [List.getD_eq_getElem?_getD, List.getD_eq_getElem?_getD, List.getElem?_take_of_lt h]
theorem getD_drop (l : List Int) (n i : Nat) : (l.drop n).getD i 0 = l.getD (n + i) 0 := by
 rw [List.getD_eq_getElem?_getD, List.getD_eq_getElem?_getD, List.getElem?_drop]
theorem val_top2 (l : List Int) (m : Nat) (h : l.length = m + 2) : val l = val (l.take m) + bp m * (l.getD (m + 1) 0 * 4294967296 + l.getD m 0) := by
 have h1 := val_take_succ l (m + 1) (by omega)
 have h2 := val_take_succ l m (by omega)
 rw [show m + 1 + 1 = l.length by omega, List.take_length, h2, bp_succ] at h1
 rw [h1]
 generalize l.getD (m + 1) 0 = b; generalize l.getD m 0 = c; generalize bp m = p; generalize val (l.take m) = z
 clear h1 h2 h
 grind
theorem val_top3 (l : List Int) (m : Nat) (h : l.length = m + 3) : val l = val (l.take m) + bp m * ((l.getD (m + 2) 0 * 4294967296 + l.getD (m + 1) 0) * 4294967296 + l.getD m 0) := by
 have h1 := val_take_succ l (m + 2) (by omega)
 have h2 := val_take_succ l (m + 1) (by omega)
 have h3 := val_take_succ l m (by omega)
 rw [show m + 2 + 1 = l.length by omega, List.take_length, h2, h3, bp_succ (m + 1), bp_succ m] at h1
 rw [h1]
 generalize l.getD (m + 2) 0 = a; generalize l.getD (m + 1) 0 = b; generalize l.getD m 0 = c; generalize bp m = p; generalize val (l.take m) = z
 clear h1 h2 h3 h
 grind
theorem val_take_lt {l : List Int} (h : Lim l) (m : Nat) (hm : m ≤ l.length) : 0 ≤ val (l.take m) ∧ val (l.take m) < bp m := by
 refine ⟨val_nonneg (h.take m), ?_⟩
 have := val_lt (h.take m)
 rwa [List.length_take, Nat.min_eq_left hm] at this
theorem mulsub_round {u v : List Int} {j i : Nat} {g c b x y b' cp s t : Int} (hi : j + i < u.length) (hv : i < v.length)
  (hinv : val (u.take (j + i)) = s - bp j * (g * val (v.take i)) + bp (j + i) * (c + b)) 
  (hcp : cp = c + g * v.getD i 0) (hy : y = cp % 4294967296 + b) (ht : t = x - y + 4294967296 * b') (hs : (u.set (j + i) t).length = u.length) :
  val ((u.set (j + i) t).take (j + (i + 1))) = (s + bp (j + i) * x) - bp j * (g * val (v.take (i + 1))) + bp (j + (i + 1)) * (cp / 4294967296 + b') := by
 have h1 := val_take_succ (u.set (j + i) t) (j + i) (by omega)
 have h2 : (u.set (j + i) t).take (j + i) = u.take (j + i) := by rw [List.take_set_of_le (Nat.le_refl _)]
 have h3 : (u.set (j + i) t).getD (j + i) 0 = t := by rw [List.getD_eq_getElem?_getD, List.getElem?_set_self hi]; rfl
 rw [h2, h3, hinv] at h1
 have h4 := val_take_succ v i hv
 have h5 : bp (j + i) = bp j * bp i := bp_add j i
 have h6 : cp = 4294967296 * (cp / 4294967296) + cp % 4294967296 := by omega
 rw [show j + (i + 1) = j + i + 1 by omega, h1, h4, bp_succ, h5, ht, hy]
 generalize cp / 4294967296 = cd at *
 generalize cp % 4294967296 = cm at *
 have h7 : g * v.getD i 0 = 4294967296 * cd + cm - c := by omega
 clear hinv h1 h2 h3 h4 h5 hy ht hs h6 hcp hi hv
 generalize v.getD i 0 = vi at *; generalize val (v.take i) = vt; generalize bp j = pj; generalize bp i = pi
 grind
def qN (q : Rat) : Bool := decide (q.num < 0)
def qA (q : Rat) : ByteArray := benc q.num.natAbs
def qD (q : Rat) : ByteArray := if q.den = 1 then ⟨#[]⟩ else benc q.den
def sgn (n : Bool) (a : Nat) : Int := if n then -(a : Int) else a
def dn (d : ByteArray) : Nat := if d.size = 0 then 1 else bval d
def Vld (n : Bool) (a d : ByteArray) : Prop := BCan a ∧ BCan d ∧ (a.size = 0 → n = false ∧ d.size = 0) ∧ (a.size ≠ 0 → d.size = 0 ∨ bval d ≠ 1 ∧ Nat.gcd (bval a) (bval d) = 1)
noncomputable instance (n : Bool) (a d : ByteArray) : Decidable (Vld n a d) := Classical.propDecidable _
noncomputable def toQ (n : Bool) (a d : ByteArray) : Rat := if Vld n a d then mkRat (sgn n (bval a)) (dn d) else 0
theorem size_zero {s : ByteArray} (h : s.size = 0) : s = ⟨#[]⟩ := by
 apply ba_ext
 have : s.data.size = 0 := h
 rw [Array.size_eq_zero_iff] at this
 rw [this]
theorem empty_size : (⟨#[]⟩ : ByteArray).size = 0 := rfl
theorem dn_empty : dn ⟨#[]⟩ = 1 := rfl
theorem bcan_pos {s : ByteArray} (h : BCan s) (hs : s.size ≠ 0) : bval s ≠ 0 := by
 intro e
 rw [bcan_eq h, e, benc_zero] at hs
 exact hs rfl
theorem benc_size_zero {n : Nat} : (benc n).size = 0 ↔ n = 0 := by
 constructor
 ·intro h
  by_cases e : n = 0
  ·exact e
  ·exfalso; rw [benc_size, nb_pos e] at h; omega
 ·rintro rfl; rw [benc_zero]; rfl
theorem dn_qD (q : Rat) : dn (qD q) = q.den := by
 unfold qD
 by_cases e : q.den = 1
 ·rw [if_pos e, dn_empty, e]
 ·unfold dn
  rw [if_neg e, if_neg (by rw [benc_size_zero]; exact q.den_nz), bval_benc]
theorem sgn_q (q : Rat) : sgn (qN q) (bval (qA q)) = q.num := by
 unfold sgn qN qA
 rw [bval_benc]
 by_cases h : q.num < 0
 ·simp [h]; omega
 ·simp [h]; omega
theorem vld_q (q : Rat) : Vld (qN q) (qA q) (qD q) := by
 refine ⟨bcan_benc _, ?_, ?_, ?_⟩
 ·unfold qD; split
  ·intro b hb; simp at hb
  ·exact bcan_benc _
 ·intro h
  have : q.num = 0 := by
   unfold qA at h; rw [benc_size_zero] at h; omega
  have : q = 0 := Rat.num_eq_zero.1 this
  subst this
  exact ⟨rfl, rfl⟩
 ·intro h
  by_cases e : q.den = 1
  ·left; unfold qD; rw [if_pos e]; rfl
  ·right
   unfold qD qA
   rw [if_neg e, bval_benc, bval_benc]
   exact ⟨e, q.reduced⟩
theorem toQ_q (q : Rat) : toQ (qN q) (qA q) (qD q) = q := by
 unfold toQ
 rw [if_pos (vld_q q), sgn_q, dn_qD, Rat.mkRat_self]
theorem mkRat_red {n : Int} {d : Nat} (hd : d ≠ 0) (h : Nat.gcd n.natAbs d = 1) : (mkRat n d).num = n ∧ (mkRat n d).den = d := by
 rw [Rat.num_mkRat, Rat.den_mkRat, if_neg hd, if_neg hd, Nat.gcd_comm, h]
 simp
theorem vld_parts {n : Bool} {a d : ByteArray} (h : Vld n a d) : dn d ≠ 0 ∧ Nat.gcd (sgn n (bval a)).natAbs (dn d) = 1 := by
 obtain ⟨h1, h2, h3, h4⟩ := h
 have ha : (sgn n (bval a)).natAbs = bval a := by unfold sgn; split <;> omega
 rw [ha]
 by_cases e : d.size = 0
 ·simp [dn, e]
 ·refine ⟨by simp only [dn, if_neg e]; exact bcan_pos h2 e, ?_⟩
  have hz : a.size ≠ 0 := fun hz => e (h3 hz).2
  rcases h4 hz with h | h
  ·exact absurd h e
  ·simp only [dn, if_neg e]; exact h.2
theorem q_vld {n : Bool} {a d : ByteArray} (h : Vld n a d) : qN (toQ n a d) = n ∧ qA (toQ n a d) = a ∧ qD (toQ n a d) = d := by
 have hp := vld_parts h
 unfold toQ
 rw [if_pos h]
 obtain ⟨e1, e2⟩ := mkRat_red hp.1 hp.2
 obtain ⟨h1, h2, h3, h4⟩ := h
 refine ⟨?_, ?_, ?_⟩
 ·unfold qN; rw [e1]
  unfold sgn
  cases n
  ·simp
  ·have : bval a ≠ 0 := bcan_pos h1 (fun hz => by simpa using (h3 hz).1)
   simp; omega
 ·unfold qA; rw [e1]
  have ha : (sgn n (bval a)).natAbs = bval a := by unfold sgn; split <;> omega
  rw [ha]; exact (bcan_eq h1).symm
 ·unfold qD; rw [e2]
  by_cases e : d.size = 0
  ·rw [size_zero e, dn_empty, if_pos rfl]
  ·have hz : a.size ≠ 0 := fun hz => e (h3 hz).2
   rcases h4 hz with h | h
   ·exact absurd h e
   ·simp only [dn, if_neg e]; rw [if_neg h.1]; exact (bcan_eq h2).symm
theorem not_vld {n : Bool} {a d : ByteArray} (h : ¬ Vld n a d) : toQ n a d = 0 := by unfold toQ; rw [if_neg h]
theorem qN_zero : qN 0 = false := by simp [qN]
theorem qA_zero : qA 0 = ⟨#[]⟩ := by simp [qA, benc_zero]
theorem qD_zero : qD 0 = ⟨#[]⟩ := by simp [qD]
def sz (q : Rat) : Nat := nb q.num.natAbs + nb q.den
theorem sz_zero : sz 0 = 1 := by
 have : nb 1 = 1 := by rw [nb_pos (by decide)]; simp [nb_zero]
 simp [sz, nb_zero, this]
theorem den_dvd (n : Int) (d : Nat) (hd : d ≠ 0) : (mkRat n d).num.natAbs ≤ n.natAbs ∧ (mkRat n d).den ≤ d := by
 rw [Rat.num_mkRat, Rat.den_mkRat, if_neg hd, if_neg hd]
 refine ⟨?_, Nat.div_le_self _ _⟩
 have h1 : ((d.gcd n.natAbs : Nat) : Int) ∣ n := by
  have := Nat.gcd_dvd_right d n.natAbs
  exact Int.ofNat_dvd_left.2 this
 rw [Int.natAbs_ediv_of_dvd h1]
 exact Nat.div_le_self _ _
theorem sz_mkRat (n : Int) (d : Nat) (hd : d ≠ 0) : sz (mkRat n d) ≤ nb n.natAbs + nb d := by
 have := den_dvd n d hd
 have h1 := nb_mono this.1
 have h2 := nb_mono this.2
 unfold sz; omega
theorem sz_toQ (n : Bool) (a d : ByteArray) : sz (toQ n a d) ≤ a.size + d.size + 1 := by
 unfold toQ
 split
 ·rename_i h
  have hp := vld_parts h
  have h1 := sz_mkRat (sgn n (bval a)) (dn d) hp.1
  have ha : (sgn n (bval a)).natAbs = bval a := by unfold sgn; split <;> omega
  rw [ha] at h1
  have h2 := nb_bval a
  have h3 : nb (dn d) ≤ d.size + 1 := by
   unfold dn; split
   ·rw [nb_pos (by decide)]; simp [nb_zero]
   ·have := nb_bval d; omega
  omega
 ·rw [sz_zero]; omega
end T
