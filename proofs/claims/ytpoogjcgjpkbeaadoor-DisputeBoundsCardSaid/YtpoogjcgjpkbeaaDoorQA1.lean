/- What the program's plain functions answer: towards the law DisputeBounds. No conditions but those that each theorem names. -/
import Derived.Test.YtpoogjcgjpkbeaaDoorT
import Derived.Test.YtpoogjcgjpkbeaaDoorXA4
import Derived.Test.YtpoogjcgjpkbeaaDoorWShelf
import Derived.Lib.ItoaNum
set_option linter.unusedVariables false
set_option linter.unusedSimpArgs false
namespace Go.Proofs.YtpoogjcgjpkbeaaDoor.Pure
open Go.RowKit Go.Proofs.YtpoogjcgjpkbeaaDoor.XA Go.Proofs.YtpoogjcgjpkbeaaDoorW.PrintWords Go.Proofs.YtpoogjcgjpkbeaaDoorW.PrintLast Go.Proofs.YtpoogjcgjpkbeaaDoorW.PrintMore
open T
theorem w64 {x : Int} (h : -9223372036854775808 ≤ x) (h2 : x ≤ 9223372036854775807) : wrap64 x = x := by unfold wrap64; omega
theorem u64m (x : Int) : IntKind.u64.wrap x = x % 18446744073709551616 := by simp [IntKind.wrap, IntKind.bits, IntKind.signed]
theorem u64 {x : Int} (h : 0 ≤ x) (h2 : x < 18446744073709551616) : IntKind.u64.wrap x = x := by rw [u64m]; omega
theorem u32m (x : Int) : IntKind.u32.wrap x = x % 4294967296 := IntKind.wrap_u32 x
theorem or_add {x y : Int} (hx : 0 ≤ x) (hx1 : x < 4294967296) (hy : 0 ≤ y) (hy1 : y < 4294967296) : Go.bits .or .u64 (IntKind.u64.wrap (x * 4294967296)) (IntKind.u64.wrap y) = x * 4294967296 + y := by
 rw [u64 (by omega) (by omega), u64 (by omega) (by omega)]
 exact Go.bits_join .u64 64 (by decide) (fun n h0 h1 => u64 h0 (by omega)) 32 (x * 4294967296) y (by omega) (by omega) (by omega) (by omega) (by omega) (by omega)
theorem or32_add {x y : Int} (i : Nat) (hx : 0 ≤ x) (hx1 : x < 4294967296) (hxm : x % 2 ^ i = 0) (hy : 0 ≤ y) (hy1 : y < 2 ^ i) (hy2 : y < 4294967296) : Go.bits .or .u32 x y = x + y :=
 Go.bits_join .u32 32 (by decide) (fun n h0 h1 => by rw [u32m]; omega) i x y hx hxm (by omega) hy hy1 (by omega)
theorem or_comm (k : IntKind) (x y : Int) : Go.bits .or k x y = Go.bits .or k y x := by simp only [Go.bits]; rw [BitVec.or_comm]
theorem or32_add' {x y : Int} (i : Nat) (hx : 0 ≤ x) (hx1 : x < 4294967296) (hxm : x % 2 ^ i = 0) (hy : 0 ≤ y) (hy1 : y < 2 ^ i) (hy2 : y < 4294967296) : Go.bits .or .u32 y x = y + x := by
 rw [or_comm, or32_add i hx hx1 hxm hy hy1 hy2]; omega
theorem rd_nat (l : List Int) (i : Nat) : rd l (i : Int) = l.getD i 0 := by simp [rd]
theorem size_list (s : ByteArray) : s.size = s.data.toList.length := by rw [Array.length_toList]; rfl
theorem bt_nat (s : ByteArray) (i : Nat) : bt s (i : Int) = ((s.data.toList.getD i 0).toNat : Int) := by
 unfold bt
 simp only [Int.toNat_natCast]
 split
 ·rename_i h
  rw [List.getD_eq_getElem?_getD, List.getElem?_eq_getElem (by rw [← size_list]; exact h)]
  simp [ByteArray.getElem_eq_getElem_data]
 ·rename_i h
  rw [List.getD_eq_getElem?_getD, List.getElem?_eq_none (by rw [← size_list]; omega)]
  rfl
theorem extract_list (s : ByteArray) (i : Nat) : (s.extract i s.size).data.toList = s.data.toList.drop i := by
 rw [ByteArray.data_extract, Array.toList_extract]; simp only [List.extract_eq_take_drop]; rw [List.take_of_length_le (by rw [List.length_drop, size_list]; exact Nat.le_refl _)]
theorem extract_size (s : ByteArray) (i : Nat) : (s.extract i s.size).size = s.size - i := by rw [size_list, extract_list, List.length_drop, size_list]
theorem bval_drop (s : ByteArray) (i : Nat) (h : ∀ j, j < i → s.data.toList.getD j 0 = 0) : bval (s.extract i s.size) = bval s := by
 unfold bval
 rw [extract_list]
 generalize s.data.toList = l at *
 induction i generalizing l with
 | zero => simp
 | succ i ih =>
  cases l with
  | nil => simp
  | cons b l =>
   have hb : b = 0 := by simpa using h 0 (by omega)
   rw [List.drop_succ_cons, ih l (fun j hj => by simpa using h (j + 1) (by omega)), List.reverse_cons, blv_append, hb]
   simp [blv]
theorem extract_benc (s : ByteArray) (i : Nat) (h : ∀ j, j < i → s.data.toList.getD j 0 = 0) (h2 : i < s.size → s.data.toList.getD i 0 ≠ 0) : s.extract i s.size = benc (bval s) := by
 rw [← bval_drop s i h]
 refine bcan_eq fun b hb => ?_
 rw [extract_list, List.head?_drop] at hb
 by_cases hi : i < s.size
 ·have := h2 hi
  rw [List.getD_eq_getElem?_getD, hb] at this
  simpa using this
 ·rw [List.getElem?_eq_none (by rw [size_list] at hi; omega)] at hb; cases hb
theorem trim_ev (n : Nat) : ∀ s : ByteArray, s.size = n → Ev (fun k => strings_trimLeftByte.l0 k s 0) (benc (bval s)) := by
 induction n with
 | zero =>
  intro s hs
  have e : s = ⟨#[]⟩ := size_zero hs
  refine Ev.step (f := fun _ => some s) (fun k => ?_) ?_
  ·simp only [strings_trimLeftByte.l0]; rw [if_neg (by omega)]
  ·rw [e, bval_empty, benc_zero]; exact Ev.now _
 | succ n ih =>
  intro s hs
  by_cases h : bt s 0 = 0
  ·have hb : s.data.toList.getD 0 0 = 0 := by
    have := bt_nat s 0
    rw [show ((0 : Nat) : Int) = 0 from rfl, h] at this
    exact UInt8.toNat_inj.1 (by simpa using this.symm)
   have e := bval_drop s 1 (fun j hj => by rw [show j = 0 by omega]; exact hb)
   refine Ev.step (fun k => ?_) (e ▸ ih (s.extract 1 s.size) (by rw [extract_size]; omega))
   simp only [strings_trimLeftByte.l0]; rw [if_pos (by omega), if_pos (by omega), if_pos h, if_pos (by omega)]
  ·refine Ev.step (f := fun _ => some s) (fun k => ?_) ?_
   ·simp only [strings_trimLeftByte.l0]; rw [if_pos (by omega), if_pos (by omega), if_neg h]
   ·have : s = benc (bval s) := bcan_eq fun b hb => by
     intro e
     apply h
     have := bt_nat s 0
     rw [List.getD_eq_getElem?_getD, ← List.head?_eq_getElem?, hb, e] at this
     simpa using this
    rw [← this]; exact Ev.now _
theorem bt_one : bt (⟨#[0]⟩ : ByteArray) 0 = 0 := rfl
theorem size_one : (⟨#[0]⟩ : ByteArray).size = 1 := rfl
theorem normalize_ev (s : ByteArray) : Ev (fun k => nt_Normalize.f k s) (benc (bval s)) := by
 unfold nt_Normalize.f
 refine Ev.bind (a := benc (bval s)) ?_ (Ev.now _)
 unfold strings_TrimLeft.f
 by_cases h : s.toList = ([] : List UInt8)
 ·simp only [h, if_true]
  have hs : s.size = 0 := by rw [size_list, ← Go.Lib.toList_data, h]; rfl
  refine Ev.step (f := fun _ => some s) (fun k => by simp only [strings_TrimLeft.j0, if_true]) ?_
  have e : s = ⟨#[]⟩ := size_zero hs
  rw [e, bval_empty, benc_zero]; exact Ev.now _
 ·simp only [h, if_false]
  have h1 : ((⟨#[0]⟩ : ByteArray).toList == ([] : List UInt8)) = false := by rw [Go.Lib.toList_data]; rfl
  simp only [h1]
  refine Ev.step (f := fun k => strings_TrimLeft.j1 k s ⟨#[0]⟩ true) (fun k => by simp only [strings_TrimLeft.j0, size_one, bt_one]; simp) ?_
  refine Ev.step (f := fun k => (strings_trimLeftByte.f k s (bt (⟨#[0]⟩ : ByteArray) 0)).bind fun t317 => (some t317)) (fun k => by simp only [strings_TrimLeft.j1, size_one]; simp) ?_
  refine Ev.bind (a := benc (bval s)) ?_ (Ev.now _)
  simp only [strings_trimLeftByte.f, bt_one]
  exact trim_ev _ s rfl
theorem lim_trim {l : List Int} (h : Lim l) (n : Nat) (hz : ∀ j, n ≤ j → j < l.length → l.getD j 0 = 0) (hn : n ≤ l.length) (h2 : 0 < n → l.getD (n - 1) 0 ≠ 0) : l.take n = lenc (val l).toNat := by
 have hv : val (l.take n) = val l := by
  rw [val_take_drop l n hn]
  have : l.drop n = List.replicate (l.length - n) 0 := by
   apply List.ext_getElem
   ·simp
   ·intro i h1 h3
    have := hz (n + i) (by omega) (by simp at h1; omega)
    rw [List.getD_eq_getElem?_getD, List.getElem?_eq_getElem (by simp at h1; omega)] at this
    simpa using this
  rw [this, val_zeros]; omega
 rw [← hv]
 refine can_eq ⟨h.take n, fun x hx => ?_⟩
 by_cases h0 : n = 0
 ·subst h0; simp at hx
 ·have := h2 (by omega)
  rw [List.getLast?_eq_getElem?, List.length_take, show min n l.length = n by omega, List.getElem?_take, if_pos (by omega)] at hx
  rw [List.getD_eq_getElem?_getD, hx] at this
  simpa using this
theorem ltrim_ev {l : List Int} (h : Lim l) (hl : l.length < 4294967296) : ∀ n : Nat, n ≤ l.length → (∀ j, n ≤ j → j < l.length → l.getD j 0 = 0) → Ev (fun k => nt_limbs_trim.l0 k l n) (lenc (val l).toNat) := by
 intro n
 induction n with
 | zero =>
  intro hn hz
  refine Ev.step (f := fun _ => some (l.take 0)) (fun k => ?_) ?_
  ·simp only [nt_limbs_trim.l0]; rw [if_neg (by omega), if_pos (by omega), if_pos (by omega)]; simp
  ·rw [lim_trim h 0 hz hn (by omega)]; exact Ev.now _
 | succ n ih =>
  intro hn hz
  have e : wrap64 (((n + 1 : Nat) : Int) - 1) = (n : Int) := by rw [w64 (by omega) (by omega)]; omega
  by_cases h0 : l.getD n 0 = 0
  ·refine Ev.step (fun k => ?_) (ih (by omega) fun j hj hjl => ?_)
   ·simp only [nt_limbs_trim.l0, e, rd_nat, h0]; rw [if_pos (by omega), if_pos (by omega), if_pos (by omega)]; rfl
   ·by_cases hjn : j = n
    ·rw [hjn]; exact h0
    ·exact hz j (by omega) hjl
  ·refine Ev.step (f := fun _ => some (l.take (n + 1))) (fun k => ?_) ?_
   ·simp only [nt_limbs_trim.l0, e, rd_nat, h0]; rw [if_pos (by omega), if_pos (by omega), if_pos (by omega), if_neg (by simp), if_pos (by omega), if_pos (by omega)]; rfl
   ·rw [lim_trim h (n + 1) hz hn (fun _ => h0)]; exact Ev.now _
theorem limbs_trim_ev {l : List Int} (h : Lim l) (hl : l.length < 4294967296) : Ev (fun k => nt_limbs_trim.f k l) (lenc (val l).toNat) :=
 ltrim_ev h hl l.length (Nat.le_refl _) fun j h1 h2 => absurd h2 (by omega)
theorem tdiv4 (i : Nat) : Int.tdiv (i : Int) 4 = ((i / 4 : Nat) : Int) := rfl
theorem tmod4 (i : Nat) : Int.tmod (i : Int) 4 = ((i % 4 : Nat) : Int) := rfl
theorem blv_take (L : List UInt8) (i : Nat) (h : i < L.length) : blv (L.take (i + 1)) = blv (L.take i) + 256 ^ i * (L.getD i 0).toNat := by
 rw [List.take_add_one, List.getElem?_eq_getElem h, blv_append, List.length_take, show min i L.length = i by omega]
 simp [blv, List.getD_eq_getElem?_getD, List.getElem?_eq_getElem h]
theorem bp_split (i : Nat) : ((256 ^ i : Nat) : Int) = bp (i / 4) * ((2 ^ (8 * (i % 4)) : Nat) : Int) := by
 rw [bp_256, ← Int.natCast_mul]
 congr 1
 rw [show (2 : Nat) ^ (8 * (i % 4)) = 256 ^ (i % 4) by rw [show (256 : Nat) = 2 ^ 8 by rfl, ← Nat.pow_mul], ← Nat.pow_add, show 4 * (i / 4) + i % 4 = i by omega]
theorem val_get_le {l : List Int} (h : Lim l) (q : Nat) (hq : q < l.length) : bp q * l.getD q 0 ≤ val l := by
 rw [val_take_drop l (q + 1) hq, val_take_succ l q hq]
 have h1 := val_nonneg (h.take q)
 have h2 := Int.mul_nonneg (Int.le_of_lt (bp_pos (q + 1))) (val_nonneg (h.drop (q + 1)))
 omega
theorem limb_step {x : List Int} {L : List UInt8} {i : Nat} (hlim : Lim x) (hv : val x = (blv (L.take i) : Int)) (hi : i < L.length) (hlen : i / 4 < x.length) :
  Lim (x.set (i / 4) (Go.bits .or .u32 (x.getD (i / 4) 0) (shl .u32 (((L.getD i 0).toNat : Int) % 4294967296) ((8 * (i % 4) : Nat) : Int)))) ∧
  val (x.set (i / 4) (Go.bits .or .u32 (x.getD (i / 4) 0) (shl .u32 (((L.getD i 0).toNat : Int) % 4294967296) ((8 * (i % 4) : Nat) : Int)))) = (blv (L.take (i + 1)) : Int) := by
 have hb := u8_lt (L.getD i 0)
 have hg := hlim.get (i / 4)
 have hd : x.getD (i / 4) 0 < 2 ^ (8 * (i % 4)) := by
  have h1 := val_get_le hlim (i / 4) hlen
  have h2 := blv_lt (L.take i)
  rw [List.length_take, show min i L.length = i by omega] at h2
  have h3 : (blv (L.take i) : Int) < bp (i / 4) * ((2 ^ (8 * (i % 4)) : Nat) : Int) := by rw [← bp_split]; omega
  have h4 := Int.lt_of_mul_lt_mul_left (show bp (i / 4) * x.getD (i / 4) 0 < bp (i / 4) * ((2 ^ (8 * (i % 4)) : Nat) : Int) by omega) (Int.le_of_lt (bp_pos _))
  simpa using h4
 have hs : shl .u32 (((L.getD i 0).toNat : Int) % 4294967296) ((8 * (i % 4) : Nat) : Int) = ((L.getD i 0).toNat : Int) * 2 ^ (8 * (i % 4)) ∧ ((L.getD i 0).toNat : Int) * 2 ^ (8 * (i % 4)) < 4294967296 - 2 ^ (8 * (i % 4)) + 1 := by
  unfold shl
  rw [u32m]
  simp only [Int.toNat_natCast]
  generalize (L.getD i 0).toNat = b at hb ⊢
  have : i % 4 = 0 ∨ i % 4 = 1 ∨ i % 4 = 2 ∨ i % 4 = 3 := by omega
  rcases this with e | e | e | e <;> simp [e, IntKind.bits] <;> omega
 have hor : Go.bits .or .u32 (x.getD (i / 4) 0) (shl .u32 (((L.getD i 0).toNat : Int) % 4294967296) ((8 * (i % 4) : Nat) : Int)) = x.getD (i / 4) 0 + ((L.getD i 0).toNat : Int) * 2 ^ (8 * (i % 4)) := by
  rw [hs.1]
  have hp : (0 : Int) < 2 ^ (8 * (i % 4)) := Int.pow_pos (by decide)
  refine or32_add' (8 * (i % 4)) ?_ (by omega) (Int.mul_emod_left _ _) hg.1 hd hg.2
  exact Int.mul_nonneg (by omega) (Int.le_of_lt hp)
 have hp : (0 : Int) < 2 ^ (8 * (i % 4)) := Int.pow_pos (by decide)
 have hm : 0 ≤ ((L.getD i 0).toNat : Int) * 2 ^ (8 * (i % 4)) := Int.mul_nonneg (by omega) (Int.le_of_lt hp)
 rw [hor]
 refine ⟨hlim.set _ (by omega) (by omega), ?_⟩
 rw [val_set x _ _ hlen, hv, blv_take L i hi, Int.natCast_add, Int.natCast_mul, bp_split]
 have : x.getD (i / 4) 0 + ((L.getD i 0).toNat : Int) * 2 ^ (8 * (i % 4)) - x.getD (i / 4) 0 = ((2 ^ (8 * (i % 4)) : Nat) : Int) * ((L.getD i 0).toNat : Int) := by
  rw [Int.natCast_pow, Int.mul_comm]; simp; omega
 rw [this, Int.mul_assoc]
theorem bt_rev (s : ByteArray) (i : Nat) (h : i < s.size) : bt s ((s.size : Int) - 1 - (i : Int)) = ((s.data.toList.reverse.getD i 0).toNat : Int) := by
 have hl := size_list s
 rw [show (s.size : Int) - 1 - (i : Int) = ((s.size - 1 - i : Nat) : Int) by omega, bt_nat]
 congr 2
 rw [List.getD_eq_getElem?_getD, List.getD_eq_getElem?_getD, List.getElem?_reverse (by omega)]
 rw [hl]
theorem parse_l0 (s : ByteArray) (hs : s.size < 4294967296) (d : Nat) : ∀ (i : Nat) (x : List Int), i + d = s.size → x.length = (s.size + 3) / 4 → Lim x → val x = (blv (s.data.toList.reverse.take i) : Int) → Ev (fun k => nt_parse.l0 k s x (s.size : Int) (i : Int)) (lenc (bval s)) := by
 have hl : s.data.toList.reverse.length = s.size := by rw [List.length_reverse, size_list]
 induction d with
 | zero =>
  intro i x hi hx hlim hv
  refine Ev.step (fun k => ?_) (f := fun k => (nt_limbs_trim.f k x).bind fun t335 => (some t335)) ?_
  ·simp only [nt_parse.l0]; rw [if_neg (by omega)]
  ·have e : bval s = (val x).toNat := by
    rw [hv, List.take_of_length_le (by omega), Int.toNat_natCast]; simp only [bval]
   rw [e]
   exact Ev.bind (limbs_trim_ev hlim (by omega)) (Ev.now _)
 | succ d ih =>
  intro i x hi hx hlim hv
  have hstep := limb_step hlim hv (i := i) (by omega) (by omega)
  have := ih (i + 1) _ (by omega) (by rw [List.length_set]; exact hx) hstep.1 hstep.2
  refine Ev.step (fun k => ?_) this
  simp only [nt_parse.l0, tdiv4, tmod4]
  have e1 : wrap64 ((i / 4 : Nat) : Int) = ((i / 4 : Nat) : Int) := w64 (by omega) (by omega)
  have e2 : wrap64 (8 * ((i % 4 : Nat) : Int)) = ((8 * (i % 4) : Nat) : Int) := by rw [w64 (by omega) (by omega)]; omega
  have e3 : wrap64 (wrap64 ((s.size : Int) - 1) - (i : Int)) = (s.size : Int) - 1 - (i : Int) := by rw [w64 (x := (s.size : Int) - 1) (by omega) (by omega), w64 (by omega) (by omega)]
  have e4 : wrap64 ((i : Int) + 1) = ((i + 1 : Nat) : Int) := by rw [w64 (by omega) (by omega)]; omega
  rw [if_pos (by clear e1 e2 e3 e4 hstep this; omega)]
  simp only [e1, e2, e3, e4]
  clear e1 e2 e3 e4 hstep this
  rw [if_pos (by omega), if_pos (by omega), if_pos (by omega), if_pos (by omega), if_pos (by omega), bt_rev s i (by omega)]
  simp only [rd_nat, Int.toNat_natCast]
theorem parse_ev (s : ByteArray) (hs : s.size < 4294967000) : Ev (fun k => nt_parse.f k s) (lenc (bval s)) := by
 have e : wrap64 (Int.tdiv (wrap64 (wrap64 ((s.size : Int) + 4) - 1)) 4) = (((s.size + 3) / 4 : Nat) : Int) := by
  rw [w64 (x := (s.size : Int) + 4) (by omega) (by omega), w64 (x := (s.size : Int) + 4 - 1) (by omega) (by omega), show (s.size : Int) + 4 - 1 = ((s.size + 3 : Nat) : Int) by omega, tdiv4, w64 (by omega) (by omega)]
 have := parse_l0 s (by omega) s.size 0 (List.replicate ((s.size + 3) / 4) 0) (by omega) (by simp) (Lim.zeros _) (by rw [val_zeros]; simp [blv])
 refine Ev.congr (fun k => ?_) this
 simp only [nt_parse.f, e]
 rw [if_pos (by omega), if_pos (by rw [Int.toNat_natCast]; omega)]
 simp only [Int.toNat_natCast]; rfl
def bts : List Int → List Int
 | [] => []
 | x :: l => x % 256 :: x / 256 % 256 :: x / 65536 % 256 :: x / 16777216 % 256 :: bts l
theorem bts_length (l : List Int) : (bts l).length = 4 * l.length := by
 induction l with
 | nil => rfl
 | cons x l ih => simp only [bts, List.length_cons, ih]; omega
theorem bts_get (l : List Int) : ∀ i, (bts l).getD i 0 = (l.getD (i / 4) 0 / 2 ^ (8 * (i % 4))) % 256 := by
 induction l with
 | nil => intro i; simp [bts]
 | cons x l ih =>
  intro i
  match i with
  | 0 => simp [bts]
  | 1 => simp [bts]
  | 2 => simp [bts]
  | 3 => simp [bts]
  | i + 4 =>
   have h1 : (i + 4) / 4 = i / 4 + 1 := by omega
   have h2 : (i + 4) % 4 = i % 4 := by omega
   rw [h1, h2]
   simpa [bts] using ih i
theorem blv_bts {l : List Int} (h : Lim l) : (blv ((bts l).map fun n => UInt8.ofNat n.toNat) : Int) = val l := by
 induction l with
 | nil => rfl
 | cons x l ih =>
  have hx := h.head
  have hi := ih h.tail
  have e : ∀ y : Int, 0 ≤ y → y < 256 → ((UInt8.ofNat y.toNat).toNat : Int) = y := by
   intro y h0 h1
   rw [UInt8.toNat_ofNat']
   omega
  simp only [bts, List.map_cons, blv, val, Int.natCast_add, Int.natCast_mul, hi]
  rw [e _ (by omega) (by omega), e _ (by omega) (by omega), e _ (by omega) (by omega), e _ (by omega) (by omega)]
  omega
theorem bval_text {l : List Int} (h : Lim l) : bval (strOfNums (bts l).reverse) = (val l).toNat := by
 have := blv_bts h
 have e : bval (strOfNums (bts l).reverse) = blv ((bts l).map fun n => UInt8.ofNat n.toNat) := by
  unfold bval strOfNums
  simp only [List.map_reverse, List.reverse_reverse]
 omega
theorem text_l0 {l : List Int} (h : Lim l) (hl : l.length < 1000000000) (d : Nat) : ∀ (i : Nat) (x : List Int), i + d = 4 * l.length → x.length = 4 * l.length → (∀ j, j < i → x.reverse.getD j 0 = (bts l).getD j 0) → Ev (fun k => nt_limbs_text.l0 k l x ((4 * l.length : Nat) : Int) (i : Int)) (benc (val l).toNat) := by
 induction d with
 | zero =>
  intro i x hi hx hj
  have e : x = (bts l).reverse := by
   rw [← List.reverse_eq_iff]
   apply List.ext_getElem
   ·rw [List.length_reverse, hx, bts_length]
   ·intro j h1 h2
    have := hj j (by rw [bts_length] at h2; omega)
    rw [List.getD_eq_getElem?_getD, List.getD_eq_getElem?_getD, List.getElem?_eq_getElem h1, List.getElem?_eq_getElem h2] at this
    exact this
  refine Ev.step (fun k => ?_) (f := fun k => (nt_Normalize.f k (strOfNums x)).bind fun t343 => (some t343)) ?_
  ·simp only [nt_limbs_text.l0]; rw [if_neg (by omega)]
  ·rw [e, ← bval_text h]
   exact Ev.bind (normalize_ev _) (Ev.now _)
 | succ d ih =>
  intro i x hi hx hj
  refine Ev.step (fun k => ?_) (ih (i + 1) (x.set (4 * l.length - 1 - i) ((l.getD (i / 4) 0 / 2 ^ (8 * (i % 4))) % 256)) (by omega) (by simpa using hx) fun j hji => ?_)
  ·simp only [nt_limbs_text.l0, tdiv4, tmod4]
   have e1 : wrap64 ((i / 4 : Nat) : Int) = ((i / 4 : Nat) : Int) := w64 (by omega) (by omega)
   have e2 : wrap64 (8 * ((i % 4 : Nat) : Int)) = ((8 * (i % 4) : Nat) : Int) := by rw [w64 (by omega) (by omega)]; omega
   have e3 : wrap64 (wrap64 ((x.length : Int) - 1) - (i : Int)) = ((4 * l.length - 1 - i : Nat) : Int) := by rw [w64 (x := (x.length : Int) - 1) (by omega) (by omega), w64 (by omega) (by omega)]; omega
   have e4 : wrap64 ((i : Int) + 1) = ((i + 1 : Nat) : Int) := by rw [w64 (by omega) (by omega)]; omega
   simp only [e1, e2, e3, e4]
   clear e1 e2 e3 e4
   rw [if_pos (by omega), if_pos (by omega), if_pos (by omega), if_pos (by omega), if_pos (by omega), if_pos (by omega)]
   simp only [rd_nat, Int.toNat_natCast, shr]
   rw [Nat.min_eq_left (by simp [IntKind.bits]; omega)]
  ·rw [List.getD_eq_getElem?_getD, List.getElem?_reverse (by rw [List.length_set]; omega), List.length_set, List.getElem?_set]
   by_cases hji' : j = i
   ·subst hji'
    rw [if_pos (by omega), if_pos (by omega), bts_get]; rfl
   ·rw [if_neg (by omega)]
    have := hj j (by omega)
    rw [List.getD_eq_getElem?_getD, List.getElem?_reverse (by omega)] at this
    exact this
theorem text_ev {l : List Int} (h : Lim l) (hl : l.length < 1000000000) : Ev (fun k => nt_limbs_text.f k l) (benc (val l).toNat) := by
 have e : wrap64 ((l.length : Int) * 4) = ((4 * l.length : Nat) : Int) := by rw [w64 (by omega) (by omega)]; omega
 have := text_l0 h hl (4 * l.length) 0 (List.replicate (4 * l.length) 0) (by omega) (by simp) (fun j hj => absurd hj (by omega))
 refine Ev.congr (fun k => ?_) this
 simp only [nt_limbs_text.f, e]
 rw [if_pos (by omega), if_pos (by rw [Int.toNat_natCast]; omega)]
 simp only [Int.toNat_natCast, Option.bind_some, List.length_replicate]; rfl
def sg (x : Int) : Int := if x < 0 then -1 else if x > 0 then 1 else 0
theorem sign_ev (x : Int) : nt_sign.f x = some (sg x) := by
 unfold nt_sign.f sg
 by_cases h : x < 0
 ·rw [if_pos h, if_pos h]
 ·rw [if_neg h, if_neg h]; by_cases h2 : x > 0
  ·rw [if_pos h2, if_pos h2]
  ·rw [if_neg h2, if_neg h2]
theorem cmp_l0 {l m : List Int} (h : Lim l) (hm : Lim m) (hl : l.length = m.length) (hs : l.length < 4294967296) : ∀ n : Nat, n ≤ l.length → l.drop n = m.drop n → Ev (fun k => nt_compare.l0 k l m ((n : Int) - 1)) (sg (val l - val m)) := by
 intro n
 induction n with
 | zero =>
  intro _ hd
  refine Ev.step (f := fun _ => some 0) (fun k => ?_) ?_
  ·simp only [nt_compare.l0]; rw [if_neg (by omega)]
  ·have e : l = m := by simpa using hd
   rw [e, Int.sub_self]; exact Ev.now _
 | succ n ih =>
  intro hn hd
  have e1 : ((n + 1 : Nat) : Int) - 1 = (n : Int) := by omega
  have e2 : wrap64 ((n : Int) - 1) = (n : Int) - 1 := w64 (by omega) (by omega)
  by_cases hq : l.getD n 0 = m.getD n 0
  ·refine Ev.step (fun k => ?_) (ih (by omega) ?_)
   ·simp only [nt_compare.l0, e1, rd_nat, e2]; rw [if_pos (by omega), if_pos (by omega), if_pos (by omega), if_pos (by omega), if_pos hq]
   ·rw [List.drop_eq_getElem_cons (by omega : n < l.length), List.drop_eq_getElem_cons (by omega : n < m.length), hd]
    rw [List.getD_eq_getElem?_getD, List.getD_eq_getElem?_getD, List.getElem?_eq_getElem (by omega), List.getElem?_eq_getElem (by omega)] at hq
    simp only [Option.getD_some] at hq
    rw [hq]
  ·have hv : val l - val m = (val (l.take n) - val (m.take n)) + bp n * (l.getD n 0 - m.getD n 0) := by
    have a := val_take_drop l (n + 1) hn
    have b := val_take_drop m (n + 1) (by omega)
    rw [val_take_succ l n hn] at a
    rw [val_take_succ m n (by omega)] at b
    rw [a, b, hd, Int.mul_sub]; omega
   have a := val_take_lt h n (by omega)
   have b := val_take_lt hm n (by omega)
   have hp := bp_pos n
   by_cases hlt : l.getD n 0 < m.getD n 0
   ·refine Ev.step (f := fun _ => some (-1)) (fun k => ?_) ?_
    ·simp only [nt_compare.l0, e1, rd_nat, e2]; rw [if_pos (by omega), if_pos (by omega), if_pos (by omega), if_pos (by omega), if_neg hq, if_pos hlt]
    ·have : bp n * (l.getD n 0 - m.getD n 0) ≤ bp n * (-1) := Int.mul_le_mul_of_nonneg_left (by omega) (by omega)
     have : sg (val l - val m) = -1 := by unfold sg; rw [if_pos (by omega)]
     rw [this]; exact Ev.now _
   ·refine Ev.step (f := fun _ => some 1) (fun k => ?_) ?_
    ·simp only [nt_compare.l0, e1, rd_nat, e2]; rw [if_pos (by omega), if_pos (by omega), if_pos (by omega), if_pos (by omega), if_neg hq, if_neg hlt]
    ·have : bp n * 1 ≤ bp n * (l.getD n 0 - m.getD n 0) := Int.mul_le_mul_of_nonneg_left (by omega) (by omega)
     have : sg (val l - val m) = 1 := by unfold sg; rw [if_neg (by omega), if_pos (by omega)]
     rw [this]; exact Ev.now _
theorem can_shorter {l m : List Int} (h : Lim l) (hm : T.Can m) (hl : l.length < m.length) : val l < val m := by
 have a := val_lt h
 have b := can_low hm (by intro e; rw [e] at hl; simp at hl)
 have c := bp_mono (show l.length ≤ m.length - 1 by omega)
 omega
theorem compare_ev {l m : List Int} (h : T.Can l) (hm : T.Can m) (hl : l.length < 4294967296) (hml : m.length < 4294967296) : Ev (fun k => nt_compare.f k l m) (sg (val l - val m)) := by
 by_cases e : (l.length : Int) = (m.length : Int)
 ·refine Ev.congr (fun k => ?_) (cmp_l0 h.1 hm.1 (by omega) hl l.length (Nat.le_refl _) ?_)
  ·simp only [nt_compare.f]; rw [if_pos e, w64 (by omega) (by omega)]
  ·rw [List.drop_eq_nil_of_le (Nat.le_refl _), List.drop_eq_nil_of_le (by omega)]
 ·have : sg (wrap64 ((l.length : Int) - (m.length : Int))) = sg (val l - val m) := by
   rw [w64 (by omega) (by omega)]
   by_cases h1 : l.length < m.length
   ·have := can_shorter h.1 hm h1
    unfold sg; rw [if_pos (by omega), if_pos (by omega)]
   ·have := can_shorter hm.1 h (by omega)
    unfold sg; rw [if_neg (by omega), if_pos (by omega), if_neg (by omega), if_pos (by omega)]
  rw [← this]
  refine Ev.congr (f := fun _ => _) (fun k => ?_) (Ev.now _)
  simp only [nt_compare.f]; rw [if_neg e, sign_ev]; rfl
theorem drop_val (l : List Int) (n : Nat) (h : n < l.length) : val (l.drop n) = l.getD n 0 + 4294967296 * val (l.drop (n + 1)) := by
 rw [List.drop_eq_getElem_cons h, List.getD_eq_getElem?_getD, List.getElem?_eq_getElem h]; rfl
theorem drop_set (l : List Int) (n : Nat) (x : Int) (h : n < l.length) : (l.set n x).drop n = x :: l.drop (n + 1) := by
 rw [List.drop_eq_getElem_cons (by simpa using h), List.getElem_set_self, List.drop_set_of_lt (by omega)]
theorem digit {r d x : Int} (hr : 0 ≤ r) (hrd : r < d) (_hd : d < 4294967296) (hx : 0 ≤ x) (hx1 : x < 4294967296) :
  Int.tdiv (r * 4294967296 + x) d = (r * 4294967296 + x) / d ∧ Int.tmod (r * 4294967296 + x) d = (r * 4294967296 + x) % d ∧ 0 ≤ (r * 4294967296 + x) / d ∧ (r * 4294967296 + x) / d < 4294967296 ∧ 0 ≤ (r * 4294967296 + x) % d ∧ (r * 4294967296 + x) % d < d ∧ d * ((r * 4294967296 + x) / d) + (r * 4294967296 + x) % d = r * 4294967296 + x := by
 have h0 : 0 ≤ r * 4294967296 + x := by omega
 refine ⟨Int.tdiv_eq_ediv_of_nonneg h0, Int.tmod_eq_emod_of_nonneg h0, Int.ediv_nonneg h0 (by omega), ?_, Int.emod_nonneg _ (by omega), Int.emod_lt_of_pos _ (by omega), Int.mul_ediv_add_emod _ _⟩
 rw [Int.ediv_lt_iff_lt_mul (by omega)]
 omega
theorem short_l0 {l : List Int} {d : Int} (h : Lim l) (hs : l.length < 4294967296) (hd : 0 < d) (hd1 : d < 4294967296) : ∀ (n : Nat) (x : List Int) (r : Int), n ≤ l.length → x.length = l.length → Lim x → 0 ≤ r → r < d → val (l.drop n) = d * val (x.drop n) + r →
  Ev (fun k => nt_divideSmall.l0 k l d x r ((n : Int) - 1)) (lenc (val l / d).toNat, val l % d) := by
 intro n
 induction n with
 | zero =>
  intro x r hn hx hlim h0 h1 hv
  simp only [List.drop_zero] at hv
  have e : val l / d = val x ∧ val l % d = r := by
   have := quot_is (U := val l) (V := d) (q := val x) hd (by rw [Int.mul_comm]; omega) (by rw [Int.add_mul, Int.mul_comm]; omega)
   refine ⟨this.1, ?_⟩
   rw [this.2, Int.mul_comm (val x)]; omega
  refine Ev.step (fun k => ?_) (f := fun k => (nt_limbs_trim.f k x).bind fun t354 => (some (t354, r % 4294967296))) ?_
  ·simp only [nt_divideSmall.l0]; rw [if_neg (by omega)]
  ·rw [e.1, e.2]
   refine Ev.bind (limbs_trim_ev hlim (by omega)) ?_
   rw [show r % 4294967296 = r by omega]
   exact Ev.now _
 | succ n ih =>
  intro x r hn hx hlim h0 h1 hv
  have hg := h.get n
  have dg := digit h0 h1 hd1 hg.1 hg.2
  have e1 : ((n + 1 : Nat) : Int) - 1 = (n : Int) := by omega
  have := ih (x.set n ((r * 4294967296 + l.getD n 0) / d)) ((r * 4294967296 + l.getD n 0) % d) (by omega) (by simpa using hx) (hlim.set _ dg.2.2.1 dg.2.2.2.1) dg.2.2.2.2.1 dg.2.2.2.2.2.1 ?_
  ·refine Ev.step (fun k => ?_) this
   have e2 : wrap64 ((n : Int) - 1) = (n : Int) - 1 := w64 (by omega) (by omega)
   simp only [nt_divideSmall.l0, e1, rd_nat, e2]
   clear e2
   have hr2 : r < 4294967296 := by omega
   rw [or_add h0 hr2 hg.1 hg.2, u64 (x := d) (by omega) (by omega), dg.1, dg.2.1, u64 dg.2.2.1 (by have := dg.2.2.2.1; omega), Int.emod_eq_of_lt dg.2.2.1 dg.2.2.2.1]
   clear dg this
   rw [if_pos (by omega), if_pos (by omega), if_pos (by omega), if_neg (by omega), if_pos (by omega)]
   rfl
  ·rw [drop_val l n (by omega), hv, drop_set x n _ (by omega)]
   show _ = d * (_ + 4294967296 * val (x.drop (n + 1))) + _
   have := dg.2.2.2.2.2.2
   generalize val (x.drop (n + 1)) = V at *
   generalize (r * 4294967296 + l.getD n 0) / d = q at *
   generalize (r * 4294967296 + l.getD n 0) % d = r' at *
   rw [Int.mul_add, Int.mul_add, ← Int.mul_assoc d, Int.mul_comm d 4294967296, Int.mul_assoc]
   omega
theorem small_ev {l : List Int} {d : Int} (h : Lim l) (hs : l.length < 4294967296) (hd : 0 < d) (hd1 : d < 4294967296) : Ev (fun k => nt_divideSmall.f k l d) (lenc (val l / d).toNat, val l % d) := by
 refine Ev.congr (fun k => ?_) (short_l0 h hs hd hd1 l.length (List.replicate l.length 0) 0 (Nat.le_refl _) (by simp) (Lim.zeros _) (by omega) hd ?_)
 ·simp only [nt_divideSmall.f]
  rw [if_pos (by omega), if_pos (by rw [Int.toNat_natCast]; omega), w64 (by omega) (by omega)]
  simp only [Int.toNat_natCast]
 ·rw [List.drop_eq_nil_of_le (Nat.le_refl _), List.drop_eq_nil_of_le (by simp)]; simp [val]
theorem wS (i : Nat) (h : i < 4611686018427387904) : wrap64 ((i : Int) + 1) = ((i + 1 : Nat) : Int) := by rw [w64 (by omega) (by omega)]; omega
theorem pow_lim {s : Nat} (hs : s < 32) : (1 : Int) ≤ 2 ^ s ∧ (2 : Int) ^ s ≤ 2147483648 ∧ (4294967296 : Int) % 2 ^ s = 0 := by
 have h1 : (0 : Int) < 2 ^ s := Int.pow_pos (by decide)
 have h2 : (2 : Nat) ^ s ≤ 2 ^ 31 := Nat.pow_le_pow_right (by decide) (by omega)
 have h3 : ((2 ^ s : Nat) : Int) = (2 : Int) ^ s := by simp
 refine ⟨by omega, by rw [← h3]; omega, ?_⟩
 rw [show (4294967296 : Int) = 2 ^ (32 - s) * 2 ^ s by rw [← Int.pow_add, show 32 - s + s = 32 by omega]; rfl]
 exact Int.mul_emod_left _ _
theorem shl_u64 {x : Int} {s : Nat} (h0 : 0 ≤ x) (h1 : x < 4294967296) (hs : s < 32) : shl .u64 (IntKind.u64.wrap x) (s : Int) = x * 2 ^ s ∧ 0 ≤ x * 2 ^ s ∧ x * 2 ^ s < 4294967296 * 2147483648 := by
 have hp := pow_lim hs
 have h2 : 0 ≤ x * 2 ^ s := Int.mul_nonneg h0 (by omega)
 have h3 : x * 2 ^ s < 4294967296 * 2147483648 := by
  have := Int.mul_le_mul (show x ≤ 4294967295 by omega) hp.2.1 (by omega) (by omega)
  omega
 refine ⟨?_, h2, h3⟩
 unfold shl
 rw [u64 h0 (by omega), Int.toNat_natCast, Nat.min_eq_left (by simp [IntKind.bits]; omega), u64 h2 (by omega)]
theorem low_mod {x : Int} {s : Nat} (hs : s < 32) : (x * 2 ^ s) % 4294967296 % 2 ^ s = 0 := by
 have hp := pow_lim hs
 rw [Int.emod_emod_of_dvd _ (Int.dvd_of_emod_eq_zero hp.2.2)]
 exact Int.mul_emod_left _ _
theorem or_zero (x : Int) (h0 : 0 ≤ x) (h1 : x < 4294967296) : Go.bits .or .u32 0 x = x := by
 rw [or32_add 32 (by omega) (by omega) (by omega) h0 (by omega) h1]; omega
theorem shift_step {x : List Int} {n i s : Nat} {y V : Int} (hs : s < 32) (hlim : Lim x) (hi : i < x.length) (hV : val x = 2 ^ s * V) (hV1 : V < bp i) (h0 : 0 ≤ y) (h1 : y < 4294967296) :
  Lim (x.set i (Go.bits .or .u32 (x.getD i 0) ((y * 2 ^ s) % 4294967296))) ∧ val (x.set i (Go.bits .or .u32 (x.getD i 0) ((y * 2 ^ s) % 4294967296))) = 2 ^ s * V + bp i * ((y * 2 ^ s) % 4294967296) ∧ (i + 1 < x.length → x.getD (i + 1) 0 = 0) := by
 have hp := pow_lim hs
 have hb := bp_pos i
 have hg := hlim.get i
 have hlt : val x < bp i * 2 ^ s := by
  rw [hV, Int.mul_comm (bp i)]
  exact Int.mul_lt_mul_of_pos_left hV1 (by omega)
 have hd : x.getD i 0 < 2 ^ s := by
  have := val_get_le hlim i hi
  exact Int.lt_of_mul_lt_mul_left (Int.lt_of_le_of_lt this hlt) (by omega)
 have hor : Go.bits .or .u32 (x.getD i 0) ((y * 2 ^ s) % 4294967296) = x.getD i 0 + (y * 2 ^ s) % 4294967296 :=
  or32_add' s (by omega) (by omega) (low_mod hs) hg.1 hd hg.2
 have hlow : (y * 2 ^ s) % 4294967296 ≤ 4294967296 - 2 ^ s := by
  have a := low_mod (x := y) hs
  have b := hp.2.2
  have c : 0 ≤ (y * 2 ^ s) % 4294967296 ∧ (y * 2 ^ s) % 4294967296 < 4294967296 := by omega
  generalize (y * 2 ^ s) % 4294967296 = u at *
  generalize (2 : Int) ^ s = p at *
  obtain ⟨q1, e1⟩ := Int.dvd_of_emod_eq_zero a
  obtain ⟨q2, e2⟩ := Int.dvd_of_emod_eq_zero b
  have : q1 < q2 := Int.lt_of_mul_lt_mul_left (show p * q1 < p * q2 by omega) (by omega)
  have : p * q1 ≤ p * (q2 - 1) := Int.mul_le_mul_of_nonneg_left (by omega) (by omega)
  rw [Int.mul_sub] at this
  omega
 rw [hor]
 refine ⟨hlim.set _ (by omega) (by omega), ?_, fun h2 => ?_⟩
 ·rw [val_set x _ _ hi, hV]
  congr 2
  omega
 ·have a := val_get_le hlim (i + 1) h2
  have b := hlim.get (i + 1)
  have c : bp (i + 1) * x.getD (i + 1) 0 < bp (i + 1) * 1 := by
   have : bp i * 2 ^ s ≤ bp (i + 1) := by
    rw [bp_succ, Int.mul_comm]
    exact Int.mul_le_mul_of_nonneg_right (by omega) (by omega)
   omega
  have := Int.lt_of_mul_lt_mul_left c (Int.le_of_lt (bp_pos _))
  omega
theorem shift_l0 {l : List Int} {s n : Nat} (hs : s < 32) (h : Lim l) (hln : l.length ≤ n) (hn : n < 4294967296) (hfit : 2 ^ s * val l < bp n) (d : Nat) : ∀ (i : Nat) (x : List Int), i + d = l.length → x.length = n → Lim x → val x = 2 ^ s * val (l.take i) →
  ∃ y, Ev (fun k => nt_shift.l0 k (s : Int) (n : Int) x l (l.length : Int) (i : Int)) y ∧ Lim y ∧ y.length = n ∧ val y = 2 ^ s * val l := by
 induction d with
 | zero =>
  intro i x hi hx hlim hv
  refine ⟨x, Ev.step (f := fun _ => some x) (fun k => ?_) (Ev.now _), hlim, hx, ?_⟩
  ·simp only [nt_shift.l0]; rw [if_neg (by omega)]
  ·rw [hv, List.take_of_length_le (by omega)]
 | succ d ih =>
  intro i x hi hx hlim hv
  have hg := h.get i
  have hp := pow_lim hs
  have htk := val_take_lt h i (by omega)
  have hst := shift_step (n := n) (y := l.getD i 0) hs hlim (i := i) (by omega) hv htk.2 hg.1 hg.2
  have hsh := shl_u64 hg.1 hg.2 hs
  have hval : 2 ^ s * val (l.take (i + 1)) = 2 ^ s * val (l.take i) + bp i * (l.getD i 0 * 2 ^ s) := by
   rw [val_take_succ l i (by omega), Int.mul_add, Int.mul_left_comm, Int.mul_comm (2 ^ s) (l.getD i 0)]
  generalize hx1 : x.set i (Go.bits .or .u32 (x.getD i 0) ((l.getD i 0 * 2 ^ s) % 4294967296)) = x1 at hst
  have hl1 : x1.length = n := by rw [← hx1]; simpa using hx
  have hw : (l.getD i 0 * 2 ^ s) / 4294967296 % 4294967296 = (l.getD i 0 * 2 ^ s) / 4294967296 := by
   have := hsh.2
   omega
  by_cases hr : i + 1 < n
  ·have hz : x1.getD (i + 1) 0 = 0 := by
    rw [← hx1, List.getD_eq_getElem?_getD, List.getElem?_set_ne (by omega), ← List.getD_eq_getElem?_getD]
    exact hst.2.2 (by omega)
   have hhi : 0 ≤ (l.getD i 0 * 2 ^ s) / 4294967296 ∧ (l.getD i 0 * 2 ^ s) / 4294967296 < 4294967296 := by
    have := hsh.2
    omega
   obtain ⟨y, hy, hy1, hy2, hy3⟩ := ih (i + 1) (x1.set (i + 1) ((l.getD i 0 * 2 ^ s) / 4294967296)) (by omega) (by simpa using hl1) (hst.1.set _ hhi.1 hhi.2) (by
    rw [val_set x1 _ _ (by omega), hz, hst.2.1, hval, bp_succ]
    have := Int.mul_ediv_add_emod (l.getD i 0 * 2 ^ s) 4294967296
    generalize (l.getD i 0 * 2 ^ s) / 4294967296 = u at *
    generalize (l.getD i 0 * 2 ^ s) % 4294967296 = v at *
    rw [← this, Int.mul_add, Int.sub_zero, Int.mul_assoc 4294967296, Int.mul_left_comm 4294967296]
    omega)
   refine ⟨y, Ev.step (fun k => ?_) hy, hy1, hy2, hy3⟩
   simp only [nt_shift.l0, wS i (by omega), rd_nat, hsh.1, Int.toNat_natCast, hw]
   rw [hx1]
   simp only [Option.bind_some]
   clear hst ih hy hval hfit
   rw [if_pos (by omega), if_pos (by omega), if_pos (by omega), if_pos (by omega), if_pos (by omega), if_pos (by omega), if_pos (by omega), if_pos (by omega), hz, or_zero _ hhi.1 hhi.2]
  ·have hhi : (l.getD i 0 * 2 ^ s) / 4294967296 = 0 ∧ (l.getD i 0 * 2 ^ s) % 4294967296 = l.getD i 0 * 2 ^ s := by
    have a : bp i * (l.getD i 0 * 2 ^ s) < bp i * 4294967296 := by
     have b : 2 ^ s * val (l.take (i + 1)) ≤ 2 ^ s * val l := by
      refine Int.mul_le_mul_of_nonneg_left ?_ (by omega)
      have := val_take_drop l (i + 1) (by omega)
      have := Int.mul_nonneg (Int.le_of_lt (bp_pos (i + 1))) (val_nonneg (h.drop (i + 1)))
      omega
     have c : 0 ≤ 2 ^ s * val (l.take i) := Int.mul_nonneg (by omega) htk.1
     rw [show n = i + 1 by omega, bp_succ] at hfit
     rw [Int.mul_comm (bp i) 4294967296]
     omega
    have := Int.lt_of_mul_lt_mul_left a (Int.le_of_lt (bp_pos i))
    have := hsh.2
    omega
   obtain ⟨y, hy, hy1, hy2, hy3⟩ := ih (i + 1) x1 (by omega) hl1 hst.1 (by rw [hst.2.1, hval, hhi.2])
   refine ⟨y, Ev.step (fun k => ?_) hy, hy1, hy2, hy3⟩
   simp only [nt_shift.l0, wS i (by omega), rd_nat, hsh.1, Int.toNat_natCast]
   rw [hx1]
   simp only [Option.bind_some]
   clear hst ih hy hval hfit
   rw [if_pos (by omega), if_pos (by omega), if_pos (by omega), if_pos (by omega), if_pos (by omega), if_neg (by omega)]
theorem shift_ev {l : List Int} {s n : Nat} (hs : s < 32) (h : Lim l) (hln : l.length ≤ n) (hn : n < 4294967296) (hfit : 2 ^ s * val l < bp n) :
  ∃ y, Ev (fun k => nt_shift.f k l (s : Int) (n : Int)) y ∧ Lim y ∧ y.length = n ∧ val y = 2 ^ s * val l := by
 obtain ⟨y, hy, h1, h2, h3⟩ := shift_l0 hs h hln hn hfit l.length 0 (List.replicate n 0) (by omega) (by simp) (Lim.zeros _) (by rw [val_zeros]; simp [val])
 refine ⟨y, Ev.congr (fun k => ?_) hy, h1, h2, h3⟩
 simp only [nt_shift.f]
 rw [if_pos (by omega), if_pos (by rw [Int.toNat_natCast]; omega)]
 simp only [Int.toNat_natCast]; rfl
theorem unshift_l0 {l : List Int} {s : Nat} (hs : s < 32) (h : Lim l) (hn : l.length < 4294967296) (d : Nat) : ∀ (i : Nat) (x : List Int), i + d = l.length → x.length = l.length → Lim x → val (x.take i) + bp i * (val (l.drop i) / 2 ^ s) = val l / 2 ^ s →
  Ev (fun k => nt_unshift.l0 k l (s : Int) x (l.length : Int) (i : Int)) (lenc (val l / 2 ^ s).toNat) := by
 have hp := pow_lim hs
 induction d with
 | zero =>
  intro i x hi hx hlim hv
  rw [List.drop_eq_nil_of_le (by omega), List.take_of_length_le (by omega)] at hv
  have e : val x = val l / 2 ^ s := by
   rw [← hv, show val [] = 0 from rfl, Int.zero_ediv]; omega
  refine Ev.step (fun k => ?_) (f := fun k => (nt_limbs_trim.f k x).bind fun t406 => (some t406)) ?_
  ·simp only [nt_unshift.l0]; rw [if_neg (by omega)]
  ·rw [← e]
   exact Ev.bind (limbs_trim_ev hlim (by omega)) (Ev.now _)
 | succ d ih =>
  intro i x hi hx hlim hv
  have hg := h.get i
  have hg2 := h.get (i + 1)
  have key : ∀ z : Int, z = (val (l.drop i) / 2 ^ s) % 4294967296 → Lim (x.set i z) ∧ val ((x.set i z).take (i + 1)) + bp (i + 1) * (val (l.drop (i + 1)) / 2 ^ s) = val l / 2 ^ s := by
   intro z hz
   refine ⟨hlim.set _ (by omega) (by omega), ?_⟩
   rw [val_take_succ _ i (by simp; omega), List.take_set_of_le (by omega), ← hv]
   have a : (x.set i z).getD i 0 = z := by rw [List.getD_eq_getElem?_getD, List.getElem?_set_self (by omega)]; rfl
   have b : val (l.drop (i + 1)) / 2 ^ s = (val (l.drop i) / 2 ^ s) / 4294967296 := by
    rw [Int.ediv_ediv_of_nonneg (by omega), Int.mul_comm, ← Int.ediv_ediv_of_nonneg (by omega)]
    congr 1
    rw [drop_val l i (by omega)]
    omega
   rw [a, b, hz, bp_succ]
   have := Int.mul_ediv_add_emod (val (l.drop i) / 2 ^ s) 4294967296
   generalize (val (l.drop i) / 2 ^ s) / 4294967296 = u at *
   generalize (val (l.drop i) / 2 ^ s) % 4294967296 = v at *
   rw [← this, Int.mul_add, Int.mul_assoc 4294967296, Int.mul_left_comm 4294967296]
   omega
  have hdig : (val (l.drop i) / 2 ^ s) % 4294967296 = ((l.getD i 0 + l.getD (i + 1) 0 * 4294967296) / 2 ^ s) % 4294967296 := by
   have hW : ∃ W, val (l.drop (i + 1)) = l.getD (i + 1) 0 + 4294967296 * W := by
    by_cases h2 : i + 1 < l.length
    ·exact ⟨_, drop_val l (i + 1) h2⟩
    ·refine ⟨0, ?_⟩
     rw [List.drop_eq_nil_of_le (by omega), List.getD_eq_getElem?_getD, List.getElem?_eq_none (by omega)]; rfl
   obtain ⟨W, hW⟩ := hW
   obtain ⟨q, hq⟩ := Int.dvd_of_emod_eq_zero hp.2.2
   rw [drop_val l i (by omega), hW]
   have e : l.getD i 0 + 4294967296 * (l.getD (i + 1) 0 + 4294967296 * W) = (l.getD i 0 + l.getD (i + 1) 0 * 4294967296) + 2 ^ s * (4294967296 * (q * W)) := by
    have : 2 ^ s * (4294967296 * (q * W)) = 4294967296 * (4294967296 * W) := by
     rw [Int.mul_left_comm (2 ^ s), ← Int.mul_assoc (2 ^ s), ← hq]
    rw [this]; omega
   rw [e, Int.add_mul_ediv_left _ _ (by omega), Int.add_mul_emod_self_left]
  by_cases hr : i + 1 < l.length
  ·have k2 := key _ rfl
   refine Ev.step (fun k => ?_) (ih (i + 1) _ (by omega) (by simpa using hx) k2.1 k2.2)
   simp only [nt_unshift.l0, wS i (by omega), rd_nat, Int.toNat_natCast]
   clear ih k2 key
   rw [if_pos (by omega), if_pos (by omega), if_pos (by omega), if_pos (by omega), if_pos (by omega), if_pos (by omega), if_pos (by omega)]
   rw [u64 (x := l.getD (i + 1) 0) (by omega) (by omega), or_comm, or_add hg2.1 hg2.2 hg.1 hg.2, hdig, Int.add_comm]
   unfold shr
   rw [Int.toNat_natCast, Nat.min_eq_left (by simp [IntKind.bits]; omega)]
  ·have k2 := key _ rfl
   refine Ev.step (fun k => ?_) (ih (i + 1) _ (by omega) (by simpa using hx) k2.1 k2.2)
   simp only [nt_unshift.l0, wS i (by omega), rd_nat, Int.toNat_natCast]
   clear ih k2 key
   rw [if_pos (by omega), if_pos (by omega), if_pos (by omega), if_neg (by omega), if_pos (by omega), if_pos (by omega)]
   have hz : l.getD (i + 1) 0 = 0 := by rw [List.getD_eq_getElem?_getD, List.getElem?_eq_none (by omega)]; rfl
   rw [hdig, hz, u64 hg.1 (by omega)]
   unfold shr
   rw [Int.toNat_natCast, Nat.min_eq_left (by simp [IntKind.bits]; omega)]
   simp
theorem unshift_ev {l : List Int} {s : Nat} (hs : s < 32) (h : Lim l) (hn : l.length < 4294967296) : Ev (fun k => nt_unshift.f k l (s : Int)) (lenc (val l / 2 ^ s).toNat) := by
 refine Ev.congr (fun k => ?_) (unshift_l0 hs h hn l.length 0 (List.replicate l.length 0) (by omega) (by simp) (Lim.zeros _) (by rw [bp_zero]; simp [val]))
 simp only [nt_unshift.f]
 rw [if_pos (by omega), if_pos (by rw [Int.toNat_natCast]; omega)]
 simp only [Int.toNat_natCast]; rfl
def U (x : Int) : Prop := 0 ≤ x ∧ x < 4294967296
theorem top_nat (n : Nat) (h : n < 4294967296) : (n.testBit 31 = true ↔ 2147483648 ≤ n) := by
 rw [Nat.testBit_eq_decide_div_mod_eq]
 simp only [decide_eq_true_eq]
 omega
theorem bit_or {x y : Int} (hx : U x) (hy : U y) : U (Go.bits .or .u32 x y) ∧ (2147483648 ≤ Go.bits .or .u32 x y ↔ 2147483648 ≤ x ∨ 2147483648 ≤ y) := by
 obtain ⟨a, rfl⟩ := Int.eq_ofNat_of_zero_le hx.1
 obtain ⟨b, rfl⟩ := Int.eq_ofNat_of_zero_le hy.1
 have ha : a < 2 ^ 32 := by have := hx.2; omega
 have hb : b < 2 ^ 32 := by have := hy.2; omega
 rw [(Go.bits_nat .u32 32 (by decide) (fun n h0 h1 => by rw [u32m]; omega) a b ha hb).2]
 have hab := Nat.or_lt_two_pow ha hb
 have h1 := top_nat (a ||| b) hab
 have h2 := top_nat a ha
 have h3 := top_nat b hb
 rw [Nat.testBit_or, Bool.or_eq_true, h2, h3] at h1
 unfold U
 generalize a ||| b = c at *
 omega
theorem bit_and {x y : Int} (hx : U x) (hy : U y) : U (Go.bits .and .u32 x y) ∧ (2147483648 ≤ Go.bits .and .u32 x y ↔ 2147483648 ≤ x ∧ 2147483648 ≤ y) := by
 obtain ⟨a, rfl⟩ := Int.eq_ofNat_of_zero_le hx.1
 obtain ⟨b, rfl⟩ := Int.eq_ofNat_of_zero_le hy.1
 have ha : a < 2 ^ 32 := by have := hx.2; omega
 have hb : b < 2 ^ 32 := by have := hy.2; omega
 rw [(Go.bits_nat .u32 32 (by decide) (fun n h0 h1 => by rw [u32m]; omega) a b ha hb).1]
 have hab := Nat.and_lt_two_pow a hb
 have h1 := top_nat (a &&& b) hab
 have h2 := top_nat a ha
 have h3 := top_nat b hb
 rw [Nat.testBit_and, Bool.and_eq_true, h2, h3] at h1
 unfold U
 generalize a &&& b = c at *
 omega
theorem bits_xor_nat (a b : Nat) (ha : a < 2 ^ 32) (hb : b < 2 ^ 32) : Go.bits .xor .u32 a b = ((a ^^^ b : Nat) : Int) := by
 have ha' : a % 2 ^ IntKind.u32.bits = a := Nat.mod_eq_of_lt ha
 have hb' : b % 2 ^ IntKind.u32.bits = b := Nat.mod_eq_of_lt hb
 simp only [Go.bits, BitVec.ofInt_natCast, BitVec.toNat_xor, BitVec.toNat_ofNat, ha', hb']
 have := Nat.xor_lt_two_pow ha hb
 rw [u32m]
 omega
theorem bit_xor {x y : Int} (hx : U x) (hy : U y) : U (Go.bits .xor .u32 x y) ∧ (2147483648 ≤ Go.bits .xor .u32 x y ↔ ¬ (2147483648 ≤ x ↔ 2147483648 ≤ y)) := by
 obtain ⟨a, rfl⟩ := Int.eq_ofNat_of_zero_le hx.1
 obtain ⟨b, rfl⟩ := Int.eq_ofNat_of_zero_le hy.1
 have ha : a < 2 ^ 32 := by have := hx.2; omega
 have hb : b < 2 ^ 32 := by have := hy.2; omega
 rw [bits_xor_nat a b ha hb]
 have hab := Nat.xor_lt_two_pow ha hb
 have h1 := top_nat (a ^^^ b) hab
 have h2 := top_nat a ha
 have h3 := top_nat b hb
 rw [Nat.testBit_xor] at h1
 unfold U
 generalize a ^^^ b = c at *
 cases hA : a.testBit 31 <;> cases hB : b.testBit 31 <;> rw [hA] at h1 h2 <;> rw [hB] at h1 h3 <;> simp at h1 h2 h3 <;> omega
theorem sub32 {a b c : Int} (ha : U a) (hb : U b) (hc : c = 0 ∨ c = 1) : bits_Sub32.f a b c = some ((a - b - c) % 4294967296, if a < b + c then 1 else 0) := by
 unfold bits_Sub32.f
 unfold U at ha hb
 have e : ((a - b) % 4294967296 - c) % 4294967296 = (a - b - c) % 4294967296 := by omega
 rw [e]
 have hF : U 4294967295 := by unfold U; omega
 have hd : U ((a - b - c) % 4294967296) := by unfold U; omega
 have h1 := bit_xor hF ha
 have h2 := bit_and h1.1 hb
 have h3 := bit_xor ha hb
 have h4 := bit_xor hF h3.1
 have h5 := bit_and h4.1 hd
 have h6 := bit_or h2.1 h5.1
 congr 2
 have h7 := h6.2
 rw [h2.2, h5.2, h4.2, h1.2, h3.2] at h7
 have h8 := h6.1
 clear h1 h2 h3 h4 h5 h6
 unfold U at h8
 generalize Go.bits .or .u32 (Go.bits .and .u32 (Go.bits .xor .u32 4294967295 a) b) (Go.bits .and .u32 (Go.bits .xor .u32 4294967295 (Go.bits .xor .u32 a b)) ((a - b - c) % 4294967296)) = z at *
 split <;> omega
theorem add32 {a b c : Int} (ha : U a) (hb : U b) (hc : c = 0 ∨ c = 1) : bits_Add32.f a b c = some ((a + b + c) % 4294967296, (a + b + c) / 4294967296) := by
 unfold bits_Add32.f
 unfold U at ha hb
 rw [u64 (x := a) (by omega) (by omega), u64 (x := b) (by omega) (by omega), u64 (x := a + b) (by omega) (by omega), u64 (x := c) (by omega) (by omega), u64 (x := a + b + c) (by omega) (by omega)]
 congr 2
 omega
theorem ms_round {x v : List Int} {i : Nat} {g c b xi cp b' s t : Int} (hi : i < x.length) (hv : i < v.length) (hinv : val (x.take i) = s - g * val (v.take i) + bp i * (c + b)) (hcp : cp = c + g * v.getD i 0) (ht : t = xi - (cp % 4294967296 + b) + 4294967296 * b') :
  val ((x.set i t).take (i + 1)) = (s + bp i * xi) - g * val (v.take (i + 1)) + bp (i + 1) * (cp / 4294967296 + b') := by
 have := mulsub_round (u := x) (v := v) (j := 0) (i := i) (g := g) (c := c) (b := b) (x := xi) (y := cp % 4294967296 + b) (b' := b') (cp := cp) (s := s) (t := t) (by omega) hv (by rw [Nat.zero_add, bp_zero, Int.one_mul]; exact hinv) hcp rfl ht (by simp)
 rwa [Nat.zero_add, Nat.zero_add, bp_zero, Int.one_mul] at this
def st0 (x v : List Int) (g c b : Int) (k : Nat) : Option (Int × List Int) := nt_step0.l1 k x v (v.length : Int) g c b v (v.length : Int) (v.length : Int)
theorem ms_l1 {u v : List Int} {g : Int} (hu : Lim u) (hv : Lim v) (hlen : u.length = v.length + 1) (hs : v.length < 4294967296) (hg : 0 ≤ g) (hg1 : g < 4294967296) (d : Nat) : ∀ (i : Nat) (x : List Int) (c b : Int), i + d = v.length → x.length = u.length → Lim x → x.drop i = u.drop i → 0 ≤ c → c < 4294967296 → (b = 0 ∨ b = 1) → val (x.take i) = val (u.take i) - g * val (v.take i) + bp i * (c + b) →
  ∃ y c' b', (∀ r, Ev (st0 y v g c' b') r → Ev (fun k => nt_step0.l1 k x v (v.length : Int) g c b v (v.length : Int) (i : Int)) r) ∧ y.length = u.length ∧ Lim y ∧ y.drop v.length = u.drop v.length ∧ 0 ≤ c' ∧ c' < 4294967296 ∧ (b' = 0 ∨ b' = 1) ∧ val (y.take v.length) = val (u.take v.length) - g * val v + bp v.length * (c' + b') := by
 induction d with
 | zero =>
  intro i x c b hi hx hlim hd h0 h1 hb hinv
  have e : i = v.length := by omega
  subst e
  refine ⟨x, c, b, fun r hr => hr, hx, hlim, hd, h0, h1, hb, ?_⟩
  rw [hinv, List.take_of_length_le (Nat.le_refl v.length)]
 | succ d ih =>
  intro i x c b hi hx hlim hd h0 h1 hb hinv
  have hxi : x.getD i 0 = u.getD i 0 := by
   have := congrArg (fun l => l.getD 0 0) hd
   simp only [getD_drop] at this
   simpa using this
  have hvi := hv.get i
  have hui := hlim.get i
  have hm : 0 ≤ g * v.getD i 0 ∧ g * v.getD i 0 ≤ 4294967295 * 4294967295 := ⟨Int.mul_nonneg hg hvi.1, Int.mul_le_mul (by omega) (by omega) hvi.1 (by omega)⟩
  have hsub := sub32 (a := x.getD i 0) (b := (g * v.getD i 0 + c) % 4294967296) (c := b) hui ⟨by omega, by omega⟩ hb
  generalize hb' : (if x.getD i 0 < (g * v.getD i 0 + c) % 4294967296 + b then (1 : Int) else 0) = b' at hsub
  have hb2 : b' = 0 ∨ b' = 1 := by rw [← hb']; split <;> omega
  have ht : (x.getD i 0 - (g * v.getD i 0 + c) % 4294967296 - b) % 4294967296 = x.getD i 0 - ((c + g * v.getD i 0) % 4294967296 + b) + 4294967296 * b' := by
   rw [← hb', Int.add_comm c]
   have : 0 ≤ (g * v.getD i 0 + c) % 4294967296 ∧ (g * v.getD i 0 + c) % 4294967296 < 4294967296 := by omega
   generalize (g * v.getD i 0 + c) % 4294967296 = m at *
   unfold U at *
   split <;> omega
  generalize hr : (x.getD i 0 - (g * v.getD i 0 + c) % 4294967296 - b) % 4294967296 = t at hsub ht
  have htl : 0 ≤ t ∧ t < 4294967296 := by omega
  have hround := ms_round (x := x) (v := v) (i := i) (g := g) (c := c) (b := b) (xi := x.getD i 0) (b' := b') (s := val (u.take i)) (t := t) (by omega) (by omega) hinv rfl ht
  obtain ⟨y, c', b'', hy, hl⟩ := ih (i + 1) (x.set i t) ((c + g * v.getD i 0) / 4294967296) b' (by omega) (by simpa using hx) (hlim.set _ htl.1 htl.2) (by
    rw [List.drop_set_of_lt (by omega)]
    have := congrArg (List.drop 1) hd
    simpa [List.drop_drop] using this) (by omega) (by omega) hb2 (by rw [hround, val_take_succ u i (by omega), hxi])
  refine ⟨y, c', b'', fun r hr' => Ev.step (fun k => ?_) (hy r hr'), hl⟩
  simp only [nt_step0.l1, rd_nat, wS i (by omega), Int.toNat_natCast]
  rw [u64 (x := v.getD i 0) (by omega) (by omega), u64 (x := g * v.getD i 0) (by omega) (by omega), u64 (x := g * v.getD i 0 + c) (by omega) (by omega), hsub, Int.add_comm c]
  clear hy hl hround ih hinv hsub ht
  rw [if_pos (by omega), if_pos (by omega), if_pos (by omega), if_pos (by omega)]
  rfl
theorem ab_l2 {u v : List Int} {g : Int} (hu : Lim u) (hv : Lim v) (hlen : u.length = v.length + 1) (hs : v.length < 4294967296) (hg1 : 1 ≤ g) (hg2 : g < 4294967296) (d : Nat) : ∀ (i : Nat) (x : List Int) (b : Int), i + d = v.length → x.length = u.length → Lim x → x.drop i = u.drop i → (b = 0 ∨ b = 1) → val (x.take i) = val (u.take i) + val (v.take i) - bp i * b →
  ∃ y, Ev (fun k => nt_step0.l2 k x (v.length : Int) g b v (v.length : Int) (i : Int)) (g - 1, y) ∧ y.length = u.length ∧ Lim y ∧ (∃ z, val y = val u + val v - bp u.length * z) := by
 induction d with
 | zero =>
  intro i x b hi hx hlim hd hb hinv
  have e : i = v.length := by omega
  subst e
  have hxn := hlim.get v.length
  have hxu : x.getD v.length 0 = u.getD v.length 0 := by
   have := congrArg (fun l => l.getD 0 0) hd
   simp only [getD_drop] at this
   simpa using this
  have ht : 0 ≤ (x.getD v.length 0 + b) % 4294967296 ∧ (x.getD v.length 0 + b) % 4294967296 < 4294967296 := by omega
  refine ⟨x.set v.length ((x.getD v.length 0 + b) % 4294967296), Ev.step (f := fun _ => some (g - 1, x.set v.length ((x.getD v.length 0 + b) % 4294967296))) (fun k => ?_) (Ev.now _), by simpa using hx, hlim.set _ ht.1 ht.2, (x.getD v.length 0 + b) / 4294967296, ?_⟩
  ·simp only [nt_step0.l2, rd_nat, Int.toNat_natCast]
   rw [if_neg (by omega), if_pos (by omega), if_pos (by omega), u64 (by omega) (by omega), show (g - 1) % 4294967296 = g - 1 by omega]
  ·rw [List.take_of_length_le (Nat.le_refl v.length)] at hinv
   have a := val_take_succ (x.set v.length ((x.getD v.length 0 + b) % 4294967296)) v.length (by simp; omega)
   have c := val_take_succ u v.length (by omega)
   rw [List.take_of_length_le (by simp; omega), List.take_set_of_le (Nat.le_refl _)] at a
   rw [List.take_of_length_le (by omega)] at c
   rw [a, c, hinv, hlen, bp_succ, List.getD_eq_getElem?_getD, List.getElem?_set_self (by omega)]
   simp only [Option.getD_some]
   have h2 := Int.mul_ediv_add_emod (x.getD v.length 0 + b) 4294967296
   rw [hxu] at *
   generalize (u.getD v.length 0 + b) / 4294967296 = q at *
   generalize (u.getD v.length 0 + b) % 4294967296 = r at *
   have h3 : r = u.getD v.length 0 + b - 4294967296 * q := by omega
   rw [h3, Int.mul_sub, Int.mul_add, Int.mul_assoc 4294967296, Int.mul_left_comm (bp v.length)]
   omega
 | succ d ih =>
  intro i x b hi hx hlim hd hb hinv
  have hxi : x.getD i 0 = u.getD i 0 := by
   have := congrArg (fun l => l.getD 0 0) hd
   simp only [getD_drop] at this
   simpa using this
  have hvi := hv.get i
  have hui := hlim.get i
  have hadd := add32 (a := x.getD i 0) (b := v.getD i 0) (c := b) hui hvi hb
  have ht : 0 ≤ (x.getD i 0 + v.getD i 0 + b) % 4294967296 ∧ (x.getD i 0 + v.getD i 0 + b) % 4294967296 < 4294967296 ∧ ((x.getD i 0 + v.getD i 0 + b) / 4294967296 = 0 ∨ (x.getD i 0 + v.getD i 0 + b) / 4294967296 = 1) := by omega
  obtain ⟨y, hy, hl⟩ := ih (i + 1) (x.set i ((x.getD i 0 + v.getD i 0 + b) % 4294967296)) ((x.getD i 0 + v.getD i 0 + b) / 4294967296) (by omega) (by simpa using hx) (hlim.set _ ht.1 ht.2.1) (by
    rw [List.drop_set_of_lt (by omega)]
    have := congrArg (List.drop 1) hd
    simpa [List.drop_drop] using this) ht.2.2 (by
    rw [val_take_succ _ i (by simp; omega), List.take_set_of_le (Nat.le_refl _), val_take_succ u i (by omega), val_take_succ v i (by omega), hinv, List.getD_eq_getElem?_getD (l := x.set i _), List.getElem?_set_self (by omega)]
    simp only [Option.getD_some]
    have h2 := Int.mul_ediv_add_emod (x.getD i 0 + v.getD i 0 + b) 4294967296
    rw [hxi] at *
    generalize (u.getD i 0 + v.getD i 0 + b) / 4294967296 = q at *
    generalize (u.getD i 0 + v.getD i 0 + b) % 4294967296 = r at *
    have h3 : r = u.getD i 0 + v.getD i 0 + b - 4294967296 * q := by omega
    rw [h3, Int.mul_sub, Int.mul_add, Int.mul_add, bp_succ, Int.mul_assoc 4294967296, Int.mul_left_comm (bp i)]
    omega)
  refine ⟨y, Ev.step (fun k => ?_) hy, hl⟩
  simp only [nt_step0.l2, rd_nat, wS i (by omega), Int.toNat_natCast]
  rw [hadd]
  clear hy hl ih hinv hadd ht
  rw [if_pos (by omega), if_pos (by omega), if_pos (by omega), if_pos (by omega)]
  rfl
theorem ring1 (s m P c b w b' : Int) : s - m + P * (c + b) + P * (w - c - b + 4294967296 * b') = s + P * w - m + 4294967296 * P * b' := by grind
theorem digit_ev {u v : List Int} {g : Int} (hu : Lim u) (hv : Lim v) (hlen : u.length = v.length + 1) (hs : v.length < 4294967296) (hg : 0 ≤ g) (hg1 : g < 4294967296) (hV : 0 < val v) (h1 : (g - 1) * val v ≤ val u) (h2 : val u < (g + 1) * val v) :
  ∃ y, Ev (fun k => nt_step0.l1 k u v (v.length : Int) g 0 0 v (v.length : Int) ((0 : Nat) : Int)) (val u / val v, y) ∧ y.length = u.length ∧ Lim y ∧ val y = val u % val v := by
 obtain ⟨y, c, b, hy, hyl, hylim, hyd, hc0, hc1, hb, hval⟩ := ms_l1 hu hv hlen hs hg hg1 v.length 0 u 0 0 (by omega) rfl hu rfl (by omega) (by omega) (Or.inl rfl) (by rw [bp_zero]; simp [val])
 have hyn := hylim.get v.length
 have hyu : y.getD v.length 0 = u.getD v.length 0 := by
  have := congrArg (fun l => l.getD 0 0) hyd
  simp only [getD_drop] at this
  simpa using this
 have hsub := sub32 (a := y.getD v.length 0) (b := c) (c := b) hyn ⟨hc0, hc1⟩ hb
 generalize hb' : (if y.getD v.length 0 < c + b then (1 : Int) else 0) = b' at hsub
 have hb2 : b' = 0 ∨ b' = 1 := by rw [← hb']; split <;> omega
 have ht : (y.getD v.length 0 - c - b) % 4294967296 = y.getD v.length 0 - c - b + 4294967296 * b' := by
  rw [← hb']
  unfold U at *
  split <;> omega
 generalize hr : (y.getD v.length 0 - c - b) % 4294967296 = t at hsub ht
 have htl : 0 ≤ t ∧ t < 4294967296 := by omega
 have hz : Lim (y.set v.length t) := hylim.set _ htl.1 htl.2
 have hzl : (y.set v.length t).length = u.length := by simpa using hyl
 have hzv : val (y.set v.length t) = val u - g * val v + bp u.length * b' := by
  have a := val_take_succ (y.set v.length t) v.length (by simp; omega)
  have d := val_take_succ u v.length (by omega)
  rw [List.take_of_length_le (by simp; omega), List.take_set_of_le (Nat.le_refl _), hval, List.getD_eq_getElem?_getD, List.getElem?_set_self (by omega)] at a
  rw [List.take_of_length_le (by omega)] at d
  simp only [Option.getD_some] at a
  rw [a, d, hlen, bp_succ, ht, hyu]
  exact ring1 _ _ _ _ _ _ _
 have hzn := val_nonneg hz
 have hzb := val_lt hz
 rw [hzl] at hzb
 have hbu := val_lt hu
 have hun := val_nonneg hu
 have hst : ∀ k, st0 y v g c b (k + 1) = if b' = 0 then some (g, y.set v.length t) else nt_step0.l2 k (y.set v.length t) (v.length : Int) g 0 v (v.length : Int) 0 := by
  intro k
  simp only [st0, nt_step0.l1, rd_nat, Int.toNat_natCast]
  rw [if_neg (by omega), if_pos (by omega), if_pos (by omega), show c % 4294967296 = c by omega, hsub]
  simp only [Option.bind_some]
  rw [show g % 4294967296 = g by omega]
 rcases hb2 with e | e
 ·rw [e] at hzv hst
  have hq := quot_is (U := val u) (V := val v) (q := g) hV (by omega) h2
  refine ⟨y.set v.length t, hy _ (Ev.step (f := fun _ => some (val u / val v, y.set v.length t)) (fun k => ?_) (Ev.now _)), hzl, hz, ?_⟩
  ·rw [hst, if_pos rfl, hq.1]
  ·rw [hq.2, hzv]; omega
 ·rw [e] at hzv hst
  have hg2 : 1 ≤ g := by
   refine Int.not_lt.1 fun hh => ?_
   have : g = 0 := by omega
   rw [this] at hzv
   omega
  obtain ⟨x, hx, hxl, hxlim, z, hxv⟩ := ab_l2 hz hv (by omega) hs hg2 hg1 v.length 0 (y.set v.length t) 0 (by omega) rfl hz rfl (Or.inl rfl) (by rw [bp_zero]; simp [val])
  rw [hzl] at hxl hxv
  have hxn := val_nonneg hxlim
  have hxb := val_lt hxlim
  rw [hxl] at hxb
  have hlow : val u < g * val v := by omega
  have e1 : (g - 1) * val v = g * val v - val v := by rw [Int.sub_mul, Int.one_mul]
  have hvb : val v ≤ bp u.length := by
   have := val_lt hv
   have := bp_mono (show v.length ≤ u.length by omega)
   omega
  have hbp := bp_pos u.length
  have hz1 : z = 1 := by
   have k1 : val x = val u - (g - 1) * val v + bp u.length * (1 - z) := by rw [hxv, hzv, e1, Int.mul_sub]; omega
   have k2 : bp u.length * (1 - z) < bp u.length * 1 := by omega
   have k3 : bp u.length * (-1) < bp u.length * (1 - z) := by omega
   have k4 := Int.lt_of_mul_lt_mul_left k2 (Int.le_of_lt hbp)
   have k5 := Int.lt_of_mul_lt_mul_left k3 (Int.le_of_lt hbp)
   omega
  have hq := quot_is (U := val u) (V := val v) (q := g - 1) hV h1 (by rw [Int.sub_add_cancel]; exact hlow)
  refine ⟨x, hy _ (Ev.step (fun k => ?_) (f := fun k => nt_step0.l2 k (y.set v.length t) (v.length : Int) g 0 v (v.length : Int) 0) ?_), hxl, hxlim, ?_⟩
  ·rw [hst, if_neg (by omega)]
  ·rw [hq.1]; exact hx
  ·rw [hq.2, hxv, hzv, hz1]; omega
theorem est_l0 {u v : List Int} {m : Nat} (hu : Lim u) (hv : Lim v) (hlen : u.length = v.length + 1) (hm : v.length = m + 2) (hs : v.length < 4294967296) (hV : 0 < val v) (htop : 2147483648 ≤ v.getD (m + 1) 0)
  (hT : u.getD (m + 2) 0 * 4294967296 + u.getD (m + 1) 0 ≤ v.getD (m + 1) 0 * 4294967296 + 4294967295) (hfit : val u < 4294967296 * val v) :
  ∀ (n : Nat) (g r : Int), g.toNat ≤ n → 0 ≤ g → 0 ≤ r → r < 4294967296 → g * v.getD (m + 1) 0 + r = u.getD (m + 2) 0 * 4294967296 + u.getD (m + 1) 0 → val u < (g + 1) * val v →
  ∃ y, Ev (fun k => nt_step0.l0 k u v (v.length : Int) g r) (val u / val v, y) ∧ y.length = u.length ∧ Lim y ∧ val y = val u % val v := by
 have hv1 := hv.get (m + 1)
 have hv2 := hv.get m
 have hu0 := hu.get (m + 2)
 have hu1 := hu.get (m + 1)
 have hu2 := hu.get m
 have hUV := val_top2 v m hm
 have hUU := val_top3 u m (by omega)
 have hvt := val_take_lt hv m (by omega)
 have hut := val_take_lt hu m (by omega)
 have hbp := bp_pos m
 -- the window's way on, once the estimate is right or one too great
 have fin : ∀ g : Int, 0 ≤ g → g < 4294967296 → g * (v.getD (m + 1) 0 * 4294967296 + v.getD m 0) ≤ (u.getD (m + 2) 0 * 4294967296 + u.getD (m + 1) 0) * 4294967296 + u.getD m 0 → val u < (g + 1) * val v →
   ∃ y, Ev (fun k => nt_step0.j2 k u v (v.length : Int) g) (val u / val v, y) ∧ y.length = u.length ∧ Lim y ∧ val y = val u % val v := by
  intro g hg hg1 hle hlt
  have h1 : (g - 1) * val v ≤ val u := by
   by_cases h0 : g = 0
   ·have : (g - 1) * val v ≤ 0 := by rw [h0, Int.zero_sub, Int.neg_mul, Int.one_mul]; omega
    have := val_nonneg hu
    omega
   ·refine knuth_le (P := bp m) (W := v.getD (m + 1) 0 * 4294967296 + v.getD m 0) (T := (u.getD (m + 2) 0 * 4294967296 + u.getD (m + 1) 0) * 4294967296 + u.getD m 0) ?_ ?_ (by omega) (by omega) hbp hle
    ·rw [hUV]
     generalize v.getD (m + 1) 0 * 4294967296 + v.getD m 0 = W
     rw [Int.mul_add (bp m) W 1, Int.mul_one]; omega
    ·rw [hUU]; omega
  obtain ⟨y, hy, hl⟩ := digit_ev hu hv hlen hs hg hg1 hV h1 hlt
  refine ⟨y, Ev.step (fun k => ?_) hy, hl⟩
  simp only [nt_step0.j2]; rfl
 have i2 : wrap64 ((v.length : Int) - 2) = (m : Int) := by rw [w64 (by omega) (by omega)]; omega
 have i1 : wrap64 ((v.length : Int) - 1) = ((m + 1 : Nat) : Int) := by rw [w64 (by omega) (by omega)]; omega
 have lm : m < v.length ∧ m < u.length ∧ m + 1 < v.length := by clear i1 i2; omega
 -- one less
 have less : ∀ (n : Nat), (∀ (g r : Int), g.toNat < n → 0 ≤ g → 0 ≤ r → r < 4294967296 → g * v.getD (m + 1) 0 + r = u.getD (m + 2) 0 * 4294967296 + u.getD (m + 1) 0 → val u < (g + 1) * val v →
   ∃ y, Ev (fun k => nt_step0.l0 k u v (v.length : Int) g r) (val u / val v, y) ∧ y.length = u.length ∧ Lim y ∧ val y = val u % val v) →
   ∀ (g r : Int), g.toNat < n + 1 → 1 ≤ g → 0 ≤ r → r < 4294967296 → g < 18446744073709551616 → g * v.getD (m + 1) 0 + r = u.getD (m + 2) 0 * 4294967296 + u.getD (m + 1) 0 → val u < g * val v →
   ∃ y, Ev (fun k => nt_step0.j1 k u v (v.length : Int) g r true) (val u / val v, y) ∧ y.length = u.length ∧ Lim y ∧ val y = val u % val v := by
  intro n ih g r hn hg hr hr1 hg2 hinv hlt
  have hinv2 : (g - 1) * v.getD (m + 1) 0 + (r + v.getD (m + 1) 0) = u.getD (m + 2) 0 * 4294967296 + u.getD (m + 1) 0 := by rw [Int.sub_mul, Int.one_mul]; omega
  have hlt2 : val u < (g - 1 + 1) * val v := by rw [Int.sub_add_cancel]; exact hlt
  have ew : IntKind.u64.wrap (g - 1) = g - 1 := u64 (by omega) (by omega)
  have er : IntKind.u64.wrap (r + IntKind.u64.wrap (v.getD (m + 1) 0)) = r + v.getD (m + 1) 0 := by rw [u64 (x := v.getD (m + 1) 0) (by omega) (by omega), u64 (by omega) (by omega)]
  by_cases hb : r + v.getD (m + 1) 0 ≥ 4294967296
  ·have hlt3 : g - 1 < 4294967296 := by
    have : (g - 1) * v.getD (m + 1) 0 < 4294967296 * v.getD (m + 1) 0 := by rw [Int.mul_comm 4294967296]; omega
    exact Int.lt_of_mul_lt_mul_right this (by omega)
   obtain ⟨y, hy, hl⟩ := fin (g - 1) (by omega) hlt3 (by
    have a : (g - 1) * v.getD m 0 ≤ 4294967296 * 4294967296 := Int.mul_le_mul (by omega) (by omega) (by omega) (by omega)
    rw [Int.mul_add, ← Int.mul_assoc]
    omega) hlt2
   refine ⟨y, Ev.step (fun k => ?_) hy, hl⟩
   simp only [nt_step0.j1, i1, rd_nat, er, ew]
   rw [if_pos trivial, if_pos (by omega), if_pos (by omega), if_pos hb]
  ·obtain ⟨y, hy, hl⟩ := ih (g - 1) (r + v.getD (m + 1) 0) (by omega) (by omega) (by omega) (by omega) hinv2 hlt2
   refine ⟨y, Ev.step (fun k => ?_) hy, hl⟩
   simp only [nt_step0.j1, i1, rd_nat, er, ew]
   rw [if_pos trivial, if_pos (by omega), if_pos (by omega), if_neg hb]
 intro n
 suffices h : ∀ (n : Nat) (g r : Int), g.toNat < n → 0 ≤ g → 0 ≤ r → r < 4294967296 → g * v.getD (m + 1) 0 + r = u.getD (m + 2) 0 * 4294967296 + u.getD (m + 1) 0 → val u < (g + 1) * val v →
   ∃ y, Ev (fun k => nt_step0.l0 k u v (v.length : Int) g r) (val u / val v, y) ∧ y.length = u.length ∧ Lim y ∧ val y = val u % val v from fun g r h1 => h (n + 1) g r (by omega)
 intro n
 induction n with
 | zero => intro g r hn; omega
 | succ n ih =>
  intro g r hn hg hr hr1 hinv hlt
  by_cases hB : g ≥ 4294967296
  ·have hg2 : g < 18446744073709551616 := by
    refine Int.not_le.1 fun hh => ?_
    have : 18446744073709551616 * 2147483648 ≤ g * v.getD (m + 1) 0 := Int.mul_le_mul hh htop (by omega) (by omega)
    omega
   have hlt1 : val u < g * val v := by
    have : 4294967296 * val v ≤ g * val v := Int.mul_le_mul_of_nonneg_right hB (by omega)
    omega
   obtain ⟨y, hy, hl⟩ := less n ih g r hn (by omega) hr hr1 hg2 hinv hlt1
   refine ⟨y, Ev.step (fun k => ?_) hy, hl⟩
   simp only [nt_step0.l0]; rw [if_pos hB]
  ·have hp : 0 ≤ g * v.getD m 0 ∧ g * v.getD m 0 ≤ 4294967295 * 4294967295 := ⟨Int.mul_nonneg hg hv2.1, Int.mul_le_mul (by omega) (by omega) hv2.1 (by omega)⟩
   have hcond : ∀ k, nt_step0.l0 (k + 1) u v (v.length : Int) g r = nt_step0.j1 k u v (v.length : Int) g r (decide (g * v.getD m 0 > r * 4294967296 + u.getD m 0)) := by
    intro k
    simp only [nt_step0.l0, i2, rd_nat]
    rw [if_neg hB, if_pos (by omega), if_pos (by omega), if_pos (by omega), or_add hr hr1 hu2.1 hu2.2, u64 (x := v.getD m 0) (by omega) (by omega), u64 hp.1 (by omega)]
   by_cases hc : g * v.getD m 0 > r * 4294967296 + u.getD m 0
   ·have hg1 : 1 ≤ g := by
     refine Int.not_lt.1 fun hh => ?_
     have : g = 0 := by omega
     rw [this, Int.zero_mul] at hc
     omega
    have hlt1 : val u < g * val v := by
     refine knuth_dec (P := bp m) (W := v.getD (m + 1) 0 * 4294967296 + v.getD m 0) (T := (u.getD (m + 2) 0 * 4294967296 + u.getD (m + 1) 0) * 4294967296 + u.getD m 0) ?_ ?_ hg hbp ?_
     ·rw [hUV]; omega
     ·rw [hUU]
      generalize (u.getD (m + 2) 0 * 4294967296 + u.getD (m + 1) 0) * 4294967296 + u.getD m 0 = W
      rw [Int.mul_add (bp m) W 1, Int.mul_one]; omega
     ·rw [Int.mul_add, ← Int.mul_assoc, ← hinv]; omega
    obtain ⟨y, hy, hl⟩ := less n ih g r hn hg1 hr hr1 (by omega) hinv hlt1
    refine ⟨y, Ev.step (fun k => ?_) hy, hl⟩
    rw [hcond, decide_eq_true hc]
   ·obtain ⟨y, hy, hl⟩ := fin g hg (by omega) (by rw [Int.mul_add, ← Int.mul_assoc, ← hinv]; omega) hlt
    refine ⟨y, Ev.step (fun k => ?_) (Ev.step (f := fun k => nt_step0.j2 k u v (v.length : Int) g) (g := fun k => nt_step0.j1 k u v (v.length : Int) g r false) (fun k => ?_) hy), hl⟩
    ·rw [hcond, decide_eq_false hc]
    ·simp only [nt_step0.j1]; rw [if_neg (by simp)]
theorem step0_ev {u v : List Int} {m : Nat} (hu : Lim u) (hv : Lim v) (hlen : u.length = v.length + 1) (hm : v.length = m + 2) (hs : v.length < 4294967296) (htop : 2147483648 ≤ v.getD (m + 1) 0) (hfit : val u < 4294967296 * val v) :
  ∃ y, Ev (fun k => nt_step0.f k u v) (val u / val v, y) ∧ y.length = u.length ∧ Lim y ∧ val y = val u % val v := by
 have hv1 := hv.get (m + 1)
 have hv2 := hv.get m
 have hu0 := hu.get (m + 2)
 have hu1 := hu.get (m + 1)
 have hu2 := hu.get m
 have hUV := val_top2 v m hm
 have hUU := val_top3 u m (by omega)
 have hvt := val_take_lt hv m (by omega)
 have hut := val_take_lt hu m (by omega)
 have hbp := bp_pos m
 have hV : 0 < val v := by
  have : 0 < bp m * (v.getD (m + 1) 0 * 4294967296 + v.getD m 0) := Int.mul_pos hbp (by omega)
  omega
 have hT : u.getD (m + 2) 0 * 4294967296 + u.getD (m + 1) 0 ≤ v.getD (m + 1) 0 * 4294967296 + 4294967295 := by
  refine Int.not_lt.1 fun hh => ?_
  have a : bp m * ((v.getD (m + 1) 0 * 4294967296 + 4294967296) * 4294967296) ≤ bp m * ((u.getD (m + 2) 0 * 4294967296 + u.getD (m + 1) 0) * 4294967296 + u.getD m 0) := Int.mul_le_mul_of_nonneg_left (by omega) (by omega)
  have b : bp m * (v.getD (m + 1) 0 * 4294967296 + v.getD m 0 + 1) ≤ bp m * (v.getD (m + 1) 0 * 4294967296 + 4294967296) := Int.mul_le_mul_of_nonneg_left (by omega) (by omega)
  rw [← Int.mul_assoc] at a
  rw [Int.mul_add (bp m) _ 1, Int.mul_one] at b
  omega
 have h0 : 0 ≤ u.getD (m + 2) 0 * 4294967296 + u.getD (m + 1) 0 := by omega
 have hq := Int.mul_ediv_add_emod (u.getD (m + 2) 0 * 4294967296 + u.getD (m + 1) 0) (v.getD (m + 1) 0)
 have hr0 := Int.emod_nonneg (u.getD (m + 2) 0 * 4294967296 + u.getD (m + 1) 0) (show v.getD (m + 1) 0 ≠ 0 by omega)
 have hr1 := Int.emod_lt_of_pos (u.getD (m + 2) 0 * 4294967296 + u.getD (m + 1) 0) (show 0 < v.getD (m + 1) 0 by omega)
 have hg0 := Int.ediv_nonneg h0 (show 0 ≤ v.getD (m + 1) 0 by omega)
 have hgb : (u.getD (m + 2) 0 * 4294967296 + u.getD (m + 1) 0) / v.getD (m + 1) 0 ≤ u.getD (m + 2) 0 * 4294967296 + u.getD (m + 1) 0 := Int.ediv_le_self _ h0
 have e1 : Int.tdiv (u.getD (m + 2) 0 * 4294967296 + u.getD (m + 1) 0) (v.getD (m + 1) 0) = (u.getD (m + 2) 0 * 4294967296 + u.getD (m + 1) 0) / v.getD (m + 1) 0 := Int.tdiv_eq_ediv_of_nonneg h0
 have e2 : Int.tmod (u.getD (m + 2) 0 * 4294967296 + u.getD (m + 1) 0) (v.getD (m + 1) 0) = (u.getD (m + 2) 0 * 4294967296 + u.getD (m + 1) 0) % v.getD (m + 1) 0 := Int.tmod_eq_emod_of_nonneg h0
 have hor := or_add hu0.1 hu0.2 hu1.1 hu1.2
 generalize hqq : (u.getD (m + 2) 0 * 4294967296 + u.getD (m + 1) 0) / v.getD (m + 1) 0 = g at *
 generalize hrr : (u.getD (m + 2) 0 * 4294967296 + u.getD (m + 1) 0) % v.getD (m + 1) 0 = r at *
 have hinv : g * v.getD (m + 1) 0 + r = u.getD (m + 2) 0 * 4294967296 + u.getD (m + 1) 0 := by rw [Int.mul_comm]; exact hq
 have hlt : val u < (g + 1) * val v := by
  refine knuth_dec (P := bp m) (W := v.getD (m + 1) 0 * 4294967296 + v.getD m 0) (T := (u.getD (m + 2) 0 * 4294967296 + u.getD (m + 1) 0) * 4294967296 + u.getD m 0) ?_ ?_ (by omega) hbp ?_
  ·rw [hUV]; omega
  ·rw [hUU]
   generalize (u.getD (m + 2) 0 * 4294967296 + u.getD (m + 1) 0) * 4294967296 + u.getD m 0 = W
   rw [Int.mul_add (bp m) W 1, Int.mul_one]; omega
  ·have a : (g + 1) * v.getD (m + 1) 0 = g * v.getD (m + 1) 0 + v.getD (m + 1) 0 := by rw [Int.add_mul, Int.one_mul]
   have b : 0 ≤ (g + 1) * v.getD m 0 := Int.mul_nonneg (by omega) hv2.1
   rw [Int.mul_add, ← Int.mul_assoc, a, ← hinv]
   omega
 obtain ⟨y, hy, hl⟩ := est_l0 hu hv hlen hm hs hV htop hT hfit g.toNat g r (Nat.le_refl _) hg0 hr0 (by omega) hinv hlt
 refine ⟨y, Ev.congr (fun k => ?_) hy, hl⟩
 have i1 : wrap64 ((v.length : Int) - 1) = ((m + 1 : Nat) : Int) := by rw [w64 (by omega) (by omega)]; omega
 have i0 : (v.length : Int) = ((m + 2 : Nat) : Int) := by omega
 simp only [nt_step0.f, i1]
 clear i1 hy hl hlt
 rw [if_pos (by omega), if_pos (by omega), if_pos (by omega), if_pos (by omega), if_pos (by omega)]
 simp only [rd_nat]
 rw [show u.getD v.length 0 = u.getD (m + 2) 0 by rw [hm], u64 (x := u.getD (m + 2) 0) (by omega) (by omega), hor, u64 (x := v.getD (m + 1) 0) (by omega) (by omega), if_neg (by omega), e1, e2, u64 hg0 (by omega)]
theorem step_ev {u v : List Int} {m i : Nat} (hu : Lim u) (hv : Lim v) (hi : i + v.length + 1 ≤ u.length) (hm : v.length = m + 2) (hs : v.length < 4294967296) (htop : 2147483648 ≤ v.getD (m + 1) 0) (hfit : val ((u.take (i + v.length + 1)).drop i) < 4294967296 * val v) :
  ∃ y, Ev (fun k => nt_step.f k u (i : Int) ((i + v.length + 1 : Nat) : Int) v) (val ((u.take (i + v.length + 1)).drop i) / val v, u.take i ++ y ++ u.drop (i + v.length + 1)) ∧ y.length = v.length + 1 ∧ Lim y ∧ val y = val ((u.take (i + v.length + 1)).drop i) % val v := by
 have hl : ((u.take (i + v.length + 1)).drop i).length = v.length + 1 := by simp; omega
 obtain ⟨y, hy, h1, h2, h3⟩ := step0_ev ((hu.take _).drop _) hv hl hm hs htop hfit
 refine ⟨y, ?_, by rw [h1, hl], h2, h3⟩
 have := Ev.bind (f := fun _ (p : Int × List Int) => some (p.1, u.take i ++ p.2 ++ u.drop (i + v.length + 1))) hy (Ev.now _)
 refine Ev.congr (fun k => ?_) this
 simp only [nt_step.f, Int.toNat_natCast]
 rw [if_pos (by omega)]
theorem val_drop_zero {u : List Int} (h : Lim u) {n : Nat} (hn : n ≤ u.length) (hlt : val u < bp n) : val (u.drop n) = 0 ∧ val (u.take n) = val u := by
 have a := val_take_drop u n hn
 have b := val_nonneg (h.take n)
 have c := val_nonneg (h.drop n)
 have d : bp n * val (u.drop n) < bp n * 1 := by omega
 have e := Int.lt_of_mul_lt_mul_left d (Int.le_of_lt (bp_pos n))
 have f : val (u.drop n) = 0 := by omega
 rw [f] at a
 exact ⟨f, by omega⟩
theorem wP (i : Nat) (h : i < 4611686018427387904) : wrap64 ((i : Int) - 1) = (i : Int) - 1 := w64 (by omega) (by omega)
theorem wW (i n : Nat) (h : i + n < 4611686018427387904) : wrap64 (wrap64 ((i : Int) + (n : Int)) + 1) = ((i + n + 1 : Nat) : Int) := by rw [w64 (x := (i : Int) + (n : Int)) (by omega) (by omega), w64 (by omega) (by omega)]; omega
theorem ring2 (a p w r d V B Q : Int) (h : V * d + r = w) : a + p * w + B * p * Q * V = a + p * r + p * (d + B * Q) * V := by rw [← h]; grind
theorem divide_l0 {v : List Int} {m s : Nat} {A : Int} (hs : s < 32) (hv : Lim v) (hm : v.length = m + 2) (hvs : v.length < 1000000000) (htop : 2147483648 ≤ v.getD (m + 1) 0) :
  ∀ (n : Nat) (u q : List Int), n ≤ q.length → u.length = q.length + v.length → u.length < 2000000000 → Lim u → Lim q → val u < bp n * val v → A = val u + bp n * val (q.drop n) * val v →
  Ev (fun k => nt_divide.l0 k (s : Int) (v.length : Int) v u q ((n : Int) - 1)) (lenc (A / val v).toNat, lenc (A % val v / 2 ^ s).toNat) := by
 have hvb := val_lt hv
 have hV : 0 < val v := by
  have a := val_get_le hv (m + 1) (by omega)
  have : 0 < bp (m + 1) * v.getD (m + 1) 0 := Int.mul_pos (bp_pos _) (by omega)
  omega
 intro n
 induction n with
 | zero =>
  intro u q hn hl hul hu hq hlt hA
  rw [bp_zero, Int.one_mul] at hlt
  rw [bp_zero, Int.one_mul, List.drop_zero] at hA
  have hz := val_drop_zero hu (n := v.length) (by omega) (by omega)
  have hq2 := quot_is (U := A) (V := val v) (q := val q) hV (by have := val_nonneg hu; omega) (by rw [Int.add_mul, Int.one_mul]; omega)
  have e : A % val v = val u := by rw [hq2.2]; omega
  rw [hq2.1, e, ← hz.2]
  have h1 := limbs_trim_ev hq (by omega)
  have h2 := unshift_ev hs (hu.take v.length) (by simp; omega)
  refine Ev.step (f := fun k => (nt_limbs_trim.f k q).bind fun t471 => (nt_unshift.f k (u.take v.length) (s : Int)).bind fun t478 => some (t471, t478)) (fun k => ?_) (Ev.bind h1 (Ev.bind h2 (Ev.now _)))
  simp only [nt_divide.l0, Int.toNat_natCast]
  have c1 : (0 : Int) ≤ (v.length : Int) := by omega
  have c2 : (v.length : Int) ≤ (u.length : Int) := by omega
  rw [if_neg (by omega)]
  simp only [c1, c2, if_true]
 | succ n ih =>
  intro u q hn hl hul hu hq hlt hA
  have hbn := bp_pos n
  have hlt2 : val u < bp (n + v.length + 1) := by
   have : bp (n + 1) * val v < bp (n + 1) * bp v.length := Int.mul_lt_mul_of_pos_left hvb (bp_pos _)
   rw [← bp_add, show n + 1 + v.length = n + v.length + 1 by omega] at this
   omega
  have hz := val_drop_zero hu (n := n + v.length + 1) (by omega) hlt2
  have hsp := val_take_drop (u.take (n + v.length + 1)) n (by simp; omega)
  rw [hz.2, List.take_take, Nat.min_eq_left (by omega)] at hsp
  have htk := val_take_lt hu n (by omega)
  have hfit : val ((u.take (n + v.length + 1)).drop n) < 4294967296 * val v := by
   refine Int.lt_of_mul_lt_mul_left (a := bp n) ?_ (by omega)
   rw [bp_succ] at hlt
   rw [← Int.mul_assoc, Int.mul_comm (bp n) 4294967296]
   omega
  obtain ⟨y, hy, hyl, hylim, hyv⟩ := step_ev (i := n) hu hv (by omega) hm (by omega) htop hfit
  have hwn := val_nonneg ((hu.take (n + v.length + 1)).drop n)
  generalize hw : val ((u.take (n + v.length + 1)).drop n) = w at *
  have hd0 : 0 ≤ w / val v := Int.ediv_nonneg hwn (by omega)
  have hd1 : w / val v < 4294967296 := by rw [Int.ediv_lt_iff_lt_mul hV]; omega
  have hr0 := Int.emod_nonneg w (show val v ≠ 0 by omega)
  have hr1 := Int.emod_lt_of_pos w hV
  have hdm := Int.mul_ediv_add_emod w (val v)
  have hl2 : (u.take n ++ y).length = n + v.length + 1 := by simp; omega
  have hnv : val (u.take n ++ y ++ u.drop (n + v.length + 1)) = val (u.take n) + bp n * (w % val v) := by
   rw [val_append, hz.1, val_append, hyv, List.length_take, Nat.min_eq_left (by omega)]; omega
  have := ih (u.take n ++ y ++ u.drop (n + v.length + 1)) (q.set n (w / val v)) (by simp; omega) (by simp; omega) (by simp; omega) (((hu.take _).append hylim).append (hu.drop _)) (hq.set _ hd0 hd1) (by
    rw [hnv]
    have a : bp n * (w % val v) ≤ bp n * (val v - 1) := Int.mul_le_mul_of_nonneg_left (by omega) (by omega)
    rw [Int.mul_sub, Int.mul_one] at a
    omega) (by
    rw [hnv, hA, drop_set q n _ (by omega), hsp, bp_succ]
    exact ring2 _ _ _ _ _ _ _ _ hdm)
  refine Ev.step (fun k => ?_) (f := fun k => (nt_step.f k u (n : Int) ((n + v.length + 1 : Nat) : Int) v).bind fun bt468 => (if (n : Int) < (q.length : Int) then (nt_divide.l0 k (s : Int) (v.length : Int) v bt468.2 (q.set n bt468.1) ((n : Int) - 1)) else none)) ?_
  ·have e1 : ((n + 1 : Nat) : Int) - 1 = (n : Int) := by omega
   simp only [nt_divide.l0, e1, wW n v.length (by omega), wP n (by omega), Int.toNat_natCast]
   clear e1 this hy
   rw [if_pos (by omega), if_pos (by omega), if_pos (by omega), if_pos (by omega)]
  ·refine Ev.bind hy ?_
   have c3 : (n : Int) < (q.length : Int) := by clear this hy; omega
   simp only [c3, if_true]
   exact this
theorem lead_zeros {x : Int} (h0 : 0 < x) (h1 : x < 4294967296) : ∃ s : Nat, bits_LeadingZeros32.f x = some (s : Int) ∧ s < 32 ∧ 2147483648 ≤ 2 ^ s * x ∧ 2 ^ s * x < 4294967296 := by
 obtain ⟨n, rfl⟩ := Int.eq_ofNat_of_zero_le (Int.le_of_lt h0)
 have hb := Go.Lib.bitLenAux_bounds 64 n (by omega) (by omega)
 have e : Go.Lib.bitLen n = Go.Lib.bitLenAux 64 n := rfl
 unfold bits_LeadingZeros32.f
 rw [if_pos (by omega), Int.toNat_natCast, e]
 generalize Go.Lib.bitLenAux 64 n = L at hb
 have hL : L ≤ 32 := by
  refine Nat.not_lt.1 fun hh => ?_
  have : 2 ^ 32 ≤ 2 ^ (L - 1) := Nat.pow_le_pow_right (by decide) (by omega)
  omega
 have p1 : 2 ^ (32 - L) * 2 ^ (L - 1) = 2147483648 := by rw [← Nat.pow_add, show 32 - L + (L - 1) = 31 by omega]
 have p2 : 2 ^ (32 - L) * 2 ^ L = 4294967296 := by rw [← Nat.pow_add, show 32 - L + L = 32 by omega]
 have hp : 0 < 2 ^ (32 - L) := Nat.two_pow_pos _
 have q1 := Nat.mul_le_mul_left (2 ^ (32 - L)) hb.2.1
 have q2 := Nat.mul_lt_mul_of_pos_left hb.2.2 hp
 have ec : (2 : Int) ^ (32 - L) * (n : Int) = ((2 ^ (32 - L) * n : Nat) : Int) := by simp
 refine ⟨32 - L, by congr 1; omega, by omega, by rw [ec]; omega, by rw [ec]; omega⟩
theorem top_fit {l : List Int} {k s : Nat} (hs : s < 32) (h : Lim l) (hl : l.length = k + 1) (ht : 2147483648 ≤ 2 ^ s * l.getD k 0) (ht2 : 2 ^ s * l.getD k 0 < 4294967296) :
  2 ^ s * val l < bp l.length ∧ bp k * 2147483648 ≤ 2 ^ s * val l := by
 have hp := pow_lim hs
 have hb := bp_pos k
 have a := val_take_succ l k (by omega)
 rw [List.take_of_length_le (by omega)] at a
 have b := val_take_lt h k (by omega)
 have c : 2 ^ s * l.getD k 0 ≤ 4294967296 - 2 ^ s := by
  obtain ⟨q, hq⟩ := Int.dvd_of_emod_eq_zero hp.2.2
  generalize (2 : Int) ^ s = p at *
  have : l.getD k 0 < q := Int.lt_of_mul_lt_mul_left (show p * l.getD k 0 < p * q by omega) (by omega)
  have : p * l.getD k 0 ≤ p * (q - 1) := Int.mul_le_mul_of_nonneg_left (by omega) (by omega)
  rw [Int.mul_sub] at this
  omega
 have e : 2 ^ s * val l = 2 ^ s * val (l.take k) + bp k * (2 ^ s * l.getD k 0) := by rw [a, Int.mul_add, Int.mul_left_comm]
 have d1 : 2 ^ s * val (l.take k) < 2 ^ s * bp k := Int.mul_lt_mul_of_pos_left b.2 (by omega)
 have d2 : 0 ≤ 2 ^ s * val (l.take k) := Int.mul_nonneg (by omega) b.1
 have d3 : bp k * (2 ^ s * l.getD k 0) ≤ bp k * (4294967296 - 2 ^ s) := Int.mul_le_mul_of_nonneg_left c (by omega)
 have d4 : bp k * 2147483648 ≤ bp k * (2 ^ s * l.getD k 0) := Int.mul_le_mul_of_nonneg_left ht (by omega)
 rw [Int.mul_sub, Int.mul_comm (bp k) (2 ^ s)] at d3
 rw [hl, bp_succ]
 rw [Int.mul_comm (bp k) 4294967296] at d3
 exact ⟨by omega, by omega⟩
theorem top_of {y : List Int} {k : Nat} (h : Lim y) (hl : y.length = k + 1) (hv : bp k * 2147483648 ≤ val y) : 2147483648 ≤ y.getD k 0 := by
 have hb := bp_pos k
 have a := val_take_succ y k (by omega)
 rw [List.take_of_length_le (by omega)] at a
 have b := val_take_lt h k (by omega)
 have : bp k * 2147483648 < bp k * (y.getD k 0 + 1) := by rw [Int.mul_add, Int.mul_one]; omega
 have := Int.lt_of_mul_lt_mul_left this (Int.le_of_lt hb)
 omega
theorem divide_ev {l m : List Int} (h : T.Can l) (hm : T.Can m) (hl : l.length < 900000000) (hml : m.length < 900000000) (hV : 0 < val m) : Ev (fun k => nt_divide.f k l m) (lenc (val l / val m).toNat, lenc (val l % val m).toNat) := by
 have hln := val_nonneg h.1
 unfold nt_divide.f
 refine Ev.bind (compare_ev h hm (by omega) (by omega)) ?_
 by_cases hlt : val l < val m
 ·have e : sg (val l - val m) = -1 := by unfold sg; rw [if_pos (by omega)]
  have e1 : val l / val m = 0 := Int.ediv_eq_zero_of_lt hln hlt
  have e2 : val l % val m = val l := Int.emod_eq_of_lt hln hlt
  rw [e, e1, e2]
  refine Ev.congr (f := fun _ => some (([] : List Int), l)) (fun k => by rw [if_pos (by omega)]) ?_
  rw [← can_eq h, show (0 : Int).toNat = 0 from rfl, lenc_zero]
  exact Ev.now _
 ·have e : ¬ sg (val l - val m) < 0 := by unfold sg; rw [if_neg (by omega)]; split <;> omega
  have hne : m ≠ [] := by
   intro e0
   rw [e0] at hV
   exact absurd hV (by simp [val])
  have hlen : 0 < m.length := List.length_pos_iff.2 hne
  by_cases h1 : m.length = 1
  ·have hm0 : val m = m.getD 0 0 := by
    match m, h1 with
    | [x], _ => simp [val]
   have hg := hm.1.get 0
   have hsm := small_ev h.1 (d := m.getD 0 0) (by omega) (by omega) (by omega)
   have hr : 0 ≤ val l % m.getD 0 0 ∧ val l % m.getD 0 0 < 4294967296 := ⟨Int.emod_nonneg _ (by omega), by have := Int.emod_lt_of_pos (val l) (show 0 < m.getD 0 0 by omega); omega⟩
   have htr := limbs_trim_ev (l := [val l % m.getD 0 0]) (Lim.cons hr.1 hr.2 Lim.nil) (by simp)
   rw [show val [val l % m.getD 0 0] = val l % m.getD 0 0 by simp [val]] at htr
   refine Ev.congr (f := fun k => (nt_divideSmall.f k l (m.getD 0 0)).bind fun bt447 => ((nt_limbs_trim.f k (([bt447.2] : List Int))).bind fun t454 => (some (bt447.1, t454)))) (fun k => ?_) ?_
   ·rw [if_neg e, if_pos (by omega), if_pos (by omega), show rd m 0 = m.getD 0 0 from rd_nat m 0]
   ·rw [hm0]
    exact Ev.bind hsm (Ev.bind htr (Ev.now _))
  ·obtain ⟨k, hk⟩ : ∃ k, m.length = k + 2 := ⟨m.length - 2, by omega⟩
   have htop0 : m.getD (k + 1) 0 ≠ 0 := by
    have := hm.2 (m.getD (k + 1) 0) (by
     rw [List.getLast?_eq_getElem?, hk, show k + 2 - 1 = k + 1 by omega, List.getD_eq_getElem?_getD, List.getElem?_eq_getElem (by omega)]; rfl)
    exact this
   have hg := hm.1.get (k + 1)
   obtain ⟨s, hs, hs1, hs2, hs3⟩ := lead_zeros (x := m.getD (k + 1) 0) (by omega) hg.2
   have hp := pow_lim hs1
   have hfit := top_fit (k := k + 1) hs1 hm.1 (by omega) hs2 hs3
   obtain ⟨v, hv, hvl, hvn, hvv⟩ := shift_ev (n := m.length) hs1 hm.1 (Nat.le_refl _) (by omega) hfit.1
   have hfl : 2 ^ s * val l < bp (l.length + 1) := by
    rw [bp_succ]
    have a := val_lt h.1
    have b : 2 ^ s * val l < 2 ^ s * bp l.length := Int.mul_lt_mul_of_pos_left a (by omega)
    have c : 2 ^ s * bp l.length ≤ 4294967296 * bp l.length := Int.mul_le_mul_of_nonneg_right (by omega) (Int.le_of_lt (bp_pos _))
    omega
   obtain ⟨u, hu, hul, hun, huv⟩ := shift_ev (n := l.length + 1) hs1 h.1 (by omega) (by omega) hfl
   have hvt := top_of (k := k + 1) hvl (by omega) (by rw [hvv]; exact hfit.2)
   have hml2 : m.length ≤ l.length := by
    refine Nat.not_lt.1 fun hh => hlt (can_shorter h.1 hm hh)
   have hloop := divide_l0 (s := s) (A := 2 ^ s * val l) hs1 hvl (m := k) (by omega) (by omega) hvt (l.length - m.length + 1) u (List.replicate (l.length - m.length + 1) 0) (by simp) (by simp; omega) (by omega) hul (Lim.zeros _) (by
     rw [huv, hvv, Int.mul_left_comm]
     refine Int.mul_lt_mul_of_pos_left ?_ (by omega)
     have a := val_lt h.1
     have b := can_low hm hne
     have c : bp (l.length - m.length + 1) * bp (m.length - 1) ≤ bp (l.length - m.length + 1) * val m := Int.mul_le_mul_of_nonneg_left b (Int.le_of_lt (bp_pos _))
     rw [← bp_add, show l.length - m.length + 1 + (m.length - 1) = l.length by omega] at c
     omega) (by rw [List.drop_eq_nil_of_le (by simp), huv]; simp [val])
   rw [hvv, Int.mul_ediv_mul_of_pos _ _ (by omega), Int.mul_emod_mul_of_pos _ _ (by omega), Int.mul_ediv_cancel_left _ (by omega)] at hloop
   have i1 : wrap64 ((m.length : Int) - 1) = ((k + 1 : Nat) : Int) := by rw [w64 (by omega) (by omega)]; omega
   refine Ev.congr (f := fun f => (nt_shift.f f m (s : Int) (m.length : Int)).bind fun t459 => (nt_shift.f f l (s : Int) ((l.length + 1 : Nat) : Int)).bind fun t462 => nt_divide.l0 f (s : Int) (m.length : Int) t459 t462 (List.replicate (l.length - m.length + 1) 0) (((l.length - m.length + 1 : Nat) : Int) - 1)) (fun f => ?_) ?_
   ·have i2 := wS l.length (by clear i1; omega)
    have i3 : wrap64 (wrap64 ((l.length : Int) - (m.length : Int)) + 1) = ((l.length - m.length + 1 : Nat) : Int) := by
     clear i1 i2
     rw [w64 (x := (l.length : Int) - (m.length : Int)) (by omega) (by omega), w64 (by omega) (by omega)]; omega
    have i4 := wP (l.length - m.length + 1) (by clear i1 i2 i3; omega)
    have c1 : (0 : Int) ≤ ((k + 1 : Nat) : Int) ∧ ((k + 1 : Nat) : Int) < (m.length : Int) ∧ (0 : Int) ≤ ((l.length - m.length + 1 : Nat) : Int) ∧ l.length - m.length + 1 ≤ 70368744177664 ∧ ¬ (m.length : Int) = 1 := by clear i1 i2 i3 i4; omega
    rw [if_neg e, if_neg c1.2.2.2.2, i1, if_pos c1.1, if_pos c1.2.1, rd_nat, hs]
    simp only [Option.bind_some, i2, i3, Int.toNat_natCast, c1.2.2.1, c1.2.2.2.1, if_true, List.length_replicate, i4]
    rw [u64 (x := (s : Int)) (by clear i1 i2 i3 i4; omega) (by clear i1 i2 i3 i4; omega)]
   ·rw [hvn] at hloop
    exact Ev.bind hv (Ev.bind hu hloop)
theorem nS (i : Nat) (h : i < 4611686018427387904) : wrap64 ((i : Int) + 1) = ((i + 1 : Nat) : Int) := by rw [w64 (by omega) (by omega)]; omega
theorem val_put {x : List Int} {i : Nat} (s : Int) (h : i < x.length) : val ((x.set i s).take (i + 1)) = val (x.take i) + bp i * s := by
 rw [val_take_succ _ i (by simpa using h), List.take_set_of_le (by omega), List.getD_eq_getElem?_getD, List.getElem?_set_self h]; rfl
theorem take_more {y : List Int} {i : Nat} (h : y.length ≤ i) : y.take (i + 1) = y.take i := by rw [List.take_of_length_le h, List.take_of_length_le (by omega)]
theorem add_ring {p o a b c s c1 A B B' : Int} (h : o + p * c = A + B) (e : a + b + c = s + 4294967296 * c1) (hB : B' = B + p * b) : (o + p * s) + (4294967296 * p) * c1 = (A + p * a) + B' := by subst hB; grind
theorem add_l0 {x y : List Int} (hx : Lim x) (hy : Lim y) (hl : x.length < 900000000) (d : Nat) : ∀ (i : Nat) (o : List Int) (c : Int), i + d = x.length → o.length = x.length + 1 → Lim o → (c = 0 ∨ c = 1) → (y.length ≤ x.length) →
  val (o.take i) + bp i * c = val (x.take i) + val (y.take i) → Ev (fun k => nt_Add.l0 k x y o c (x.length : Int) (i : Int)) (benc (val x + val y).toNat) := by
 induction d with
 | zero =>
  intro i o c hi ho hol hc hyx hv
  refine Ev.step (f := fun k => (nt_limbs_text.f k (o.set x.length c)).bind fun t560 => some t560) (fun k => ?_) ?_
  ·simp only [nt_Add.l0]
   rw [if_neg (by omega), if_pos (by omega), if_pos (by omega)]; simp only [Int.toNat_natCast]
  ·have e : val (o.set x.length c) = val x + val y := by
    have a := val_put (x := o) (i := x.length) c (by omega)
    rw [List.take_of_length_le (by simp; omega)] at a
    rw [show i = x.length by omega, List.take_of_length_le (l := x) (by omega), List.take_of_length_le (l := y) (by omega)] at hv
    omega
   have := text_ev (l := o.set x.length c) (hol.set _ (by omega) (by omega)) (by simp; omega)
   rw [e] at this
   exact Ev.bind this (Ev.now _)
 | succ d ih =>
  intro i o c hi ho hol hc hyx hv
  have hxi := hx.get i
  have hyi := hy.get i
  have key : ∀ b : Int, U b → val (y.take (i + 1)) = val (y.take i) + bp i * b → Ev (fun k => nt_Add.l0 k x y (o.set i ((x.getD i 0 + b + c) % 4294967296)) ((x.getD i 0 + b + c) / 4294967296) (x.length : Int) ((i + 1 : Nat) : Int)) (benc (val x + val y).toNat) := by
   intro b hb hB
   have hb0 := hb.1
   have hb1 := hb.2
   refine ih (i + 1) _ _ (by omega) (by simpa using ho) (hol.set _ (by omega) (by omega)) (by omega) hyx ?_
   rw [val_put _ (by omega), val_take_succ x i (by omega), bp_succ]
   exact add_ring hv (by omega) hB
  have e2 := nS i (by omega)
  by_cases hiy : i < y.length
  ·refine Ev.step (fun k => ?_) (key (y.getD i 0) hyi (val_take_succ y i hiy))
   simp only [nt_Add.l0, rd_nat, e2]
   rw [add32 hxi hyi hc]
   clear e2 hv key ih
   rw [if_pos (by omega), if_pos (by omega), if_pos (by omega), if_pos (by omega)]
   simp only [Option.bind_some, Int.toNat_natCast]
   rw [if_pos (by omega)]
  ·refine Ev.step (fun k => ?_) (key 0 ⟨by omega, by omega⟩ (by rw [take_more (Nat.le_of_not_lt hiy), Int.mul_zero, Int.add_zero]))
   simp only [nt_Add.l0, rd_nat, e2]
   rw [add32 (b := 0) hxi ⟨by omega, by omega⟩ hc]
   clear e2 hv key ih
   rw [if_pos (by omega), if_neg (by omega), if_pos (by omega), if_pos (by omega)]
   simp only [Option.bind_some, Int.toNat_natCast]
   rw [if_pos (by omega)]
theorem add_j0 {x y : List Int} (hx : Lim x) (hy : Lim y) (hl : x.length < 900000000) (hyx : y.length ≤ x.length) : Ev (fun k => nt_Add.j0 k x y) (benc (val x + val y).toNat) := by
 have := add_l0 hx hy hl x.length 0 (List.replicate (x.length + 1) 0) 0 (by omega) (by simp) (Lim.zeros _) (.inl rfl) hyx (by simp [val])
 have e := nS x.length (by omega)
 refine Ev.step (fun k => ?_) this
 simp only [nt_Add.j0, e, Int.toNat_natCast]
 clear e
 rw [if_pos (by omega), if_pos (by omega)]; rfl
theorem Add_ev (s t : ByteArray) (hs : s.size < 900000000) (ht : t.size < 900000000) : Ev (fun k => nt_Add.f k s t) (benc (bval s + bval t)) := by
 have h1 : (lenc (bval s)).length < 900000000 := Nat.lt_of_le_of_lt (Nat.le_trans (nl_nb' _) (nb_bval s)) hs
 have h2 : (lenc (bval t)).length < 900000000 := Nat.lt_of_le_of_lt (Nat.le_trans (nl_nb' _) (nb_bval t)) ht
 have c1 := (lenc_can (bval s)).1
 have c2 := (lenc_can (bval t)).1
 refine Ev.bind (parse_ev s (by omega)) (Ev.bind (parse_ev t (by omega)) ?_)
 by_cases h : ((lenc (bval s)).length : Int) < ((lenc (bval t)).length : Int)
 ·refine Ev.congr (fun k => by rw [if_pos h]) ?_ (f := fun k => nt_Add.j0 k (lenc (bval t)) (lenc (bval s)))
  have := add_j0 c2 c1 h2 (by omega)
  rw [lenc_val, lenc_val, show ((bval t : Int) + (bval s : Int)).toNat = bval s + bval t by omega] at this
  exact this
 ·refine Ev.congr (fun k => by rw [if_neg h]) ?_ (f := fun k => nt_Add.j0 k (lenc (bval s)) (lenc (bval t)))
  have := add_j0 c1 c2 h1 (by omega)
  rw [lenc_val, lenc_val, show ((bval s : Int) + (bval t : Int)).toNat = bval s + bval t by omega] at this
  exact this
theorem sub_ring {p o a b c s c1 A B B' : Int} (h : o - p * c = A - B) (e : a - b - c = s - 4294967296 * c1) (hB : B' = B + p * b) : (o + p * s) - (4294967296 * p) * c1 = (A + p * a) - B' := by subst hB; grind
theorem sub_l0 {x y : List Int} (hx : Lim x) (hy : Lim y) (hl : x.length < 900000000) (hle : val y ≤ val x) (hyx : y.length ≤ x.length) (d : Nat) : ∀ (i : Nat) (o : List Int) (c : Int), i + d = x.length → o.length = x.length → Lim o → (c = 0 ∨ c = 1) →
  val (o.take i) - bp i * c = val (x.take i) - val (y.take i) → Ev (fun k => nt_subtract.l0 k x y o c (x.length : Int) (i : Int)) (lenc (val x - val y).toNat) := by
 induction d with
 | zero =>
  intro i o c hi ho hol hc hv
  refine Ev.step (f := fun k => (nt_limbs_trim.f k o).bind fun t573 => some t573) (fun k => ?_) ?_
  ·simp only [nt_subtract.l0]
   rw [if_neg (by omega)]
  ·rw [show i = x.length by omega, List.take_of_length_le (l := x) (by omega), List.take_of_length_le (l := y) (by omega), List.take_of_length_le (l := o) (by omega)] at hv
   have hp := bp_pos x.length
   have ho2 := val_lt hol
   rw [ho] at ho2
   have hc0 : c = 0 := by
    rcases hc with h | h
    ·exact h
    ·subst h; omega
   subst hc0
   have := limbs_trim_ev hol (by omega)
   rw [show val o = val x - val y by omega] at this
   exact Ev.bind this (Ev.now _)
 | succ d ih =>
  intro i o c hi ho hol hc hv
  have hxi := hx.get i
  have hyi := hy.get i
  have key : ∀ b : Int, U b → val (y.take (i + 1)) = val (y.take i) + bp i * b → Ev (fun k => nt_subtract.l0 k x y (o.set i ((x.getD i 0 - b - c) % 4294967296)) (if x.getD i 0 < b + c then 1 else 0) (x.length : Int) ((i + 1 : Nat) : Int)) (lenc (val x - val y).toNat) := by
   intro b hb hB
   have hb0 := hb.1
   have hb1 := hb.2
   refine ih (i + 1) _ _ (by omega) (by simpa using ho) (hol.set _ (by omega) (by omega)) (by split <;> omega) ?_
   rw [val_put _ (by omega), val_take_succ x i (by omega), bp_succ]
   exact sub_ring hv (by split <;> omega) hB
  have e2 := nS i (by omega)
  by_cases hiy : i < y.length
  ·refine Ev.step (fun k => ?_) (key (y.getD i 0) hyi (val_take_succ y i hiy))
   simp only [nt_subtract.l0, rd_nat, e2]
   rw [sub32 hxi hyi hc]
   clear e2 hv key ih
   rw [if_pos (by omega), if_pos (by omega), if_pos (by omega), if_pos (by omega)]
   simp only [Option.bind_some, Int.toNat_natCast]
   rw [if_pos (by omega)]
  ·refine Ev.step (fun k => ?_) (key 0 ⟨by omega, by omega⟩ (by rw [take_more (Nat.le_of_not_lt hiy), Int.mul_zero, Int.add_zero]))
   simp only [nt_subtract.l0, rd_nat, e2]
   rw [sub32 (b := 0) hxi ⟨by omega, by omega⟩ hc]
   clear e2 hv key ih
   rw [if_pos (by omega), if_neg (by omega), if_pos (by omega), if_pos (by omega)]
   simp only [Option.bind_some, Int.toNat_natCast]
   rw [if_pos (by omega)]
theorem subtract_ev {x y : List Int} (hx : Lim x) (hy : Lim y) (hl : x.length < 900000000) (hle : val y ≤ val x) (hyx : y.length ≤ x.length) : Ev (fun k => nt_subtract.f k x y) (lenc (val x - val y).toNat) := by
 have := sub_l0 hx hy hl hle hyx x.length 0 (List.replicate x.length 0) 0 (by omega) (by simp) (Lim.zeros _) (.inl rfl) (by simp [val])
 refine Ev.congr (fun k => ?_) this
 simp only [nt_subtract.f, Int.toNat_natCast]
 rw [if_pos (by omega), if_pos (by omega)]; rfl
theorem Subtract_ev (s t : ByteArray) (hs : s.size < 900000000) (ht : t.size < 900000000) : Ev (fun k => nt_Subtract.f k s t) (if bval s < bval t then (⟨#[]⟩, false) else (benc (bval s - bval t), true)) := by
 have h1 : (lenc (bval s)).length < 900000000 := Nat.lt_of_le_of_lt (Nat.le_trans (nl_nb' _) (nb_bval s)) hs
 have h2 : (lenc (bval t)).length < 900000000 := Nat.lt_of_le_of_lt (Nat.le_trans (nl_nb' _) (nb_bval t)) ht
 have c1 := lenc_can (bval s)
 have c2 := lenc_can (bval t)
 refine Ev.bind (parse_ev s (by omega)) (Ev.bind (parse_ev t (by omega)) (Ev.bind (compare_ev c1 c2 (by omega) (by omega)) ?_))
 rw [lenc_val, lenc_val]
 by_cases h : bval s < bval t
 ·rw [if_pos h]
  refine Ev.congr (fun k => ?_) (Ev.now _)
  rw [if_pos (by unfold sg; rw [if_pos (by omega)]; omega)]
 ·rw [if_neg h]
  have hyx : (lenc (bval t)).length ≤ (lenc (bval s)).length := nl_mono (by omega)
  have hsub := subtract_ev c1.1 c2.1 h1 (by rw [lenc_val, lenc_val]; omega) hyx
  rw [lenc_val, lenc_val, show ((bval s : Int) - (bval t : Int)).toNat = bval s - bval t by omega] at hsub
  have c3 := lenc_can (bval s - bval t)
  have htx := text_ev c3.1 (Nat.lt_of_le_of_lt (nl_mono (n := bval s) (by omega)) (by omega : (lenc (bval s)).length < 1000000000))
  rw [lenc_val, Int.toNat_natCast] at htx
  refine Ev.congr (f := fun k => (nt_subtract.f k (lenc (bval s)) (lenc (bval t))).bind fun t583 => (nt_limbs_text.f k t583).bind fun t586 => some (t586, true)) (fun k => ?_) (Ev.bind hsub (Ev.bind htx (Ev.now _)))
  rw [if_neg (by unfold sg; rw [if_neg (by omega)]; split <;> omega)]
theorem mul_lim {a b : Int} (ha : U a) (hb : U b) : 0 ≤ a * b ∧ a * b ≤ 18446744065119617025 := by
 have h1 := Int.mul_nonneg ha.1 hb.1
 have h2 : a * b ≤ 4294967295 * 4294967295 := Int.mul_le_mul (by have := ha.2; omega) (by have := hb.2; omega) hb.1 (by omega)
 exact ⟨h1, by omega⟩
theorem mulw {a b o c : Int} (ha : U a) (hb : U b) (ho : U o) (hc : U c) : IntKind.u64.wrap (IntKind.u64.wrap (IntKind.u64.wrap (IntKind.u64.wrap a * IntKind.u64.wrap b) + IntKind.u64.wrap o) + c) = a * b + o + c := by
 have h := mul_lim ha hb
 obtain ⟨a0, a1⟩ := ha
 obtain ⟨b0, b1⟩ := hb
 obtain ⟨o0, o1⟩ := ho
 obtain ⟨c0, c1⟩ := hc
 rw [u64 (x := a) a0 (by omega), u64 (x := b) b0 (by omega), u64 (x := o) o0 (by omega), u64 (x := a * b) h.1 (by omega), u64 (x := a * b + o) (by omega) (by omega), u64 (by omega) (by omega)]
theorem mul_ring {vo q c o s c1 t V p u A b : Int} (h : vo + (p * q) * c = V + p * u * A) (e : t = s + 4294967296 * c1) (et : t = u * b + o + c) : (vo + (p * q) * (s - o)) + (4294967296 * (p * q)) * c1 = V + p * u * (A + q * b) := by subst et; grind
theorem dm (t : Int) : t = t % 4294967296 + 4294967296 * (t / 4294967296) := by omega
theorem dm0 (t : Int) : 0 ≤ t % 4294967296 := by omega
theorem dm1 (t : Int) : t % 4294967296 < 4294967296 := by omega
theorem dm2 {m o c : Int} (hm : 0 ≤ m ∧ m ≤ 18446744065119617025) (ho : U o) (hc : U c) : U ((m + o + c) / 4294967296) := by
 obtain ⟨h0, h1⟩ := ho
 obtain ⟨h2, h3⟩ := hc
 constructor <;> omega
theorem mul_l1 {x y : List Int} (hx : Lim x) (hy : Lim y) (hxl : x.length < 900000000) (hyl : y.length < 900000000) {i : Nat} (hi : i < x.length) {V : Int} (R : ByteArray)
  (next : ∀ o : List Int, o.length = x.length + y.length → Lim o → (∀ j, i + 1 + y.length ≤ j → o.getD j 0 = 0) → val o = V + bp i * x.getD i 0 * val y → Ev (fun f => nt_Multiply.l0 f y o x (x.length : Int) ((i + 1 : Nat) : Int)) R)
  (d : Nat) : ∀ (k : Nat) (o : List Int) (c : Int), k + d = y.length → o.length = x.length + y.length → Lim o → U c → (∀ j, i + y.length ≤ j → o.getD j 0 = 0) → val o + bp (i + k) * c = V + bp i * x.getD i 0 * val (y.take k) →
   Ev (fun f => nt_Multiply.l1 f y o (i : Int) (x.getD i 0) c x (x.length : Int) (i : Int) y (y.length : Int) (k : Int)) R := by
 induction d with
 | zero =>
  intro k o c hk ho hol hc hz hv
  have hk' : k = y.length := by clear hv; omega
  subst hk'
  rw [List.take_of_length_le (Nat.le_refl _)] at hv
  have hz0 := hz (i + y.length) (Nat.le_refl _)
  have hc0 := hc.1
  have hc1 := hc.2
  have e1 : wrap64 ((i : Int) + (y.length : Int)) = ((i + y.length : Nat) : Int) := by clear hv; rw [w64 (by omega) (by omega)]; omega
  have e2 := nS i (by clear hv; omega)
  have e3 : c % 4294967296 = c := Int.emod_eq_of_lt hc0 hc1
  refine Ev.step (fun f => ?_) (next (o.set (i + y.length) c) (by rw [List.length_set]; exact ho) (hol.set _ hc0 hc1) (fun j hj => ?_) ?_)
  ·simp only [nt_Multiply.l1, e1, e2, e3, Int.toNat_natCast]
   clear hv e1 e2 e3 hc0 hc1
   rw [if_neg (by omega), if_pos (by omega), if_pos (by omega)]
  ·clear hv e1 e2 e3
   have := hz j (by omega)
   rw [List.getD_eq_getElem?_getD, List.getElem?_set, if_neg (by omega), ← List.getD_eq_getElem?_getD]; exact this
  ·rw [val_set _ _ _ (by clear hv e1 e2 e3; omega), hz0, Int.sub_zero]; exact hv
 | succ d ih =>
  intro k o c hk ho hol hc hz hv
  have hxi := hx.get i
  have hyk := hy.get k
  have hok := hol.get (i + k)
  have hm := mul_lim hxi hyk
  have hw := mulw hxi hyk hok hc
  have e1 : wrap64 ((i : Int) + (k : Int)) = ((i + k : Nat) : Int) := by clear hv hw hm; rw [w64 (by omega) (by omega)]; omega
  have e2 := nS k (by clear hv hw hm; omega)
  have hlt : i + k < o.length := by clear hv hw hm e1 e2; omega
  have hky : k < y.length := by clear hv hw hm e1 e2; omega
  refine Ev.step (fun f => ?_) (ih (k + 1) (o.set (i + k) ((x.getD i 0 * y.getD k 0 + o.getD (i + k) 0 + c) % 4294967296)) ((x.getD i 0 * y.getD k 0 + o.getD (i + k) 0 + c) / 4294967296) (by clear hv hw hm e1 e2; omega) (by rw [List.length_set]; exact ho) (hol.set _ (dm0 _) (dm1 _)) (dm2 hm hok hc) (fun j hj => ?_) ?_)
  ·simp only [nt_Multiply.l1, rd_nat, e1, e2, Int.toNat_natCast, hw]
   clear hv e1 e2 hw hm ih hxi hyk hok hc next
   rw [if_pos (by omega), if_pos (by omega), if_pos (by omega), if_pos (by omega), if_pos (by omega)]
  ·clear hv e1 e2 hw hm
   have := hz j (by omega)
   rw [List.getD_eq_getElem?_getD, List.getElem?_set, if_neg (by omega), ← List.getD_eq_getElem?_getD]; exact this
  ·rw [val_set _ _ _ hlt, val_take_succ y k hky, show i + (k + 1) = (i + k) + 1 from rfl, bp_succ, bp_add]
   rw [bp_add] at hv
   exact mul_ring hv (dm _) rfl
theorem mul_l0 {x y : List Int} (hx : Lim x) (hy : Lim y) (hxl : x.length < 900000000) (hyl : y.length < 90000000) (d : Nat) : ∀ (i : Nat) (o : List Int), i + d = x.length → o.length = x.length + y.length → Lim o → (∀ j, i + y.length ≤ j → o.getD j 0 = 0) → val o = val (x.take i) * val y →
   Ev (fun f => nt_Multiply.l0 f y o x (x.length : Int) (i : Int)) (benc (val x * val y).toNat) := by
 induction d with
 | zero =>
  intro i o hi ho hol hz hv
  refine Ev.step (f := fun f => (nt_limbs_text.f f o).bind fun t510 => some t510) (fun f => ?_) ?_
  ·simp only [nt_Multiply.l0]; clear hv; rw [if_neg (by omega)]
  ·have := text_ev hol (by omega)
   rw [hv, List.take_of_length_le (by omega)] at this
   exact Ev.bind this (Ev.now _)
 | succ d ih =>
  intro i o hi ho hol hz hv
  have := mul_l1 hx hy hxl (by omega) (i := i) (by omega) (V := val o) (benc (val x * val y).toNat) (fun o' h1 h2 h3 h4 => ih (i + 1) o' (by omega) h1 h2 h3 (by rw [h4, hv, val_take_succ x i (by omega), Int.add_mul])) y.length 0 o 0 (by omega) ho hol ⟨by omega, by omega⟩ hz (by simp [val])
  refine Ev.step (fun f => ?_) this
  simp only [nt_Multiply.l0, rd_nat]
  clear hv this ih
  rw [if_pos (by omega), if_pos (by omega), if_pos (by omega)]; rfl
theorem Multiply_ev (s t : ByteArray) (hs : s.size < 90000000) (ht : t.size < 90000000) : Ev (fun k => nt_Multiply.f k s t) (benc (bval s * bval t)) := by
 have h1 : (lenc (bval s)).length < 90000000 := Nat.lt_of_le_of_lt (Nat.le_trans (nl_nb' _) (nb_bval s)) hs
 have h2 : (lenc (bval t)).length < 90000000 := Nat.lt_of_le_of_lt (Nat.le_trans (nl_nb' _) (nb_bval t)) ht
 have c1 := (lenc_can (bval s)).1
 have c2 := (lenc_can (bval t)).1
 refine Ev.bind (parse_ev s (by omega)) (Ev.bind (parse_ev t (by omega)) ?_)
 have := mul_l0 c1 c2 (by omega) h2 (lenc (bval s)).length 0 (List.replicate ((lenc (bval s)).length + (lenc (bval t)).length) 0) (by omega) (by simp) (Lim.zeros _) (fun j hj => by
  rw [List.getD_eq_getElem?_getD]
  by_cases hj : j < (lenc (bval s)).length + (lenc (bval t)).length
  ·rw [List.getElem?_replicate, if_pos hj]; rfl
  ·rw [List.getElem?_eq_none (by simpa using hj)]; rfl) (by rw [val_zeros]; simp [val])
 rw [lenc_val, lenc_val, ← Int.natCast_mul, Int.toNat_natCast] at this
 have e : wrap64 (((lenc (bval s)).length : Int) + ((lenc (bval t)).length : Int)) = (((lenc (bval s)).length + (lenc (bval t)).length : Nat) : Int) := by rw [w64 (by omega) (by omega)]; omega
 refine Ev.congr (fun k => ?_) this
 simp only [e, Int.toNat_natCast]
 clear e
 rw [if_pos (by omega), if_pos (by omega)]; rfl
theorem sg_neg {x : Int} (h : x < 0) : sg x = -1 := by unfold sg; rw [if_pos h]
theorem sg_pos {x : Int} (h : 0 < x) : sg x = 1 := by unfold sg; rw [if_neg (by omega), if_pos h]
theorem cmp_bytes (l : List UInt8) : ∀ m : List UInt8, l.length = m.length → Go.Lib.compareBytes l m = sg ((blv l.reverse : Int) - (blv m.reverse : Int)) := by
 induction l with
 | nil => intro m h; cases m with
  | nil => simp [Go.Lib.compareBytes, sg]
  | cons b m => simp at h
 | cons a l ih =>
  intro m h
  cases m with
  | nil => simp at h
  | cons b m =>
   have hlen : l.length = m.length := by simpa using h
   rw [Go.Lib.compareBytes, List.reverse_cons, List.reverse_cons, blv_append, blv_append, ih m hlen]
   have h1 := blv_lt l.reverse
   have h2 := blv_lt m.reverse
   simp only [List.length_reverse, hlen, blv, Nat.mul_zero, Nat.add_zero] at h1 h2 ⊢
   generalize blv l.reverse = A at *
   generalize blv m.reverse = B at *
   have hp : (0 : Int) ≤ ((256 ^ m.length : Nat) : Int) := Int.natCast_nonneg _
   generalize hP : 256 ^ m.length = P at *
   by_cases hab : a < b
   ·rw [if_pos hab]
    have : a.toNat + 1 ≤ b.toNat := hab
    have : P * (a.toNat + 1) ≤ P * b.toNat := Nat.mul_le_mul_left _ this
    rw [Nat.mul_add, Nat.mul_one] at this
    rw [sg_neg (by omega)]
   ·rw [if_neg hab]
    by_cases hba : b < a
    ·rw [if_pos hba]
     have : b.toNat + 1 ≤ a.toNat := hba
     have : P * (b.toNat + 1) ≤ P * a.toNat := Nat.mul_le_mul_left _ this
     rw [Nat.mul_add, Nat.mul_one] at this
     rw [sg_pos (by omega)]
    ·rw [if_neg hba]
     have : a.toNat = b.toNat := by
      have h3 : ¬ a.toNat < b.toNat := hab
      have h4 : ¬ b.toNat < a.toNat := hba
      omega
     rw [this]
     congr 1; omega
theorem blv_benc (n : Nat) : blv (benc n).data.toList.reverse = n := bval_benc n
theorem nb_lt {a b : Nat} (h : nb a < nb b) : a < b := by
 refine Nat.not_le.1 fun h2 => ?_
 have := nb_mono h2
 omega
theorem Compare_ev (s t : ByteArray) (hs : s.size < 900000000) (ht : t.size < 900000000) : Ev (fun k => nt_Compare.f k s t) (sg ((bval s : Int) - (bval t : Int))) := by
 have n1 := nb_bval s
 have n2 := nb_bval t
 refine Ev.bind (normalize_ev s) (Ev.bind (normalize_ev t) ?_)
 rw [benc_size, benc_size]
 by_cases h : ((nb (bval s) : Nat) : Int) = ((nb (bval t) : Nat) : Int)
 ·refine Ev.congr (f := fun _ => some _) (fun k => by rw [if_pos h]; rfl) ?_
  rw [cmp_bytes _ _ (by rw [← size_list, ← size_list, benc_size, benc_size]; omega), blv_benc, blv_benc]
  exact Ev.now _
 ·refine Ev.congr (f := fun _ => some _) (fun k => by rw [if_neg h, sign_ev]; rfl) ?_
  have e : wrap64 (((nb (bval s) : Nat) : Int) - ((nb (bval t) : Nat) : Int)) = ((nb (bval s) : Nat) : Int) - ((nb (bval t) : Nat) : Int) := w64 (by omega) (by omega)
  rw [e]
  clear e
  have : sg (((nb (bval s) : Nat) : Int) - ((nb (bval t) : Nat) : Int)) = sg ((bval s : Int) - (bval t : Int)) := by
   rcases Nat.lt_or_gt_of_ne (show nb (bval s) ≠ nb (bval t) by omega) with h1 | h1
   ·have := nb_lt h1
    rw [sg_neg (by omega), sg_neg (by omega)]
   ·have := nb_lt h1
    rw [sg_pos (by omega), sg_pos (by omega)]
  rw [this]
  exact Ev.now _
def Fit (n : Nat) : Prop := T.nl n < 20000000
theorem Fit.mono {m n : Nat} (h : Fit n) (hm : m ≤ n) : Fit m := Nat.lt_of_le_of_lt (nl_mono hm) h
theorem Fit.nl {n : Nat} (h : Fit n) : (lenc n).length < 90000000 := by
 have e : T.nl n = (lenc n).length := rfl
 have : T.nl n < 20000000 := h
 omega
theorem Fit.nb {n : Nat} (h : Fit n) : T.nb n < 90000000 := by
 have := nb_nl n
 have : T.nl n < 20000000 := h
 omega
theorem div_fit {a b : Nat} (ha : Fit a) (hb : Fit b) (h0 : 0 < b) : Ev (fun k => nt_divide.f k (lenc a) (lenc b)) (lenc (a / b), lenc (a % b)) := by
 have la := ha.nl
 have lb := hb.nl
 have := divide_ev (lenc_can a) (lenc_can b) (by omega) (by omega) (by rw [lenc_val]; omega)
 rw [lenc_val, lenc_val, ← Int.natCast_ediv, ← Int.natCast_emod, Int.toNat_natCast, Int.toNat_natCast] at this
 exact this
theorem gcd_l0 (b : Nat) : ∀ a : Nat, Fit a → Fit b → Ev (fun k => nt_GCD.l0 k (lenc a) (lenc b)) (benc (Nat.gcd a b)) := by
 induction b using Nat.strongRecOn with
 | _ b ih =>
  intro a ha hb
  have la := ha.nl
  by_cases h0 : b = 0
  ·subst h0
   have htx := text_ev (lenc_can a).1 (by omega)
   rw [lenc_val, Int.toNat_natCast] at htx
   rw [Nat.gcd_zero_right, lenc_zero]
   refine Ev.step (f := fun k => (nt_limbs_text.f k (lenc a)).bind fun t => some t) (fun k => ?_) (Ev.bind htx (Ev.now _))
   simp only [nt_GCD.l0]; rw [if_neg (by simp)]
  ·have hm : a % b < b := Nat.mod_lt _ (by omega)
   have := ih (a % b) hm b hb (hb.mono (by omega))
   have e : Nat.gcd a b = Nat.gcd b (a % b) := by rw [Nat.gcd_comm a b, Nat.gcd_rec b a, Nat.gcd_comm]
   rw [e]
   refine Ev.step (f := fun k => (nt_divide.f k (lenc a) (lenc b)).bind fun bt => nt_GCD.l0 k (lenc b) bt.2) (fun k => ?_) (Ev.bind (div_fit ha hb (by omega)) this)
   have hl : 0 < (lenc b).length := List.length_pos_iff.2 (by rw [Ne, lenc_nil]; exact h0)
   simp only [nt_GCD.l0]; rw [if_pos (by omega)]
theorem GCD_ev (s t : ByteArray) (hs : s.size < 900000000) (ht : t.size < 900000000) (ha : Fit (bval s)) (hb : Fit (bval t)) : Ev (fun k => nt_GCD.f k s t) (benc (Nat.gcd (bval s) (bval t))) :=
 Ev.bind (parse_ev s (by omega)) (Ev.bind (parse_ev t (by omega)) (gcd_l0 _ _ ha hb))
theorem Divide_ev (s t : ByteArray) (hs : s.size < 900000000) (ht : t.size < 900000000) (ha : Fit (bval s)) (hb : Fit (bval t)) (h0 : 0 < bval t) : Ev (fun k => nt_Divide.f k s t) (benc (bval s / bval t), benc (bval s % bval t), true) := by
 have la := ha.nl
 have lb := hb.nl
 have t1 := text_ev (lenc_can (bval s / bval t)).1 (Nat.lt_of_le_of_lt (nl_mono (Nat.div_le_self _ _)) (by omega : (lenc (bval s)).length < 1000000000))
 have t2 := text_ev (lenc_can (bval s % bval t)).1 (Nat.lt_of_le_of_lt (nl_mono (Nat.mod_le _ _)) (by omega : (lenc (bval s)).length < 1000000000))
 rw [lenc_val, Int.toNat_natCast] at t1 t2
 have hl : 0 < (lenc (bval t)).length := List.length_pos_iff.2 (by rw [Ne, lenc_nil]; omega)
 refine Ev.bind (parse_ev t (by omega)) ?_
 refine Ev.congr (fun k => by rw [if_neg (by omega)]) (Ev.bind (parse_ev s (by omega)) (Ev.bind (div_fit ha hb h0) (Ev.bind t1 (Ev.bind (f := fun _ t361 => some (benc (bval s / bval t), t361, true)) t2 (Ev.now _)))))
theorem tl_eq {s t : ByteArray} : s.toList = t.toList ↔ s = t := by
 rw [Go.Lib.toList_data, Go.Lib.toList_data]
 exact ⟨ba_ext, fun h => by rw [h]⟩
theorem tl_nil {s : ByteArray} : s.toList = ([] : List UInt8) ↔ s.size = 0 := by
 rw [Go.Lib.toList_data, size_list, List.length_eq_zero_iff]
theorem benc_one : benc 1 = ⟨#[1]⟩ := by
 have : bdig 1 = [1] := by rw [bdig_pos (by decide)]; simp [bdig_zero]
 simp [benc, this]
theorem tl_one {s : ByteArray} : s.toList = ([1] : List UInt8) ↔ s = benc 1 := by
 rw [← tl_eq, benc_one]
 have : (⟨#[1]⟩ : ByteArray).toList = [1] := by rw [Go.Lib.toList_data]
 rw [this]
theorem benc_is_one {n : Nat} : (benc n).toList = ([1] : List UInt8) ↔ n = 1 := by
 rw [tl_one]
 exact ⟨benc_inj, fun h => by rw [h]⟩
theorem benc_is_nil {n : Nat} : (benc n).toList = ([] : List UInt8) ↔ n = 0 := by rw [tl_nil, benc_size_zero]
theorem bcan_iff {s : ByteArray} : benc (bval s) = s ↔ BCan s := ⟨fun h => h ▸ bcan_benc _, fun h => (bcan_eq h).symm⟩
theorem one_bcan {s : ByteArray} (h : BCan s) : s = benc 1 ↔ bval s = 1 := by
 constructor
 ·intro e; rw [e, bval_benc]
 ·intro e; rw [bcan_eq h, e]
theorem Valid_ev (n : Bool) (a d : ByteArray) (ha : a.size < 90000000) (hd : d.size < 90000000) (fa : Fit (bval a)) (fd : Fit (bval d)) : Ev (fun k => rt_Valid.f k n a d) (decide (Vld n a d)) := by
 refine Ev.bind (normalize_ev a) ?_
 by_cases hca : BCan a
 ·refine Ev.congr (fun k => by rw [if_pos (by rw [bcan_iff.2 hca])]) (Ev.bind (normalize_ev d) ?_)
  by_cases hcd : BCan d
  ·have e : ((benc (bval d)).toList != d.toList) = false := by rw [bcan_iff.2 hcd]; simp
   rw [e]
   by_cases h0 : a.toList = ([] : List UInt8)
   ·have hs := tl_nil.1 h0
    by_cases hn : n = true
    ·have : ¬ Vld n a d := fun h => by have := (h.2.2.1 hs).1; rw [hn] at this; cases this
     refine Ev.step (f := fun _ => some false) (fun k => ?_) (by rw [decide_eq_false this]; exact Ev.now _)
     simp only [rt_Valid.j0]; rw [if_neg (by simp), if_pos h0, if_pos hn]
    ·have hn' : n = false := by simpa using hn
     have : decide (Vld n a d) = (d.toList == ([] : List UInt8)) := by
      by_cases hd0 : d.toList = ([] : List UInt8)
      ·rw [hd0]
       have : Vld n a d := ⟨hca, hcd, fun _ => ⟨hn', tl_nil.1 hd0⟩, fun h => absurd hs h⟩
       simpa using this
      ·have : ¬ Vld n a d := fun h => hd0 (tl_nil.2 (h.2.2.1 hs).2)
       rw [decide_eq_false this]
       exact (beq_false_of_ne hd0).symm
     rw [this]
     refine Ev.step (f := fun _ => some (d.toList == ([] : List UInt8))) (fun k => ?_) (Ev.now _)
     simp only [rt_Valid.j0]; rw [if_neg (by simp), if_pos h0, if_neg hn]
   ·have hs : a.size ≠ 0 := fun h => h0 (tl_nil.2 h)
    by_cases hd0 : d.toList = ([] : List UInt8)
    ·have : Vld n a d := ⟨hca, hcd, fun h => absurd h hs, fun _ => .inl (tl_nil.1 hd0)⟩
     refine Ev.step (f := fun _ => some true) (fun k => ?_) (by rw [decide_eq_true this]; exact Ev.now _)
     simp only [rt_Valid.j0]; rw [if_neg (by simp), if_neg h0, if_pos hd0]
    ·have hds : d.size ≠ 0 := fun h => hd0 (tl_nil.2 h)
     by_cases hd1 : d.toList = ([1] : List UInt8)
     ·have : ¬ Vld n a d := fun h => by
       rcases h.2.2.2 hs with h | h
       ·exact hds h
       ·exact h.1 ((one_bcan hcd).1 (tl_one.1 hd1))
      refine Ev.step (f := fun _ => some false) (fun k => ?_) (by rw [decide_eq_false this]; exact Ev.now _)
      simp only [rt_Valid.j0]; rw [if_neg (by simp), if_neg h0, if_neg hd0, if_pos hd1]
     ·have hd1' : bval d ≠ 1 := fun h => hd1 (tl_one.2 ((one_bcan hcd).2 h))
      have : decide (Vld n a d) = ((benc (Nat.gcd (bval a) (bval d))).toList == ([1] : List UInt8)) := by
       by_cases hg : Nat.gcd (bval a) (bval d) = 1
       ·have : Vld n a d := ⟨hca, hcd, fun h => absurd h hs, fun _ => .inr ⟨hd1', hg⟩⟩
        rw [decide_eq_true this, benc_is_one.2 hg]; rfl
       ·have : ¬ Vld n a d := fun h => by
         rcases h.2.2.2 hs with h | h
         ·exact hds h
         ·exact hg h.2
        rw [decide_eq_false this]
        exact (beq_false_of_ne (fun h => hg (benc_is_one.1 h))).symm
      rw [this]
      refine Ev.step (f := fun k => (nt_GCD.f k a d).bind fun t328 => some (t328.toList == ([1] : List UInt8))) (fun k => ?_) (Ev.bind (GCD_ev a d (by omega) (by omega) fa fd) (Ev.now _))
      simp only [rt_Valid.j0]; rw [if_neg (by simp), if_neg h0, if_neg hd0, if_neg hd1]
  ·have e : ((benc (bval d)).toList != d.toList) = true := by
    rw [bne_iff_ne]; intro h; exact hcd (bcan_iff.1 (tl_eq.1 h))
   rw [e]
   have : ¬ Vld n a d := fun h => hcd h.2.1
   refine Ev.step (f := fun _ => some false) (fun k => ?_) (by rw [decide_eq_false this]; exact Ev.now _)
   simp only [rt_Valid.j0]; rw [if_pos trivial]
 ·have : ¬ Vld n a d := fun h => hca h.1
  refine Ev.congr (fun k => by rw [if_neg (fun h => hca (bcan_iff.1 (tl_eq.1 h)))]) ?_ (f := fun k => rt_Valid.j0 k true n a d)
  refine Ev.step (f := fun _ => some false) (fun k => ?_) (by rw [decide_eq_false this]; exact Ev.now _)
  simp only [rt_Valid.j0]; rw [if_pos trivial]
theorem clean_ev (n : Bool) (a d : ByteArray) (ha : a.size < 90000000) (hd : d.size < 90000000) (fa : Fit (bval a)) (fd : Fit (bval d)) : Ev (fun k => rt_clean.f k n a d) (qN (toQ n a d), qA (toQ n a d), qD (toQ n a d)) := by
 refine Ev.bind (Valid_ev n a d ha hd fa fd) ?_
 by_cases h : Vld n a d
 ·refine Ev.congr (f := fun _ => some (n, a, d)) (fun k => by rw [if_pos (by simpa using h)]) ?_
  obtain ⟨e1, e2, e3⟩ := q_vld h
  rw [e1, e2, e3]; exact Ev.now _
 ·refine Ev.congr (f := fun _ => some (false, (⟨#[]⟩ : ByteArray), (⟨#[]⟩ : ByteArray))) (fun k => by rw [if_neg (by simpa using h)]) ?_
  rw [not_vld h, qN_zero, qA_zero, qD_zero]; exact Ev.now _
def FitQ (q : Rat) : Prop := Fit q.num.natAbs ∧ Fit q.den
theorem FitQ.A {q : Rat} (h : FitQ q) : (qA q).size < 90000000 ∧ Fit (bval (qA q)) := by
 unfold qA
 rw [benc_size, bval_benc]
 exact ⟨h.1.nb, h.1⟩
theorem FitQ.D {q : Rat} (h : FitQ q) : (qD q).size < 90000000 ∧ Fit (bval (qD q)) := by
 unfold qD
 split
 ·exact ⟨by rw [empty_size]; omega, by rw [bval_empty]; exact h.2.mono (Nat.zero_le _)⟩
 ·rw [benc_size, bval_benc]
  exact ⟨h.2.nb, h.2⟩
theorem clean_q {q : Rat} (h : FitQ q) : Ev (fun k => rt_clean.f k (qN q) (qA q) (qD q)) (qN q, qA q, qD q) := by
 have := clean_ev (qN q) (qA q) (qD q) h.A.1 h.D.1 h.A.2 h.D.2
 rw [toQ_q] at this
 exact this
theorem den_q (q : Rat) : rt_den.f (qN q) (qA q) (qD q) = some (benc q.den) := by
 unfold rt_den.f
 by_cases h : q.den = 1
 ·rw [if_pos (by unfold qD; rw [if_pos h]; rw [tl_nil]; rfl), h, benc_one]
 ·unfold qD
  rw [if_neg h, if_neg (by rw [benc_is_nil]; exact q.den_nz)]
theorem sgn_natAbs (neg : Bool) (n : Nat) : (sgn neg n).natAbs = n := by unfold sgn; split <;> omega
theorem mk_parts {neg : Bool} {n d : Nat} (hn : n ≠ 0) (hd : d ≠ 0) :
  (qN (mkRat (sgn neg n) d), qA (mkRat (sgn neg n) d), qD (mkRat (sgn neg n) d)) = (neg, benc (n / Nat.gcd n d), if d / Nat.gcd n d = 1 then ⟨#[]⟩ else benc (d / Nat.gcd n d)) := by
 have hg : 0 < Nat.gcd n d := Nat.gcd_pos_of_pos_left _ (by omega)
 have hdvd : Nat.gcd n d ∣ n := Nat.gcd_dvd_left n d
 have hq : 0 < n / Nat.gcd n d := Nat.div_pos (Nat.le_of_dvd (by omega) hdvd) hg
 have e1 : (mkRat (sgn neg n) d).num = sgn neg (n / Nat.gcd n d) := by
  rw [Rat.num_mkRat, if_neg hd, sgn_natAbs, Nat.gcd_comm d n]
  unfold sgn
  cases neg
  ·simp
  ·simp only [if_true]
   rw [Int.neg_ediv_of_dvd (Int.natCast_dvd_natCast.2 hdvd), Int.natCast_ediv]
 have e2 : (mkRat (sgn neg n) d).den = d / Nat.gcd n d := by rw [Rat.den_mkRat, if_neg hd, sgn_natAbs, Nat.gcd_comm d n]
 unfold qN qA qD
 rw [e1, e2, sgn_natAbs]
 have : decide (sgn neg (n / Nat.gcd n d) < 0) = neg := by
  unfold sgn
  cases neg
  ·simp; omega
  ·simp; omega
 rw [this]
theorem reduced_ev (neg : Bool) (s t : ByteArray) (hs : s.size < 90000000) (ht : t.size < 90000000) (fs : Fit (bval s)) (ft : Fit (bval t)) (h0 : bval t ≠ 0) :
  Ev (fun k => rt_reduced.f k neg s t) (qN (mkRat (sgn neg (bval s)) (bval t)), qA (mkRat (sgn neg (bval s)) (bval t)), qD (mkRat (sgn neg (bval s)) (bval t))) := by
 have z1 : (benc (bval s)).size < 90000000 := by rw [benc_size]; exact fs.nb
 have z2 : (benc (bval t)).size < 90000000 := by rw [benc_size]; exact ft.nb
 refine Ev.bind (normalize_ev s) (Ev.bind (normalize_ev t) ?_)
 by_cases hn : bval s = 0
 ·refine Ev.congr (f := fun _ => some (false, (⟨#[]⟩ : ByteArray), (⟨#[]⟩ : ByteArray))) (fun k => by rw [if_pos (benc_is_nil.2 hn)]) ?_
  have : mkRat (sgn neg (bval s)) (bval t) = 0 := by rw [hn]; unfold sgn; cases neg <;> simp
  rw [this, qN_zero, qA_zero, qD_zero]; exact Ev.now _
 ·rw [mk_parts hn h0]
  by_cases hd : bval t = 1
  ·refine Ev.congr (f := fun _ => some (neg, benc (bval s), (⟨#[]⟩ : ByteArray))) (fun k => by rw [if_neg (fun h => hn (benc_is_nil.1 h)), if_pos (benc_is_one.2 hd)]) ?_
   rw [hd, Nat.gcd_one_right, Nat.div_one, Nat.div_one, if_pos rfl]; exact Ev.now _
  ·have hgcd := GCD_ev (benc (bval s)) (benc (bval t)) (by omega) (by omega) (by rw [bval_benc]; exact fs) (by rw [bval_benc]; exact ft)
   rw [bval_benc, bval_benc] at hgcd
   refine Ev.congr (fun k => by rw [if_neg (fun h => hn (benc_is_nil.1 h)), if_neg (fun h => hd (benc_is_one.1 h))]) (Ev.bind hgcd ?_)
   have hgp : 0 < Nat.gcd (bval s) (bval t) := Nat.gcd_pos_of_pos_left _ (by omega)
   by_cases hg : Nat.gcd (bval s) (bval t) = 1
   ·refine Ev.congr (f := fun _ => some (neg, benc (bval s), benc (bval t))) (fun k => by rw [if_pos (benc_is_one.2 hg)]) ?_
    rw [hg, Nat.div_one, Nat.div_one, if_neg hd]; exact Ev.now _
   ·have hgs : Nat.gcd (bval s) (bval t) ≤ bval s := Nat.le_of_dvd (by omega) (Nat.gcd_dvd_left _ _)
    have fg : Fit (Nat.gcd (bval s) (bval t)) := fs.mono hgs
    have z3 : (benc (Nat.gcd (bval s) (bval t))).size < 90000000 := by rw [benc_size]; exact fg.nb
    have d1 := Divide_ev (benc (bval s)) (benc (Nat.gcd (bval s) (bval t))) (by omega) (by omega) (by rw [bval_benc]; exact fs) (by rw [bval_benc]; exact fg) (by rw [bval_benc]; exact hgp)
    have d2 := Divide_ev (benc (bval t)) (benc (Nat.gcd (bval s) (bval t))) (by omega) (by omega) (by rw [bval_benc]; exact ft) (by rw [bval_benc]; exact fg) (by rw [bval_benc]; exact hgp)
    rw [bval_benc, bval_benc] at d1 d2
    refine Ev.congr (fun k => by rw [if_neg (fun h => hg (benc_is_one.1 h))]) (Ev.bind d1 (Ev.bind d2 ?_))
    by_cases h1 : bval t / Nat.gcd (bval s) (bval t) = 1
    ·refine Ev.congr (f := fun _ => some (neg, benc (bval s / Nat.gcd (bval s) (bval t)), (⟨#[]⟩ : ByteArray))) (fun k => by rw [if_pos (benc_is_one.2 h1)]) ?_
     rw [if_pos h1]; exact Ev.now _
    ·refine Ev.congr (f := fun _ => some (neg, benc (bval s / Nat.gcd (bval s) (bval t)), benc (bval t / Nat.gcd (bval s) (bval t)))) (fun k => by rw [if_neg (fun h => h1 (benc_is_one.1 h))]) ?_
     rw [if_neg h1]; exact Ev.now _
theorem sgn_add_same (n : Bool) (x y : Nat) : sgn n (x + y) = sgn n x + sgn n y := by unfold sgn; split <;> omega
theorem sgn_sub_one {m n : Bool} (h : m ≠ n) {x y : Nat} (hxy : y ≤ x) : sgn m (x - y) = sgn m x + sgn n y := by
 unfold sgn
 cases m <;> cases n <;> simp at * <;> omega
theorem add_j0_ev (x y D : ByteArray) (np nq : Bool) (a b c d : ByteArray) (hx : x.size < 90000000) (hy : y.size < 90000000) (hD : D.size < 90000000) (fs : Fit (bval x + bval y)) (fD : Fit (bval D)) (h0 : bval D ≠ 0) :
  Ev (fun k => rt_add.j0 k x y D np a b nq c d) (qN (mkRat (sgn np (bval x) + sgn nq (bval y)) (bval D)), qA (mkRat (sgn np (bval x) + sgn nq (bval y)) (bval D)), qD (mkRat (sgn np (bval x) + sgn nq (bval y)) (bval D))) := by
 by_cases hn : np = nq
 ·subst hn
  have hr := reduced_ev np (benc (bval x + bval y)) D (by rw [benc_size]; exact fs.nb) hD (by rw [bval_benc]; exact fs) fD h0
  rw [bval_benc, sgn_add_same] at hr
  refine Ev.step (f := fun k => (nt_Add.f k x y).bind fun t429 => ((rt_reduced.f k np t429 D).bind fun bt430 => (some (bt430.1, bt430.2.1, bt430.2.2)))) (fun k => ?_) (Ev.bind (Add_ev x y (by omega) (by omega)) (Ev.bind hr (Ev.now _)))
  simp only [rt_add.j0]; rw [if_pos (by simp)]
 ·have hsub := Subtract_ev x y (by omega) (by omega)
  have hne : ¬ (np == nq) = true := by simpa using hn
  by_cases hlt : bval x < bval y
  ·rw [if_pos hlt] at hsub
   have hsub2 := Subtract_ev y x (by omega) (by omega)
   rw [if_neg (by omega)] at hsub2
   have hr := reduced_ev nq (benc (bval y - bval x)) D (by rw [benc_size]; exact (fs.mono (by omega)).nb) hD (by rw [bval_benc]; exact fs.mono (by omega)) fD h0
   rw [bval_benc, sgn_sub_one (fun h => hn h.symm) (by omega), Int.add_comm] at hr
   refine Ev.step (f := fun k => (nt_Subtract.f k x y).bind fun bt433 => (if bt433.2 = true then ((rt_reduced.f k np bt433.1 D).bind fun bt435 => (some (bt435.1, bt435.2.1, bt435.2.2))) else ((nt_Subtract.f k y x).bind fun bt438 => ((rt_reduced.f k nq bt438.1 D).bind fun bt440 => (some (bt440.1, bt440.2.1, bt440.2.2)))))) (fun k => ?_) ?_
   ·simp only [rt_add.j0]; rw [if_neg hne]
   ·refine Ev.bind hsub (Ev.congr (f := fun k => (nt_Subtract.f k y x).bind fun bt438 => ((rt_reduced.f k nq bt438.1 D).bind fun bt440 => (some (bt440.1, bt440.2.1, bt440.2.2)))) (fun k => by rw [if_neg (by simp)]) (Ev.bind hsub2 (Ev.bind hr (Ev.now _))))
  ·rw [if_neg hlt] at hsub
   have hr := reduced_ev np (benc (bval x - bval y)) D (by rw [benc_size]; exact (fs.mono (by omega)).nb) hD (by rw [bval_benc]; exact fs.mono (by omega)) fD h0
   rw [bval_benc, sgn_sub_one hn (by omega)] at hr
   refine Ev.step (f := fun k => (nt_Subtract.f k x y).bind fun bt433 => (if bt433.2 = true then ((rt_reduced.f k np bt433.1 D).bind fun bt435 => (some (bt435.1, bt435.2.1, bt435.2.2))) else ((nt_Subtract.f k y x).bind fun bt438 => ((rt_reduced.f k nq bt438.1 D).bind fun bt440 => (some (bt440.1, bt440.2.1, bt440.2.2)))))) (fun k => ?_) ?_
   ·simp only [rt_add.j0]; rw [if_neg hne]
   ·refine Ev.bind hsub (Ev.congr (f := fun k => (rt_reduced.f k np (benc (bval x - bval y)) D).bind fun bt435 => (some (bt435.1, bt435.2.1, bt435.2.2))) (fun k => by rw [if_pos rfl]) (Ev.bind hr (Ev.now _)))
def FitA (p q : Rat) : Prop := Fit (p.num.natAbs * q.den + q.num.natAbs * p.den) ∧ Fit (p.den * q.den)
theorem FitA.l {p q : Rat} (h : FitA p q) : FitQ p := ⟨h.1.mono (Nat.le_trans (Nat.le_mul_of_pos_right _ q.den_pos) (Nat.le_add_right _ _)), h.2.mono (Nat.le_mul_of_pos_right _ q.den_pos)⟩
theorem FitA.symm {p q : Rat} (h : FitA p q) : FitA q p := ⟨by rw [Nat.add_comm]; exact h.1, by rw [Nat.mul_comm]; exact h.2⟩
theorem FitA.r {p q : Rat} (h : FitA p q) : FitQ q := h.symm.l
theorem sgn_mul (n : Bool) (x d : Nat) : sgn n (x * d) = sgn n x * (d : Int) := by unfold sgn; split <;> simp [Int.neg_mul]
theorem sgn_qA (q : Rat) : sgn (qN q) q.num.natAbs = q.num := by
 have := sgn_q q
 unfold qA at this
 rwa [bval_benc] at this
theorem bs {α β : Type} (a : α) (f : α → Option β) : (some a).bind f = f a := (Option.bind_some a f).trans (Eq.refl _)
theorem add_ev {p q : Rat} (h : FitA p q) : Ev (fun k => rt_add.f k (qN p) (qA p) (qD p) (qN q) (qA q) (qD q)) (qN (p + q), qA (p + q), qD (p + q)) := by
 have hp := h.l
 have hq := h.r
 by_cases hd : (qD p).toList = (qD q).toList
 ·have hden : p.den = q.den := by rw [← dn_qD p, ← dn_qD q, tl_eq.1 hd]
  have e : p + q = mkRat (sgn (qN p) (bval (qA p)) + sgn (qN q) (bval (qA q))) (bval (benc p.den)) := by
   rw [sgn_q, sgn_q, bval_benc]
   have hp := Rat.mkRat_self p
   have hq := Rat.mkRat_self q
   rw [← hden] at hq
   conv => lhs; rw [← hp, ← hq]
   rw [Rat.mkRat_add_mkRat _ _ p.den_nz p.den_nz, ← Int.add_mul, Rat.mkRat_mul_right p.den_nz]
  have hj := add_j0_ev (qA p) (qA q) (benc p.den) (qN p) (qN q) (qA p) (qD p) (qA q) (qD q) hp.A.1 hq.A.1 (by rw [benc_size]; exact hp.2.nb) (by
   unfold qA; rw [bval_benc, bval_benc]
   exact h.1.mono (Nat.add_le_add (Nat.le_mul_of_pos_right _ q.den_pos) (Nat.le_mul_of_pos_right _ p.den_pos))) (by rw [bval_benc]; exact hp.2) (by rw [bval_benc]; exact p.den_nz)
  rw [← e] at hj
  refine Ev.congr (fun k => ?_) hj
  unfold rt_add.f
  rw [if_pos hd, den_q p]
  simp only [bs]
 ·have m1 := Multiply_ev (qA p) (benc q.den) hp.A.1 (by rw [benc_size]; exact hq.2.nb)
  have m2 := Multiply_ev (qA q) (benc p.den) hq.A.1 (by rw [benc_size]; exact hp.2.nb)
  have m3 := Multiply_ev (benc p.den) (benc q.den) (by rw [benc_size]; exact hp.2.nb) (by rw [benc_size]; exact hq.2.nb)
  rw [bval_benc] at m1 m2 m3
  rw [bval_benc] at m3
  have va : bval (qA p) = p.num.natAbs := by unfold qA; rw [bval_benc]
  have vb : bval (qA q) = q.num.natAbs := by unfold qA; rw [bval_benc]
  rw [va] at m1
  rw [vb] at m2
  have f1 : Fit (p.num.natAbs * q.den) := h.1.mono (Nat.le_add_right _ _)
  have f2 : Fit (q.num.natAbs * p.den) := h.1.mono (Nat.le_add_left _ _)
  have hj := add_j0_ev (benc (p.num.natAbs * q.den)) (benc (q.num.natAbs * p.den)) (benc (p.den * q.den)) (qN p) (qN q) (qA p) (qD p) (qA q) (qD q) (by rw [benc_size]; exact f1.nb) (by rw [benc_size]; exact f2.nb) (by rw [benc_size]; exact h.2.nb)
   (by rw [bval_benc, bval_benc]; exact h.1) (by rw [bval_benc]; exact h.2) (by rw [bval_benc]; exact Nat.mul_ne_zero p.den_nz q.den_nz)
  rw [bval_benc, bval_benc, bval_benc, sgn_mul, sgn_mul, sgn_qA, sgn_qA, ← Rat.add_def'] at hj
  refine Ev.congr (f := fun k => (nt_Multiply.f k (qA p) (benc q.den)).bind fun x => (nt_Multiply.f k (qA q) (benc p.den)).bind fun y => (nt_Multiply.f k (benc p.den) (benc q.den)).bind fun D => rt_add.j0 k x y D (qN p) (qA p) (qD p) (qN q) (qA q) (qD q)) (fun k => ?_) (Ev.bind m1 (Ev.bind m2 (Ev.bind m3 hj)))
  unfold rt_add.f
  rw [if_neg hd, den_q q, den_q p]
  simp only [bs]
theorem qA_nil {q : Rat} : (qA q).toList = ([] : List UInt8) ↔ q.num = 0 := by
 unfold qA; rw [benc_is_nil]; omega
theorem signOf_q (q : Rat) : rt_signOf.f (qN q) (qA q) (qD q) = some (sg q.num) := by
 unfold rt_signOf.f
 by_cases h : q.num = 0
 ·rw [if_pos (qA_nil.2 h), h]; rfl
 ·rw [if_neg (fun e => h (qA_nil.1 e))]
  unfold qN
  by_cases hn : q.num < 0
  ·rw [if_pos (by simpa using hn), sg_neg hn]
  ·rw [if_neg (by simpa using hn), sg_pos (by omega)]
theorem FitA.neg {p q : Rat} (h : FitA p q) : FitA p (-q) := by
 unfold FitA at *
 rw [Rat.neg_num, Int.natAbs_neg, Rat.neg_den]; exact h
theorem Add_q {p q : Rat} (h : FitA p q) : Ev (fun k => rt_Add.f k (qN p) (qA p) (qD p) (qN q) (qA q) (qD q)) (qN (p + q), qA (p + q), qD (p + q)) :=
 Ev.bind (clean_q h.l) (Ev.bind (clean_q h.r) (Ev.bind (f := fun _ bt452 => some (bt452.1, bt452.2.1, bt452.2.2)) (add_ev h) (Ev.now _)))
def dif (p q : Rat) : Int := p.num * q.den - q.num * p.den
theorem dif_lt {p q : Rat} : dif p q < 0 ↔ p < q := by unfold dif; rw [Rat.lt_iff]; omega
theorem dif_gt {p q : Rat} : 0 < dif p q ↔ q < p := by unfold dif; rw [Rat.lt_iff]; omega
theorem sg_opp (x : Int) : sg (-x) = -sg x := by unfold sg; repeat' split <;> omega
theorem sg_lim (x : Int) : -1 ≤ sg x ∧ sg x ≤ 1 := by unfold sg; repeat' split <;> omega
theorem Compare_q {p q : Rat} (h : FitA p q) : Ev (fun k => rt_Compare.f k (qN p) (qA p) (qD p) (qN q) (qA q) (qD q)) (sg (dif p q)) := by
 have hp := h.l
 have hq := h.r
 have pd : (0 : Int) < (p.den : Int) := by have := p.den_pos; omega
 have qd : (0 : Int) < (q.den : Int) := by have := q.den_pos; omega
 refine Ev.bind (clean_q hp) (Ev.bind (clean_q hq) ?_)
 by_cases hs : sg p.num = sg q.num
 ·have m1 := Multiply_ev (qA p) (benc q.den) hp.A.1 (by rw [benc_size]; exact hq.2.nb)
  have m2 := Multiply_ev (qA q) (benc p.den) hq.A.1 (by rw [benc_size]; exact hp.2.nb)
  have va : bval (qA p) = p.num.natAbs := by unfold qA; rw [bval_benc]
  have vb : bval (qA q) = q.num.natAbs := by unfold qA; rw [bval_benc]
  rw [bval_benc, va] at m1
  rw [bval_benc, vb] at m2
  have f1 : Fit (p.num.natAbs * q.den) := h.1.mono (Nat.le_add_right _ _)
  have f2 : Fit (q.num.natAbs * p.den) := h.1.mono (Nat.le_add_left _ _)
  have m3 := Compare_ev (benc (p.num.natAbs * q.den)) (benc (q.num.natAbs * p.den)) (by rw [benc_size]; have := f1.nb; omega) (by rw [benc_size]; have := f2.nb; omega)
  rw [bval_benc, bval_benc] at m3
  have fin : ∀ (x : Int), x = sg (((p.num.natAbs * q.den : Nat) : Int) - ((q.num.natAbs * p.den : Nat) : Int)) → (if qN p = true then some (wrap64 (-x)) else some x) = some (sg (dif p q)) := by
   intro x hx
   by_cases hn : p.num < 0
   ·have hqn : q.num < 0 := by
     rw [sg_neg hn] at hs
     refine Int.not_le.1 fun hh => ?_
     unfold sg at hs
     rw [if_neg (by omega)] at hs
     split at hs <;> omega
    have e1 : ((p.num.natAbs * q.den : Nat) : Int) = -(p.num * q.den) := by rw [Int.natCast_mul, show ((p.num.natAbs : Nat) : Int) = -p.num by omega, Int.neg_mul]
    have e2 : ((q.num.natAbs * p.den : Nat) : Int) = -(q.num * p.den) := by rw [Int.natCast_mul, show ((q.num.natAbs : Nat) : Int) = -q.num by omega, Int.neg_mul]
    rw [if_pos (by simpa [qN] using hn), hx, e1, e2]
    have e3 : -(p.num * (q.den : Int)) - -(q.num * (p.den : Int)) = -(dif p q) := by unfold dif; omega
    rw [e3, sg_opp, Int.neg_neg]
    have := sg_lim (dif p q)
    rw [w64 (by omega) (by omega)]
   ·have hqn : ¬ q.num < 0 := by
     intro hh
     rw [sg_neg hh] at hs
     unfold sg at hs
     rw [if_neg (by omega)] at hs
     split at hs <;> omega
    have e1 : ((p.num.natAbs * q.den : Nat) : Int) = p.num * q.den := by rw [Int.natCast_mul, show ((p.num.natAbs : Nat) : Int) = p.num by omega]
    have e2 : ((q.num.natAbs * p.den : Nat) : Int) = q.num * p.den := by rw [Int.natCast_mul, show ((q.num.natAbs : Nat) : Int) = q.num by omega]
    rw [if_neg (by simpa [qN] using hn), hx, e1, e2]
    rfl
  refine Ev.congr (f := fun k => (nt_Multiply.f k (qA p) (benc q.den)).bind fun x => (nt_Multiply.f k (qA q) (benc p.den)).bind fun y => (nt_Compare.f k x y).bind fun z => (if qN p = true then some (wrap64 (-z)) else some z)) (fun k => ?_) (Ev.bind m1 (Ev.bind m2 (Ev.bind m3 (Ev.congr (fun k => fin _ rfl) (Ev.now _)))))
  simp only [signOf_q p, signOf_q q, bs]
  rw [if_pos hs]
  simp only [den_q p, den_q q, bs]
 ·refine Ev.congr (f := fun _ => some (sg (dif p q))) (fun k => ?_) (Ev.now _)
  simp only [signOf_q p, signOf_q q, bs]
  rw [if_neg hs]
  have hc : (p.num < 0 ∨ p.num = 0 ∨ 0 < p.num) ∧ (q.num < 0 ∨ q.num = 0 ∨ 0 < q.num) := by omega
  have lt : sg p.num < sg q.num → sg (dif p q) = -1 := by
   intro hl
   refine sg_neg ?_
   rw [dif_lt, Rat.lt_iff]
   rcases hc.1 with a | a | a
   ·have a' : p.num * (q.den : Int) < 0 := Int.mul_neg_of_neg_of_pos a qd
    rcases hc.2 with b | b | b
    ·rw [sg_neg a, sg_neg b] at hl; omega
    ·rw [b, Int.zero_mul]; exact a'
    ·have := Int.mul_pos b pd; omega
   ·rcases hc.2 with b | b | b
    ·rw [a, sg_neg b] at hl; unfold sg at hl; omega
    ·rw [a, b] at hl; omega
    ·rw [a, Int.zero_mul]; exact Int.mul_pos b pd
   ·rw [sg_pos a] at hl; have := sg_lim q.num; omega
  have gt : sg q.num < sg p.num → sg (dif p q) = 1 := by
   intro hl
   refine sg_pos ?_
   rw [dif_gt, Rat.lt_iff]
   rcases hc.2 with a | a | a
   ·have a' : q.num * (p.den : Int) < 0 := Int.mul_neg_of_neg_of_pos a pd
    rcases hc.1 with b | b | b
    ·rw [sg_neg a, sg_neg b] at hl; omega
    ·rw [b, Int.zero_mul]; exact a'
    ·have := Int.mul_pos b qd; omega
   ·rcases hc.1 with b | b | b
    ·rw [a, sg_neg b] at hl; unfold sg at hl; omega
    ·rw [a, b] at hl; omega
    ·rw [a, Int.zero_mul]; exact Int.mul_pos b qd
   ·rw [sg_pos a] at hl; have := sg_lim p.num; omega
  by_cases hl : sg p.num < sg q.num
  ·rw [if_pos hl, lt hl]
  ·rw [if_neg hl, gt (by omega)]
theorem strip_eq : ∀ k x n, ir_strip.l0 k x n = nt_limbs_trim.l0 k x n := by
 intro k
 induction k with
 | zero => intro x n; simp only [ir_strip.l0, nt_limbs_trim.l0]
 | succ k ih => intro x n; simp only [ir_strip.l0, nt_limbs_trim.l0, ih]
theorem strip_f (k : Nat) (x : List Int) : ir_strip.f k x = nt_limbs_trim.f k x := strip_eq k x _
theorem strip_ev {l : List Int} (h : Lim l) (hl : l.length < 4294967296) : Ev (fun k => ir_strip.f k l) (lenc (val l).toNat) := Ev.congr (fun k => strip_f k l) (limbs_trim_ev h hl)
theorem order_eq : ∀ k x y n, ir_order.l0 k x y n = nt_compare.l0 k x y n := by
 intro k
 induction k with
 | zero => intro x y n; simp only [ir_order.l0, nt_compare.l0]
 | succ k ih => intro x y n; simp only [ir_order.l0, nt_compare.l0, ih]
theorem order_ev {l m : List Int} (h : T.Can l) (hm : T.Can m) (hl : l.length < 4294967296) (hml : m.length < 4294967296) : Ev (fun k => ir_order.f k l m) (sg (val l - val m)) := by
 by_cases he : l.length = m.length
 ·have := cmp_l0 h.1 hm.1 he hl l.length (Nat.le_refl _) (by rw [List.drop_eq_nil_of_le (Nat.le_refl _), List.drop_eq_nil_of_le (by omega)])
  refine Ev.congr (fun k => ?_) this
  unfold ir_order.f
  rw [if_pos (by omega), w64 (by omega) (by omega), order_eq]
 ·by_cases hlt : l.length < m.length
  ·have := can_shorter h.1 hm hlt
   refine Ev.congr (f := fun _ => some (-1)) (fun k => ?_) (by rw [sg_neg (by omega)]; exact Ev.now _)
   unfold ir_order.f
   rw [if_neg (by omega), if_pos (by omega)]
  ·have := can_shorter hm.1 h (by omega)
   refine Ev.congr (f := fun _ => some 1) (fun k => ?_) (by rw [sg_pos (by omega)]; exact Ev.now _)
   unfold ir_order.f
   rw [if_neg (by omega), if_neg (by omega)]
theorem short_eq : ∀ k x d o r i, ir_short.l0 k x d o r i = nt_divideSmall.l0 k x d o r i := by
 intro k
 induction k with
 | zero => intro x d o r i; simp only [ir_short.l0, nt_divideSmall.l0]
 | succ k ih => intro x d o r i; simp only [ir_short.l0, nt_divideSmall.l0, ih, strip_f]
theorem short_f (k : Nat) (x : List Int) (d : Int) : ir_short.f k x d = nt_divideSmall.f k x d := by
 unfold ir_short.f nt_divideSmall.f
 simp only [short_eq]
theorem norm1_l0 (s : ByteArray) (hs : s.size < 4294967296) (d : Nat) : ∀ i : Nat, i + d = s.size → (∀ j, j < i → s.data.toList.getD j 0 = 0) → Ev (fun k => ir_Normalize.l0 k s (i : Int)) (benc (bval s)) := by
 have fin : ∀ i : Nat, i ≤ s.size → (∀ j, j < i → s.data.toList.getD j 0 = 0) → (i < s.size → s.data.toList.getD i 0 ≠ 0) → Ev (fun _ : Nat => some (s.extract i s.size)) (benc (bval s)) := fun i _ h1 h2 => by
  rw [extract_benc s i h1 h2]; exact Ev.now _
 induction d with
 | zero =>
  intro i hi hz
  refine Ev.step (fun k => ?_) (fin i (by omega) hz (fun h => absurd h (by omega)))
  simp only [ir_Normalize.l0]
  rw [if_neg (by omega), if_pos (by omega), if_pos (by omega)]
  simp only [Int.toNat_natCast]
 | succ d ih =>
  intro i hi hz
  have hb := bt_nat s i
  by_cases h0 : bt s (i : Int) = 0
  ·have hb0 : s.data.toList.getD i 0 = 0 := by
    rw [h0] at hb
    exact UInt8.toNat_inj.1 (by simpa using hb.symm)
   have e := nS i (by omega)
   refine Ev.step (fun k => ?_) (ih (i + 1) (by omega) (fun j hj => by
    by_cases hji : j = i
    ·rw [hji]; exact hb0
    ·exact hz j (by omega)))
   simp only [ir_Normalize.l0, e]
   clear e
   rw [if_pos (by omega), if_pos (by omega), if_pos h0]
  ·refine Ev.step (fun k => ?_) (fin i (by omega) hz (fun _ hh => h0 (by rw [hb, hh]; rfl)))
   simp only [ir_Normalize.l0]
   rw [if_pos (by omega), if_pos (by omega), if_neg h0, if_pos (by omega)]
   simp only [Int.toNat_natCast]
theorem norm1_ev (s : ByteArray) (hs : s.size < 4294967296) : Ev (fun k => ir_Normalize.f k s) (benc (bval s)) := norm1_l0 s hs s.size 0 (by omega) (fun j hj => absurd hj (by omega))
theorem lim_unique {l : List Int} : ∀ {m : List Int}, Lim l → Lim m → l.length = m.length → val l = val m → l = m := by
 induction l with
 | nil => intro m _ _ h _; exact (List.length_eq_zero_iff.1 h.symm).symm
 | cons x l ih =>
  intro m hl hm h hv
  cases m with
  | nil => simp at h
  | cons y m =>
   have hx := hl.head
   have hy := hm.head
   simp only [val] at hv
   have : x = y := by omega
   subst this
   rw [ih hl.tail hm.tail (by simpa using h) (by omega)]
theorem limbs1_l0 (s : ByteArray) (hs : s.size < 4294967296) (R : List Int) (hR : Lim R) (hRl : R.length = (s.size + 3) / 4) (hRv : val R = (bval s : Int)) (d : Nat) : ∀ (i : Nat) (x : List Int), i + d = s.size → x.length = (s.size + 3) / 4 → Lim x → val x = (blv (s.data.toList.reverse.take i) : Int) → Ev (fun k => ir_limbs.l0 k s x (i : Int)) R := by
 have hl : s.data.toList.reverse.length = s.size := by rw [List.length_reverse, size_list]
 induction d with
 | zero =>
  intro i x hi hx hlim hv
  refine Ev.step (fun k => ?_) (f := fun k => some x) ?_
  ·simp only [ir_limbs.l0]; rw [if_neg (by omega)]
  ·have e : val x = val R := by
    rw [hv, List.take_of_length_le (by omega), hRv]; simp only [bval]
   rw [lim_unique hlim hR (hx.trans hRl.symm) e]
   exact Ev.now _
 | succ d ih =>
  intro i x hi hx hlim hv
  have hstep := limb_step hlim hv (i := i) (by omega) (by omega)
  have := ih (i + 1) _ (by omega) (by rw [List.length_set]; exact hx) hstep.1 hstep.2
  refine Ev.step (fun k => ?_) this
  simp only [ir_limbs.l0, tdiv4, tmod4]
  have e1 : wrap64 ((i / 4 : Nat) : Int) = ((i / 4 : Nat) : Int) := w64 (by omega) (by omega)
  have e2 : wrap64 (8 * ((i % 4 : Nat) : Int)) = ((8 * (i % 4) : Nat) : Int) := by rw [w64 (by omega) (by omega)]; omega
  have e3 : wrap64 (wrap64 ((s.size : Int) - 1) - (i : Int)) = (s.size : Int) - 1 - (i : Int) := by rw [w64 (x := (s.size : Int) - 1) (by omega) (by omega), w64 (by omega) (by omega)]
  have e4 : wrap64 ((i : Int) + 1) = ((i + 1 : Nat) : Int) := by rw [w64 (by omega) (by omega)]; omega
  have e5 : IntKind.u64.wrap ((8 * (i % 4) : Nat) : Int) = ((8 * (i % 4) : Nat) : Int) := by clear e1 e2 e3 e4 hv hRv hstep this; exact u64 (by omega) (by omega)
  rw [if_pos (by clear e1 e2 e3 e4 e5 hstep this; omega)]
  simp only [e1, e2, e3, e4, e5]
  clear e1 e2 e3 e4 e5 hstep this
  rw [if_pos (by omega), if_pos (by omega), if_pos (by omega), if_pos (by omega), if_pos (by omega), bt_rev s i (by omega)]
  simp only [rd_nat, Int.toNat_natCast]
theorem nl_of_nb (n : Nat) : (nb n + 3) / 4 = (lenc n).length := by
 have h1 := nl_nb n
 have h2 := nb_nl n
 have : nl n = (lenc n).length := rfl
 omega
theorem limbs1_ev (s : ByteArray) (hs : s.size < 4294967000) : Ev (fun k => ir_limbs.f k s) (lenc (bval s)) := by
 refine Ev.bind (norm1_ev s (by omega)) ?_
 have hz : (benc (bval s)).size < 4294967000 := by rw [benc_size]; have := nb_bval s; omega
 generalize hS : benc (bval s) = S at *
 have hv : bval S = bval s := by rw [← hS, bval_benc]
 have hl : (lenc (bval s)).length = (S.size + 3) / 4 := by rw [← hS, benc_size, nl_of_nb]
 have e : wrap64 (Int.tdiv (wrap64 ((S.size : Int) + 3)) 4) = (((S.size + 3) / 4 : Nat) : Int) := by
  rw [w64 (x := (S.size : Int) + 3) (by omega) (by omega), show (S.size : Int) + 3 = ((S.size + 3 : Nat) : Int) by omega, tdiv4, w64 (by omega) (by omega)]
 have := limbs1_l0 S (by omega) (lenc (bval s)) (lenc_can _).1 hl (by rw [lenc_val, hv]) S.size 0 (List.replicate ((S.size + 3) / 4) 0) (by omega) (by simp) (Lim.zeros _) (by rw [val_zeros]; simp [blv])
 refine Ev.congr (fun k => ?_) this
 simp only [e]
 rw [if_pos (by omega), if_pos (by rw [Int.toNat_natCast]; omega)]
 simp only [Int.toNat_natCast]; rfl
theorem text1_l0 {l : List Int} (h : Lim l) (hl : l.length < 1000000000) : ∀ n : Nat, n ≤ l.length → Ev (fun k => ir_text.l0 k l (bts (l.drop n)).reverse ((n : Int) - 1)) (benc (val l).toNat) := by
 intro n
 induction n with
 | zero =>
  intro _
  have hsz : (strOfNums (bts l).reverse).size < 4294967296 := by
   have : (strOfNums (bts l).reverse).size = 4 * l.length := by
    unfold strOfNums
    rw [size_list]
    simp [bts_length]
   omega
  have := norm1_ev (strOfNums (bts l).reverse) hsz
  rw [bval_text h] at this
  refine Ev.step (f := fun k => (ir_Normalize.f k (strOfNums (bts l).reverse)).bind fun t => some t) (fun k => ?_) (Ev.bind this (Ev.now _))
  simp only [ir_text.l0]; rw [if_neg (by omega)]; rfl
 | succ n ih =>
  intro hn
  have e1 : ((n + 1 : Nat) : Int) - 1 = (n : Int) := by omega
  have e2 : wrap64 ((n : Int) - 1) = (n : Int) - 1 := w64 (by omega) (by omega)
  have hb : (bts (l.drop n)).reverse = (bts (l.drop (n + 1))).reverse ++ [l.getD n 0 / 16777216 % 256, l.getD n 0 / 65536 % 256, l.getD n 0 / 256 % 256, l.getD n 0 % 256] := by
   rw [List.drop_eq_getElem_cons (by omega : n < l.length), List.getD_eq_getElem?_getD, List.getElem?_eq_getElem (by omega)]
   simp [bts]
  have hlen : (bts (l.drop (n + 1))).reverse.length + 4 < 140737488355328 := by
   rw [List.length_reverse, bts_length, List.length_drop]; omega
  refine Ev.step (fun k => ?_) (ih (by omega))
  simp only [ir_text.l0, e1, e2, rd_nat, bs]
  clear e2
  rw [if_pos (by omega), if_pos (by omega), if_pos (by omega), if_pos (by exact hlen), hb]
theorem text1_ev {n : Nat} (hl : (lenc n).length < 1000000000) : Ev (fun k => ir_text.f k (lenc n)) (benc n) := by
 have hs := strip_ev (lenc_can n).1 (by omega)
 rw [lenc_val, Int.toNat_natCast] at hs
 have ht := text1_l0 (lenc_can n).1 hl (lenc n).length (Nat.le_refl _)
 rw [lenc_val, Int.toNat_natCast, List.drop_eq_nil_of_le (Nat.le_refl _)] at ht
 refine Ev.bind hs (Ev.congr (fun k => ?_) ht)
 have e : wrap64 (4 * ((lenc n).length : Int)) = ((4 * (lenc n).length : Nat) : Int) := by rw [w64 (by omega) (by omega)]; omega
 have e2 : wrap64 (((lenc n).length : Int) - 1) = ((lenc n).length : Int) - 1 := w64 (by omega) (by omega)
 simp only [e, e2, Int.toNat_natCast]
 clear e e2
 rw [if_pos (by omega), if_pos (by omega)]
 rfl
theorem shifted_l0 {l : List Int} {s : Nat} (hs : s < 32) (h : Lim l) (hn : l.length < 900000000) (d : Nat) : ∀ (i : Nat) (x : List Int), i + d = l.length → x.length = l.length + 1 → Lim x → val x = 2 ^ s * val (l.take i) →
  ∃ y, Ev (fun k => ir_shifted.l0 k l (s : Int) x (i : Int)) y ∧ Lim y ∧ y.length = l.length + 1 ∧ val y = 2 ^ s * val l := by
 induction d with
 | zero =>
  intro i x hi hx hlim hv
  refine ⟨x, Ev.step (f := fun _ => some x) (fun k => ?_) (Ev.now _), hlim, hx, ?_⟩
  ·simp only [ir_shifted.l0]; rw [if_neg (by omega)]
  ·rw [hv, List.take_of_length_le (by omega)]
 | succ d ih =>
  intro i x hi hx hlim hv
  have hg := h.get i
  have hp := pow_lim hs
  have htk := val_take_lt h i (by omega)
  have hst := shift_step (n := l.length + 1) (y := l.getD i 0) hs hlim (i := i) (by omega) hv htk.2 hg.1 hg.2
  have hsh := shl_u64 hg.1 hg.2 hs
  have hval : 2 ^ s * val (l.take (i + 1)) = 2 ^ s * val (l.take i) + bp i * (l.getD i 0 * 2 ^ s) := by
   rw [val_take_succ l i (by omega), Int.mul_add, Int.mul_left_comm, Int.mul_comm (2 ^ s) (l.getD i 0)]
  generalize hx1 : x.set i (Go.bits .or .u32 (x.getD i 0) ((l.getD i 0 * 2 ^ s) % 4294967296)) = x1 at hst
  have hl1 : x1.length = l.length + 1 := by rw [← hx1]; simpa using hx
  have hw : (l.getD i 0 * 2 ^ s) / 4294967296 % 4294967296 = (l.getD i 0 * 2 ^ s) / 4294967296 := by
   have := hsh.2
   omega
  have hz : x1.getD (i + 1) 0 = 0 := by
   rw [← hx1, List.getD_eq_getElem?_getD, List.getElem?_set_ne (by omega), ← List.getD_eq_getElem?_getD]
   exact hst.2.2 (by omega)
  have hhi : 0 ≤ (l.getD i 0 * 2 ^ s) / 4294967296 ∧ (l.getD i 0 * 2 ^ s) / 4294967296 < 4294967296 := by
   have := hsh.2
   omega
  obtain ⟨y, hy, hy1, hy2, hy3⟩ := ih (i + 1) (x1.set (i + 1) ((l.getD i 0 * 2 ^ s) / 4294967296)) (by omega) (by simpa using hl1) (hst.1.set _ hhi.1 hhi.2) (by
   rw [val_set x1 _ _ (by omega), hz, hst.2.1, hval, bp_succ]
   have := Int.mul_ediv_add_emod (l.getD i 0 * 2 ^ s) 4294967296
   generalize (l.getD i 0 * 2 ^ s) / 4294967296 = u at *
   generalize (l.getD i 0 * 2 ^ s) % 4294967296 = v at *
   rw [← this, Int.mul_add, Int.sub_zero, Int.mul_assoc 4294967296, Int.mul_left_comm 4294967296]
   omega)
  refine ⟨y, Ev.step (fun k => ?_) hy, hy1, hy2, hy3⟩
  simp only [ir_shifted.l0, wS i (by omega), rd_nat, hsh.1, Int.toNat_natCast, hw]
  rw [hx1]
  clear hst ih hy hval
  rw [if_pos (by omega), if_pos (by omega), if_pos (by omega), if_pos (by omega), if_pos (by omega), if_pos (by omega)]
theorem shifted_ev {l : List Int} {s : Nat} (hs : s < 32) (h : Lim l) (hn : l.length < 900000000) :
  ∃ y, Ev (fun k => ir_shifted.f k l (s : Int)) y ∧ Lim y ∧ y.length = l.length + 1 ∧ val y = 2 ^ s * val l := by
 obtain ⟨y, hy, h1, h2, h3⟩ := shifted_l0 hs h hn l.length 0 (List.replicate (l.length + 1) 0) (by omega) (by simp) (Lim.zeros _) (by rw [val_zeros]; simp [val])
 refine ⟨y, Ev.congr (fun k => ?_) hy, h1, h2, h3⟩
 simp only [ir_shifted.f, wS l.length (by omega)]
 rw [if_pos (by omega), if_pos (by rw [Int.toNat_natCast]; omega)]
 simp only [Int.toNat_natCast]; rfl
theorem long_l5 {n s : Nat} {q u : List Int} (hs : s < 32) (hu : Lim u) (hul : n < u.length) (hn : n < 900000000) (hz : val (u.drop n) = 0) (hq : Lim q) (hql : q.length < 900000000) (d : Nat) : ∀ (i : Nat) (x : List Int), i + d = n → x.length = n → Lim x → val (x.take i) + bp i * (val (u.drop i) / 2 ^ s) = val u / 2 ^ s →
  Ev (fun k => ir_long.l5 k (n : Int) (s : Int) u q x (i : Int)) (lenc (val q).toNat, lenc (val u / 2 ^ s).toNat) := by
 have hp := pow_lim hs
 induction d with
 | zero =>
  intro i x hi hx hlim hv
  have e0 : i = n := by omega
  subst e0
  rw [hz, List.take_of_length_le (by omega)] at hv
  have e : val x = val u / 2 ^ s := by
   rw [← hv, Int.zero_ediv]; omega
  refine Ev.step (fun k => ?_) (f := fun k => (ir_strip.f k q).bind fun t176 => ((ir_strip.f k x).bind fun t179 => (some (t176, t179)))) ?_
  ·simp only [ir_long.l5]; rw [if_neg (by omega)]
  ·rw [← e]
   exact Ev.bind (strip_ev hq (by omega)) (Ev.bind (strip_ev hlim (by omega)) (Ev.now _))
 | succ d ih =>
  intro i x hi hx hlim hv
  have hg := hu.get i
  have hg2 := hu.get (i + 1)
  have key : ∀ z : Int, z = (val (u.drop i) / 2 ^ s) % 4294967296 → Lim (x.set i z) ∧ val ((x.set i z).take (i + 1)) + bp (i + 1) * (val (u.drop (i + 1)) / 2 ^ s) = val u / 2 ^ s := by
   intro z hz
   refine ⟨hlim.set _ (by omega) (by omega), ?_⟩
   rw [val_take_succ _ i (by simp; omega), List.take_set_of_le (by omega), ← hv]
   have a : (x.set i z).getD i 0 = z := by rw [List.getD_eq_getElem?_getD, List.getElem?_set_self (by omega)]; rfl
   have b : val (u.drop (i + 1)) / 2 ^ s = (val (u.drop i) / 2 ^ s) / 4294967296 := by
    rw [Int.ediv_ediv_of_nonneg (by omega), Int.mul_comm, ← Int.ediv_ediv_of_nonneg (by omega)]
    congr 1
    rw [drop_val u i (by omega)]
    omega
   rw [a, b, hz, bp_succ]
   have := Int.mul_ediv_add_emod (val (u.drop i) / 2 ^ s) 4294967296
   generalize (val (u.drop i) / 2 ^ s) / 4294967296 = u at *
   generalize (val (_) / 2 ^ s) % 4294967296 = v at *
   rw [← this, Int.mul_add, Int.mul_assoc 4294967296, Int.mul_left_comm 4294967296]
   omega
  have hdig : (val (u.drop i) / 2 ^ s) % 4294967296 = ((u.getD i 0 + u.getD (i + 1) 0 * 4294967296) / 2 ^ s) % 4294967296 := by
   have hW : ∃ W, val (u.drop (i + 1)) = u.getD (i + 1) 0 + 4294967296 * W := ⟨_, drop_val u (i + 1) (by omega)⟩
   obtain ⟨W, hW⟩ := hW
   obtain ⟨q, hq⟩ := Int.dvd_of_emod_eq_zero hp.2.2
   rw [drop_val u i (by omega), hW]
   have e : u.getD i 0 + 4294967296 * (u.getD (i + 1) 0 + 4294967296 * W) = (u.getD i 0 + u.getD (i + 1) 0 * 4294967296) + 2 ^ s * (4294967296 * (q * W)) := by
    have : 2 ^ s * (4294967296 * (q * W)) = 4294967296 * (4294967296 * W) := by
     rw [Int.mul_left_comm (2 ^ s), ← Int.mul_assoc (2 ^ s), ← hq]
    rw [this]; omega
   rw [e, Int.add_mul_ediv_left _ _ (by omega), Int.add_mul_emod_self_left]
  have k2 := key _ rfl
  refine Ev.step (fun k => ?_) (ih (i + 1) _ (by omega) (by simpa using hx) k2.1 k2.2)
  simp only [ir_long.l5, wS i (by omega), rd_nat, Int.toNat_natCast]
  clear ih k2 key
  rw [if_pos (by omega), if_pos (by omega), if_pos (by omega), if_pos (by omega), if_pos (by omega), if_pos (by omega), if_pos (by omega)]
  rw [u64 (x := u.getD (i + 1) 0) (by omega) (by omega), or_add hg2.1 hg2.2 hg.1 hg.2, hdig, Int.add_comm]
  unfold shr
  rw [Int.toNat_natCast, Nat.min_eq_left (by simp [IntKind.bits]; omega)]
theorem and_low {x : Int} (h0 : 0 ≤ x) (h1 : x < 18446744073709551616) : Go.bits .and .u64 x 4294967295 = x % 4294967296 := by
 obtain ⟨n, rfl⟩ := Int.eq_ofNat_of_zero_le h0
 have := (Go.bits_nat .u64 64 (by decide) (fun n h0 h1 => by rw [u64m]; omega) n 4294967295 (by omega) (by decide)).1
 rw [show ((4294967295 : Nat) : Int) = 4294967295 from rfl] at this
 rw [this, show (4294967295 : Nat) = 2 ^ 32 - 1 from rfl, Nat.and_two_pow_sub_one_eq_mod]
 omega
def ln3 (n s : Nat) (v q : List Int) (j : Nat) (g : Int) (x : List Int) (c b : Int) (k : Nat) : Option (List Int × List Int) := ir_long.l3 k (n : Int) (s : Int) x v q (j : Int) g c b (n : Int)
theorem long_l3 {u v q : List Int} {g : Int} {n s j : Nat} (hu : Lim u) (hv : Lim v) (hn : v.length = n) (hlen : j + n < u.length) (hul : u.length < 2000000000) (hg : 0 ≤ g) (hg1 : g < 4294967296) (d : Nat) : ∀ (i : Nat) (x : List Int) (c b : Int), i + d = n → x.length = u.length → Lim x → x.drop (j + i) = u.drop (j + i) → 0 ≤ c → c < 4294967296 → (b = 0 ∨ b = 1) → val (x.take (j + i)) = val (u.take (j + i)) - bp j * (g * val (v.take i)) + bp (j + i) * (c + b) →
  ∃ y c' b', (∀ r, Ev (ln3 n s v q j g y c' b') r → Ev (fun k => ir_long.l3 k (n : Int) (s : Int) x v q (j : Int) g c b (i : Int)) r) ∧ y.length = u.length ∧ Lim y ∧ y.drop (j + n) = u.drop (j + n) ∧ 0 ≤ c' ∧ c' < 4294967296 ∧ (b' = 0 ∨ b' = 1) ∧ val (y.take (j + n)) = val (u.take (j + n)) - bp j * (g * val v) + bp (j + n) * (c' + b') := by
 induction d with
 | zero =>
  intro i x c b hi hx hlim hd h0 h1 hb hinv
  have e : i = n := by omega
  subst e
  refine ⟨x, c, b, fun r hr => hr, hx, hlim, hd, h0, h1, hb, ?_⟩
  rw [hinv, List.take_of_length_le (by omega : v.length ≤ i)]
 | succ d ih =>
  intro i x c b hi hx hlim hd h0 h1 hb hinv
  have hxi : x.getD (j + i) 0 = u.getD (j + i) 0 := by
   have := congrArg (fun l => l.getD 0 0) hd
   simp only [getD_drop] at this
   simpa using this
  have hvi := hv.get i
  have hui := hlim.get (j + i)
  have hm : 0 ≤ g * v.getD i 0 ∧ g * v.getD i 0 ≤ 4294967295 * 4294967295 := ⟨Int.mul_nonneg hg hvi.1, Int.mul_le_mul (by omega) (by omega) hvi.1 (by omega)⟩
  have step : ∀ (t b' : Int), (b' = 0 ∨ b' = 1) → 0 ≤ t → t < 4294967296 → t = x.getD (j + i) 0 - ((c + g * v.getD i 0) % 4294967296 + b) + 4294967296 * b' →
    (∀ k, ir_long.l3 (k + 1) (n : Int) (s : Int) x v q (j : Int) g c b (i : Int) = ir_long.l3 k (n : Int) (s : Int) (x.set (j + i) t) v q (j : Int) g ((c + g * v.getD i 0) / 4294967296) b' ((i + 1 : Nat) : Int)) →
    ∃ y c' b', (∀ r, Ev (ln3 n s v q j g y c' b') r → Ev (fun k => ir_long.l3 k (n : Int) (s : Int) x v q (j : Int) g c b (i : Int)) r) ∧ y.length = u.length ∧ Lim y ∧ y.drop (j + n) = u.drop (j + n) ∧ 0 ≤ c' ∧ c' < 4294967296 ∧ (b' = 0 ∨ b' = 1) ∧ val (y.take (j + n)) = val (u.take (j + n)) - bp j * (g * val v) + bp (j + n) * (c' + b') := by
   intro t b' hb' ht0 ht1 ht heq
   have hround := mulsub_round (u := x) (v := v) (j := j) (i := i) (g := g) (c := c) (b := b) (x := x.getD (j + i) 0) (y := (c + g * v.getD i 0) % 4294967296 + b) (b' := b') (cp := c + g * v.getD i 0) (s := val (u.take (j + i))) (t := t) (by omega) (by omega) hinv rfl rfl ht (by simp)
   obtain ⟨y, c', b'', hy, hl⟩ := ih (i + 1) (x.set (j + i) t) ((c + g * v.getD i 0) / 4294967296) b' (by omega) (by simpa using hx) (hlim.set _ ht0 ht1) (by
     rw [List.drop_set_of_lt (by omega)]
     have := congrArg (List.drop 1) hd
     simpa [List.drop_drop, Nat.add_assoc] using this) (by omega) (by omega) hb' (by rw [hround, ← Nat.add_assoc j i 1, val_take_succ u (j + i) (by omega), hxi])
   exact ⟨y, c', b'', fun r hr => Ev.step heq (hy r hr), hl⟩
  have e5 := wS i (by clear step ih hinv; omega)
  have e1 : wrap64 ((j : Int) + (i : Int)) = ((j + i : Nat) : Int) := by clear step ih hinv e5; rw [w64 (by omega) (by omega)]; omega
  have e2 : IntKind.u64.wrap (c + IntKind.u64.wrap (g * IntKind.u64.wrap (v.getD i 0))) = c + g * v.getD i 0 := by
   clear step ih hinv e5 e1
   rw [u64 (x := v.getD i 0) (by omega) (by omega), u64 (x := g * v.getD i 0) (by omega) (by omega), u64 (by omega) (by omega)]
  have hcp : 0 ≤ c + g * v.getD i 0 ∧ c + g * v.getD i 0 < 18446744073709551616 := by clear step ih hinv e5 e1 e2; omega
  generalize hCP : c + g * v.getD i 0 = cp at *
  have e3 : IntKind.u64.wrap (Go.bits .and .u64 cp 4294967295 + b) = cp % 4294967296 + b := by
   clear step ih hinv e5 e1 e2
   rw [and_low hcp.1 hcp.2, u64 (by omega) (by omega)]
  have e4 : IntKind.u64.wrap (x.getD (j + i) 0) = x.getD (j + i) 0 := by
   clear step ih hinv e1 e2 e3
   exact u64 (by omega) (by omega)
  by_cases hc : x.getD (j + i) 0 < cp % 4294967296 + b
  ·refine step _ 1 (Or.inr rfl) ?_ ?_ rfl (fun k => ?_)
   ·clear step ih hinv e1 e2 e3 e4 e5; omega
   ·clear step ih hinv e1 e2 e3 e4 e5; omega
   ·have e6 : IntKind.u64.wrap (x.getD (j + i) 0 + 4294967296) = x.getD (j + i) 0 + 4294967296 := by
     clear step ih hinv e1 e2 e3 e4 e5
     exact u64 (by omega) (by omega)
    have e7 : IntKind.u64.wrap (x.getD (j + i) 0 + 4294967296 - (cp % 4294967296 + b)) % 4294967296 = x.getD (j + i) 0 - (cp % 4294967296 + b) + 4294967296 * 1 := by
     clear step ih hinv e1 e2 e3 e4 e5 e6
     rw [u64 (by omega) (by omega)]; omega
    simp only [ir_long.l3, e1, rd_nat, e2, e3, e4, e5, e6, e7, Int.toNat_natCast]
    clear step ih hinv e1 e2 e3 e4 e5 e6 e7
    rw [if_pos (by omega), if_pos (by omega), if_pos (by omega), if_pos (by omega), if_pos (by omega), if_pos hc]
  ·refine step _ 0 (Or.inl rfl) ?_ ?_ rfl (fun k => ?_)
   ·clear step ih hinv e1 e2 e3 e4 e5; omega
   ·clear step ih hinv e1 e2 e3 e4 e5; omega
   ·have e7 : IntKind.u64.wrap (x.getD (j + i) 0 - (cp % 4294967296 + b)) % 4294967296 = x.getD (j + i) 0 - (cp % 4294967296 + b) + 4294967296 * 0 := by
     clear step ih hinv e1 e2 e3 e4 e5
     rw [u64 (by omega) (by omega)]; omega
    simp only [ir_long.l3, e1, rd_nat, e2, e3, e4, e5, e7, Int.toNat_natCast]
    clear step ih hinv e1 e2 e3 e4 e5 e7
    rw [if_pos (by omega), if_pos (by omega), if_pos (by omega), if_pos (by omega), if_pos (by omega), if_neg hc]
theorem getD_set_self {x : List Int} {i : Nat} {t : Int} (h : i < x.length) : (x.set i t).getD i 0 = t := by rw [List.getD_eq_getElem?_getD, List.getElem?_set_self h]; rfl
def ln1 (n s : Nat) (v : List Int) (j : Nat) (x q : List Int) (k : Nat) : Option (List Int × List Int) := ir_long.l1 k (n : Int) (s : Int) x v q ((j : Int) - 1)
theorem long_l4 {u v q : List Int} {g : Int} {n s j : Nat} (hu : Lim u) (hv : Lim v) (hn : v.length = n) (hlen : j + n < u.length) (hul : u.length < 2000000000) (hq : j < q.length) (hg : 0 ≤ g) (hg1 : g < 4294967296) (d : Nat) : ∀ (i : Nat) (x : List Int) (c : Int), i + d = n → x.length = u.length → Lim x → x.drop (j + i) = u.drop (j + i) → (c = 0 ∨ c = 1) → val (x.take (j + i)) = val (u.take (j + i)) + bp j * val (v.take i) - bp (j + i) * c →
  ∃ y e, (∀ r, Ev (ln1 n s v j y (q.set j g)) r → Ev (fun k => ir_long.l4 k (n : Int) (s : Int) x v q (j : Int) g c (i : Int)) r) ∧ y.length = u.length ∧ Lim y ∧ y.drop (j + n + 1) = u.drop (j + n + 1) ∧ val (y.take (j + n + 1)) = val (u.take (j + n + 1)) + bp j * val v - bp (j + n + 1) * e := by
 have e1 : ∀ i : Nat, i ≤ n → wrap64 ((j : Int) + (i : Int)) = ((j + i : Nat) : Int) := fun i hi => by rw [w64 (by omega) (by omega)]; omega
 have eg : g % 4294967296 = g := by omega
 have ej : wrap64 ((j : Int) - 1) = (j : Int) - 1 := by clear e1; exact w64 (by omega) (by omega)
 induction d with
 | zero =>
  intro i x c hi hx hlim hd hc hinv
  have e : i = n := by omega
  subst e
  have hxu : x.getD (j + i) 0 = u.getD (j + i) 0 := by
   have := congrArg (fun l => l.getD 0 0) hd
   simp only [getD_drop] at this
   simpa using this
  have hg0 := hlim.get (j + i)
  have hz : 0 ≤ (x.getD (j + i) 0 + c) % 4294967296 ∧ (x.getD (j + i) 0 + c) % 4294967296 < 4294967296 := by clear e1 ej; omega
  have hc2 : c % 4294967296 = c := by clear e1 ej; omega
  refine ⟨x.set (j + i) ((x.getD (j + i) 0 + c) % 4294967296), (x.getD (j + i) 0 + c) / 4294967296, fun r hr => Ev.step (fun k => ?_) hr, by simpa using hx, hlim.set _ hz.1 hz.2, ?_, ?_⟩
  ·simp only [ir_long.l4, ln1, e1 i (Nat.le_refl _), rd_nat, Int.toNat_natCast, eg, ej, hc2]
   clear e1 ej hr
   rw [if_neg (by omega), if_pos (by omega), if_pos (by omega), if_pos (by omega), if_pos (by omega)]
  ·rw [List.drop_set_of_lt (by omega)]
   have := congrArg (List.drop 1) hd
   simpa [List.drop_drop, Nat.add_assoc] using this
  ·rw [List.take_of_length_le (by omega : v.length ≤ i)] at hinv
   have a := val_take_succ (x.set (j + i) ((x.getD (j + i) 0 + c) % 4294967296)) (j + i) (by simp; omega)
   have b := val_take_succ u (j + i) (by omega)
   rw [List.take_set_of_le (Nat.le_refl _), getD_set_self (by omega)] at a
   rw [a, b, hinv, bp_succ, hxu]
   have h2 := Int.mul_ediv_add_emod (u.getD (j + i) 0 + c) 4294967296
   generalize (u.getD (j + i) 0 + c) / 4294967296 = q at *
   generalize (u.getD (j + i) 0 + c) % 4294967296 = r at *
   have h3 : r = u.getD (j + i) 0 + c - 4294967296 * q := by clear e1 ej; omega
   rw [h3, Int.mul_sub, Int.mul_add, Int.mul_assoc 4294967296, Int.mul_left_comm (bp (j + i))]
   clear e1 ej
   omega
 | succ d ih =>
  intro i x c hi hx hlim hd hc hinv
  have hxi : x.getD (j + i) 0 = u.getD (j + i) 0 := by
   have := congrArg (fun l => l.getD 0 0) hd
   simp only [getD_drop] at this
   simpa using this
  have hvi := hv.get i
  have hui := hlim.get (j + i)
  have ht : 0 ≤ (c + x.getD (j + i) 0 + v.getD i 0) % 4294967296 ∧ (c + x.getD (j + i) 0 + v.getD i 0) % 4294967296 < 4294967296 ∧ ((c + x.getD (j + i) 0 + v.getD i 0) / 4294967296 = 0 ∨ (c + x.getD (j + i) 0 + v.getD i 0) / 4294967296 = 1) := by clear e1 ej ih; omega
  obtain ⟨y, e, hy, hl⟩ := ih (i + 1) (x.set (j + i) ((c + x.getD (j + i) 0 + v.getD i 0) % 4294967296)) ((c + x.getD (j + i) 0 + v.getD i 0) / 4294967296) (by omega) (by simpa using hx) (hlim.set _ ht.1 ht.2.1) (by
    rw [List.drop_set_of_lt (by omega)]
    have := congrArg (List.drop 1) hd
    simpa [List.drop_drop, Nat.add_assoc] using this) ht.2.2 (by
    rw [← Nat.add_assoc, val_take_succ _ (j + i) (by simp; omega), List.take_set_of_le (Nat.le_refl _), val_take_succ u (j + i) (by omega), val_take_succ v i (by omega), hinv, getD_set_self (by omega)]
    rw [hxi, bp_succ, bp_add]
    have h2 := Int.mul_ediv_add_emod (c + u.getD (j + i) 0 + v.getD i 0) 4294967296
    generalize hq2 : (c + u.getD (j + i) 0 + v.getD i 0) / 4294967296 = q2 at *
    generalize (c + u.getD (j + i) 0 + v.getD i 0) % 4294967296 = r at *
    have h3 : r = c + u.getD (j + i) 0 + v.getD i 0 - 4294967296 * q2 := by clear e1 ej ih; omega
    rw [h3]
    clear e1 ej ih h2 h3 hq2 hinv
    grind)
  refine ⟨y, e, fun r hr => Ev.step (fun k => ?_) (hy r hr), hl⟩
  have e2 : IntKind.u64.wrap (IntKind.u64.wrap (c + IntKind.u64.wrap (x.getD (j + i) 0)) + IntKind.u64.wrap (v.getD i 0)) = c + x.getD (j + i) 0 + v.getD i 0 := by
   clear e1 ej ih hy hinv
   rw [u64 (x := v.getD i 0) (by omega) (by omega), u64 (x := x.getD (j + i) 0) (by omega) (by omega), u64 (x := c + x.getD (j + i) 0) (by omega) (by omega), u64 (by omega) (by omega)]
  simp only [ir_long.l4, e1 i (by omega), rd_nat, Int.toNat_natCast, e2, wS i (by clear e1 ej ih hy hinv e2; omega)]
  clear e1 ej ih hy hinv e2 ht
  rw [if_pos (by omega), if_pos (by omega), if_pos (by omega), if_pos (by omega), if_pos (by omega)]
theorem dig_ring (A B p W g V P cb t0 b2 : Int) (h : A + P * t0 = B + p * W) : A - p * (g * V) + P * cb + P * (t0 - cb + 4294967296 * b2) = B + p * (W - g * V) + 4294967296 * P * b2 := by grind
theorem tb1 {t c b : Int} (h : 0 ≤ t ∧ t < 4294967296) (h0 : 0 ≤ c) (h1 : c < 4294967296) (hb : b = 0 ∨ b = 1) (hc : t < c + b) : 0 ≤ t - (c + b) + 4294967296 * 1 ∧ t - (c + b) + 4294967296 * 1 < 4294967296 ∧ (t - (c + b)) % 18446744073709551616 % 4294967296 = t - (c + b) + 4294967296 * 1 := by omega
theorem tb0 {t c b : Int} (h : 0 ≤ t ∧ t < 4294967296) (h0 : 0 ≤ c) (h1 : c < 4294967296) (hb : b = 0 ∨ b = 1) (hc : ¬ t < c + b) : 0 ≤ t - (c + b) + 4294967296 * 0 ∧ t - (c + b) + 4294967296 * 0 < 4294967296 ∧ (t - (c + b)) % 18446744073709551616 % 4294967296 = t - (c + b) + 4294967296 * 0 := by omega
theorem neg_of {z A X P : Int} (h : z = A + X + P * 1) (h1 : z < P) (h2 : 0 ≤ A) : X < 0 := by omega
theorem pos_gt {z A X p : Int} (h : z = A + X) (h0 : 0 ≤ z) (h2 : A < p) : p * (-1) < X := by omega
theorem e_low {z A X P e : Int} (h : z = A + X + P * (1 - e)) (h1 : z < P) (h2 : 0 ≤ A) (h3 : 0 ≤ X) : P * (1 - e) < P * 1 := by omega
theorem e_high {z A X P e p V : Int} (h : z = A + X + P * (1 - e)) (h0 : 0 ≤ z) (h2 : A < p) (h3 : X ≤ V - p) (h4 : V < P) : P * (-1) < P * (1 - e) := by omega
theorem k0_ring (A p W G V P e : Int) : A + p * (W - G) + P * 1 + p * V - P * e = A + p * (W - (G - V)) + P * (1 - e) := by grind
theorem long_digit {u v q : List Int} {g W : Int} {n s j : Nat} (hu : Lim u) (hv : Lim v) (hn : v.length = n) (hlen : j + n < u.length) (hul : u.length < 2000000000) (hq : j < q.length) (hg : 0 ≤ g) (hg1 : g < 4294967296) (hV : 0 < val v)
  (hW : W = val ((u.take (j + n + 1)).drop j)) (h1 : (g - 1) * val v ≤ W) (h2 : W < (g + 1) * val v) :
  ∃ y, (∀ r, Ev (ln1 n s v j y (q.set j (W / val v))) r → Ev (fun k => ir_long.l3 k (n : Int) (s : Int) u v q (j : Int) g 0 0 ((0 : Nat) : Int)) r) ∧ y.length = u.length ∧ Lim y ∧ y.drop (j + n + 1) = u.drop (j + n + 1) ∧ val (y.take (j + n + 1)) = val (u.take j) + bp j * (W % val v) := by
 obtain ⟨y, c, b, hy, hyl, hylim, hyd, hc0, hc1, hb, hval⟩ := long_l3 (s := s) (q := q) (j := j) hu hv hn hlen hul hg hg1 n 0 u 0 0 (by omega) rfl hu rfl (by omega) (by omega) (Or.inl rfl) (by simp [val, Int.mul_zero])
 have hyn := hylim.get (j + n)
 have hyu : y.getD (j + n) 0 = u.getD (j + n) 0 := by
  have := congrArg (fun l => l.getD 0 0) hyd
  simp only [getD_drop] at this
  simpa using this
 have hsp : val (u.take (j + n)) + bp (j + n) * u.getD (j + n) 0 = val (u.take j) + bp j * W := by
  have a := val_take_succ u (j + n) (by omega)
  have d := val_take_drop (u.take (j + n + 1)) j (by simp; omega)
  rw [List.take_take, Nat.min_eq_left (by omega), ← hW] at d
  rw [← a, d]
 have hWn : 0 ≤ W := by rw [hW]; exact val_nonneg ((hu.take _).drop _)
 have htk := val_take_lt hu j (by omega)
 have hbp := bp_pos j
 have hbn := bp_pos (j + n)
 have e1 : wrap64 ((j : Int) + (n : Int)) = ((j + n : Nat) : Int) := by rw [w64 (by omega) (by omega)]; omega
 have ej : wrap64 ((j : Int) - 1) = (j : Int) - 1 := by clear e1; exact w64 (by omega) (by omega)
 have ecb : IntKind.u64.wrap (c + b) = c + b := by clear e1 ej; exact u64 (by omega) (by omega)
 have ey : IntKind.u64.wrap (y.getD (j + n) 0) = y.getD (j + n) 0 := by clear e1 ej ecb hval hsp; exact u64 (by omega) (by omega)
 -- the state behind the subtraction
 have main : ∀ (t b2 : Int), (b2 = 0 ∨ b2 = 1) → 0 ≤ t → t < 4294967296 → t = y.getD (j + n) 0 - (c + b) + 4294967296 * b2 →
   Lim (y.set (j + n) t) ∧ (y.set (j + n) t).length = u.length ∧ (y.set (j + n) t).drop (j + n + 1) = u.drop (j + n + 1) ∧ val ((y.set (j + n) t).take (j + n + 1)) = val (u.take j) + bp j * (W - g * val v) + bp (j + n + 1) * b2 ∧ 0 ≤ val ((y.set (j + n) t).take (j + n + 1)) ∧ val ((y.set (j + n) t).take (j + n + 1)) < bp (j + n + 1) := by
  intro t b2 hb2 ht0 ht1 ht
  have hz : Lim (y.set (j + n) t) := hylim.set _ ht0 ht1
  have hzl : (y.set (j + n) t).length = u.length := by simpa using hyl
  have hjl : j + n < y.length := by rw [hyl]; exact hlen
  refine ⟨hz, hzl, ?_, ?_, val_take_lt hz _ (by rw [hzl]; exact hlen)⟩
  ·rw [List.drop_set_of_lt (Nat.lt_succ_self _)]
   have := congrArg (List.drop 1) hyd
   simpa [List.drop_drop, Nat.add_assoc] using this
  ·have a := val_take_succ (y.set (j + n) t) (j + n) (by rw [hzl]; exact hlen)
   rw [List.take_set_of_le (Nat.le_refl _), hval, getD_set_self hjl] at a
   rw [a, ht, hyu, bp_succ (j + n)]
   exact dig_ring _ _ _ _ _ _ _ _ _ _ hsp
 by_cases hc : y.getD (j + n) 0 < c + b
 ·obtain ⟨hz, hzl, hzd, hzv, hz0, hz1⟩ := main (y.getD (j + n) 0 - (c + b) + 4294967296 * 1) 1 (Or.inr rfl) (tb1 hyn hc0 hc1 hb hc).1 (tb1 hyn hc0 hc1 hb hc).2.1 rfl
  have htm := (tb1 hyn hc0 hc1 hb hc).2.2
  generalize hT : y.getD (j + n) 0 - (c + b) + 4294967296 * 1 = t at *
  have hlow : W < g * val v := by
   have a : bp j * (W - g * val v) < bp j * 0 := by
    rw [Int.mul_zero]; exact neg_of hzv hz1 htk.1
   have := Int.lt_of_mul_lt_mul_left a (Int.le_of_lt hbp)
   clear main e1 ej ecb ey a hval hsp hb hzv; omega
  have hg2 : 1 ≤ g := by
   refine Int.not_lt.1 fun hh => ?_
   have : g = 0 := by clear main e1 ej ecb ey hval hsp hb hzv; omega
   rw [this, Int.zero_mul] at hlow
   clear main e1 ej ecb ey hval hsp hb hzv; omega
  obtain ⟨x, e, hx, hxl, hxlim, hxd, hxv⟩ := long_l4 (s := s) (q := q) (j := j) (g := g - 1) hz hv hn (by rw [hzl]; exact hlen) (by rw [hzl]; exact hul) hq (Int.sub_nonneg_of_le hg2) (Int.lt_of_le_of_lt (Int.sub_le_self _ (by decide)) hg1) n 0 (y.set (j + n) t) 0 (Nat.zero_add _) rfl hz rfl (Or.inl rfl) (by simp [val])
  rw [hzl] at hxl
  have hxb := val_take_lt hxlim (j + n + 1) (by rw [hxl]; exact hlen)
  have hvb : val v ≤ bp n := by
   have := val_lt hv
   rw [hn] at this
   exact Int.le_of_lt this
  have e3 : bp (j + n + 1) = 4294967296 * (bp j * bp n) := by rw [bp_succ, bp_add]
  have e4 : (g - 1) * val v = g * val v - val v := by rw [Int.sub_mul, Int.one_mul]
  have k0 : val (x.take (j + n + 1)) = val (u.take j) + bp j * (W - (g - 1) * val v) + bp (j + n + 1) * (1 - e) := by
   rw [hxv, hzv, e4]
   exact k0_ring _ _ _ _ _ _ _
  have k1 : 0 ≤ bp j * (W - (g - 1) * val v) := Int.mul_nonneg (Int.le_of_lt hbp) (Int.sub_nonneg_of_le h1)
  have k2 : bp j * (W - (g - 1) * val v) ≤ bp j * (val v - 1) := Int.mul_le_mul_of_nonneg_left (by rw [e4]; clear main e1 ej ecb ey hval hsp hb hzv hxv k0 k1; omega) (Int.le_of_lt hbp)
  have k3 : bp j * (val v) ≤ bp j * bp n := Int.mul_le_mul_of_nonneg_left hvb (Int.le_of_lt hbp)
  have k4 : bp j * (val v - 1) = bp j * val v - bp j := by rw [Int.mul_sub, Int.mul_one]
  have hz1 : e = 1 := by
   have hB : 0 < bp (j + n + 1) := bp_pos _
   have k5 := e_low k0 hxb.2 htk.1 k1
   have k6 := e_high k0 hxb.1 htk.2 (by rw [← k4]; exact k2) (Int.lt_of_le_of_lt k3 (by
    have hp2 : 0 < bp j * bp n := Int.mul_pos hbp (bp_pos n)
    rw [e3]
    clear main e1 ej ecb ey hval hsp hb hzv hxv k0 k1 k2 k3 k4; omega))
   have k7 := Int.lt_of_mul_lt_mul_left k5 (Int.le_of_lt hB)
   have k8 := Int.lt_of_mul_lt_mul_left k6 (Int.le_of_lt hB)
   clear main e1 ej ecb ey hval hsp hb hzv hxv k0 k1 k2 k3 k4 k5 k6; omega
  have hqq := quot_is (U := W) (V := val v) (q := g - 1) hV h1 (by rw [Int.sub_add_cancel]; exact hlow)
  refine ⟨x, fun r hr => hy r (Ev.step (fun k => ?_) (hx r (by rw [← hqq.1]; exact hr))), hxl, hxlim, hxd.trans hzd, ?_⟩
  ·have ew : IntKind.u64.wrap (y.getD (j + n) 0 - (c + b)) % 4294967296 = t := by
    rw [u64m]; exact htm
   have eg : IntKind.u64.wrap (g - 1) = g - 1 := by clear main e1 ej ecb ey ew hval hsp hb hzv hxv k0 k1 k2 k3 k4 htm; exact u64 (by omega) (by omega)
   simp only [ln3, ir_long.l3, e1, rd_nat, ecb, ey, ew, eg, Int.toNat_natCast, bs]
   clear main e1 ej ecb ey ew eg hy hx hval hsp htm hb hzv hxv k0 k1 k2 k3 k4
   rw [if_neg (by omega), if_pos (by omega), if_pos (by omega), if_pos hc]
   rfl
  ·rw [hqq.2, k0, hz1]; simp
 ·obtain ⟨hz, hzl, hzd, hzv, hz0, hz1⟩ := main (y.getD (j + n) 0 - (c + b) + 4294967296 * 0) 0 (Or.inl rfl) (tb0 hyn hc0 hc1 hb hc).1 (tb0 hyn hc0 hc1 hb hc).2.1 rfl
  have htm := (tb0 hyn hc0 hc1 hb hc).2.2
  generalize hT : y.getD (j + n) 0 - (c + b) + 4294967296 * 0 = t at *
  rw [Int.mul_zero, Int.add_zero] at hzv
  have hlow : g * val v ≤ W := by
   have a : bp j * (-1) < bp j * (W - g * val v) := pos_gt hzv hz0 htk.2
   have := Int.lt_of_mul_lt_mul_left a (Int.le_of_lt hbp)
   clear main e1 ej ecb ey hval hsp hb hzv a; omega
  have hqq := quot_is (U := W) (V := val v) (q := g) hV hlow h2
  refine ⟨y.set (j + n) t, fun r hr => hy r (Ev.step (fun k => ?_) hr), hzl, hz, hzd, ?_⟩
  ·have ew : IntKind.u64.wrap (y.getD (j + n) 0 - (c + b)) % 4294967296 = t := by
    rw [u64m]; exact htm
   have eg : g % 4294967296 = g := by clear main e1 ej ecb ey ew hval hsp hb hzv htm; omega
   simp only [ln3, ln1, ir_long.l3, e1, rd_nat, ecb, ey, ew, eg, ej, Int.toNat_natCast, bs, hqq.1]
   clear main e1 ej ecb ey ew eg hy hval hsp htm hb hzv
   rw [if_neg (by omega), if_pos (by omega), if_pos (by omega), if_neg hc, if_pos (by omega), if_pos (by omega)]
  ·rw [hzv, hqq.2]
def Dg (n s : Nat) (v u q : List Int) (j : Nat) (W : Int) (F : Nat → Option (List Int × List Int)) : Prop :=
 ∃ y, (∀ r, Ev (ln1 n s v j y (q.set j (W / val v))) r → Ev F r) ∧ y.length = u.length ∧ Lim y ∧ y.drop (j + n + 1) = u.drop (j + n + 1) ∧ val (y.take (j + n + 1)) = val (u.take j) + bp j * (W % val v)
theorem Dg.step {n s : Nat} {v u q : List Int} {j : Nat} {W : Int} {F G : Nat → Option (List Int × List Int)} (h : ∀ k, F (k + 1) = G k) (hG : Dg n s v u q j W G) : Dg n s v u q j W F := by
 obtain ⟨y, hy, hl⟩ := hG
 exact ⟨y, fun r hr => Ev.step h (hy r hr), hl⟩
theorem long_est {u v q w : List Int} {n s j m : Nat} (hu : Lim u) (hv : Lim v) (hn : v.length = n) (hlen : j + n < u.length) (hul : u.length < 2000000000) (hq : j < q.length) (hm : n = m + 2) (hV : 0 < val v) (htop : 2147483648 ≤ v.getD (m + 1) 0)
  (hw : w = (u.take (j + n + 1)).drop j)
  (hT : w.getD (m + 2) 0 * 4294967296 + w.getD (m + 1) 0 ≤ v.getD (m + 1) 0 * 4294967296 + 4294967295) (hfit : val w < 4294967296 * val v) :
  ∀ (n_ : Nat) (g r : Int), g.toNat ≤ n_ → 0 ≤ g → 0 ≤ r → r < 4294967296 → g * v.getD (m + 1) 0 + r = w.getD (m + 2) 0 * 4294967296 + w.getD (m + 1) 0 → val w < (g + 1) * val v →
  Dg n s v u q j (val w) (fun k => ir_long.l2 k (n : Int) (s : Int) u v q (j : Int) g r) := by
 have hwl : Lim w := by rw [hw]; exact (hu.take _).drop _
 have hwlen : w.length = m + 3 := by rw [hw]; simp; omega
 have hwg : u.getD (j + m) 0 = w.getD m 0 := by rw [hw, getD_drop, getD_take (by omega)]
 have hv1 := hv.get (m + 1)
 have hv2 := hv.get m
 have hu0 := hwl.get (m + 2)
 have hu1 := hwl.get (m + 1)
 have hu2 := hwl.get m
 have hUV := val_top2 v m (by omega)
 have hUU := val_top3 w m hwlen
 have hvt := val_take_lt hv m (by omega)
 have hut := val_take_lt hwl m (by omega)
 have hbp := bp_pos m
 have fin : ∀ g : Int, 0 ≤ g → g < 4294967296 → g * (v.getD (m + 1) 0 * 4294967296 + v.getD m 0) ≤ (w.getD (m + 2) 0 * 4294967296 + w.getD (m + 1) 0) * 4294967296 + w.getD m 0 → val w < (g + 1) * val v →
   Dg n s v u q j (val w) (fun k => ir_long.j4 k (n : Int) (s : Int) u v q (j : Int) g) := by
  intro g hg hg1 hle hlt
  have h1 : (g - 1) * val v ≤ val w := by
   by_cases h0 : g = 0
   ·have : (g - 1) * val v ≤ 0 := by rw [h0, Int.zero_sub, Int.neg_mul, Int.one_mul]; omega
    have := val_nonneg hwl
    omega
   ·refine knuth_le (P := bp m) (W := v.getD (m + 1) 0 * 4294967296 + v.getD m 0) (T := (w.getD (m + 2) 0 * 4294967296 + w.getD (m + 1) 0) * 4294967296 + w.getD m 0) ?_ ?_ (by omega) (by omega) hbp hle
    ·rw [hUV]
     generalize v.getD (m + 1) 0 * 4294967296 + v.getD m 0 = W
     rw [Int.mul_add (bp m) W 1, Int.mul_one]; omega
    ·rw [hUU]; omega
  refine Dg.step (fun k => ?_) (long_digit hu hv hn hlen hul hq hg hg1 hV (by rw [hw]) h1 hlt)
  simp only [ir_long.j4]; rfl
 have i2 : wrap64 ((n : Int) - 2) = (m : Int) := by rw [w64 (by omega) (by omega)]; omega
 have i1 : wrap64 ((n : Int) - 1) = ((m + 1 : Nat) : Int) := by clear i2; rw [w64 (by omega) (by omega)]; omega
 have i3 : wrap64 (wrap64 ((j : Int) + (n : Int)) - 2) = ((j + m : Nat) : Int) := by clear i1 i2; rw [w64 (x := (j : Int) + (n : Int)) (by omega) (by omega), w64 (by omega) (by omega)]; omega
 have lm : m < v.length ∧ j + m < u.length ∧ m + 1 < v.length := by clear i1 i2 i3; omega
 have less : ∀ (n_ : Nat), (∀ (g r : Int), g.toNat < n_ → 0 ≤ g → 0 ≤ r → r < 4294967296 → g * v.getD (m + 1) 0 + r = w.getD (m + 2) 0 * 4294967296 + w.getD (m + 1) 0 → val w < (g + 1) * val v →
   Dg n s v u q j (val w) (fun k => ir_long.l2 k (n : Int) (s : Int) u v q (j : Int) g r)) →
   ∀ (g r : Int), g.toNat < n_ + 1 → 1 ≤ g → 0 ≤ r → r < 4294967296 → g < 18446744073709551616 → g * v.getD (m + 1) 0 + r = w.getD (m + 2) 0 * 4294967296 + w.getD (m + 1) 0 → val w < g * val v →
   Dg n s v u q j (val w) (fun k => ir_long.j3 k (n : Int) (s : Int) u v q (j : Int) g r true) := by
  intro n_ ih g r hn_ hg hr hr1 hg2 hinv hlt
  have hinv2 : (g - 1) * v.getD (m + 1) 0 + (r + v.getD (m + 1) 0) = w.getD (m + 2) 0 * 4294967296 + w.getD (m + 1) 0 := by rw [Int.sub_mul, Int.one_mul]; omega
  have hlt2 : val w < (g - 1 + 1) * val v := by rw [Int.sub_add_cancel]; exact hlt
  have ew : IntKind.u64.wrap (g - 1) = g - 1 := by clear i1 i2 i3 ih; exact u64 (by omega) (by omega)
  have er : IntKind.u64.wrap (r + IntKind.u64.wrap (v.getD (m + 1) 0)) = r + v.getD (m + 1) 0 := by clear i1 i2 i3 ih ew; rw [u64 (x := v.getD (m + 1) 0) (by omega) (by omega), u64 (by omega) (by omega)]
  by_cases hb : r + v.getD (m + 1) 0 ≥ 4294967296
  ·have hlt3 : g - 1 < 4294967296 := by
    have : (g - 1) * v.getD (m + 1) 0 < 4294967296 * v.getD (m + 1) 0 := by rw [Int.mul_comm 4294967296]; clear i1 i2 i3 ih ew er; omega
    exact Int.lt_of_mul_lt_mul_right this (by omega)
   have hf := fin (g - 1) (by omega) hlt3 (by
    clear i1 i2 i3 ih ew er
    have a : (g - 1) * v.getD m 0 ≤ 4294967296 * 4294967296 := Int.mul_le_mul (by omega) (by omega) (by omega) (by omega)
    rw [Int.mul_add, ← Int.mul_assoc]
    omega) hlt2
   refine Dg.step (fun k => ?_) hf
   simp only [ir_long.j3, i1, rd_nat, er, ew]
   clear i1 i2 i3 ih ew er hf
   rw [if_pos trivial, if_pos (by omega), if_pos (by omega), if_pos hb]
  ·have hf := ih (g - 1) (r + v.getD (m + 1) 0) (by omega) (by omega) (by omega) (by omega) hinv2 hlt2
   refine Dg.step (fun k => ?_) hf
   simp only [ir_long.j3, i1, rd_nat, er, ew]
   clear i1 i2 i3 ih ew er hf
   rw [if_pos trivial, if_pos (by omega), if_pos (by omega), if_neg hb]
 intro n_
 suffices h : ∀ (n_ : Nat) (g r : Int), g.toNat < n_ → 0 ≤ g → 0 ≤ r → r < 4294967296 → g * v.getD (m + 1) 0 + r = w.getD (m + 2) 0 * 4294967296 + w.getD (m + 1) 0 → val w < (g + 1) * val v →
   Dg n s v u q j (val w) (fun k => ir_long.l2 k (n : Int) (s : Int) u v q (j : Int) g r) from fun g r h1 => h (n_ + 1) g r (by omega)
 intro n_
 induction n_ with
 | zero => intro g r hn; omega
 | succ n_ ih =>
  intro g r hn_ hg hr hr1 hinv hlt
  by_cases hB : g ≥ 4294967296
  ·have hg2 : g < 18446744073709551616 := by
    clear i1 i2 i3 ih fin less
    refine Int.not_le.1 fun hh => ?_
    have : 18446744073709551616 * 2147483648 ≤ g * v.getD (m + 1) 0 := Int.mul_le_mul hh htop (by omega) (by omega)
    omega
   have hlt1 : val w < g * val v := by
    have : 4294967296 * val v ≤ g * val v := Int.mul_le_mul_of_nonneg_right hB (by omega)
    clear i1 i2 i3 ih fin less
    omega
   refine Dg.step (fun k => ?_) (less n_ ih g r hn_ (by omega) hr hr1 hg2 hinv hlt1)
   simp only [ir_long.l2]; rw [if_pos hB]
  ·have hp : 0 ≤ g * v.getD m 0 ∧ g * v.getD m 0 ≤ 4294967295 * 4294967295 := ⟨Int.mul_nonneg hg hv2.1, Int.mul_le_mul (by omega) (by omega) hv2.1 (by omega)⟩
   have hcond : ∀ k, ir_long.l2 (k + 1) (n : Int) (s : Int) u v q (j : Int) g r = ir_long.j3 k (n : Int) (s : Int) u v q (j : Int) g r (decide (g * v.getD m 0 > r * 4294967296 + w.getD m 0)) := by
    intro k
    simp only [ir_long.l2, i2, i3, rd_nat, hwg]
    clear i1 i2 i3 ih fin less
    rw [if_neg hB, if_pos (by omega), if_pos (by omega), if_pos (by omega), if_pos (by omega), or_add hr hr1 hu2.1 hu2.2, u64 (x := v.getD m 0) (by omega) (by omega), u64 hp.1 (by omega)]
   by_cases hc : g * v.getD m 0 > r * 4294967296 + w.getD m 0
   ·have hg1 : 1 ≤ g := by
     clear i1 i2 i3 ih fin less
     refine Int.not_lt.1 fun hh => ?_
     have : g = 0 := by omega
     rw [this, Int.zero_mul] at hc
     omega
    have hlt1 : val w < g * val v := by
     clear i1 i2 i3 ih fin less
     refine knuth_dec (P := bp m) (W := v.getD (m + 1) 0 * 4294967296 + v.getD m 0) (T := (w.getD (m + 2) 0 * 4294967296 + w.getD (m + 1) 0) * 4294967296 + w.getD m 0) ?_ ?_ hg hbp ?_
     ·rw [hUV]; omega
     ·rw [hUU]
      generalize (w.getD (m + 2) 0 * 4294967296 + w.getD (m + 1) 0) * 4294967296 + w.getD m 0 = W
      rw [Int.mul_add (bp m) W 1, Int.mul_one]; omega
     ·rw [Int.mul_add, ← Int.mul_assoc, ← hinv]; omega
    refine Dg.step (fun k => ?_) (less n_ ih g r hn_ hg1 hr hr1 (by omega) hinv hlt1)
    rw [hcond, decide_eq_true hc]
   ·refine Dg.step (G := fun k => ir_long.j3 k (n : Int) (s : Int) u v q (j : Int) g r false) (fun k => by rw [hcond, decide_eq_false hc]) (Dg.step (fun k => ?_) (fin g hg (by omega) (by clear i1 i2 i3 ih less; rw [Int.mul_add, ← Int.mul_assoc, ← hinv]; omega) hlt))
    simp only [ir_long.j3]; rw [if_neg (by simp)]
end Go.Proofs.YtpoogjcgjpkbeaaDoor.Pure
