/- What the program's plain functions answer: towards the law DisputeBounds. No conditions but those that each theorem names. -/
import Derived.Test.YtpoogjcgjpkbeaaDoorQA1
set_option linter.unusedVariables false
set_option linter.unusedSimpArgs false
namespace Go.Proofs.YtpoogjcgjpkbeaaDoor.Pure
open Go.RowKit Go.Proofs.YtpoogjcgjpkbeaaDoor.XA Go.Proofs.YtpoogjcgjpkbeaaDoorW.PrintWords Go.Proofs.YtpoogjcgjpkbeaaDoorW.PrintLast Go.Proofs.YtpoogjcgjpkbeaaDoorW.PrintMore
open T
theorem long_round {u v q w : List Int} {n s j m : Nat} (hu : Lim u) (hv : Lim v) (hn : v.length = n) (hlen : j + n < u.length) (hul : u.length < 2000000000) (hq : j < q.length) (hm : n = m + 2) (htop : 2147483648 ≤ v.getD (m + 1) 0)
  (hw : w = (u.take (j + n + 1)).drop j) (hfit : val w < 4294967296 * val v) :
  Dg n s v u q j (val w) (fun k => ir_long.l1 k (n : Int) (s : Int) u v q (j : Int)) := by
 have hwl : Lim w := by rw [hw]; exact (hu.take _).drop _
 have hwlen : w.length = m + 3 := by rw [hw]; simp; omega
 have hw2 : u.getD (j + n) 0 = w.getD (m + 2) 0 := by rw [hw, getD_drop, getD_take (by omega), hm]
 have hw1 : u.getD (j + (m + 1)) 0 = w.getD (m + 1) 0 := by rw [hw, getD_drop, getD_take (by omega)]
 have hv1 := hv.get (m + 1)
 have hv2 := hv.get m
 have hu0 := hwl.get (m + 2)
 have hu1 := hwl.get (m + 1)
 have hu2 := hwl.get m
 have hUV := val_top2 v m (by omega)
 have hUU := val_top3 w m hwlen
 have hvt := val_take_lt hv m (by omega)
 have hut := val_take_lt hwl m (by omega)
 have hbp := bp_pos m
 have hV : 0 < val v := by
  have : 0 < bp m * (v.getD (m + 1) 0 * 4294967296 + v.getD m 0) := Int.mul_pos hbp (by omega)
  omega
 have hT : w.getD (m + 2) 0 * 4294967296 + w.getD (m + 1) 0 ≤ v.getD (m + 1) 0 * 4294967296 + 4294967295 := by
  refine Int.not_lt.1 fun hh => ?_
  have a : bp m * ((v.getD (m + 1) 0 * 4294967296 + 4294967296) * 4294967296) ≤ bp m * ((w.getD (m + 2) 0 * 4294967296 + w.getD (m + 1) 0) * 4294967296 + w.getD m 0) := Int.mul_le_mul_of_nonneg_left (by omega) (by omega)
  have b : bp m * (v.getD (m + 1) 0 * 4294967296 + v.getD m 0 + 1) ≤ bp m * (v.getD (m + 1) 0 * 4294967296 + 4294967296) := Int.mul_le_mul_of_nonneg_left (by omega) (by omega)
  rw [← Int.mul_assoc] at a
  rw [Int.mul_add (bp m) _ 1, Int.mul_one] at b
  omega
 have h0 : 0 ≤ w.getD (m + 2) 0 * 4294967296 + w.getD (m + 1) 0 := by omega
 have hqm := Int.mul_ediv_add_emod (w.getD (m + 2) 0 * 4294967296 + w.getD (m + 1) 0) (v.getD (m + 1) 0)
 have hr0 := Int.emod_nonneg (w.getD (m + 2) 0 * 4294967296 + w.getD (m + 1) 0) (show v.getD (m + 1) 0 ≠ 0 by omega)
 have hr1 := Int.emod_lt_of_pos (w.getD (m + 2) 0 * 4294967296 + w.getD (m + 1) 0) (show 0 < v.getD (m + 1) 0 by omega)
 have hg0 := Int.ediv_nonneg h0 (show 0 ≤ v.getD (m + 1) 0 by omega)
 have hgb : (w.getD (m + 2) 0 * 4294967296 + w.getD (m + 1) 0) / v.getD (m + 1) 0 ≤ w.getD (m + 2) 0 * 4294967296 + w.getD (m + 1) 0 := Int.ediv_le_self _ h0
 have e1 : Int.tdiv (w.getD (m + 2) 0 * 4294967296 + w.getD (m + 1) 0) (v.getD (m + 1) 0) = (w.getD (m + 2) 0 * 4294967296 + w.getD (m + 1) 0) / v.getD (m + 1) 0 := Int.tdiv_eq_ediv_of_nonneg h0
 have e2 : Int.tmod (w.getD (m + 2) 0 * 4294967296 + w.getD (m + 1) 0) (v.getD (m + 1) 0) = (w.getD (m + 2) 0 * 4294967296 + w.getD (m + 1) 0) % v.getD (m + 1) 0 := Int.tmod_eq_emod_of_nonneg h0
 have hor := or_add hu0.1 hu0.2 hu1.1 hu1.2
 generalize hqq : (w.getD (m + 2) 0 * 4294967296 + w.getD (m + 1) 0) / v.getD (m + 1) 0 = g at *
 generalize hrr : (w.getD (m + 2) 0 * 4294967296 + w.getD (m + 1) 0) % v.getD (m + 1) 0 = r at *
 have hinv : g * v.getD (m + 1) 0 + r = w.getD (m + 2) 0 * 4294967296 + w.getD (m + 1) 0 := by rw [Int.mul_comm]; exact hqm
 have hlt : val w < (g + 1) * val v := by
  refine knuth_dec (P := bp m) (W := v.getD (m + 1) 0 * 4294967296 + v.getD m 0) (T := (w.getD (m + 2) 0 * 4294967296 + w.getD (m + 1) 0) * 4294967296 + w.getD m 0) ?_ ?_ (by omega) hbp ?_
  ·rw [hUV]; omega
  ·rw [hUU]
   generalize (w.getD (m + 2) 0 * 4294967296 + w.getD (m + 1) 0) * 4294967296 + w.getD m 0 = W
   rw [Int.mul_add (bp m) W 1, Int.mul_one]; omega
  ·have a : (g + 1) * v.getD (m + 1) 0 = g * v.getD (m + 1) 0 + v.getD (m + 1) 0 := by rw [Int.add_mul, Int.one_mul]
   have b : 0 ≤ (g + 1) * v.getD m 0 := Int.mul_nonneg (by omega) hv2.1
   rw [Int.mul_add, ← Int.mul_assoc, a, ← hinv]
   omega
 refine Dg.step (fun k => ?_) (long_est hu hv hn hlen hul hq hm hV htop hw hT hfit g.toNat g r (Nat.le_refl _) hg0 hr0 (by omega) hinv hlt)
 have i1 : wrap64 ((n : Int) - 1) = ((m + 1 : Nat) : Int) := by rw [w64 (by omega) (by omega)]; omega
 have i3 : wrap64 ((j : Int) + (n : Int)) = ((j + n : Nat) : Int) := by clear i1; rw [w64 (by omega) (by omega)]; omega
 have i4 : wrap64 (((j + n : Nat) : Int) - 1) = ((j + (m + 1) : Nat) : Int) := by clear i1 i3; rw [w64 (by omega) (by omega)]; omega
 simp only [ir_long.l1, i1, i3, i4, rd_nat, hw2, hw1]
 clear i1 i3 i4 hlt hUV hUU
 rw [if_pos (by omega), if_pos (by omega), if_pos (by omega), if_pos (by omega), if_pos (by omega), if_pos (by omega), if_pos (by omega), u64 (x := w.getD (m + 2) 0) (by omega) (by omega), hor, u64 (x := v.getD (m + 1) 0) (by omega) (by omega), if_neg (by omega), e1, e2, u64 hg0 (by omega)]
theorem long_l1 {v : List Int} {n m s : Nat} {A : Int} (hs : s < 32) (hv : Lim v) (hn : v.length = n) (hm : n = m + 2) (hvs : n < 800000000) (htop : 2147483648 ≤ v.getD (m + 1) 0) :
  ∀ (i : Nat) (u q : List Int), i ≤ q.length → 0 < q.length → q.length < 900000000 → u.length = q.length + n → u.length < 2000000000 → Lim u → Lim q → val u < bp i * val v → A = val u + bp i * val (q.drop i) * val v →
  Ev (fun k => ir_long.l1 k (n : Int) (s : Int) u v q ((i : Int) - 1)) (lenc (A / val v).toNat, lenc (A % val v / 2 ^ s).toNat) := by
 have hvb := val_lt hv
 rw [hn] at hvb
 have hV : 0 < val v := by
  have a := val_get_le hv (m + 1) (by omega)
  have : 0 < bp (m + 1) * v.getD (m + 1) 0 := Int.mul_pos (bp_pos _) (by omega)
  omega
 intro i
 induction i with
 | zero =>
  intro u q hi hq0 hqs hl hul hu hq hlt hA
  rw [bp_zero, Int.one_mul] at hlt
  rw [bp_zero, Int.one_mul, List.drop_zero] at hA
  have hz := val_drop_zero hu (n := n) (by omega) (by omega)
  have hq2 := quot_is (U := A) (V := val v) (q := val q) hV (by have := val_nonneg hu; omega) (by rw [Int.add_mul, Int.one_mul]; omega)
  have e : A % val v = val u := by rw [hq2.2]; omega
  rw [hq2.1, e]
  refine Ev.step (fun k => ?_) (long_l5 hs hu (by omega) (by omega) hz.1 hq hqs n 0 (List.replicate n 0) (by omega) (by simp) (Lim.zeros _) (by rw [bp_zero]; simp [val]))
  simp only [ir_long.l1]
  rw [if_neg (by omega), if_pos (by omega), if_pos (by omega), Int.toNat_natCast]
  rfl
 | succ i ih =>
  intro u q hi hq0 hqs hl hul hu hq hlt hA
  have hbi := bp_pos i
  have hlt2 : val u < bp (i + n + 1) := by
   have : bp (i + 1) * val v < bp (i + 1) * bp n := Int.mul_lt_mul_of_pos_left hvb (bp_pos _)
   rw [← bp_add, show i + 1 + n = i + n + 1 by omega] at this
   omega
  have hz := val_drop_zero hu (n := i + n + 1) (by omega) hlt2
  have hsp := val_take_drop (u.take (i + n + 1)) i (by simp; omega)
  rw [hz.2, List.take_take, Nat.min_eq_left (by omega)] at hsp
  have htk := val_take_lt hu i (by omega)
  have hfit : val ((u.take (i + n + 1)).drop i) < 4294967296 * val v := by
   refine Int.lt_of_mul_lt_mul_left (a := bp i) ?_ (by omega)
   rw [bp_succ] at hlt
   rw [← Int.mul_assoc, Int.mul_comm (bp i) 4294967296]
   omega
  obtain ⟨y, hy, hyl, hylim, hyd, hyv⟩ := long_round (s := s) (q := q) (j := i) hu hv hn (by omega) hul (by omega) hm htop rfl hfit
  have hwn := val_nonneg ((hu.take (i + n + 1)).drop i)
  generalize hw : val ((u.take (i + n + 1)).drop i) = w at *
  have hd0 : 0 ≤ w / val v := Int.ediv_nonneg hwn (by omega)
  have hd1 : w / val v < 4294967296 := by rw [Int.ediv_lt_iff_lt_mul hV]; omega
  have hr0 := Int.emod_nonneg w (show val v ≠ 0 by omega)
  have hr1 := Int.emod_lt_of_pos w hV
  have hdm := Int.mul_ediv_add_emod w (val v)
  have hnv : val y = val (u.take i) + bp i * (w % val v) := by
   have := val_take_drop y (i + n + 1) (by omega)
   rw [hyd, hz.1, Int.mul_zero, Int.add_zero] at this
   rw [this, hyv]
  have := ih y (q.set i (w / val v)) (by simp; omega) (by simp; omega) (by simp; omega) (by simp; omega) (by omega) hylim (hq.set _ hd0 hd1) (by
    rw [hnv]
    have a : bp i * (w % val v) ≤ bp i * (val v - 1) := Int.mul_le_mul_of_nonneg_left (by omega) (by omega)
    rw [Int.mul_sub, Int.mul_one] at a
    omega) (by
    rw [hnv, hA, drop_set q i _ (by omega), hsp, bp_succ]
    exact ring2 _ _ _ _ _ _ _ _ hdm)
  have e1 : ((i + 1 : Nat) : Int) - 1 = (i : Int) := by omega
  rw [e1]
  exact hy _ this
theorem long_l0 {a b : List Int} {n m s : Nat} {r : List Int × List Int} (hb : Lim b) (hn : b.length = n) (hm : n = m + 2) (hns : n < 800000000) (hs : s < 32) (h1 : 2147483648 ≤ 2 ^ s * b.getD (m + 1) 0) (h2 : 2 ^ s * b.getD (m + 1) 0 < 4294967296)
  (hr : Ev (fun k => ir_long.l0 k a b (n : Int) (s : Int)) r) (d : Nat) : ∀ t : Nat, t + d = s → Ev (fun k => ir_long.l0 k a b (n : Int) (t : Int)) r := by
 have hg := hb.get (m + 1)
 have i1 : wrap64 ((n : Int) - 1) = ((m + 1 : Nat) : Int) := by rw [w64 (by omega) (by omega)]; omega
 induction d with
 | zero =>
  intro t ht
  have : t = s := by omega
  rw [this]; exact hr
 | succ d ih =>
  intro t ht
  have := ih (t + 1) (by omega)
  have hp : (2 : Int) ^ (t + 1) * b.getD (m + 1) 0 ≤ 2 ^ s * b.getD (m + 1) 0 := by
   refine Int.mul_le_mul_of_nonneg_right ?_ hg.1
   have hsp : (2 : Int) ^ s = 2 ^ (t + 1) * 2 ^ d := by rw [← Int.pow_add]; congr 1; omega
   rw [hsp]
   have a : (0 : Int) < 2 ^ (t + 1) := Int.pow_pos (by decide)
   have c : (0 : Int) < 2 ^ d := Int.pow_pos (by decide)
   have e : (2 : Int) ^ (t + 1) * 1 ≤ 2 ^ (t + 1) * 2 ^ d := Int.mul_le_mul_of_nonneg_left (by omega) (by omega)
   rw [Int.mul_one] at e
   exact e
  have e2 : (2 : Int) ^ (t + 1) * b.getD (m + 1) 0 = 2 * (b.getD (m + 1) 0 * 2 ^ t) := by rw [Int.pow_succ, Int.mul_comm (2 ^ t) 2, Int.mul_assoc, Int.mul_comm (2 ^ t)]
  have hlow : b.getD (m + 1) 0 * 2 ^ t < 2147483648 := by rw [e2] at hp; clear i1; omega
  have h0 : 0 ≤ b.getD (m + 1) 0 * 2 ^ t := Int.mul_nonneg hg.1 (Int.le_of_lt (Int.pow_pos (by decide)))
  have hsh : shl .u32 (b.getD (m + 1) 0) (t : Int) = b.getD (m + 1) 0 * 2 ^ t := by
   unfold shl
   rw [Int.toNat_natCast, Nat.min_eq_left (by simp [IntKind.bits]; omega), u32m]
   clear i1; omega
  refine Ev.step (fun k => ?_) this
  simp only [ir_long.l0, i1, rd_nat, hsh]
  have e3 : IntKind.u64.wrap ((t : Int) + 1) = ((t + 1 : Nat) : Int) := by clear i1 hp e2 hlow h0 hsh h1 h2; rw [u64 (by omega) (by omega)]; omega
  rw [e3]
  clear i1 e3 hp e2 h0 hsh this
  rw [if_pos (by omega), if_pos (by omega), if_pos (by omega), if_pos hlow]
theorem long_ev {l m : List Int} (h : T.Can l) (hm : T.Can m) (hl : l.length < 800000000) (hle : m.length ≤ l.length) (h2 : 2 ≤ m.length) : Ev (fun k => ir_long.f k l m) (lenc (val l / val m).toNat, lenc (val l % val m).toNat) := by
 obtain ⟨n, hn⟩ : ∃ n, m.length = n := ⟨_, rfl⟩
 obtain ⟨k, hk⟩ : ∃ k, n = k + 2 := ⟨n - 2, by omega⟩
 have hne : m ≠ [] := by intro e; rw [e] at h2; simp at h2
 have htop0 : m.getD (k + 1) 0 ≠ 0 := by
  exact hm.2 (m.getD (k + 1) 0) (by
   rw [List.getLast?_eq_getElem?, hn, hk, show k + 2 - 1 = k + 1 by omega, List.getD_eq_getElem?_getD, List.getElem?_eq_getElem (by omega)]; rfl)
 have hg := hm.1.get (k + 1)
 obtain ⟨s, _, hs1, hs2, hs3⟩ := lead_zeros (x := m.getD (k + 1) 0) (by omega) hg.2
 have hp := pow_lim hs1
 have hfit := top_fit (k := k + 1) hs1 hm.1 (by omega) hs2 hs3
 obtain ⟨v1, hv, hvl1, hvn1, hvv1⟩ := shifted_ev (l := m) hs1 hm.1 (by omega)
 obtain ⟨u, hu, hul, hun, huv⟩ := shifted_ev (l := l) hs1 h.1 (by omega)
 have hzv := val_drop_zero hvl1 (n := n) (by omega) (by rw [hvv1, ← hn]; exact hfit.1)
 have hvl := hvl1.take n
 have hvn : (v1.take n).length = n := by rw [List.length_take, hvn1]; omega
 have hvv : val (v1.take n) = 2 ^ s * val m := by rw [hzv.2, hvv1]
 have hvt := top_of (k := k + 1) hvl (by omega) (by rw [hvv]; exact hfit.2)
 have hloop := long_l1 (s := s) (A := 2 ^ s * val l) hs1 hvl hvn hk (by omega) hvt (l.length - n + 1) u (List.replicate (l.length - n + 1) 0) (by simp) (by simp) (by simp; omega) (by simp; omega) (by omega) hul (Lim.zeros _) (by
   rw [huv, hvv, Int.mul_left_comm]
   refine Int.mul_lt_mul_of_pos_left ?_ (by omega)
   have a := val_lt h.1
   have b := can_low hm hne
   have c : bp (l.length - n + 1) * bp (m.length - 1) ≤ bp (l.length - n + 1) * val m := Int.mul_le_mul_of_nonneg_left b (Int.le_of_lt (bp_pos _))
   rw [← bp_add, show l.length - n + 1 + (m.length - 1) = l.length by omega] at c
   omega) (by rw [List.drop_eq_nil_of_le (by simp), huv]; simp [val])
 rw [hvv, Int.mul_ediv_mul_of_pos _ _ (by omega), Int.mul_emod_mul_of_pos _ _ (by omega), Int.mul_ediv_cancel_left _ (by omega)] at hloop
 have hshl : shl .u32 (m.getD (k + 1) 0) (s : Int) = 2 ^ s * m.getD (k + 1) 0 := by
  unfold shl
  rw [Int.toNat_natCast, Nat.min_eq_left (by simp [IntKind.bits]; omega), u32m, Int.mul_comm]
  omega
 have i1 : wrap64 ((n : Int) - 1) = ((k + 1 : Nat) : Int) := by clear hshl; rw [w64 (by omega) (by omega)]; omega
 have i2 : wrap64 ((l.length : Int) - (n : Int)) = ((l.length - n : Nat) : Int) := by clear hshl i1; rw [w64 (by omega) (by omega)]; omega
 have i3 := wS (l.length - n) (by clear hshl i1 i2; omega)
 have hbot : Ev (fun f => ir_long.l0 f l m (n : Int) (s : Int)) (lenc (val l / val m).toNat, lenc (val l % val m).toNat) := by
  refine Ev.step (f := fun f => (ir_shifted.f f l (s : Int)).bind fun t138 => (ir_shifted.f f m (s : Int)).bind fun t141 => (if (n : Int) ≤ (t141.length : Int) then ir_long.l1 f (n : Int) (s : Int) t138 (t141.take n) (List.replicate (l.length - n + 1) 0) ((l.length - n : Nat) : Int) else none)) (fun f => ?_) ?_
  ·simp only [ir_long.l0, i1, i2, i3, rd_nat, hshl, Int.toNat_natCast]
   have c : (0 : Int) ≤ (n : Int) ∧ (0 : Int) ≤ ((l.length - n + 1 : Nat) : Int) ∧ l.length - n + 1 ≤ 70368744177664 := by clear i1 i2 i3 hshl; omega
   simp only [c.1, c.2.1, c.2.2, if_true]
   clear i1 i2 i3 hshl hloop hu hv
   rw [if_pos (by omega), if_pos (by omega), if_pos (by omega), if_neg (by omega)]
  ·refine Ev.bind hu (Ev.bind hv (Ev.congr (fun f => ?_) hloop))
   have e : (((l.length - n + 1 : Nat) : Int) - 1) = ((l.length - n : Nat) : Int) := by clear i1 i2 i3 hshl hloop hu hv; omega
   rw [if_pos (by clear i1 i2 i3 hshl hloop hu hv e; omega), e]
 have := long_l0 (a := l) hm.1 hn hk (by omega) hs1 hs2 hs3 hbot s 0 (by omega)
 refine Ev.congr (fun f => ?_) this
 simp only [ir_long.f, hn]
 rfl
theorem divide1_fit {a b : Nat} (ha : Fit a) (hb : Fit b) (h0 : 0 < b) : Ev (fun k => ir_divide.f k (lenc a) (lenc b)) (lenc (a / b), lenc (a % b)) := by
 have la := ha.nl
 have lb := hb.nl
 refine Ev.bind (order_ev (lenc_can a) (lenc_can b) (by omega) (by omega)) ?_
 rw [lenc_val, lenc_val]
 by_cases hlt : a < b
 ·refine Ev.congr (f := fun _ => some (([] : List Int), lenc a)) (fun k => by rw [if_pos (by rw [sg_neg (by omega)]; omega)]) ?_
  rw [Nat.div_eq_of_lt hlt, Nat.mod_eq_of_lt hlt, lenc_zero]
  exact Ev.now _
 ·have hge : ¬ sg ((a : Int) - (b : Int)) < 0 := by unfold sg; rw [if_neg (by omega)]; split <;> omega
  have hlb : 0 < (lenc b).length := List.length_pos_iff.2 (by rw [Ne, lenc_nil]; omega)
  by_cases h1 : (lenc b).length = 1
  ·have hb' : b < 4294967296 := by
    have := lt_nl b
    rw [show nl b = (lenc b).length from rfl, h1, bp_succ, bp_zero] at this
    omega
   have hbl : lenc b = [(b : Int)] := by rw [lenc_pos (by omega), Nat.div_eq_of_lt hb', lenc_zero, Nat.mod_eq_of_lt hb']
   have hsm := small_ev (lenc_can a).1 (d := (b : Int)) (by omega) (by omega) (by omega)
   rw [lenc_val, ← Int.natCast_ediv, ← Int.natCast_emod, Int.toNat_natCast] at hsm
   have hmod : a % b < b := Nat.mod_lt _ h0
   have htr := strip_ev (l := [((a % b : Nat) : Int)]) (Lim.cons (by omega) (by omega) Lim.nil) (by simp)
   rw [show val [((a % b : Nat) : Int)] = ((a % b : Nat) : Int) by simp [val], Int.toNat_natCast] at htr
   rw [hbl]
   refine Ev.congr (f := fun k => (nt_divideSmall.f k (lenc a) (b : Int)).bind fun bt => (ir_strip.f k [bt.2]).bind fun t => some (bt.1, t)) (fun k => ?_) (Ev.bind hsm (Ev.bind htr (Ev.now _)))
   rw [if_neg hge, if_pos (by simp), if_pos (by simp), ← short_f]
   rfl
  ·have hle : (lenc b).length ≤ (lenc a).length := nl_mono (by omega)
   have := long_ev (lenc_can a) (lenc_can b) (by omega) hle (by omega)
   rw [lenc_val, lenc_val, ← Int.natCast_ediv, ← Int.natCast_emod, Int.toNat_natCast, Int.toNat_natCast] at this
   refine Ev.congr (f := fun k => (ir_long.f k (lenc a) (lenc b)).bind fun bt => some (bt.1, bt.2)) (fun k => ?_) (Ev.bind this (Ev.now _))
   rw [if_neg hge, if_neg (by omega)]
theorem common_l0 (b : Nat) : ∀ a : Nat, Fit a → Fit b → Ev (fun k => ir_common.l0 k (lenc a) (lenc b)) (lenc (Nat.gcd a b)) := by
 induction b using Nat.strongRecOn with
 | _ b ih =>
  intro a ha hb
  by_cases h0 : b = 0
  ·subst h0
   rw [Nat.gcd_zero_right, lenc_zero]
   refine Ev.step (f := fun k => some (lenc a)) (fun k => ?_) (Ev.now _)
   simp only [ir_common.l0]; rw [if_neg (by simp)]
  ·have hm : a % b < b := Nat.mod_lt _ (by omega)
   have := ih (a % b) hm b hb (hb.mono (by omega))
   have e : Nat.gcd a b = Nat.gcd b (a % b) := by rw [Nat.gcd_comm a b, Nat.gcd_rec b a, Nat.gcd_comm]
   rw [e]
   refine Ev.step (f := fun k => (ir_divide.f k (lenc a) (lenc b)).bind fun bt => ir_common.l0 k (lenc b) bt.2) (fun k => ?_) (Ev.bind (divide1_fit ha hb (by omega)) this)
   have hl : 0 < (lenc b).length := List.length_pos_iff.2 (by rw [Ne, lenc_nil]; exact h0)
   simp only [ir_common.l0]; rw [if_pos (by omega)]
theorem mulw1 {a b o c : Int} (ha : U a) (hb : U b) (ho : U o) (hc : U c) : IntKind.u64.wrap (IntKind.u64.wrap (c + IntKind.u64.wrap (IntKind.u64.wrap a * IntKind.u64.wrap b)) + IntKind.u64.wrap o) = a * b + o + c := by
 have hm := mul_lim ha hb
 unfold U at *
 rw [u64 (x := a) (by omega) (by omega), u64 (x := b) (by omega) (by omega), u64 (x := o) (by omega) (by omega), u64 (x := a * b) (by omega) (by omega), u64 (x := c + a * b) (by omega) (by omega), u64 (by omega) (by omega)]
 omega
theorem times_l1 {x y R : List Int} (hx : Lim x) (hy : Lim y) (hxl : x.length < 900000000) (hyl : y.length < 900000000) {i : Nat} (hi : i < x.length) {V : Int}
  (next : ∀ o : List Int, o.length = x.length + y.length → Lim o → (∀ j, i + 1 + y.length ≤ j → o.getD j 0 = 0) → val o = V + bp i * x.getD i 0 * val y → Ev (fun f => ir_times.l0 f x y o ((i + 1 : Nat) : Int)) R)
  (d : Nat) : ∀ (k : Nat) (o : List Int) (c : Int), k + d = y.length → o.length = x.length + y.length → Lim o → U c → (∀ j, i + y.length ≤ j → o.getD j 0 = 0) → val o + bp (i + k) * c = V + bp i * x.getD i 0 * val (y.take k) →
   Ev (fun f => ir_times.l1 f x y o (i : Int) c (k : Int)) R := by
 induction d with
 | zero =>
  intro k o c hk ho hol hc hz hv
  have hk' : k = y.length := by clear hv; omega
  subst hk'
  rw [List.take_of_length_le (Nat.le_refl _)] at hv
  have hz0 := hz (i + y.length) (Nat.le_refl _)
  have hc0 := hc.1
  have hc1 := hc.2
  have e1 : wrap64 ((i : Int) + (y.length : Int)) = ((i + y.length : Nat) : Int) := by clear hv; rw [w64 (by omega) (by omega)]; omega
  have e2 := nS i (by clear hv; omega)
  have e3 : c % 4294967296 = c := Int.emod_eq_of_lt hc0 hc1
  refine Ev.step (fun f => ?_) (next (o.set (i + y.length) c) (by rw [List.length_set]; exact ho) (hol.set _ hc0 hc1) (fun j hj => ?_) ?_)
  ·simp only [ir_times.l1, e1, e2, e3, Int.toNat_natCast]
   clear hv e1 e2 e3 hc0 hc1
   rw [if_neg (by omega), if_pos (by omega), if_pos (by omega)]
  ·clear hv e1 e2 e3
   have := hz j (by omega)
   rw [List.getD_eq_getElem?_getD, List.getElem?_set, if_neg (by omega), ← List.getD_eq_getElem?_getD]; exact this
  ·rw [val_set _ _ _ (by clear hv e1 e2 e3; omega), hz0, Int.sub_zero]; exact hv
 | succ d ih =>
  intro k o c hk ho hol hc hz hv
  have hxi := hx.get i
  have hyk := hy.get k
  have hok := hol.get (i + k)
  have hm := mul_lim hxi hyk
  have hw := mulw1 hxi hyk hok hc
  have e1 : wrap64 ((i : Int) + (k : Int)) = ((i + k : Nat) : Int) := by clear hv hw hm; rw [w64 (by omega) (by omega)]; omega
  have e2 := nS k (by clear hv hw hm; omega)
  have hlt : i + k < o.length := by clear hv hw hm e1 e2; omega
  have hky : k < y.length := by clear hv hw hm e1 e2; omega
  refine Ev.step (fun f => ?_) (ih (k + 1) (o.set (i + k) ((x.getD i 0 * y.getD k 0 + o.getD (i + k) 0 + c) % 4294967296)) ((x.getD i 0 * y.getD k 0 + o.getD (i + k) 0 + c) / 4294967296) (by clear hv hw hm e1 e2; omega) (by rw [List.length_set]; exact ho) (hol.set _ (dm0 _) (dm1 _)) (dm2 hm hok hc) (fun j hj => ?_) ?_)
  ·simp only [ir_times.l1, rd_nat, e1, e2, Int.toNat_natCast, hw]
   clear hv e1 e2 hw hm ih hxi hyk hok hc next
   rw [if_pos (by omega), if_pos (by omega), if_pos (by omega), if_pos (by omega), if_pos (by omega), if_pos (by omega)]
  ·clear hv e1 e2 hw hm
   have := hz j (by omega)
   rw [List.getD_eq_getElem?_getD, List.getElem?_set, if_neg (by omega), ← List.getD_eq_getElem?_getD]; exact this
  ·rw [val_set _ _ _ hlt, val_take_succ y k hky, show i + (k + 1) = (i + k) + 1 from rfl, bp_succ, bp_add]
   rw [bp_add] at hv
   exact mul_ring hv (dm _) rfl
theorem times_l0 {x y : List Int} (hx : Lim x) (hy : Lim y) (hxl : x.length < 900000000) (hyl : y.length < 90000000) (d : Nat) : ∀ (i : Nat) (o : List Int), i + d = x.length → o.length = x.length + y.length → Lim o → (∀ j, i + y.length ≤ j → o.getD j 0 = 0) → val o = val (x.take i) * val y →
   Ev (fun f => ir_times.l0 f x y o (i : Int)) (lenc (val x * val y).toNat) := by
 induction d with
 | zero =>
  intro i o hi ho hol hz hv
  refine Ev.step (f := fun f => (ir_strip.f f o).bind fun t510 => some t510) (fun f => ?_) ?_
  ·simp only [ir_times.l0]; clear hv; rw [if_neg (by omega)]
  ·have := strip_ev hol (by omega)
   rw [hv, List.take_of_length_le (by omega)] at this
   exact Ev.bind this (Ev.now _)
 | succ d ih =>
  intro i o hi ho hol hz hv
  have := times_l1 (R := lenc (val x * val y).toNat) hx hy hxl (by omega) (i := i) (by omega) (V := val o) (fun o' h1 h2 h3 h4 => ih (i + 1) o' (by omega) h1 h2 h3 (by rw [h4, hv, val_take_succ x i (by omega), Int.add_mul])) y.length 0 o 0 (by omega) ho hol ⟨by omega, by omega⟩ hz (by simp [val])
  refine Ev.step (fun f => ?_) this
  simp only [ir_times.l0]
  clear hv this ih
  rw [if_pos (by omega)]; rfl
theorem times_ev {a b : Nat} (ha : (lenc a).length < 90000000) (hb : (lenc b).length < 90000000) : Ev (fun k => ir_times.f k (lenc a) (lenc b)) (lenc (a * b)) := by
 have := times_l0 (lenc_can a).1 (lenc_can b).1 (by omega) hb (lenc a).length 0 (List.replicate ((lenc a).length + (lenc b).length) 0) (by omega) (by simp) (Lim.zeros _) (fun j _ => by
  rw [List.getD_eq_getElem?_getD, List.getElem?_replicate]; split <;> rfl) (by rw [val_zeros]; simp [val])
 rw [lenc_val, lenc_val, ← Int.natCast_mul, Int.toNat_natCast] at this
 have e : wrap64 (((lenc a).length : Int) + ((lenc b).length : Int)) = (((lenc a).length + (lenc b).length : Nat) : Int) := by rw [w64 (by omega) (by omega)]; omega
 refine Ev.congr (fun k => ?_) this
 simp only [ir_times.f, e, Int.toNat_natCast]
 clear e this
 rw [if_pos (by omega), if_pos (by omega)]; rfl
theorem vts (l : List Int) (i : Nat) : val (l.take (i + 1)) = val (l.take i) + bp i * l.getD i 0 := by
 rcases Nat.lt_or_ge i l.length with h | h
 ·exact val_take_succ l i h
 ·rw [take_more h, List.getD_eq_getElem?_getD, List.getElem?_eq_none h]; simp
theorem lenc_len {n V : Nat} (h1 : bp n ≤ V) (h2 : (V : Int) < bp (n + 1)) : (lenc V).length = n + 1 := by
 have a : nl V ≤ n + 1 := nl_le h2
 have b := lt_nl V
 have e : nl V = (lenc V).length := rfl
 rcases Nat.lt_or_ge n (nl V) with h | h
 ·omega
 ·have := bp_mono h
  omega
theorem out_is {out : List Int} {V n : Nat} (h : Lim out) (hv : val out = V) (hl : out.length = n + 1) (hb : bp n ≤ V) : out = lenc V := by
 have h2 := val_lt h
 rw [hv, hl] at h2
 refine lim_unique h (lenc_can V).1 ?_ (by rw [hv, lenc_val])
 rw [hl, lenc_len hb h2]
theorem plus_ring {o p A B x y c t q : Int} (h : o + p * c = A + B) (e : x + y + c = t + 4294967296 * q) : o + p * t + 4294967296 * p * q = (A + p * x) + (B + p * y) := by
 have : p * (x + y + c) = p * (t + 4294967296 * q) := by rw [e]
 grind
theorem plus_l0 {a b L : Nat} (hL : L = max (lenc a).length (lenc b).length) (hl : L < 90000000) (d : Nat) : ∀ (i : Nat) (o : List Int) (c : Int), i + d = L → o.length = i → Lim o → (c = 0 ∨ c = 1) → val o + bp i * c = val ((lenc a).take i) + val ((lenc b).take i) →
  Ev (fun k => ir_plus.l0 k (lenc a) (lenc b) o c (i : Int)) (lenc (a + b)) := by
 have hxa := (lenc_can a).1
 have hxb := (lenc_can b).1
 induction d with
 | zero =>
  intro i o c hi ho hol hc hv
  have la : (lenc a).length ≤ i := by omega
  have lb : (lenc b).length ≤ i := by omega
  rw [List.take_of_length_le la, List.take_of_length_le lb, lenc_val, lenc_val] at hv
  rcases hc with rfl | rfl
  ·rw [Int.mul_zero, Int.add_zero] at hv
   have e : o = lenc (a + b) := by
    match i, ho with
    | 0, ho =>
     have : o = [] := List.length_eq_zero_iff.1 ho
     subst this
     have : a + b = 0 := by simp [val] at hv; omega
     rw [this, lenc_zero]
    | n + 1, ho =>
     refine out_is hol (by rw [hv]; omega) ho ?_
     by_cases h : (lenc a).length = n + 1
     ·have := can_low (lenc_can a) (by intro e; rw [e] at h; simp at h)
      rw [lenc_val, h, Nat.add_sub_cancel] at this
      omega
     ·have h2 : (lenc b).length = n + 1 := by omega
      have := can_low (lenc_can b) (by intro e; rw [e] at h2; simp at h2)
      rw [lenc_val, h2, Nat.add_sub_cancel] at this
      omega
   rw [← e]
   refine Ev.step (f := fun k => ir_plus.j1 k (lenc a) (lenc b) o 0 (i : Int) false) (fun k => ?_) (Ev.step (f := fun _ => some o) (fun k => ?_) (Ev.now _))
   ·simp only [ir_plus.l0]; rw [if_neg (by omega), if_neg (by omega)]; rfl
   ·simp only [ir_plus.j1]; rw [if_neg (by simp)]
  ·have e : o ++ [1] = lenc (a + b) := by
    have hb := bp_pos i
    have hva : val (o ++ [1]) = ((a + b : Nat) : Int) := by rw [val_append, ho]; simp only [val]; omega
    refine out_is (n := i) (hol.append (Lim.cons (by omega) (by omega) Lim.nil)) hva (by simp [ho]) ?_
    have := val_nonneg hol
    omega
   rw [← e]
   have e1 := nS i (by omega)
   refine Ev.step (f := fun k => ir_plus.j1 k (lenc a) (lenc b) o 1 (i : Int) true) (fun k => ?_) (Ev.step (f := fun k => ir_plus.l0 k (lenc a) (lenc b) (o ++ [1]) 0 ((i + 1 : Nat) : Int)) (fun k => ?_) (Ev.step (f := fun k => ir_plus.j1 k (lenc a) (lenc b) (o ++ [1]) 0 ((i + 1 : Nat) : Int) false) (fun k => ?_) (Ev.step (f := fun _ => some (o ++ [1])) (fun k => ?_) (Ev.now _))))
   ·simp only [ir_plus.l0]; clear e1; rw [if_neg (by omega), if_neg (by omega)]; rfl
   ·simp only [ir_plus.j1, e1]; clear e1; rw [if_pos trivial, if_neg (by omega), if_neg (by omega), if_pos (by omega)]; rfl
   ·simp only [ir_plus.l0]; clear e1; rw [if_neg (by omega), if_neg (by omega)]; rfl
   ·simp only [ir_plus.j1]; rw [if_neg (by simp)]
 | succ d ih =>
  intro i o c hi ho hol hc hv
  have ga := hxa.get i
  have gb := hxb.get i
  have e1 := nS i (by clear hv; omega)
  have hsum : 0 ≤ (lenc a).getD i 0 + (lenc b).getD i 0 + c ∧ (lenc a).getD i 0 + (lenc b).getD i 0 + c < 8589934592 := by clear hv e1; omega
  have hv2 := vts (lenc a) i
  have hv3 := vts (lenc b) i
  obtain ⟨t, ht⟩ : ∃ t, (lenc a).getD i 0 + (lenc b).getD i 0 + c = t := ⟨_, rfl⟩
  have next := ih (i + 1) (o ++ [t % 4294967296]) (t / 4294967296) (by omega) (by simp [ho]) (hol.append (Lim.cons (by omega) (by omega) Lim.nil)) (by clear hv e1; omega) (by
   rw [val_append, ho, hv2, hv3, bp_succ]
   have : val [t % 4294967296] = t % 4294967296 := by simp [val]
   rw [this]
   exact plus_ring hv (by rw [ht]; clear hv e1; omega))
  have hj : Ev (fun k => ir_plus.j1 k (lenc a) (lenc b) o c (i : Int) true) (lenc (a + b)) := by
   refine Ev.step (fun k => ?_) next
   have ua : IntKind.u64.wrap ((lenc a).getD i 0) = (lenc a).getD i 0 := by clear hv e1 hv2 hv3 ih next; exact u64 (by omega) (by omega)
   have ub : IntKind.u64.wrap ((lenc b).getD i 0) = (lenc b).getD i 0 := by clear hv e1 hv2 hv3 ih next ua; exact u64 (by omega) (by omega)
   have uc : IntKind.u64.wrap (c + (lenc a).getD i 0) = c + (lenc a).getD i 0 := by clear hv e1 hv2 hv3 ih next ua ub; exact u64 (by omega) (by omega)
   have ud : IntKind.u64.wrap (c + (lenc b).getD i 0) = c + (lenc b).getD i 0 := by clear hv e1 hv2 hv3 ih next ua ub uc; exact u64 (by omega) (by omega)
   have ue : IntKind.u64.wrap (c + (lenc a).getD i 0 + (lenc b).getD i 0) = c + (lenc a).getD i 0 + (lenc b).getD i 0 := by clear hv e1 hv2 hv3 ih next ua ub uc ud; exact u64 (by omega) (by omega)
   simp only [ir_plus.j1, rd_nat, e1, ua, ub, uc, ud, ue]
   clear hv e1 hv2 hv3 ih next ua ub uc ud ue
   rw [if_pos trivial]
   by_cases h1 : i < (lenc a).length
   ·by_cases h2 : i < (lenc b).length
    ·have e : c + (lenc a).getD i 0 + (lenc b).getD i 0 = t := by omega
     rw [if_pos (by omega), if_pos (by omega), if_pos (by omega), if_pos (by omega), e]
    ·have z : (lenc b).getD i 0 = 0 := by rw [List.getD_eq_getElem?_getD, List.getElem?_eq_none (by omega)]; rfl
     have e : c + (lenc a).getD i 0 = t := by omega
     rw [if_pos (by omega), if_pos (by omega), if_neg (by omega), if_pos (by omega), e]
   ·have z : (lenc a).getD i 0 = 0 := by rw [List.getD_eq_getElem?_getD, List.getElem?_eq_none (by omega)]; rfl
    have e : c + (lenc b).getD i 0 = t := by omega
    rw [if_neg (by omega), if_pos (by omega), if_pos (by omega), if_pos (by omega), e]
  refine Ev.step (fun k => ?_) hj
  simp only [ir_plus.l0]
  clear hv e1 hv2 hv3 ih next hj
  by_cases h1 : i < (lenc a).length
  ·rw [if_pos (by omega)]
  ·rw [if_neg (by omega), if_pos (by omega)]
theorem plus_ev {a b : Nat} (ha : (lenc a).length < 90000000) (hb : (lenc b).length < 90000000) : Ev (fun k => ir_plus.f k (lenc a) (lenc b)) (lenc (a + b)) :=
 plus_l0 rfl (by omega) (max (lenc a).length (lenc b).length) 0 [] 0 (by omega) rfl Lim.nil (Or.inl rfl) (by simp [val])
theorem minus_ring {o p A B x y c t b : Int} (h : o - p * c = A - B) (e : t = x - (c + y) + 4294967296 * b) : o + p * t - 4294967296 * p * b = (A + p * x) - (B + p * y) := by
 subst e; grind
theorem minus_l0 {a b : Nat} (hab : b ≤ a) (ha : (lenc a).length < 90000000) (d : Nat) : ∀ (i : Nat) (o : List Int) (c : Int), i + d = (lenc a).length → o.length = (lenc a).length → Lim o → (c = 0 ∨ c = 1) → val (o.take i) - bp i * c = val ((lenc a).take i) - val ((lenc b).take i) →
  Ev (fun k => ir_minus.l0 k (lenc a) (lenc b) o c (i : Int)) (lenc (a - b)) := by
 have hxa := (lenc_can a).1
 have hxb := (lenc_can b).1
 have hlb : (lenc b).length ≤ (lenc a).length := nl_mono hab
 induction d with
 | zero =>
  intro i o c hi ho hol hc hv
  rw [List.take_of_length_le (by omega), List.take_of_length_le (by omega), List.take_of_length_le (by omega), lenc_val, lenc_val] at hv
  have hlt := val_lt hol
  have e : i = (lenc a).length := by omega
  rw [ho, ← e] at hlt
  have hbp := bp_pos i
  have hval : val o = ((a - b : Nat) : Int) := by
   rcases hc with rfl | rfl
   ·omega
   ·omega
  have := strip_ev hol (by omega)
  rw [hval, Int.toNat_natCast] at this
  refine Ev.step (f := fun k => (ir_strip.f k o).bind fun t => some t) (fun k => ?_) (Ev.bind this (Ev.now _))
  simp only [ir_minus.l0]; rw [if_neg (by omega)]
 | succ d ih =>
  intro i o c hi ho hol hc hv
  have ga := hxa.get i
  have gb := hxb.get i
  have e1 := nS i (by clear hv; omega)
  have ua : IntKind.u64.wrap ((lenc a).getD i 0) = (lenc a).getD i 0 := by clear hv e1 ih; exact u64 (by omega) (by omega)
  have ub : IntKind.u64.wrap ((lenc b).getD i 0) = (lenc b).getD i 0 := by clear hv e1 ih ua; exact u64 (by omega) (by omega)
  have uc : IntKind.u64.wrap (c + (lenc b).getD i 0) = c + (lenc b).getD i 0 := by clear hv e1 ih ua ub; exact u64 (by omega) (by omega)
  have ud : IntKind.u64.wrap ((lenc a).getD i 0 + 4294967296) = (lenc a).getD i 0 + 4294967296 := by clear hv e1 ih ua ub uc; exact u64 (by omega) (by omega)
  have hio : i < o.length := by clear hv e1 ua ub uc ud; omega
  have step : ∀ t b' : Int, (b' = 0 ∨ b' = 1) → 0 ≤ t → t < 4294967296 → t = (lenc a).getD i 0 - (c + (lenc b).getD i 0) + 4294967296 * b' →
    Ev (fun k => ir_minus.l0 k (lenc a) (lenc b) (o.set i t) b' ((i + 1 : Nat) : Int)) (lenc (a - b)) := by
   intro t b' hb' h0 h1 ht
   refine ih (i + 1) (o.set i t) b' (by clear hv e1 ua ub uc ud ht; omega) (by simpa using ho) (hol.set _ h0 h1) hb' ?_
   rw [val_take_succ _ i (by simpa using hio), List.take_set_of_le (Nat.le_refl _), getD_set_self hio, vts (lenc a) i, vts (lenc b) i, bp_succ]
   exact minus_ring hv ht
  by_cases hlt : (lenc a).getD i 0 < c + (lenc b).getD i 0
  ·have um : IntKind.u64.wrap ((lenc a).getD i 0 + 4294967296 - (c + (lenc b).getD i 0)) % 4294967296 = (lenc a).getD i 0 - (c + (lenc b).getD i 0) + 4294967296 * 1 := by
    clear hv e1 ih ua ub uc ud step
    rw [u64 (by omega) (by omega)]; omega
   have um0 : (lenc b).length ≤ i → IntKind.u64.wrap ((lenc a).getD i 0 + 4294967296 - c) % 4294967296 = (lenc a).getD i 0 - (c + (lenc b).getD i 0) + 4294967296 * 1 := by
    intro h
    have z : (lenc b).getD i 0 = 0 := by rw [List.getD_eq_getElem?_getD, List.getElem?_eq_none h]; rfl
    rw [z, Int.add_zero] at um ⊢; exact um
   refine Ev.step (fun k => ?_) (step _ 1 (Or.inr rfl) (by clear hv e1 ih ua ub uc ud step um um0; omega) (by clear hv e1 ih ua ub uc ud step um um0; omega) rfl)
   simp only [ir_minus.l0, rd_nat, e1, ua, ub, uc, ud, um, Int.toNat_natCast]
   clear hv e1 ih ua ub uc ud step um
   rw [if_pos (by omega)]
   by_cases h2 : i < (lenc b).length
   ·rw [if_pos (by omega), if_pos (by omega), if_pos hlt, if_pos (by omega)]
   ·have z : (lenc b).getD i 0 = 0 := by rw [List.getD_eq_getElem?_getD, List.getElem?_eq_none (by omega)]; rfl
    have um := um0 (by omega)
    clear um0
    rw [if_neg (by omega), if_pos (by omega), if_pos (by omega), if_pos (by omega), um]
  ·have um : IntKind.u64.wrap ((lenc a).getD i 0 - (c + (lenc b).getD i 0)) % 4294967296 = (lenc a).getD i 0 - (c + (lenc b).getD i 0) + 4294967296 * 0 := by
    clear hv e1 ih ua ub uc ud step
    rw [u64 (by omega) (by omega)]; omega
   have um0 : (lenc b).length ≤ i → IntKind.u64.wrap ((lenc a).getD i 0 - c) % 4294967296 = (lenc a).getD i 0 - (c + (lenc b).getD i 0) + 4294967296 * 0 := by
    intro h
    have z : (lenc b).getD i 0 = 0 := by rw [List.getD_eq_getElem?_getD, List.getElem?_eq_none h]; rfl
    rw [z, Int.add_zero] at um ⊢; exact um
   refine Ev.step (fun k => ?_) (step _ 0 (Or.inl rfl) (by clear hv e1 ih ua ub uc ud step um um0; omega) (by clear hv e1 ih ua ub uc ud step um um0; omega) rfl)
   simp only [ir_minus.l0, rd_nat, e1, ua, ub, uc, ud, um, Int.toNat_natCast]
   clear hv e1 ih ua ub uc ud step um
   rw [if_pos (by omega)]
   by_cases h2 : i < (lenc b).length
   ·rw [if_pos (by omega), if_pos (by omega), if_neg hlt, if_pos (by omega)]
   ·have z : (lenc b).getD i 0 = 0 := by rw [List.getD_eq_getElem?_getD, List.getElem?_eq_none (by omega)]; rfl
    have um := um0 (by omega)
    clear um0
    rw [if_neg (by omega), if_pos (by omega), if_neg (by omega), if_pos (by omega), um]
theorem minus_ev {a b : Nat} (hab : b ≤ a) (ha : (lenc a).length < 90000000) : Ev (fun k => ir_minus.f k (lenc a) (lenc b)) (lenc (a - b)) := by
 refine Ev.congr (fun k => ?_) (minus_l0 hab ha (lenc a).length 0 (List.replicate (lenc a).length 0) 0 (by omega) (by simp) (Lim.zeros _) (Or.inl rfl) (by simp [val]))
 simp only [ir_minus.f, Int.toNat_natCast]
 rw [if_pos (by omega), if_pos (by omega)]; rfl
theorem lenc_hd {n : Nat} (h0 : 0 < n) : rd (lenc n) 0 = ((n % 4294967296 : Nat) : Int) := by rw [lenc_pos (by omega)]; rfl
theorem lenc_ne {n : Nat} (h0 : 0 < n) : 0 < (lenc n).length := List.length_pos_iff.2 (by rw [Ne, lenc_nil]; omega)
theorem lenc_lt {n : Nat} (h : (lenc n).length ≤ 1) : n < 4294967296 := by
 have := lt_nl n
 have b := bp_mono (show nl n ≤ 1 from h)
 rw [bp_succ, bp_zero] at b
 omega
theorem lenc_big {n : Nat} (h0 : 0 < n) (h : ¬ ((lenc n).length : Int) > 1) : rd (lenc n) 0 = (n : Int) := by
 have := lenc_lt (n := n) (by omega)
 rw [lenc_hd h0, Nat.mod_eq_of_lt this]
theorem tail_ev {neg : Bool} {a : ByteArray} {d : Nat} (h0 : 0 < d) (h : Fit d) :
  Ev (fun k => (if ((lenc d).length : Int) > 1 then ((ir_text.f k (lenc d)).bind fun t => (some (neg, a, t))) else (if 0 < ((lenc d).length : Int) then (if (rd (lenc d) 0) > 1 then ((ir_text.f k (lenc d)).bind fun t => (some (neg, a, t))) else (some (neg, a, (⟨#[]⟩ : ByteArray)))) else (none)))) (neg, a, if d = 1 then ⟨#[]⟩ else benc d) := by
 have hl := lenc_ne h0
 have ht := text1_ev (n := d) (by have := h.nl; omega)
 by_cases hg : ((lenc d).length : Int) > 1
 ·have h1 : d ≠ 1 := by
   intro e
   rw [e, lenc_pos (by decide)] at hg
   simp [lenc_zero] at hg
  refine Ev.congr (f := fun k => (ir_text.f k (lenc d)).bind fun t => (some (neg, a, t))) (fun k => by rw [if_pos hg]) (by rw [if_neg h1]; exact Ev.bind ht (Ev.now _))
 ·have hr := lenc_big h0 hg
  by_cases h1 : d = 1
  ·refine Ev.congr (f := fun _ => some (neg, a, (⟨#[]⟩ : ByteArray))) (fun k => ?_) (by rw [if_pos h1]; exact Ev.now _)
   rw [if_neg hg, if_pos (by omega), hr, if_neg (by omega)]
  ·refine Ev.congr (f := fun k => (ir_text.f k (lenc d)).bind fun t => (some (neg, a, t))) (fun k => ?_) (by rw [if_neg h1]; exact Ev.bind ht (Ev.now _))
   rw [if_neg hg, if_pos (by omega), hr, if_pos (by omega)]
theorem reduced1_ev (neg : Bool) {n d : Nat} (hn : Fit n) (hd : Fit d) (h0 : 0 < d) : Ev (fun k => ir_reduced.f k neg (lenc n) (lenc d)) (qN (mkRat (sgn neg n) d), qA (mkRat (sgn neg n) d), qD (mkRat (sgn neg n) d)) := by
 by_cases hz : n = 0
 ·refine Ev.congr (f := fun _ => some (false, (⟨#[]⟩ : ByteArray), (⟨#[]⟩ : ByteArray))) (fun k => ?_) ?_
  ·unfold ir_reduced.f
   rw [if_pos (by rw [hz, lenc_zero]; rfl)]
  ·have : mkRat (sgn neg n) d = 0 := by rw [hz]; unfold sgn; cases neg <;> simp
   rw [this, qN_zero, qA_zero, qD_zero]; exact Ev.now _
 ·have hnl := lenc_ne (n := n) (by omega)
  have hg0 : 0 < Nat.gcd n d := Nat.gcd_pos_of_pos_left _ (by omega)
  have hgn : Nat.gcd n d ≤ n := Nat.le_of_dvd (by omega) (Nat.gcd_dvd_left n d)
  have hg : Fit (Nat.gcd n d) := hn.mono hgn
  have hgl := lenc_ne hg0
  have hc : Ev (fun k => ir_common.f k (lenc n) (lenc d)) (lenc (Nat.gcd n d)) := common_l0 d n hn hd
  rw [mk_parts hz (by omega)]
  have hq0 : 0 < d / Nat.gcd n d := Nat.div_pos (Nat.le_of_dvd h0 (Nat.gcd_dvd_right n d)) hg0
  have fq : Fit (d / Nat.gcd n d) := hd.mono (Nat.div_le_self _ _)
  have fn : Fit (n / Nat.gcd n d) := hn.mono (Nat.div_le_self _ _)
  refine Ev.congr (fun k => by unfold ir_reduced.f; rw [if_neg (by omega)]) (Ev.bind hc ?_)
  by_cases hg1 : Nat.gcd n d = 1
  ·have htl := tail_ev (neg := neg) (a := benc n) h0 hd
   rw [hg1, Nat.div_one, Nat.div_one]
   have hb : ¬ ((lenc 1).length : Int) > 1 := by rw [lenc_pos (by decide)]; simp [lenc_zero]
   have hr := lenc_big (n := 1) (by decide) hb
   have hl1 := lenc_ne (n := 1) (by decide)
   refine Ev.congr (fun k => by rw [if_neg hb, if_pos (by omega), hr, if_neg (by omega)]) (Ev.bind (text1_ev (by have := hn.nl; omega)) htl)
  ·have htl := tail_ev (neg := neg) (a := benc (n / Nat.gcd n d)) hq0 fq
   have d1 := divide1_fit hn hg hg0
   have d2 := divide1_fit hd hg hg0
   have tx := text1_ev (n := n / Nat.gcd n d) (by have := fn.nl; omega)
   by_cases hb : ((lenc (Nat.gcd n d)).length : Int) > 1
   ·exact Ev.congr (fun k => by rw [if_pos hb]) (Ev.bind d1 (Ev.bind d2 (Ev.bind tx htl)))
   ·have hr := lenc_big hg0 hb
    exact Ev.congr (fun k => by rw [if_neg hb, if_pos (by omega), hr, if_pos (by omega)]) (Ev.bind d1 (Ev.bind d2 (Ev.bind tx htl)))
theorem GCD1_ev (s t : ByteArray) (hs : s.size < 90000000) (ht : t.size < 90000000) (fs : Fit (bval s)) (ft : Fit (bval t)) : Ev (fun k => ir_GCD.f k s t) (benc (Nat.gcd (bval s) (bval t))) := by
 by_cases h0 : Nat.gcd (bval s) (bval t) = 0
 ·have e1 : bval s = 0 := Nat.eq_zero_of_gcd_eq_zero_left h0
  refine Ev.bind (limbs1_ev s (by omega)) (Ev.bind (limbs1_ev t (by omega)) (Ev.bind (common_l0 _ _ fs ft) ?_))
  exact Ev.bind (text1_ev (by rw [h0, lenc_zero]; simp)) (Ev.now _)
 ·have hf : Fit (Nat.gcd (bval s) (bval t)) := by
   by_cases hz : bval s = 0
   ·rw [hz, Nat.gcd_zero_left]; exact ft
   ·exact fs.mono (Nat.le_of_dvd (by omega) (Nat.gcd_dvd_left _ _))
  refine Ev.bind (limbs1_ev s (by omega)) (Ev.bind (limbs1_ev t (by omega)) (Ev.bind (common_l0 _ _ fs ft) ?_))
  exact Ev.bind (text1_ev (by have := hf.nl; omega)) (Ev.now _)
theorem Valid1_ev (n : Bool) (a d : ByteArray) (ha : a.size < 90000000) (hd : d.size < 90000000) (fa : Fit (bval a)) (fd : Fit (bval d)) : Ev (fun k => ir_Valid.f k n a d) (decide (Vld n a d)) := by
 refine Ev.bind (norm1_ev a (by omega)) ?_
 have jT : ¬ Vld n a d → Ev (fun k => ir_Valid.j0 k true n a d) (decide (Vld n a d)) := fun h => by
  refine Ev.step (f := fun _ => some false) (fun k => ?_) (by rw [decide_eq_false h]; exact Ev.now _)
  simp only [ir_Valid.j0]; rw [if_pos trivial]
 by_cases hca : BCan a
 ·refine Ev.congr (fun k => by rw [if_pos (by rw [bcan_iff.2 hca])]) (Ev.bind (norm1_ev d (by omega)) ?_)
  by_cases hcd : BCan d
  ·refine Ev.congr (f := fun k => ir_Valid.j0 k (d.toList == ([1] : List UInt8)) n a d) (fun k => by rw [if_pos (by rw [bcan_iff.2 hcd])]) ?_
   by_cases hd1 : d.toList = ([1] : List UInt8)
   ·have hds : d.size ≠ 0 := by
     rw [tl_one] at hd1; rw [hd1, benc_size, nb_pos (by decide)]; omega
    have hb := (one_bcan hcd).1 (tl_one.1 hd1)
    have : ¬ Vld n a d := fun h => by
     by_cases hs : a.size = 0
     ·exact hds (h.2.2.1 hs).2
     ·rcases h.2.2.2 hs with h | h
      ·exact hds h
      ·exact h.1 hb
    have e : (d.toList == ([1] : List UInt8)) = true := beq_iff_eq.2 hd1
    rw [e]
    exact jT this
   ·have e : (d.toList == ([1] : List UInt8)) = false := beq_false_of_ne hd1
    rw [e]
    by_cases h0 : a.toList = ([] : List UInt8)
    ·have hs := tl_nil.1 h0
     by_cases hn : n = true
     ·have : ¬ Vld n a d := fun h => by have := (h.2.2.1 hs).1; rw [hn] at this; cases this
      refine Ev.step (f := fun _ => some false) (fun k => ?_) (by rw [decide_eq_false this]; exact Ev.now _)
      simp only [ir_Valid.j0]; rw [if_neg (by simp), if_pos h0, if_pos hn]
     ·have hn' : n = false := by simpa using hn
      have : decide (Vld n a d) = (d.toList == ([] : List UInt8)) := by
       by_cases hd0 : d.toList = ([] : List UInt8)
       ·rw [hd0]
        have : Vld n a d := ⟨hca, hcd, fun _ => ⟨hn', tl_nil.1 hd0⟩, fun h => absurd hs h⟩
        simpa using this
       ·have : ¬ Vld n a d := fun h => hd0 (tl_nil.2 (h.2.2.1 hs).2)
        rw [decide_eq_false this]
        exact (beq_false_of_ne hd0).symm
      rw [this]
      refine Ev.step (f := fun _ => some (d.toList == ([] : List UInt8))) (fun k => ?_) (Ev.now _)
      simp only [ir_Valid.j0]; rw [if_neg (by simp), if_pos h0, if_neg hn]
    ·have hs : a.size ≠ 0 := fun h => h0 (tl_nil.2 h)
     by_cases hd0 : d.toList = ([] : List UInt8)
     ·have : Vld n a d := ⟨hca, hcd, fun h => absurd h hs, fun _ => .inl (tl_nil.1 hd0)⟩
      refine Ev.step (f := fun _ => some true) (fun k => ?_) (by rw [decide_eq_true this]; exact Ev.now _)
      simp only [ir_Valid.j0]; rw [if_neg (by simp), if_neg h0, if_pos hd0]
     ·have hds : d.size ≠ 0 := fun h => hd0 (tl_nil.2 h)
      have hd1' : bval d ≠ 1 := fun h => hd1 (tl_one.2 ((one_bcan hcd).2 h))
      have : decide (Vld n a d) = ((benc (Nat.gcd (bval a) (bval d))).toList == ([1] : List UInt8)) := by
       by_cases hg : Nat.gcd (bval a) (bval d) = 1
       ·have : Vld n a d := ⟨hca, hcd, fun h => absurd h hs, fun _ => .inr ⟨hd1', hg⟩⟩
        rw [decide_eq_true this, benc_is_one.2 hg]; rfl
       ·have : ¬ Vld n a d := fun h => by
         rcases h.2.2.2 hs with h | h
         ·exact hds h
         ·exact hg h.2
        rw [decide_eq_false this]
        exact (beq_false_of_ne (fun h => hg (benc_is_one.1 h))).symm
      rw [this]
      refine Ev.step (f := fun k => (ir_GCD.f k a d).bind fun t786 => some (t786.toList == ([1] : List UInt8))) (fun k => ?_) (Ev.bind (GCD1_ev a d ha hd fa fd) (Ev.now _))
      simp only [ir_Valid.j0]; rw [if_neg (by simp), if_neg h0, if_neg hd0]
  ·refine Ev.congr (fun k => by rw [if_neg (fun h => hcd (bcan_iff.1 (tl_eq.1 h)))]) (jT (fun h => hcd h.2.1))
 ·exact Ev.congr (fun k => by rw [if_neg (fun h => hca (bcan_iff.1 (tl_eq.1 h)))]) (jT (fun h => hca h.1))
theorem Fix1_ev (n : Bool) (a d : ByteArray) (ha : a.size < 90000000) (hd : d.size < 90000000) (fa : Fit (bval a)) (fd : Fit (bval d)) : Ev (fun k => ir_Fix.f k n a d) (qN (toQ n a d), qA (toQ n a d), qD (toQ n a d)) := by
 refine Ev.bind (Valid1_ev n a d ha hd fa fd) ?_
 by_cases h : Vld n a d
 ·refine Ev.congr (f := fun _ => some (n, a, d)) (fun k => by rw [if_pos (by simpa using h)]) ?_
  obtain ⟨e1, e2, e3⟩ := q_vld h
  rw [e1, e2, e3]; exact Ev.now _
 ·refine Ev.congr (f := fun _ => some (false, (⟨#[]⟩ : ByteArray), (⟨#[]⟩ : ByteArray))) (fun k => by rw [if_neg (by simpa using h)]) ?_
  rw [not_vld h, qN_zero, qA_zero, qD_zero]; exact Ev.now _
theorem Fix1_q {q : Rat} (h : FitQ q) : Ev (fun k => ir_Fix.f k (qN q) (qA q) (qD q)) (qN q, qA q, qD q) := by
 have := Fix1_ev (qN q) (qA q) (qD q) h.A.1 h.D.1 h.A.2 h.D.2
 rw [toQ_q] at this
 exact this
theorem den1_q {q : Rat} (h : FitQ q) : Ev (fun k => ir_den.f k (qN q) (qA q) (qD q)) (lenc q.den) := by
 unfold ir_den.f
 by_cases h1 : q.den = 1
 ·refine Ev.congr (f := fun _ => some [(1 : Int)]) (fun k => by rw [if_pos (by unfold qD; rw [if_pos h1]; rw [tl_nil]; rfl)]) ?_
  rw [h1, lenc_pos (by decide)]; simp [lenc_zero]; exact Ev.now _
 ·have hl := limbs1_ev (qD q) (by have := h.D.1; omega)
  have e : bval (qD q) = q.den := by unfold qD; rw [if_neg h1, bval_benc]
  rw [e] at hl
  refine Ev.congr (fun k => by rw [if_neg (by unfold qD; rw [if_neg h1, benc_is_nil]; exact q.den_nz)]) (Ev.bind hl (Ev.now _))
theorem num_limbs {q : Rat} (h : FitQ q) : Ev (fun k => ir_limbs.f k (qA q)) (lenc q.num.natAbs) := by
 have := limbs1_ev (qA q) (by have := h.A.1; omega)
 have e : bval (qA q) = q.num.natAbs := by unfold qA; rw [bval_benc]
 rwa [e] at this
theorem FitA.n1 {p q : Rat} (h : FitA p q) : Fit (p.num.natAbs * q.den) := h.1.mono (Nat.le_add_right _ _)
theorem FitA.n2 {p q : Rat} (h : FitA p q) : Fit (q.num.natAbs * p.den) := h.1.mono (Nat.le_add_left _ _)
theorem Plus_q {p q : Rat} (h : FitA p q) : Ev (fun k => ir_Plus.f k (qN p) (qA p) (qD p) (qN q) (qA q) (qD q)) (qN (p + q), qA (p + q), qD (p + q)) := by
 have hp := h.l
 have hq := h.r
 unfold ir_Plus.f
 by_cases hp0 : p.num = 0
 ·refine Ev.congr (f := fun _ => some (qN q, qA q, qD q)) (fun k => by rw [if_pos (qA_nil.2 hp0)]) ?_
  rw [Rat.num_eq_zero.1 hp0, Rat.zero_add]; exact Ev.now _
 by_cases hq0 : q.num = 0
 ·refine Ev.congr (f := fun _ => some (qN p, qA p, qD p)) (fun k => by rw [if_neg (fun e => hp0 (qA_nil.1 e)), if_pos (qA_nil.2 hq0)]) ?_
  rw [Rat.num_eq_zero.1 hq0, Rat.add_zero]; exact Ev.now _
 refine Ev.congr (fun k => by rw [if_neg (fun e => hp0 (qA_nil.1 e)), if_neg (fun e => hq0 (qA_nil.1 e))]) ?_
 have hd0 : 0 < p.den * q.den := Nat.mul_pos p.den_pos q.den_pos
 refine Ev.bind (den1_q hp) (Ev.bind (den1_q hq) (Ev.bind (num_limbs hp) (Ev.bind (times_ev hp.1.nl hq.2.nl) (Ev.bind (num_limbs hq) (Ev.bind (times_ev hq.1.nl hp.2.nl) (Ev.bind (times_ev hp.2.nl hq.2.nl) ?_))))))
 have hsum : p + q = mkRat (p.num * q.den + q.num * p.den) (p.den * q.den) := Rat.add_def' p q
 have ep : p.num * q.den = sgn (qN p) (p.num.natAbs * q.den) := by rw [sgn_mul, sgn_qA]
 have eq : q.num * p.den = sgn (qN q) (q.num.natAbs * p.den) := by rw [sgn_mul, sgn_qA]
 by_cases hn : qN p = qN q
 ·have e : (qN p == qN q) = true := by rw [hn]; simp
  have er : p.num * q.den + q.num * p.den = sgn (qN p) (p.num.natAbs * q.den + q.num.natAbs * p.den) := by rw [ep, eq, ← hn, sgn_add_same]
  have hr := reduced1_ev (qN p) h.1 h.2 hd0
  rw [← er, ← hsum] at hr
  refine Ev.congr (fun k => by rw [if_pos e]) (Ev.bind (plus_ev h.n1.nl h.n2.nl) (Ev.bind hr (Ev.now _)))
 ·have e : ¬ (qN p == qN q) = true := by simpa using hn
  have ho := order_ev (lenc_can (p.num.natAbs * q.den)) (lenc_can (q.num.natAbs * p.den)) (by have := h.n1.nl; omega) (by have := h.n2.nl; omega)
  rw [lenc_val, lenc_val] at ho
  refine Ev.congr (fun k => by rw [if_neg e]) (Ev.bind ho ?_)
  by_cases hlt : p.num.natAbs * q.den < q.num.natAbs * p.den
  ·have er : p.num * q.den + q.num * p.den = sgn (qN q) (q.num.natAbs * p.den - p.num.natAbs * q.den) := by
    rw [ep, eq, sgn_sub_one (m := qN q) (n := qN p) (fun e => hn e.symm) (by omega), Int.add_comm]
   have hr := reduced1_ev (qN q) (h.n2.mono (Nat.sub_le _ (p.num.natAbs * q.den))) h.2 hd0
   rw [← er, ← hsum] at hr
   refine Ev.congr (fun k => by rw [if_pos (by rw [sg_neg (by omega)]; omega)]) (Ev.bind (minus_ev (by omega) h.n2.nl) (Ev.bind hr (Ev.now _)))
  ·have er : p.num * q.den + q.num * p.den = sgn (qN p) (p.num.natAbs * q.den - q.num.natAbs * p.den) := by
    rw [ep, eq, sgn_sub_one (m := qN p) (n := qN q) hn (by omega)]
   have hr := reduced1_ev (qN p) (h.n1.mono (Nat.sub_le _ (q.num.natAbs * p.den))) h.2 hd0
   rw [← er, ← hsum] at hr
   refine Ev.congr (fun k => by rw [if_neg (by unfold sg; rw [if_neg (by omega)]; split <;> omega)]) (Ev.bind (minus_ev (by omega) h.n1.nl) (Ev.bind hr (Ev.now _)))
theorem Opposite_q (q : Rat) : ir_Opposite.f (qN q) (qA q) (qD q) = some (qN (-q), qA (-q), qD (-q)) := by
 have e2 : qA (-q) = qA q := by unfold qA; simp
 have e3 : qD (-q) = qD q := by unfold qD; simp
 unfold ir_Opposite.f
 rw [e2, e3]
 by_cases h : q.num = 0
 ·rw [if_pos (qA_nil.2 h)]
  rw [Rat.num_eq_zero.1 h]; rfl
 ·rw [if_neg (fun e => h (qA_nil.1 e))]
  have : (!qN q) = qN (-q) := by
   unfold qN
   rw [Rat.neg_num]
   by_cases h1 : q.num < 0
   ·rw [decide_eq_true h1, decide_eq_false (by omega)]; rfl
   ·rw [decide_eq_false h1, decide_eq_true (by omega)]; rfl
  rw [this]
theorem Minus_q {p q : Rat} (h : FitA p q) : Ev (fun k => ir_Minus.f k (qN p) (qA p) (qD p) (qN q) (qA q) (qD q)) (qN (p - q), qA (p - q), qD (p - q)) := by
 unfold ir_Minus.f
 rw [Rat.sub_eq_add_neg]
 refine Ev.congr (fun k => by rw [Opposite_q, bs]) (Ev.bind (Plus_q h.neg) (Ev.now _))
theorem Signum_q (q : Rat) : ir_Signum.f (qN q) (qA q) (qD q) = some (sg q.num) := by
 unfold ir_Signum.f
 by_cases h : q.num = 0
 ·rw [if_pos (qA_nil.2 h), h]; rfl
 ·rw [if_neg (fun e => h (qA_nil.1 e))]
  by_cases h1 : q.num < 0
  ·rw [if_pos (by unfold qN; simpa using h1), sg_neg h1]
  ·rw [if_neg (by unfold qN; simpa using h1), sg_pos (by omega)]
theorem Less_q {p q : Rat} (h : FitA p q) : Ev (fun k => ir_Less.f k (qN p) (qA p) (qD p) (qN q) (qA q) (qD q)) (decide (p < q)) := by
 refine Ev.bind (Minus_q h) (Ev.congr (fun k => by rw [Signum_q, bs]) (f := fun _ => some (decide (sg (p - q).num < 0))) ?_)
 have : decide (sg (p - q).num < 0) = decide (p < q) := by
  have a : sg (p - q).num < 0 ↔ p < q := by
   have b : (p - q).num < 0 ↔ p - q < 0 := by rw [Rat.lt_iff]; simp
   have c : p - q < 0 ↔ p < q := by grind
   rw [← c, ← b]
   unfold sg
   split
   ·omega
   ·split <;> omega
  by_cases hh : p < q
  ·rw [decide_eq_true hh, decide_eq_true (a.2 hh)]
  ·rw [decide_eq_false hh, decide_eq_false (fun e => hh (a.1 e))]
 rw [this]; exact Ev.now _
theorem Lesser_q {p q : Rat} (h : FitA p q) : Ev (fun k => ir_Lesser.f k (qN p) (qA p) (qD p) (qN q) (qA q) (qD q)) (qN (if q < p then q else p), qA (if q < p then q else p), qD (if q < p then q else p)) := by
 refine Ev.bind (Less_q h.symm) ?_
 by_cases hh : q < p
 ·exact Ev.congr (f := fun _ => some (qN q, qA q, qD q)) (fun k => by rw [if_pos (by simpa using hh)]) (by rw [if_pos hh]; exact Ev.now _)
 ·exact Ev.congr (f := fun _ => some (qN p, qA p, qD p)) (fun k => by rw [if_neg (by simpa using hh)]) (by rw [if_neg hh]; exact Ev.now _)
theorem Greater_q {p q : Rat} (h : FitA p q) : Ev (fun k => ir_Greater.f k (qN p) (qA p) (qD p) (qN q) (qA q) (qD q)) (qN (if p < q then q else p), qA (if p < q then q else p), qD (if p < q then q else p)) := by
 refine Ev.bind (Less_q h) ?_
 by_cases hh : p < q
 ·exact Ev.congr (f := fun _ => some (qN q, qA q, qD q)) (fun k => by rw [if_pos (by simpa using hh)]) (by rw [if_pos hh]; exact Ev.now _)
 ·exact Ev.congr (f := fun _ => some (qN p, qA p, qD p)) (fun k => by rw [if_neg (by simpa using hh)]) (by rw [if_neg hh]; exact Ev.now _)
noncomputable def QS (s : S25) : Rat := toQ s.f0 s.f1 s.f2
def FewS (s : S25) : Prop := s.f1.size ≤ 24 ∧ s.f2.size ≤ 24
theorem fit_nb {n : Nat} (h : nb n ≤ 10000000) : Fit n := by
 have := nl_nb' n
 unfold Fit; omega
theorem fit_raw {s : ByteArray} (h : s.size ≤ 24) : s.size < 90000000 ∧ Fit (bval s) := ⟨by omega, fit_nb (by have := nb_bval s; omega)⟩
theorem fit_sz {p q : Rat} (hp : sz p ≤ 2000000) (hq : sz q ≤ 2000000) : FitA p q := by
 have h3 := nb_add (p.num.natAbs * q.den) (q.num.natAbs * p.den)
 have h4 := nb_mul p.num.natAbs q.den
 have h5 := nb_mul q.num.natAbs p.den
 have h6 := nb_mul p.den q.den
 unfold sz at hp hq
 exact ⟨fit_nb (by omega), fit_nb (by omega)⟩
theorem sz_QS {s : S25} (h : FewS s) : sz (QS s) ≤ 49 := by
 have := sz_toQ s.f0 s.f1 s.f2
 have := h.1
 have := h.2
 unfold QS; omega
theorem clean_raw {s : S25} (h : FewS s) : Ev (fun k => rt_clean.f k s.f0 s.f1 s.f2) (qN (QS s), qA (QS s), qD (QS s)) :=
 clean_ev _ _ _ (fit_raw h.1).1 (fit_raw h.2).1 (fit_raw h.1).2 (fit_raw h.2).2
theorem Fix1_raw {s : S25} (h : FewS s) : Ev (fun k => ir_Fix.f k s.f0 s.f1 s.f2) (qN (QS s), qA (QS s), qD (QS s)) :=
 Fix1_ev _ _ _ (fit_raw h.1).1 (fit_raw h.2).1 (fit_raw h.1).2 (fit_raw h.2).2
theorem Ev.is {α : Type} {x : Option α} {a : α} (h : x = some a) : Ev (fun _ => x) a := ⟨0, fun _ _ => h⟩
theorem Ev.swap {α β : Type} {g g' : Nat → Option α} {H : Nat → α → Option β} {a : α} {r : β} (h : Ev g a) (h' : Ev g' a) (e : Ev (fun k => (g k).bind (H k)) r) : Ev (fun k => (g' k).bind (H k)) r := by
 obtain ⟨K1, h1⟩ := h
 obtain ⟨K2, h2⟩ := h'
 obtain ⟨K3, h3⟩ := e
 refine ⟨max K1 (max K2 K3), fun k hk => ?_⟩
 have a1 := h1 k (by omega)
 have a2 := h2 k (by omega)
 have a3 := h3 k (by omega)
 simp only [a1] at a3
 simp only [a2]
 exact a3
theorem Ev.unbind {α β : Type} {g : Nat → Option α} {H : Nat → α → Option β} {a : α} {r : β} (h : Ev g a) (e : Ev (fun k => (g k).bind (H k)) r) : Ev (fun k => H k a) r := by
 obtain ⟨K1, h1⟩ := h
 obtain ⟨K3, h3⟩ := e
 refine ⟨max K1 K3, fun k hk => ?_⟩
 have a1 := h1 k (by omega)
 have a3 := h3 k (by omega)
 simp only [a1] at a3
 exact a3
theorem Compare_qr {p : Rat} {t : S25} (h2 : FewS t) (hf : FitA p (QS t)) : Ev (fun k => rt_Compare.f k (qN p) (qA p) (qD p) t.f0 t.f1 t.f2) (sg (dif p (QS t))) := by
 have := Ev.unbind (clean_q hf.l) (Compare_q hf)
 exact Ev.bind (clean_q hf.l) (Ev.swap (clean_q hf.r) (clean_raw h2) this)
theorem Add_raw {s : S25} {q : Rat} (h : FewS s) (hf : FitA (QS s) q) : Ev (fun k => rt_Add.f k s.f0 s.f1 s.f2 (qN q) (qA q) (qD q)) (qN (QS s + q), qA (QS s + q), qD (QS s + q)) :=
 Ev.swap (clean_q hf.l) (clean_raw h) (Add_q hf)
theorem few_ev (s : S25) : ik_Few.f s.f0 s.f1 s.f2 = some (decide (s.f1.size ≤ 24) && decide (s.f2.size ≤ 24)) := by
 unfold ik_Few.f
 by_cases h : s.f1.size ≤ 24
 ·rw [if_pos (by omega), decide_eq_true h, Bool.true_and]
  congr 1
  by_cases h2 : s.f2.size ≤ 24
  ·rw [decide_eq_true h2, decide_eq_true (by omega)]
  ·rw [decide_eq_false h2, decide_eq_false (by omega)]
 ·rw [if_neg (by omega), decide_eq_false h]; rfl
noncomputable def gq (p q : Rat) : Rat := if p < q then q else p
noncomputable def lq (p q : Rat) : Rat := if q < p then q else p
def FewO (l : List S54) : Prop := ∀ o ∈ l, FewS o.f0
theorem rd_O (l : List S54) (i : Nat) : rd_T54 l (i : Int) = l.getD i z54 := by unfold rd_T54; rw [Int.toNat_natCast]
theorem fewO_get {l : List S54} (hl : FewO l) (i : Nat) (h : i < l.length) : FewS (l.getD i z54).f0 := by
 rw [List.getD_eq_getElem?_getD, List.getElem?_eq_getElem h]; exact hl _ (List.getElem_mem _)
theorem sz_gq {p q : Rat} (hp : sz p ≤ 60) (hq : sz q ≤ 60) : sz (gq p q) ≤ 60 := by unfold gq; split <;> assumption
theorem sz_lq {p q : Rat} (hp : sz p ≤ 60) (hq : sz q ≤ 60) : sz (lq p q) ≤ 60 := by unfold lq; split <;> assumption
theorem gq_self (p : Rat) : gq p p = p := by unfold gq; split <;> rfl
theorem lq_self (p : Rat) : lq p p = p := by unfold lq; split <;> rfl
theorem Max_qr {p : Rat} {t : S25} (h : FewS t) (hp : sz p ≤ 60) : Ev (fun k => rt_Max.f k (qN p) (qA p) (qD p) t.f0 t.f1 t.f2) (qN (gq p (QS t)), qA (gq p (QS t)), qD (gq p (QS t))) := by
 have hz := sz_QS h
 have hf : FitA p (QS t) := fit_sz (by omega) (by omega)
 refine Ev.bind (Compare_qr h hf) ?_
 unfold gq
 by_cases hl : p < QS t
 ·rw [if_pos hl]
  exact Ev.congr (fun k => by rw [if_neg (by rw [sg_neg (dif_lt.2 hl)]; omega)]) (Ev.bind (f := fun _ bt => some (bt.1, bt.2.1, bt.2.2)) (clean_raw h) (Ev.now _))
 ·rw [if_neg hl]
  have : ¬ dif p (QS t) < 0 := fun hh => hl (dif_lt.1 hh)
  exact Ev.congr (fun k => by rw [if_pos (by unfold sg; rw [if_neg this]; split <;> omega)]) (Ev.bind (f := fun _ bt => some (bt.1, bt.2.1, bt.2.2)) (clean_q hf.l) (Ev.now _))
theorem Min_qr {p : Rat} {t : S25} (h : FewS t) (hp : sz p ≤ 60) : Ev (fun k => rt_Min.f k (qN p) (qA p) (qD p) t.f0 t.f1 t.f2) (qN (lq p (QS t)), qA (lq p (QS t)), qD (lq p (QS t))) := by
 have hz := sz_QS h
 have hf : FitA p (QS t) := fit_sz (by omega) (by omega)
 refine Ev.bind (Compare_qr h hf) ?_
 unfold lq
 by_cases hl : QS t < p
 ·rw [if_pos hl]
  exact Ev.congr (fun k => by rw [if_neg (by rw [sg_pos (dif_gt.2 hl)]; omega)]) (Ev.bind (f := fun _ bt => some (bt.1, bt.2.1, bt.2.2)) (clean_raw h) (Ev.now _))
 ·rw [if_neg hl]
  have : ¬ 0 < dif p (QS t) := fun hh => hl (dif_gt.1 hh)
  exact Ev.congr (fun k => by rw [if_pos (by unfold sg; split <;> (try split) <;> omega)]) (Ev.bind (f := fun _ bt => some (bt.1, bt.2.1, bt.2.2)) (clean_q hf.l) (Ev.now _))
theorem Max1_qr {p : Rat} {t : S25} (h : FewS t) (hp : sz p ≤ 60) : Ev (fun k => ir_Max.f k (qN p) (qA p) (qD p) t.f0 t.f1 t.f2) (qN (gq p (QS t)), qA (gq p (QS t)), qD (gq p (QS t))) := by
 have hz := sz_QS h
 have hf : FitA p (QS t) := fit_sz (by omega) (by omega)
 exact Ev.bind (Fix1_q hf.l) (Ev.bind (Fix1_raw h) (Ev.bind (Greater_q hf) (Ev.now _)))
theorem Min1_qr {p : Rat} {t : S25} (h : FewS t) (hp : sz p ≤ 60) : Ev (fun k => ir_Min.f k (qN p) (qA p) (qD p) t.f0 t.f1 t.f2) (qN (lq p (QS t)), qA (lq p (QS t)), qD (lq p (QS t))) := by
 have hz := sz_QS h
 have hf : FitA p (QS t) := fit_sz (by omega) (by omega)
 exact Ev.bind (Fix1_q hf.l) (Ev.bind (Fix1_raw h) (Ev.bind (Lesser_q hf) (Ev.now _)))
theorem clean2_raw {t : S25} (h : FewS t) : Ev (fun k => dp_clean.f k t.f0 t.f1 t.f2) (qN (QS t), qA (QS t), qD (QS t)) := by
 have hz := sz_QS h
 have hf : FitA (QS t) 0 := fit_sz (by omega) (by rw [sz_zero]; omega)
 have := Add_raw h hf
 rw [qN_zero, qA_zero, qD_zero, Rat.add_zero] at this
 exact Ev.bind this (Ev.now _)
theorem greatest_l0 (l : List S54) (hl : FewO l) (hn : l.length ≤ 100) (x y : Int) (d : Nat) : ∀ (i : Nat) (p : Rat) (r : Int), i + d = l.length → 1 ≤ i → sz p ≤ 60 →
  ∃ q s, sz q ≤ 60 ∧ Ev (fun k => dp_Greatest.l0 k l (l.length : Int) (i : Int) (qN p) (qA p) (qD p) r) (qN q, qA q, qD q, s) ∧ Ev (fun k => iq_Greatest.l0 k (i : Int) x y l (qN p) (qA p) (qD p) r) (qN q, qA q, qD q, s) := by
 induction d with
 | zero =>
  intro i p r hi h1 hp
  refine ⟨p, r, hp, Ev.step (f := fun _ => some (qN p, qA p, qD p, r)) (fun k => ?_) (Ev.now _), Ev.step (f := fun _ => some (qN p, qA p, qD p, r)) (fun k => ?_) (Ev.now _)⟩
  ·simp only [dp_Greatest.l0]; rw [if_neg (by omega)]
  ·simp only [iq_Greatest.l0]; rw [if_neg (by omega)]
 | succ d ih =>
  intro i p r hi h1 hp
  have hil : i < l.length := by omega
  have hfr := fewO_get hl i hil
  obtain ⟨o, ho⟩ : ∃ o, l.getD i z54 = o := ⟨_, rfl⟩
  rw [ho] at hfr
  have hz := sz_QS hfr
  have e1 := nS i (by omega)
  obtain ⟨q, s, hq, ha, hb⟩ := ih (i + 1) (gq p (QS o.f0)) (mn r o.f1) (by omega) (by omega) (sz_gq hp (by omega))
  refine ⟨q, s, hq, Ev.step (f := fun k => (rt_Max.f k (qN p) (qA p) (qD p) o.f0.f0 o.f0.f1 o.f0.f2).bind fun b => dp_Greatest.l0 k l (l.length : Int) ((i + 1 : Nat) : Int) b.1 b.2.1 b.2.2 (mn r o.f1)) (fun k => ?_) (Ev.bind (Max_qr hfr hp) ha), Ev.step (f := fun k => (ir_Max.f k (qN p) (qA p) (qD p) o.f0.f0 o.f0.f1 o.f0.f2).bind fun b => iq_Greatest.l0 k ((i + 1 : Nat) : Int) x y l b.1 b.2.1 b.2.2 (mn r o.f1)) (fun k => ?_) (Ev.bind (Max1_qr hfr hp) hb)⟩
  ·simp only [dp_Greatest.l0, rd_O, ho, e1]
   clear e1
   rw [if_pos (by omega), if_pos (by omega), if_pos (by omega), if_neg (by omega)]
  ·simp only [iq_Greatest.l0, rd_O, ho, e1]
   clear e1
   rw [if_pos (by omega), if_pos (by omega)]
theorem greatest_same (l : List S54) (hl : FewO l) (hn : l.length ≤ 100) (x y : Int) :
  ∃ b a d s, Ev (fun k => dp_Greatest.f k x y l) (b, a, d, s) ∧ Ev (fun k => iq_Greatest.f k x y l) (b, a, d, s) := by
 by_cases h0 : l.length = 0
 ·refine ⟨false, (⟨#[]⟩ : ByteArray), (⟨#[]⟩ : ByteArray), 0, Ev.step (f := fun _ => some (false, (⟨#[]⟩ : ByteArray), (⟨#[]⟩ : ByteArray), (0 : Int))) (fun k => ?_) (Ev.now _), Ev.congr (f := fun _ => some (false, (⟨#[]⟩ : ByteArray), (⟨#[]⟩ : ByteArray), (0 : Int))) (fun k => ?_) (Ev.now _)⟩
  ·simp only [dp_Greatest.f, dp_Greatest.l0]; rw [if_neg (by omega)]
  ·simp only [iq_Greatest.f]; rw [if_pos (by omega)]
 ·have hfr := fewO_get hl 0 (by omega)
  obtain ⟨o, ho⟩ : ∃ o, l.getD 0 z54 = o := ⟨_, rfl⟩
  rw [ho] at hfr
  have hz := sz_QS hfr
  have hr0 : rd_T54 l 0 = o := (rd_O l 0).trans ho
  have e1 : wrap64 ((0 : Int) + 1) = ((1 : Nat) : Int) := nS 0 (by decide)
  obtain ⟨q, s, hq, ha, hb⟩ := greatest_l0 l hl hn x y (l.length - 1) 1 (QS o.f0) o.f1 (by omega) (by omega) (by omega)
  refine ⟨qN q, qA q, qD q, s, ?_, ?_⟩
  ·unfold dp_Greatest.f
   refine Ev.step (f := fun k => (dp_clean.f k o.f0.f0 o.f0.f1 o.f0.f2).bind fun b => dp_Greatest.l0 k l (l.length : Int) ((1 : Nat) : Int) b.1 b.2.1 b.2.2 o.f1) (fun k => ?_) (Ev.bind (clean2_raw hfr) ha)
   simp only [dp_Greatest.l0, hr0, e1]
   rw [if_pos (by omega), if_pos (by omega), if_pos (by omega), if_pos trivial]
  ·unfold iq_Greatest.f
   simp only [hr0]
   refine Ev.congr (fun k => by rw [if_neg (by omega), if_pos (by omega)]) (Ev.bind (f := fun k bt1293 => iq_Greatest.l0 k 0 x y l bt1293.1 bt1293.2.1 bt1293.2.2 o.f1) (Fix1_raw hfr) ?_)
   refine Ev.step (f := fun k => (ir_Max.f k (qN (QS o.f0)) (qA (QS o.f0)) (qD (QS o.f0)) o.f0.f0 o.f0.f1 o.f0.f2).bind fun b => iq_Greatest.l0 k ((1 : Nat) : Int) x y l b.1 b.2.1 b.2.2 (mn o.f1 o.f1)) (fun k => ?_) (Ev.bind (Max1_qr hfr (by omega)) ?_)
   ·simp only [iq_Greatest.l0, hr0, e1]
    rw [if_pos (by omega), if_pos (by omega)]
   ·rw [gq_self, show mn o.f1 o.f1 = o.f1 by unfold mn; split <;> rfl]; exact hb
theorem certain_l0 (l : List S54) (hl : FewO l) (hn : l.length ≤ 100) (x y : Int) (d : Nat) : ∀ (i : Nat) (p : Rat), i + d = l.length → 1 ≤ i → sz p ≤ 60 →
  ∃ b a e, Ev (fun k => dp_Certain.l0 k l (l.length : Int) (i : Int) x y l (qN p) (qA p) (qD p)) (b, a, e) ∧ Ev (fun k => iq_Certain.l0 k (i : Int) x y l (qN p) (qA p) (qD p)) (b, a, e) := by
 induction d with
 | zero =>
  intro i p hi h1 hp
  refine ⟨qN p, qA p, qD p, Ev.step (f := fun _ => some (qN p, qA p, qD p)) (fun k => ?_) (Ev.now _), Ev.step (f := fun _ => some (qN p, qA p, qD p)) (fun k => ?_) (Ev.now _)⟩
  ·simp only [dp_Certain.l0]; rw [if_neg (by omega)]
  ·simp only [iq_Certain.l0]; rw [if_neg (by omega)]
 | succ d ih =>
  intro i p hi h1 hp
  have hil : i < l.length := by omega
  have hfr := fewO_get hl i hil
  obtain ⟨o, ho⟩ : ∃ o, l.getD i z54 = o := ⟨_, rfl⟩
  rw [ho] at hfr
  obtain ⟨z, hz0⟩ : ∃ z, rd_T54 l 0 = z := ⟨_, rfl⟩
  have hz := sz_QS hfr
  have e1 := nS i (by omega)
  by_cases hc : o.f1 = z.f1
  ·obtain ⟨b, a, e, ha, hb⟩ := ih (i + 1) (lq p (QS o.f0)) (by omega) (by omega) (sz_lq hp (by omega))
   refine ⟨b, a, e, Ev.step (f := fun k => (rt_Min.f k (qN p) (qA p) (qD p) o.f0.f0 o.f0.f1 o.f0.f2).bind fun b => dp_Certain.l0 k l (l.length : Int) ((i + 1 : Nat) : Int) x y l b.1 b.2.1 b.2.2) (fun k => ?_) (Ev.bind (Min_qr hfr hp) ha), Ev.step (f := fun k => (ir_Min.f k (qN p) (qA p) (qD p) o.f0.f0 o.f0.f1 o.f0.f2).bind fun b => iq_Certain.l0 k ((i + 1 : Nat) : Int) x y l b.1 b.2.1 b.2.2) (fun k => ?_) (Ev.bind (Min1_qr hfr hp) hb)⟩
   ·simp only [dp_Certain.l0, rd_O, ho, hz0, e1]
    clear e1
    rw [if_pos (by omega), if_pos (by omega), if_pos (by omega), if_pos (by omega), if_pos hc, if_neg (by omega)]
   ·simp only [iq_Certain.l0, rd_O, ho, hz0, e1]
    clear e1
    rw [if_pos (by omega), if_pos (by omega), if_pos (by omega), if_pos hc]
  ·refine ⟨false, (⟨#[]⟩ : ByteArray), (⟨#[]⟩ : ByteArray), Ev.step (f := fun _ => some (false, (⟨#[]⟩ : ByteArray), (⟨#[]⟩ : ByteArray))) (fun k => ?_) (Ev.now _), Ev.step (f := fun _ => some (false, (⟨#[]⟩ : ByteArray), (⟨#[]⟩ : ByteArray))) (fun k => ?_) (Ev.now _)⟩
   ·simp only [dp_Certain.l0, rd_O, ho, hz0]
    clear e1
    rw [if_pos (by omega), if_pos (by omega), if_pos (by omega), if_pos (by omega), if_neg hc]
   ·simp only [iq_Certain.l0, rd_O, ho, hz0]
    clear e1
    rw [if_pos (by omega), if_pos (by omega), if_pos (by omega), if_neg hc]
theorem certain_same (l : List S54) (hl : FewO l) (hn : l.length ≤ 100) (x y : Int) :
  ∃ b a d, Ev (fun k => dp_Certain.f k x y l) (b, a, d) ∧ Ev (fun k => iq_Certain.f k x y l) (b, a, d) := by
 by_cases h0 : l.length = 0
 ·refine ⟨false, (⟨#[]⟩ : ByteArray), (⟨#[]⟩ : ByteArray), Ev.step (f := fun _ => some (false, (⟨#[]⟩ : ByteArray), (⟨#[]⟩ : ByteArray))) (fun k => ?_) (Ev.now _), Ev.congr (f := fun _ => some (false, (⟨#[]⟩ : ByteArray), (⟨#[]⟩ : ByteArray))) (fun k => ?_) (Ev.now _)⟩
  ·simp only [dp_Certain.f, dp_Certain.l0]; rw [if_neg (by omega)]
  ·simp only [iq_Certain.f]; rw [if_pos (by omega)]
 ·have hfr := fewO_get hl 0 (by omega)
  obtain ⟨o, ho⟩ : ∃ o, l.getD 0 z54 = o := ⟨_, rfl⟩
  rw [ho] at hfr
  have hz := sz_QS hfr
  have hr0 : rd_T54 l 0 = o := (rd_O l 0).trans ho
  have e1 : wrap64 ((0 : Int) + 1) = ((1 : Nat) : Int) := nS 0 (by decide)
  obtain ⟨b, a, e, ha, hb⟩ := certain_l0 l hl hn x y (l.length - 1) 1 (QS o.f0) (by omega) (by omega) (by omega)
  refine ⟨b, a, e, ?_, ?_⟩
  ·unfold dp_Certain.f
   refine Ev.step (f := fun k => (dp_clean.f k o.f0.f0 o.f0.f1 o.f0.f2).bind fun b => dp_Certain.l0 k l (l.length : Int) ((1 : Nat) : Int) x y l b.1 b.2.1 b.2.2) (fun k => ?_) (Ev.bind (clean2_raw hfr) ha)
   simp only [dp_Certain.l0, hr0, e1]
   rw [if_pos (by omega), if_pos (by omega), if_pos (by omega), if_pos (by omega), if_pos trivial, if_pos trivial]
  ·unfold iq_Certain.f
   simp only [hr0]
   refine Ev.congr (fun k => by rw [if_neg (by omega), if_pos (by omega)]) (Ev.bind (f := fun k bt1330 => iq_Certain.l0 k 0 x y l bt1330.1 bt1330.2.1 bt1330.2.2) (Fix1_raw hfr) ?_)
   refine Ev.step (f := fun k => (ir_Min.f k (qN (QS o.f0)) (qA (QS o.f0)) (qD (QS o.f0)) o.f0.f0 o.f0.f1 o.f0.f2).bind fun b => iq_Certain.l0 k ((1 : Nat) : Int) x y l b.1 b.2.1 b.2.2) (fun k => ?_) (Ev.bind (Min1_qr hfr (by omega)) ?_)
   ·simp only [iq_Certain.l0, hr0, e1]
    rw [if_pos (by omega), if_pos (by omega), if_pos (by omega), if_pos trivial]
   ·rw [lq_self]; exact hb
theorem rd_one (d : S50) : rd_T50 [d] 0 = d := rfl
theorem fewopts_l1 (d : S50) (hn : d.f1.length ≤ 6) (m : Nat) : ∀ i : Nat, i + m = d.f1.length → ∃ b, Ev (fun k => il_few.l1 k [d] 0 (i : Int)) b ∧ (b = true → ∀ j, i ≤ j → j < d.f1.length → FewS (d.f1.getD j z54).f0) := by
 induction m with
 | zero =>
  intro i hi
  refine ⟨true, Ev.step (f := fun k => il_few.l0 k [d] (wrap64 (0 + 1))) (fun k => ?_) (Ev.step (f := fun _ => some true) (fun k => ?_) (Ev.now _)), fun _ j h1 h2 => by omega⟩
  ·rw [il_few.l1, if_pos (show (0 : Int) ≤ 0 by decide), if_pos (show (0 : Int) < (([d] : List S50).length : Int) by simp), rd_one, if_neg (show ¬ ((i : Int) < (d.f1.length : Int)) by omega)]
  ·have e : wrap64 (0 + 1) = ((0 + 1 : Nat) : Int) := nS 0 (by omega)
   rw [e, il_few.l0, if_neg (by simp)]
 | succ m ih =>
  intro i hi
  obtain ⟨b, hb, hc⟩ := ih (i + 1) (by omega)
  obtain ⟨r, hr⟩ : ∃ r, d.f1.getD i z54 = r := ⟨_, rfl⟩
  by_cases hf : FewS r.f0
  ·refine ⟨b, Ev.step (fun k => ?_) hb, fun e j h1 h2 => ?_⟩
   ·rw [il_few.l1, if_pos (show (0 : Int) ≤ 0 by decide), if_pos (show (0 : Int) < (([d] : List S50).length : Int) by simp), rd_one, if_pos (show (i : Int) < (d.f1.length : Int) by omega), if_pos (show (0 : Int) ≤ (i : Int) by omega), rd_O, hr, nS i (by omega), few_ev, bs, decide_eq_true hf.1, decide_eq_true hf.2]; rfl
   ·by_cases e2 : j = i
    ·rw [e2, hr]; exact hf
    ·exact hc e j (by omega) h2
  ·refine ⟨false, Ev.step (f := fun _ => some false) (fun k => ?_) (Ev.now _), fun e => by cases e⟩
   have : (decide (r.f0.f1.size ≤ 24) && decide (r.f0.f2.size ≤ 24)) = false := by
    rw [Bool.eq_false_iff]
    intro e
    simp only [Bool.and_eq_true, decide_eq_true_eq] at e
    exact hf e
   rw [il_few.l1, if_pos (show (0 : Int) ≤ 0 by decide), if_pos (show (0 : Int) < (([d] : List S50).length : Int) by simp), rd_one, if_pos (show (i : Int) < (d.f1.length : Int) by omega), if_pos (show (0 : Int) ≤ (i : Int) by omega), rd_O, hr, few_ev, bs, this]; rfl
theorem fewopts_ev (d : S50) : ∃ b, Ev (fun k => il_few.f k [d]) b ∧ (b = true → d.f1.length ≤ 6 ∧ FewO d.f1) := by
 have f0 : ∀ k, il_few.f k [d] = il_few.l0 k [d] 0 := fun k => by unfold il_few.f; rw [if_neg (by simp)]
 by_cases h : d.f1.length ≤ 6
 ·obtain ⟨b, hb, hc⟩ := fewopts_l1 d h d.f1.length 0 (by omega)
  refine ⟨b, Ev.congr f0 (Ev.step (fun k => ?_) hb), fun e => ⟨h, fun x hx => ?_⟩⟩
  ·rw [il_few.l0, if_pos (show (0 : Int) < (([d] : List S50).length : Int) by simp), if_pos (show (0 : Int) ≤ 0 by decide), rd_one, if_neg (show ¬ ((d.f1.length : Int) > 6) by omega)]; rfl
  ·obtain ⟨j, hj, rfl⟩ := List.getElem_of_mem hx
   have := hc e j (by omega) hj
   rwa [List.getD_eq_getElem?_getD, List.getElem?_eq_getElem hj] at this
 ·refine ⟨false, Ev.congr f0 (Ev.step (f := fun _ => some false) (fun k => ?_) (Ev.now _)), fun e => by cases e⟩
  rw [il_few.l0, if_pos (show (0 : Int) < (([d] : List S50).length : Int) by simp), if_pos (show (0 : Int) ≤ 0 by decide), rd_one, if_pos (show (d.f1.length : Int) > 6 by omega)]
theorem awake22_some : il_awake.f 40 = some true := by decide +kernel
theorem bounds_law (e c : Int) (l : List S54) : ∃ (K : Nat) (t g1 : Bool) (g2 g3 : ByteArray) (g4 : Int) (q1 : Bool) (q2 q3 : ByteArray), il_few.f K [(⟨⟨e, c⟩, l⟩ : S50)] = some t ∧
  (t = true → dp_Greatest.f K e c l = some (g1, g2, g3, g4)) ∧ (t = true → iq_Greatest.f K e c l = some (g1, g2, g3, g4)) ∧
  (t = true → dp_Certain.f K e c l = some (q1, q2, q3)) ∧ (t = true → iq_Certain.f K e c l = some (q1, q2, q3)) := by
 obtain ⟨t, hf, ht⟩ := fewopts_ev (⟨⟨e, c⟩, l⟩ : S50)
 cases t with
 | false =>
  obtain ⟨K, hK⟩ := hf
  exact ⟨K, false, false, (⟨#[]⟩ : ByteArray), (⟨#[]⟩ : ByteArray), 0, false, (⟨#[]⟩ : ByteArray), (⟨#[]⟩ : ByteArray), hK K (Nat.le_refl _), nofun, nofun, nofun, nofun⟩
 | true =>
  obtain ⟨hn, hl⟩ := ht rfl
  obtain ⟨g1, g2, g3, g4, ⟨K1, h1⟩, ⟨K2, h2⟩⟩ := greatest_same l hl (by simp at hn; omega) e c
  obtain ⟨q1, q2, q3, ⟨K3, h3⟩, ⟨K4, h4⟩⟩ := certain_same l hl (by simp at hn; omega) e c
  obtain ⟨K, hK⟩ := hf
  have m : ∀ n, n ≤ max K (max K1 (max K2 (max K3 K4))) ↔ n ≤ K ∨ n ≤ K1 ∨ n ≤ K2 ∨ n ≤ K3 ∨ n ≤ K4 := fun n => by omega
  exact ⟨max K (max K1 (max K2 (max K3 K4))), true, g1, g2, g3, g4, q1, q2, q3, hK _ (by omega), fun _ => h1 _ (by omega), fun _ => h2 _ (by omega), fun _ => h3 _ (by omega), fun _ => h4 _ (by omega)⟩
end Go.Proofs.YtpoogjcgjpkbeaaDoor.Pure
