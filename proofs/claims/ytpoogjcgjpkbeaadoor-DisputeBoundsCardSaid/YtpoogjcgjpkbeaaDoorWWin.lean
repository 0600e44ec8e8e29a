/- Words of my own: a window (whole numbers of 32 bits) of a row of the call's own, read and written. -/
import Derived.Test.YtpoogjcgjpkbeaaDoorWMine
import Derived.Test.YtpoogjcgjpkbeaaDoorWKept
import Derived.Test.YtpoogjcgjpkbeaaDoorWMore
import Derived.Test.YtpoogjcgjpkbeaaDoorWAt
namespace Go.Proofs.YtpoogjcgjpkbeaaDoorW.PrintWords
open Go.RowKit
open Go.Proofs.YtpoogjcgjpkbeaaDoorW.PrintLast Go.Proofs.YtpoogjcgjpkbeaaDoorW.PrintMore
namespace Kd
def Wn (u : Value) (pre post : List Int) (e : Nat) (w : World) (base : Nat) (ok : Nat → Prop) (v : Value) (xs : List Int) : Prop :=
  ∃ g c N C, u = .slice (some ⟨g, 0, none⟩) N C ∧ v = .slice (some ⟨g, pre.length, none⟩) xs.length c ∧ xs.length ≤ c ∧ 0 < xs.length ∧ (Kd.int .u32).R e w base ok u (pre ++ xs ++ post)
section
variable {pre post xs : List Int} {e : Nat} {w w' : World} {base : Nat} {ok ok' : Nat → Prop} {u v : Value}
theorem Wn_step (h : Wn u pre post e w base ok v xs) (f : ∀ v ys, (Kd.int .u32).R e w base ok v ys → (Kd.int .u32).R e w' base ok' v ys) : Wn u pre post e w' base ok' v xs := by
  obtain ⟨g, c, N, C, h0, h1, h2, h3, h4⟩ := h
  exact ⟨g, c, N, C, h0, h1, h2, h3, f _ _ h4⟩
theorem Wn_mono (h : Wn u pre post e w base ok v xs) (hok : ∀ k, ok k → ok' k) : Wn u pre post e w base ok' v xs := Wn_step h (fun _ _ h => R_mono h hok)
theorem Wn_drewN (h : Wn u pre post e w base ok v xs) (m : Nat) : Wn u pre post e (w.drewN m) base ok v xs := Wn_step h (fun _ _ h => R_drewN h m)
theorem Wn_at {m : Nat} (hq : w.drewN m = w') (h : Wn u pre post e w base ok v xs) : Wn u pre post e w' base ok v xs := by subst hq; exact Wn_drewN h m
theorem Wn_own (h : Wn u pre post e w base ok v xs) : ∀ k, v.ownBlock = some k → ok k := by
  obtain ⟨g, c, N, C, h0, h1, h2, h3, h4⟩ := h
  intro k hk
  refine h4.1 k ?_
  rw [h0]; rw [h1] at hk
  simpa [Value.ownBlock] using hk
theorem Wn_slice (h : Wn u pre post e w base ok v xs) : ∃ A c, v = .slice A xs.length c := by
  obtain ⟨g, c, N, C, _, h1, _⟩ := h
  exact ⟨_, _, h1⟩
theorem add_at (g a j : Nat) : (⟨g, a, none⟩ : Addr).add j = ⟨g, a + j, none⟩ := by unfold Addr.add; split <;> simp_all
theorem Wn_reads' {A : Option Addr} {n c : Nat} (h : Wn u pre post e w base ok (.slice A n c) xs) : n = xs.length ∧ n ≤ c ∧ (Kd.int .u32).C w A xs.length xs := by
  obtain ⟨g, c', N, C, h0, h1, h2, h3, h4⟩ := h
  injection h1 with e1 e2 e3
  subst h0; subst e1; subst e2; subst e3
  refine ⟨rfl, h2, ?_⟩
  obtain ⟨_, hn, hr⟩ := R_reads' h4
  obtain ⟨hl, hm, hc⟩ := hr
  refine ⟨rfl, by simp at hm; omega, fun _ => ⟨_, rfl, fun j p hj => ?_⟩⟩
  obtain ⟨ad, ea, hcell⟩ := hc (by simp; omega)
  injection ea with ea
  subst ea
  have hjl : j < xs.length := (List.getElem?_eq_some_iff.1 hj).1
  obtain ⟨cs, hs, hk, hx⟩ := hcell (pre.length + j) p (by rw [List.append_assoc, List.getElem?_append_right (by omega), List.getElem?_append_left (by omega)]; rw [Nat.add_sub_cancel_left]; exact hj)
  refine ⟨cs, hs, hk, fun i u hi => ?_⟩
  have := hx i u hi
  rw [add_at] at this ⊢
  have e1 : (Kd.int .u32).sz = 1 := rfl
  rw [e1] at this ⊢
  rw [← this]
  congr 2
  omega
theorem add_block (ad : Addr) (j : Nat) : (ad.add j).block = ad.block := by unfold Addr.add; split <;> rfl
theorem below_add {w1 W : World} {ad : Addr} {j : Nat} {x : Value} (h : Below w1.heap.size w1 W) (hg : w1.heap.size ≤ ad.block) : Below w1.heap.size w1 (W.setCell (ad.add j) x) := h.setCell (by rw [add_block]; exact hg) _
theorem Wn_form {ad : Addr} {n c : Nat} (h : Wn u pre post e w base ok (.slice (some ad) n c) xs) (_hp : 0 < xs.length) : base ≤ ad.block ∧ ad.block < w.heap.size ∧ ∃ cells, w.heap[ad.block]? = some (.cells cells e (0, 0)) := by
  obtain ⟨g, c, N, C, h0, h1, h2, h3, h4⟩ := h
  injection h1 with e1 _ _
  injection e1 with e1
  subst h0; subst e1
  obtain ⟨g', cap, he, hb, hl, hc⟩ := R_form h4 (by simp; omega)
  injection he with e1 e2 e3
  injection e1 with e1
  injection e1 with e1 _ _
  subst e1
  exact ⟨hb, hl, hc⟩
theorem Wn_celln {ad : Addr} {n cap : Nat} (d : Int) (h : Wn u pre post e w base ok (.slice (some ad) n cap) xs) (i : Int) (h0 : 0 ≤ i) (hi : i < n) : w.cell? (ad.add i.toNat) = some (.int .u32 (rdOf d xs i)) ∧ w.frozen? (ad.add i.toNat) = false := by
  obtain ⟨g', c, N, C, hu, h1, h2, h3, h4⟩ := h
  injection h1 with e1 e2 e3
  injection e1 with e1
  subst hu; subst e1; subst e2; subst e3
  obtain ⟨rfl, _⟩ := R_reads' h4
  have := R_celln (h1 := fun _ => rfl) (enc := Value.int .u32) d h4 ((pre.length : Int) + i) (by omega) (by simp; omega)
  have et : ((pre.length : Int) + i).toNat = pre.length + i.toNat := by omega
  rw [et] at this
  rw [add_at]
  refine ⟨this.1.trans ?_, this.2⟩
  congr 2
  unfold rdOf
  rw [et, List.getD_eq_getElem?_getD, List.getD_eq_getElem?_getD, List.append_assoc, List.getElem?_append_right (by omega), List.getElem?_append_left (by omega), Nat.add_sub_cancel_left]
theorem Wn_putg {ad : Addr} {n cap : Nat} (h : Wn u pre post e w base ok (.slice (some ad) n cap) xs) (i : Int) (x : Int) (h0 : 0 ≤ i) (hi : i < n) :
    Wn u pre post e (w.setCell (ad.add i.toNat) (.int .u32 x)) base ok (.slice (some ad) n cap) (xs.set i.toNat x) ∧ w.grownBy (w.setCell (ad.add i.toNat) (.int .u32 x)) (some ad.block) := by
  obtain ⟨g', c, N, C, hu, h1, h2, h3, h4⟩ := h
  injection h1 with e1 e2 e3
  injection e1 with e1
  subst hu; subst e1; subst e2; subst e3
  obtain ⟨rfl, _⟩ := R_reads' h4
  have et : ((pre.length : Int) + i).toNat = pre.length + i.toNat := by omega
  have := R_putg (h1 := fun _ => rfl) (enc := Value.int .u32) h4 ((pre.length : Int) + i) x
  rw [et] at this
  rw [add_at]
  refine ⟨⟨g', cap, _, C, rfl, by simp, by simpa using h2, by simpa using h3, ?_⟩, this.2⟩
  have es : (pre ++ xs ++ post).set (pre.length + i.toNat) x = pre ++ xs.set i.toNat x ++ post := by
    rw [List.append_assoc, List.set_append_right _ _ (by omega), List.set_append_left _ _ (by omega), Nat.add_sub_cancel_left, List.append_assoc]
  rw [← es]
  exact this.1
theorem Wn_of {l : List Int} {g N C i h : Nat} (ho : (Kd.int .u32).R e w base ok (.slice (some ⟨g, 0, none⟩) N C) l) (h1 : i < h) (h2 : h ≤ l.length) :
    Wn (.slice (some ⟨g, 0, none⟩) N C) (l.take i) (l.drop h) e w base ok (.slice (some ⟨g, i, none⟩) (h - i) (C - i)) ((l.take h).drop i) := by
  obtain ⟨e1, e2, _⟩ := R_reads' ho
  have el : ((l.take h).drop i).length = h - i := by simp; omega
  have ep : (l.take i).length = i := by simp; omega
  refine ⟨g, C - i, N, C, rfl, by rw [el, ep], by rw [el]; omega, by rw [el]; omega, ?_⟩
  have ea : l.take i ++ (l.take h).drop i ++ l.drop h = l := by
    have e3 : l.take i = (l.take h).take i := by rw [List.take_take, Nat.min_eq_left (by omega)]
    rw [e3, List.take_append_drop, List.take_append_drop]
  rw [ea]; exact ho
theorem Wn_whole (h : Wn u pre post e w base ok v xs) : (Kd.int .u32).R e w base ok u (pre ++ xs ++ post) := by
  obtain ⟨g, c, N, C, h0, h1, h2, h3, h4⟩ := h
  exact h4
end
theorem V_blk {k : IntKind} {e base n c g : Nat} {W : World} {ok : Nat → Prop} {ad : Addr} {xs : List Int} (h : Kd.V (Kd.int k) e W base ok (.slice (some ad) n c) xs) {i : Int} (h0 : 0 ≤ i) (h1 : i < (xs.length : Int)) (hok : ∀ k, ok k → k ≠ g) : ad.block ≠ g := by
  intro hg
  obtain ⟨ad1, e1, hc⟩ := Kd.at_int (V_reads' h).2.2 i h0 h1
  cases e1
  have hb : (ad.add i.toNat).block = g := by rw [add_block]; exact hg
  have h2 := V_far h (p := ad.add i.toNat) (fun k hk => by rw [hb]; exact hok k hk) (Value.bool true)
  obtain ⟨ad2, e2, hc2⟩ := Kd.at_int (V_reads' h2).2.2 i h0 h1
  cases e2
  rw [World.cell?_setCell_same (h := hc)] at hc2
  cases hc2
end Kd
end Go.Proofs.YtpoogjcgjpkbeaaDoorW.PrintWords
