/- Rational numbers and lists of them, as they come in. -/
import Derived.Test.YtpoogjcgjpkbeaaDoorRows
import Derived.Test.YtpoogjcgjpkbeaaDoorXA4
import Derived.Deep.Strs
import Derived.Deep.Slices
namespace Go.Proofs.YtpoogjcgjpkbeaaDoor.XA
open Go.RowKit Go.Deep Go.Proofs.YtpoogjcgjpkbeaaDoorW.PrintWords
set_option linter.unusedVariables false
section
variable {H : Type} {enc : TypeId × Value → H} {w : World} {base fuel : Nat} {spare : Nat → Bool} {held : Bool} {cs : List Value} {x : DataW H × List MemPlace}
theorem open_rat (h : DataW.trod enc Tryd.prog w base spare held fuel 25 cs = some x) : ∃ s : S25, cs = [.bool s.f0, .string s.f1, .string s.f2] := by
  obtain ⟨y0, y1, y2, n, _, hl, h0, h1, h2⟩ := trod_struct3 Tryd.underlying25 h
  have e : Tryd.prog.cellsOf 25 = 3 := by kernel_rfl
  have e4 : Tryd.prog.cellsOf 4 = 1 := by kernel_rfl
  have e9 : Tryd.prog.cellsOf 9 = 1 := by kernel_rfl
  rw [e] at hl
  rw [e4] at h0
  rw [e9] at h1 h2
  obtain ⟨b, hb, _⟩ := DataW.trod_bool Tryd.underlying4 h0
  obtain ⟨s, hs, _⟩ := DataW.trod_string Tryd.underlying9 h1
  obtain ⟨t, ht, _⟩ := DataW.trod_string Tryd.underlying9 h2
  match cs, hl with
  | [c0, c1, c2], _ =>
    simp only [List.drop, List.take, List.cons.injEq, and_true] at hb hs ht
    exact ⟨⟨b, s, t⟩, by rw [hb, hs, ht]⟩
theorem open_rats (h : DataW.trod enc Tryd.prog w base spare held fuel 27 cs = some x) :
    cs = [.slice none 0 0] ∨ ∃ (a : Addr) (len cap : Nat) (l : List S25), cs = [.slice (some a) len cap] ∧ len ≤ cap ∧ cap ≤ maxLen ∧ l.length = len ∧ Kd.C k25 w (some a) len l := by
  rcases open_slice Tryd.underlying27 h with ⟨h0, _⟩ | ⟨a, len, cap, m, n, D, Pl, hcs, hb, hl, hm, hmm, _, hel⟩
  · exact .inl h0
  have e : Tryd.prog.cellsOf 25 = 3 := by kernel_rfl
  rw [e] at hel
  have hle : len ≤ m := by rw [hmm]; split <;> omega
  have : Inhabited S25 := ⟨z25⟩
  obtain ⟨f, hf⟩ := choose_lt (n := len) (p := fun i (s : S25) => ∀ (j : Nat) u, [Value.bool s.f0, .string s.f1, .string s.f2][j]? = some u → w.cell? (a.add (i * 3 + j)) = some u) (fun i hi => by
    obtain ⟨cs', h1, h2⟩ := hel i (by omega)
    obtain ⟨s, rfl⟩ := open_rat h2
    obtain ⟨_, _, h3⟩ := World.cells?_some h1
    refine ⟨s, fun j u hu => ?_⟩
    have hj : j < 3 := by
      have := (List.getElem?_eq_some_iff.1 hu).1
      simpa using this
    rw [← hu, ← h3 j hj, Addr.add_add])
  refine .inr ⟨a, len, cap, (List.range len).map f, hcs, hl, hm, by simp, by simp, ?_, fun _ => ⟨a, rfl, fun j p hp => ?_⟩⟩
  · simp only [maxLen] at hm; omega
  · have hj : j < len := by
      have := (List.getElem?_eq_some_iff.1 hp).1
      simpa using this
    have : p = f j := by
      rw [List.getElem?_map, List.getElem?_range hj] at hp
      exact (Option.some.inj hp).symm
    subst this
    exact ⟨_, rfl, k25_mk w (f j), fun i u hu => hf j hj i u hu⟩
theorem open_rats' {a : Option Addr} {len cap : Nat} (h : DataW.trod enc Tryd.prog w base spare held fuel 27 (Value.slice a len cap).cells.toList = some x) : ∃ l : List S25, l.length = len ∧ len ≤ cap ∧ Kd.C k25 w a l.length l := by
  rcases open_rats h with h0 | ⟨x, l, c, zs, hcs, hl, hm, hz, hC⟩
  · simp [Value.cells] at h0
    obtain ⟨rfl, rfl, rfl⟩ := h0
    exact ⟨[], rfl, Nat.le_refl _, rfl, by simp, fun hp => absurd hp (by simp)⟩
  · simp [Value.cells] at hcs
    obtain ⟨rfl, rfl, rfl⟩ := hcs
    exact ⟨zs, hz, hl, by rw [hz]; exact hC⟩
theorem open_rat' {v : Array Value} (h : DataW.trod enc Tryd.prog w base spare held fuel 25 (Value.agg v).cells.toList = some x) : ∃ s : S25, Value.agg v = .agg #[.bool s.f0, .string s.f1, .string s.f2] := by
  obtain ⟨s, hs⟩ := open_rat h
  refine ⟨s, ?_⟩
  simp [Value.cells] at hs
  have e : v = #[Value.bool s.f0, .string s.f1, .string s.f2] := by rw [← Array.toArray_toList (xs := v), hs]
  rw [e]
end
end Go.Proofs.YtpoogjcgjpkbeaaDoor.XA
