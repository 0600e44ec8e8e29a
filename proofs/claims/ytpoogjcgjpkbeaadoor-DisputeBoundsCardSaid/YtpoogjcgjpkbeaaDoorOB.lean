/- A debt with its options, as it comes in. -/
import Derived.Test.YtpoogjcgjpkbeaaDoorOR
import Derived.ChangeSame
namespace Go.Proofs.YtpoogjcgjpkbeaaDoor.XA
open Go.RowKit Go.Deep Go.ChangeShapes Go.Proofs.YtpoogjcgjpkbeaaDoorW.PrintWords
set_option linter.unusedVariables false
section
variable {H : Type} {enc : TypeId × Value → H} {w : World} {base fuel : Nat} {spare : Nat → Bool} {held : Bool} {cs : List Value} {x : DataW H × List MemPlace}
theorem open_opt (h : DataW.trod enc Tryd.prog w base spare held fuel 54 cs = some x) : ∃ s : S54, cs = [.bool s.f0.f0, .string s.f0.f1, .string s.f0.f2, .int .i64 s.f1] := by
  obtain ⟨y0, y1, n, _, hl, h0, h1⟩ := trod_struct2 Tryd.underlying54 h
  have e : Tryd.prog.cellsOf 54 = 4 := by kernel_rfl
  have e4 : Tryd.prog.cellsOf 25 = 3 := by kernel_rfl
  have e9 : Tryd.prog.cellsOf 3 = 1 := by kernel_rfl
  rw [e] at hl
  rw [e4] at h0
  rw [e9] at h1
  obtain ⟨s, hs⟩ := open_rat h0
  obtain ⟨t, ht, _⟩ := DataW.trod_int Tryd.underlying3 h1
  match cs, hl with
  | [c0, c1, c2, c3], _ =>
    simp only [List.drop, List.take, List.cons.injEq, and_true] at hs ht
    exact ⟨⟨s, t⟩, by rw [hs.1, hs.2.1, hs.2.2, ht]⟩
theorem open_opts (h : DataW.trod enc Tryd.prog w base spare held fuel 48 cs = some x) :
    cs = [.slice none 0 0] ∨ ∃ (a : Addr) (len cap : Nat) (l : List S54), cs = [.slice (some a) len cap] ∧ len ≤ cap ∧ cap ≤ maxLen ∧ l.length = len ∧ Kd.C k54 w (some a) len l := by
  rcases open_slice Tryd.underlying48 h with ⟨h0, _⟩ | ⟨a, len, cap, m, n, D, Pl, hcs, hb, hl, hm, hmm, _, hel⟩
  · exact .inl h0
  have e : Tryd.prog.cellsOf 54 = 4 := by kernel_rfl
  rw [e] at hel
  have hle : len ≤ m := by rw [hmm]; split <;> omega
  have : Inhabited S54 := ⟨z54⟩
  obtain ⟨f, hf⟩ := choose_lt (n := len) (p := fun i (s : S54) => ∀ (j : Nat) u, [Value.bool s.f0.f0, .string s.f0.f1, .string s.f0.f2, .int .i64 s.f1][j]? = some u → w.cell? (a.add (i * 4 + j)) = some u) (fun i hi => by
    obtain ⟨cs', h1, h2⟩ := hel i (by omega)
    obtain ⟨s, rfl⟩ := open_opt h2
    obtain ⟨_, _, h3⟩ := World.cells?_some h1
    refine ⟨s, fun j u hu => ?_⟩
    have hj : j < 4 := by
      have := (List.getElem?_eq_some_iff.1 hu).1
      simpa using this
    rw [← hu, ← h3 j hj, Addr.add_add])
  refine .inr ⟨a, len, cap, (List.range len).map f, hcs, hl, hm, by simp, by simp, ?_, fun _ => ⟨a, rfl, fun j p hp => ?_⟩⟩
  · simp only [maxLen] at hm; omega
  · have hj : j < len := by
      have := (List.getElem?_eq_some_iff.1 hp).1
      simpa using this
    have : p = f j := by
      rw [List.getElem?_map, List.getElem?_range hj] at hp
      exact (Option.some.inj hp).symm
    subst this
    exact ⟨_, rfl, k54_mk w (f j), fun i u hu => hf j hj i u hu⟩
theorem open_debt' {v : Array Value} (h : DataW.trod enc Tryd.prog w base spare held fuel 50 (Value.agg v).cells.toList = some x) :
    ∃ (e c : Int) (A : Option Addr) (c0 : Nat) (l : List S54), Value.agg v = .agg #[.int .i64 e, .int .i64 c, .slice A l.length c0] ∧ l.length ≤ c0 ∧ Kd.C k54 w A l.length l := by
  obtain ⟨y0, y1, n, _, hl, h0, h1⟩ := trod_struct2 Tryd.underlying50 h
  obtain ⟨z0, z1, n', _, hl', g0, g1⟩ := trod_struct2 Tryd.underlying47 h0
  have e50 : Tryd.prog.cellsOf 50 = 3 := by kernel_rfl
  have e47 : Tryd.prog.cellsOf 47 = 2 := by kernel_rfl
  have e48 : Tryd.prog.cellsOf 48 = 1 := by kernel_rfl
  have e3 : Tryd.prog.cellsOf 3 = 1 := by kernel_rfl
  simp only [Value.cells] at hl h1 g0 g1
  rw [e50] at hl
  rw [e47] at g0 g1
  rw [e3] at g0 g1
  rw [e48] at h1
  obtain ⟨s, hs, _⟩ := DataW.trod_int Tryd.underlying3 g0
  obtain ⟨t, ht, _⟩ := DataW.trod_int Tryd.underlying3 g1
  have key : ∀ q, (List.take 1 (List.drop 2 v.toList)) = [q] → v = #[.int .i64 s, .int .i64 t, q] := by
    intro q hq
    rw [← Array.toArray_toList (xs := v)]
    generalize v.toList = zs at hl hs ht hq
    match zs, hl with
    | [a, b, d], _ =>
      simp only [List.drop, List.take, List.cons.injEq, and_true] at hs ht hq
      rw [hs, ht, hq]
  rcases open_opts h1 with h2 | ⟨a, len, cap, l, hcs, hlc, _, hz, hC⟩
  · exact ⟨s, t, none, 0, [], by rw [key _ h2]; rfl, Nat.le_refl _, rfl, by simp, fun hp => absurd hp (by simp)⟩
  · exact ⟨s, t, some a, cap, l, by rw [key _ hcs, hz], by omega, by rw [hz]; exact hC⟩
end
end Go.Proofs.YtpoogjcgjpkbeaaDoor.XA
