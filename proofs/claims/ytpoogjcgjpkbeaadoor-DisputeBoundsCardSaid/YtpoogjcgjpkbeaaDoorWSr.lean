/- More words of my own: short names for steps that a printed walk takes often. -/
import Derived.Test.YtpoogjcgjpkbeaaDoorWSq
set_option linter.unusedVariables false
namespace Go.Proofs.YtpoogjcgjpkbeaaDoorW.Sr
open Go.RowKit Go.Proofs.YtpoogjcgjpkbeaaDoorW.PrintWords Go.Proofs.YtpoogjcgjpkbeaaDoorW.PrintLast Go.Proofs.YtpoogjcgjpkbeaaDoorW.PrintMore Go.Proofs.YtpoogjcgjpkbeaaDoorW.Sq
section
variable {α : Type} {p : Prop} [i : Decidable p] {a b : Option α} {r : α}
theorem xQ (h : (if p then a else none) = some r) : p ∧ a = some r := by
  by_cases c : p
  · rw [if_pos c] at h; exact ⟨c, h⟩
  · rw [if_neg c] at h; cases h
theorem xQd (h : (if p then a else none) = some r) : decide p = true ∧ a = some r := ⟨decide_eq_true (xQ h).1, (xQ h).2⟩
theorem xQt (h : (if p then a else none) = some r) : p = True ∧ decide p = true ∧ a = some r := ⟨eq_true (xQ h).1, decide_eq_true (xQ h).1, (xQ h).2⟩
theorem xR (h : (if p then none else a) = some r) : ¬ p ∧ a = some r := by
  by_cases c : p
  · rw [if_pos c] at h; cases h
  · rw [if_neg c] at h; exact ⟨c, h⟩
theorem xO (h : (if p then a else b) = some r) : p ∧ a = some r ∨ ¬ p ∧ b = some r := by
  by_cases c : p
  · rw [if_pos c] at h; exact .inl ⟨c, h⟩
  · rw [if_neg c] at h; exact .inr ⟨c, h⟩
theorem xOd (h : (if p then a else b) = some r) : decide p = true ∧ a = some r ∨ decide p = false ∧ b = some r := (xO h).elim (fun h => .inl ⟨decide_eq_true h.1, h.2⟩) (fun h => .inr ⟨decide_eq_false h.1, h.2⟩)
end
section
variable {α β : Type} [BEq β] [LawfulBEq β] {x y : β} [i : Decidable (x = y)] {a b : Option α} {r : α}
theorem xRb (h : (if x = y then none else a) = some r) : (x == y) = false ∧ (x != y) = true ∧ a = some r := ⟨beq_eq_false_iff_ne.mpr (xR h).1, bne_iff_ne.mpr (xR h).1, (xR h).2⟩
end
theorem xYa {α β : Type} {x : α} {f : α → Option β} {r : β} (h : (some x).bind f = some r) : ∃ y, Aside0 (y = x) ∧ f y = some r := ⟨x, ⟨rfl⟩, h⟩
theorem xA {P Q R : Prop} (f : P → Q → R) [Decidable P] [Decidable Q] (hp : decide P = true := by first | (with_reducible assumption) | assumption) (hq : decide Q = true := by first | (with_reducible assumption) | assumption) : P = True ∧ Q = True ∧ R := ⟨eq_true (of_decide_eq_true hp), eq_true (of_decide_eq_true hq), f (of_decide_eq_true hp) (of_decide_eq_true hq)⟩
end Go.Proofs.YtpoogjcgjpkbeaaDoorW.Sr
