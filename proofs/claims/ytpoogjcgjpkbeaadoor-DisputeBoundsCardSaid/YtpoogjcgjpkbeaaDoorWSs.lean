/- More words of my own: events and the facts that they carry on. -/
import Derived.Test.YtpoogjcgjpkbeaaDoorWSr
set_option linter.unusedVariables false
namespace Go.Proofs.YtpoogjcgjpkbeaaDoorW.Ss
open Go.RowKit Go.Proofs.YtpoogjcgjpkbeaaDoorW.PrintWords Go.Proofs.YtpoogjcgjpkbeaaDoorW.PrintLast Go.Proofs.YtpoogjcgjpkbeaaDoorW.PrintMore Go.Proofs.YtpoogjcgjpkbeaaDoorW.Sq
section
variable {P : Program} {ops : Array Oper} {rest : List Oper} {o : Oper} {a : Act} {Q : Exit → Act → World → Prop}
theorem xF {W w0 w2 : World} {N : Tmp} (cs : Array Value) (t : TypeId) (t_ : Aside0 (Below w0.heap.size w0 w2))
    (h : ∀ g, g = W.heap.size → ∀ w1, Below W.heap.size W w1 → Aside0 (w1.heap[g]? = some (.cells cs t (0, 0))) → Aside0 (w0.heap.size ≤ g) → Aside0 (Below w0.heap.size w0 w1) → wpList P ops Q rest (a.put o.dst (.pointer (some ⟨g, 0, none⟩))) w1)
    (hd : o.dst = some N := by rfl) (hgd : o.guard = none := by rfl)
    (hrun : (execOp a.eval o).run P W = .ok (.value (.pointer (some ⟨W.heap.size, 0, none⟩))) (W.alloc (.cells cs t (0, 0))) := by first | (go_simp; done) | (go_simp; rfl))
    (hB : Below w0.heap.size w0 w2 → Below w0.heap.size w0 W := by intro t_; repeat (first | (with_reducible first | exact t_ | apply below_alloc | apply pw_below_drewN | apply below_drew1 | refine below_set ?_ (Aside0.out (by assumption))) | exact t_)) : wpList P ops Q (o :: rest) a W :=
  box_event hgd hd hrun fun g hg w1 hbox hb => h g hg w1 hb ⟨hbox⟩ ⟨by rw [hg]; exact below_size (hB t_.out)⟩ ⟨below_step (hB t_.out) hb⟩
theorem xst {W : World} (t : TypeId) (p : Tmp) (w1 : World) (h : ∀ w', w' = w1 → wpList P ops Q rest a w') {v : Operand} (ho : o.op = .store t (.tmp p) v := by rfl) (hgd : o.guard = none := by rfl) (hN : o.dst = none := by rfl)
    (hrun : (execOp a.eval o).run P W = .ok .skip w1 := by first | (go_simp; done) | (go_simp; rfl)) : wpList P ops Q (o :: rest) a W := store_event hgd ho hN hrun h
end
section
variable {α : Type} {d : Kd α} {e base : Nat} {ok : Nat → Prop} {v : Value} {xs : List α} {W W1 W2 : World}
theorem xVb (t_ : Aside0 (Kd.V d e W base ok v xs)) (hb : Below W1.heap.size W1 W2) (h : Kd.V d e W base ok v xs → Kd.V d e W1 base ok v xs := by intro t_; (with_reducible repeat (first | apply Kd.V_alloc | apply Kd.V_drewN | apply Kd.V_drew)); exact t_) : Aside0 (Kd.V d e W2 base ok v xs) := ⟨Kd.V_below (h t_.out) hb⟩
theorem xVe {g : Nat} (t_ : Aside0 (Kd.V d e W base ok v xs)) (hg : g = W1.heap.size) (hb : Below W1.heap.size W1 W2) (h : Kd.V d e W base ok v xs → Kd.V d e W1 base ok v xs := by intro t_; (with_reducible repeat (first | apply Kd.V_alloc | apply Kd.V_drewN | apply Kd.V_drew)); exact t_) : Aside0 (Kd.V d e W2 base (fun k => ok k ∧ k ≠ g) v xs) := ⟨Kd.V_below (Kd.V_elderB (h t_.out) g (Nat.le_of_eq hg.symm)) hb⟩
theorem xRb (t_ : Aside0 (Kd.R d e W base ok v xs)) (hb : Below W1.heap.size W1 W2) (h : Kd.R d e W base ok v xs → Kd.R d e W1 base ok v xs := by intro t_; (with_reducible repeat (first | apply Kd.R_alloc | apply Kd.R_drewN | apply Kd.R_drew)); exact t_) : Aside0 (Kd.R d e W2 base ok v xs) := ⟨Kd.R_below (h t_.out) hb⟩
theorem xVm (w0 : World) (ok' : Nat → Prop) (h : Kd.V d e W base ok v xs) (hm : ∀ k, ok k → ok' k) : Aside0 (Kd.V d e W w0.heap.size ok' v xs) := ⟨Kd.V_mono h hm⟩
end
section
variable {P : Program} {ops : Array Oper} {Q : Exit → Act → World → Prop} {md : Region.Mode} {S : World → Prop} {ds : List Nat}
theorem yP (i : Nat) (N : Option Tmp) {oi : Oper} {v : Value} {fuel : Nat} {l : Array Bool} {a a' : Act} {w : World} (l' : Array Bool)
    (h : wpAnyLast P md ops Q S ds fuel l' a' w) (hi : ops[i]? = some oi := by rfl) (hN : oi.dst = N := by rfl) (hc : anyB md ops l l' i = true := by first | exact any_of HT_.out (by kernel_rfl) | kernel_rfl)
    (hQ : ∀ c a w, Q (.panic c) (a.put oi.dst v) w → Q (.panic c) a w := by exact fun _ _ _ h => h) (hy : Yields P ops oi v a := by
      refine Or.inl ⟨by rfl, ?_⟩
      intro w'
      go_simp
      with_reducible rfl) (ha : a.put N v = a' := by
      simp only [Act.put, List.setIfInBounds_toArray, List.set_cons_zero, List.set_cons_succ, i64_w, i32_w]
      rfl) : wpAnyLast P md ops Q S ds (fuel + 1) l a w := pure_ l' hi hN hc hQ hy ha h
theorem yU (i : Nat) (N : Option Tmp) {oi : Oper} {fuel : Nat} {l : Array Bool} {a a' : Act} {w : World} (l' : Array Bool)
    (h : wpAnyLast P md ops Q S ds fuel l' a' w) (hi : ops[i]? = some oi := by rfl) (hN : oi.dst = N := by rfl) (hc : anyB md ops l l' i = true := by first | exact any_of HT_.out (by kernel_rfl) | kernel_rfl)
    (hQ : ∀ c a w, Q (.panic c) (a.put oi.dst undef) w → Q (.panic c) a w := by exact fun _ _ _ h => h) (hy : Yields P ops oi undef a := by exact Or.inr ⟨by rfl, rfl⟩) (ha : a.put N undef = a' := by
      simp only [Act.put, List.setIfInBounds_toArray, List.set_cons_zero, List.set_cons_succ, i64_w, i32_w]
      rfl) : wpAnyLast P md ops Q S ds (fuel + 1) l a w := pure_ l' hi hN hc hQ hy ha h
theorem yT (i : Nat) (N : Option Tmp) {oi : Oper} {v : Value} {fuel : Nat} {l : Array Bool} {a a' : Act} {w : World} (l' : Array Bool) (hS : S w)
    (h : wpAnyLast P md ops Q S ds fuel l' a' w) (hi : ops[i]? = some oi := by rfl) (hN : oi.dst = N := by rfl) (hc : takeB md ops ds l l' i = true := by first | exact take_ofW HT_.out HW_.out (by kernel_rfl) | kernel_rfl)
    (hQ : ∀ c a w, Q (.panic c) (a.put oi.dst v) w → Q (.panic c) a w := by exact fun _ _ _ h => h) (hy : YieldsIf P ops S oi v a := by
      refine Or.inl ⟨by rfl, ?_⟩
      intro w' hs_
      (repeat (obtain ⟨_, hs_⟩ := hs_))
      go_simp
      with_reducible rfl) (ha : a.put N v = a' := by
      simp only [Act.put, List.setIfInBounds_toArray, List.set_cons_zero, List.set_cons_succ, i64_w, i32_w]
      rfl) : wpAnyLast P md ops Q S ds (fuel + 1) l a w := take_ l' hi hN hc hQ hy hS ha h
theorem yO (i : Nat) (N : Option Tmp) {oi : Oper} {fuel : Nat} {l : Array Bool} {a : Act} {w : World} (l' : Array Bool)
    (h : ∀ K : Act → World → Prop, Shut (∀ a' w', S w' → (S w' → wpAnyLast P md ops Q S ds fuel l' a' w') → K a' w') → if Region.wanted oi (yielded ops a.tmps) = true then Oper.wp P oi a w K Q else K (a.put N undef) w)
    (hi : ops[i]? = some oi := by rfl) (hN : oi.dst = N := by rfl) (hc : readyB md ops l l' i = true := by first | exact one_of HT_.out (by kernel_rfl) | kernel_rfl) (hd : i ∉ ds := by decide) : wpAnyLast P md ops Q S ds (fuel + 1) l a w := one_ l' hi hN hc hd h
theorem yZ (i : Nat) (N : Option Tmp) {oi : Oper} {fuel : Nat} {l : Array Bool} {a : Act} {w : World} (l' : Array Bool)
    (h : ∀ K : Act → World → Prop, Shut (∀ a' w', wpAnyLast P md ops Q S ds fuel l' a' w' → K a' w') → if Region.wanted oi (yielded ops a.tmps) = true then Oper.wp P oi a w K Q else K (a.put N undef) w)
    (hi : ops[i]? = some oi := by rfl) (hN : oi.dst = N := by rfl) (hc : readyB md ops l l' i = true := by first | exact one_of HT_.out (by kernel_rfl) | kernel_rfl) (hd : i ∈ ds := by decide) : wpAnyLast P md ops Q S ds (fuel + 1) l a w := last_ l' hi hN hc hd h
end
theorem xcl {w0 w w1 : World} {p : Addr} {v : Value} (t_ : Aside0 (Below w0.heap.size w w1)) (h : w.cell? p = some v) (hl : p.block < w0.heap.size := by exact World.block_lt_of_cell? _ _ (by assumption)) : w1.cell? p = some v := (t_.out.cell hl).trans h
end Go.Proofs.YtpoogjcgjpkbeaaDoorW.Ss
