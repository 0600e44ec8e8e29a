/- Words of my own: short names for steps that a printed walk takes often (a proof that is told by default stands for a run of tactics). -/
import Derived.Test.YtpoogjcgjpkbeaaDoorWMine
import Derived.Test.YtpoogjcgjpkbeaaDoorWWin
import Derived.Test.YtpoogjcgjpkbeaaDoorWKept
import Derived.Test.YtpoogjcgjpkbeaaDoorWMore
import Derived.Test.YtpoogjcgjpkbeaaDoorWAt
set_option linter.unusedVariables false
namespace Go.Proofs.YtpoogjcgjpkbeaaDoorW.Sq
open Go.RowKit Go.Proofs.YtpoogjcgjpkbeaaDoorW.PrintWords Go.Proofs.YtpoogjcgjpkbeaaDoorW.PrintLast Go.Proofs.YtpoogjcgjpkbeaaDoorW.PrintMore
def b (n m : Nat) : Array Bool := ((List.range n).map fun i => m.testBit i).toArray
theorem xb {P Q : Prop} (t_ : Aside0 Q) (h : Q → P := by intro t_; (with_reducible repeat (first | refine blk_drewN ?_ _ | refine blk_drew ?_ | refine blk_alloc ?_ _ | refine blk_far ?_ (Aside0.out (by assumption)) _)); exact t_) : P := h t_.out
theorem xv {P Q : Prop} (t_ : Q) (h : Q → P := by intro t_; (with_reducible repeat (first | apply Kd.V_alloc | apply Kd.V_drewN | apply Kd.V_drew)); exact t_) : P := h t_
theorem xr {P Q : Prop} (t_ : Q) (h : Q → P := by intro t_; (with_reducible repeat (first | apply Kd.R_alloc | apply Kd.R_drewN | apply Kd.R_drew)); exact t_) : P := h t_
theorem xs {P Q : Prop} (t_ : Aside0 Q) (h : Q → P := by intro t_; repeat (first | (with_reducible first | exact t_ | apply below_alloc | apply pw_below_drewN | apply below_drew1 | refine below_set ?_ (Aside0.out (by assumption))) | exact t_)) : P := h t_.out
theorem xB {w w1 w2 : World} {g : Nat} {o : Obj} (t_ : Aside0 (w.heap[g]? = some o)) (hb : Below w1.heap.size w1 w2) (h : w.heap[g]? = some o → w1.heap[g]? = some o := by intro t_; (with_reducible repeat (first | refine blk_drewN ?_ _ | refine blk_drew ?_ | refine blk_alloc ?_ _ | refine blk_far ?_ (Aside0.out (by assumption)) _)); exact t_) : Aside0 (w2.heap[g]? = some o) := ⟨blk_below (h t_.out) hb⟩
theorem xK {w w1 w2 : World} {g : Nat} {o : Obj} {row : Option Nat} (t_ : Aside0 (w.heap[g]? = some o)) (hg : w1.grownBy w2 row) (hne : some g ≠ row) (h : w.heap[g]? = some o → w1.heap[g]? = some o := by intro t_; (with_reducible repeat (first | refine blk_drewN ?_ _ | refine blk_drew ?_ | refine blk_alloc ?_ _ | refine blk_far ?_ (Aside0.out (by assumption)) _)); exact t_) : Aside0 (w2.heap[g]? = some o) := ⟨blk_grown (h t_.out) hg hne⟩
theorem xS {w w1 w2 w3 : World} (t_ : Aside0 (Below w.heap.size w w1)) (hb : Below w2.heap.size w2 w3) (h : Below w.heap.size w w1 → Below w.heap.size w w2 := by intro t_; repeat (first | (with_reducible first | exact t_ | apply below_alloc | apply pw_below_drewN | apply below_drew1 | refine below_set ?_ (Aside0.out (by assumption))) | exact t_)) : Aside0 (Below w.heap.size w w3) := ⟨below_step (h t_.out) hb⟩
theorem xG {w w1 w2 : World} {g : Nat} (t_ : Aside0 (Below w.heap.size w w1)) (hg : g = w2.heap.size) (h : Below w.heap.size w w1 → Below w.heap.size w w2 := by intro t_; repeat (first | (with_reducible first | exact t_ | apply below_alloc | apply pw_below_drewN | apply below_drew1 | refine below_set ?_ (Aside0.out (by assumption))) | exact t_)) : Aside0 (w.heap.size ≤ g) := ⟨by rw [hg]; exact below_size (h t_.out)⟩
theorem xL {w w1 : World} {g g1 : Nat} {o : Obj} (t_ : Aside0 (w.heap[g]? = some o)) (hg : g1 = w1.heap.size) (h : w.heap[g]? = some o → w1.heap[g]? = some o := by intro t_; (with_reducible repeat (first | refine blk_drewN ?_ _ | refine blk_drew ?_ | refine blk_alloc ?_ _ | refine blk_far ?_ (Aside0.out (by assumption)) _)); exact t_) : Aside0 (g ≠ g1) := ⟨by rw [hg]; exact Nat.ne_of_lt (blk_lt (h t_.out))⟩
theorem xR {w w1 : World} {g g1 : Nat} {o : Obj} (t_ : Aside0 (w.heap[g]? = some o)) (hg : g1 = w1.heap.size) (h : w.heap[g]? = some o → w1.heap[g]? = some o := by intro t_; (with_reducible repeat (first | refine blk_drewN ?_ _ | refine blk_drew ?_ | refine blk_alloc ?_ _ | refine blk_far ?_ (Aside0.out (by assumption)) _)); exact t_) : Aside0 (g1 ≠ g) := ⟨by rw [hg]; exact Nat.ne_of_gt (blk_lt (h t_.out))⟩
theorem xD {w : World} {g : Nat} {o : Obj} (h : Aside0 (w.heap[g]? = some o)) : Aside0 (w.drew.heap[g]? = some o) := ⟨blk_drew h.out⟩
theorem xW {base : Nat} {w W : World} (h : Aside0 (Below base w W)) : Aside0 (Below base w W.drew) := ⟨below_drew1 h.out⟩
theorem xH {α β : Type} {x : Option α} {f : α → Option β} {r : β} (h : x.bind f = some r) : ∃ t, Aside0 (x = some t) ∧ f t = some r := by
  obtain ⟨t, h1, h2⟩ := Option.bind_eq_some_iff.mp h
  exact ⟨t, ⟨h1⟩, h2⟩
theorem xI {α : Type} {c : Prop} [Decidable c] {a b : Option α} {r : α} (h : (if c then a else b) = some r) (hc : c := by rfl) : a = some r := by rwa [if_pos hc] at h
theorem xa {p : Prop} [Decidable p] (h : decide p = true := by first | (with_reducible assumption) | assumption) : p := of_decide_eq_true h
theorem xz {P : Prop} (h : P := by first | rfl | (simp; done) | (simp [*]; done)) : P := h
theorem xy {P : Prop} (h : P := by first | rfl | (simp [errW_none, errW_some] <;> rfl) | (simp [*, errW_none, errW_some] <;> rfl)) : P := h
theorem xd {P : Prop} (h : P := by repeat (first | exact Drawn0.refl _ | apply Drawn0.step)) : P := h
theorem xf {P Q : Prop} (t_ : Q) (h : Q → P := by intro t_; repeat (first | exact t_ | (with_reducible refine Kd.C_alloc ?_ _) | (with_reducible refine Kd.C_drewN ?_ _) | (with_reducible refine Kd.C_drew ?_))) : P := h t_
theorem blk_eq {w : World} {g : Nat} {t : TypeId} {cs cs' : Array Value} (h : w.heap[g]? = some (.cells cs t (0, 0))) (e : cs = cs') : w.heap[g]? = some (.cells cs' t (0, 0)) := e ▸ h
theorem xp {P Q : Prop} (t_ : Aside0 Q) (h : Q → P := by
  intro t_
  apply blk_eq
  ·
    (with_reducible repeat (first | refine blk_drewN ?_ _ | refine blk_drew ?_ | refine blk_alloc ?_ _ | (apply blk_far; rotate_left; exact Aside0.out (by assumption); rotate_right) | apply blk_set))
    exact t_
  · first | rfl | simp [ne_nil_b]) : P := h t_.out
theorem cell_of {w : World} {g i : Nat} {t : TypeId} {cs : Array Value} {v : Value} (h : Aside0 (w.heap[g]? = some (.cells cs t (0, 0)))) (e : cs[i]? = some v) : w.cell? ⟨g, i, none⟩ = some v := (blk_cell h.out i).trans e
theorem x3 {w : World} {g : Nat} {t : TypeId} {a b c : Value} (h : Aside0 (w.heap[g]? = some (.cells #[a, b, c] t (0, 0)))) : w.cell? ⟨g, 0, none⟩ = some a ∧ w.cell? ⟨g, 1, none⟩ = some b ∧ w.cell? ⟨g, 2, none⟩ = some c :=
  ⟨(blk_cell h.out 0).trans rfl, (blk_cell h.out 1).trans rfl, (blk_cell h.out 2).trans rfl⟩
theorem x6 {w : World} {g : Nat} {t : TypeId} {a b c : Value} (h : Aside0 (w.heap[g]? = some (.cells #[a, b, c] t (0, 0)))) : w.cell? ⟨g, 0, none⟩ = some a ∧ w.cell? ⟨g, 1, none⟩ = some b ∧ w.cell? ⟨g, 2, none⟩ = some c ∧ w.frozen? ⟨g, 0, none⟩ = false ∧ w.frozen? ⟨g, 1, none⟩ = false ∧ w.frozen? ⟨g, 2, none⟩ = false :=
  ⟨(blk_cell h.out 0).trans rfl, (blk_cell h.out 1).trans rfl, (blk_cell h.out 2).trans rfl, blk_frozen h.out 0, blk_frozen h.out 1, blk_frozen h.out 2⟩
theorem xV {P : Prop} (h : P := by (repeat' apply And.intro) <;> (first | (refine cell_of (by with_reducible assumption) ?_; rfl) | (refine cell_of (by assumption) ?_; rfl))) : P := h
theorem xM {P : Prop} (h : P := by
  repeat' first
    | (with_reducible apply m0)
    | (with_reducible apply m1)
    | (with_reducible apply m2)
    | (with_reducible apply m3)
    | (with_reducible apply m4)
    | (with_reducible apply m5)
    | (with_reducible apply m6)
    | (with_reducible apply m7)
    | (with_reducible apply m8)
    | (with_reducible apply m9)
    | (with_reducible apply m10)
    | (with_reducible apply m11)
    | (with_reducible exact LeO.refl _)
    | (with_reducible exact LeO.none _)
    | (with_reducible refine LeO.ite ?_ ?_)
    | (with_reducible refine LeO.bind ?_ (fun _ => ?_))
    | apply m0
    | apply m1
    | apply m2
    | apply m3
    | apply m4
    | apply m5
    | apply m6
    | apply m7
    | apply m8
    | apply m9
    | apply m10
    | apply m11
    | exact LeO.none _
    | refine LeO.ite ?_ ?_
    | refine LeO.bind ?_ (fun _ => ?_)) : P := h
section
variable {P : Program} {ops : Array Oper} {rest : List Oper} {o : Oper} {a : Act} {Q : Exit → Act → World → Prop}
theorem xg {w : World} {f : FuncId} {fn : Func} (hf : P.funcs[f]? = some fn) (N : Option Tmp) {as : Array Operand} {ts : Array TypeId} (args : Array Value)
    (h : Calls P f args w fun e w' => ∃ v, e = .returned v ∧ wpList P ops Q rest (a.put N v) w')
    (hd : o.dst = N := by rfl) (hg : o.guard = none := by rfl) (hname : (fn.name == "runtime.NumGoroutine") = false := by kernel_rfl) (hb : fn.body.isSome = true := by rfl)
    (hop : o.op = .call { callee := .value (.func f), args := as, argTypes := ts } := by rfl) (hargs : as.map a.eval = args := by (try simp only [List.map_toArray, List.map_cons, List.map_nil]); first | done | rfl | (simp only [List.length_drop, List.length_take]; rfl)) : wpList P ops Q (o :: rest) a w :=
  goesL_ N hd hg hf hname hb args hop hargs h
theorem xC {w : World} {f : FuncId} {fn : Func} (hf : P.funcs[f]? = some fn) (N : Option Tmp) {as : Array Operand} {ts : Array TypeId} {args : Array Value} {v : Value} {R : World → Prop}
    (hc : Calls P f args w fun e w' => e = .returned v ∧ R w') (h : ∀ w', R w' → wpList P ops Q rest (a.put N v) w')
    (hd : o.dst = N := by rfl) (hg : o.guard = none := by rfl) (hname : (fn.name == "runtime.NumGoroutine") = false := by kernel_rfl) (hb : fn.body.isSome = true := by rfl)
    (hop : o.op = .call { callee := .value (.func f), args := as, argTypes := ts } := by rfl) (hargs : as.map a.eval = args := by (try simp only [List.map_toArray, List.map_cons, List.map_nil]); first | done | rfl | (simp only [List.length_drop, List.length_take]; rfl)) : wpList P ops Q (o :: rest) a w :=
  goesL_ N hd hg hf hname hb args hop hargs (hc.mono fun e w' hh => ⟨v, hh.1, h w' hh.2⟩)
end
section
variable {P : Program} {ops : Array Oper} {Q : Exit → Act → World → Prop} {md : Region.Mode} {S : World → Prop} {ds : List Nat}
theorem xO (i : Nat) (N : Option Tmp) {oi : Oper} {fuel : Nat} {l : Array Bool} {a : Act} {w : World} (l' : Array Bool) (hi : ops[i]? = some oi) (hN : oi.dst = N)
    (h : ∀ K : Act → World → Prop, Shut (∀ a' w', S w' → (S w' → wpAnyLast P md ops Q S ds fuel l' a' w') → K a' w') → if Region.wanted oi (yielded ops a.tmps) = true then Oper.wp P oi a w K Q else K (a.put N undef) w)
    (hc : readyB md ops l l' i = true := by first | exact one_of HT_.out (by kernel_rfl) | kernel_rfl) (hd : i ∉ ds := by decide) : wpAnyLast P md ops Q S ds (fuel + 1) l a w := one_ l' hi hN hc hd h
theorem xc {oi : Oper} {N : Option Tmp} {a : Act} {w : World} {K : Act → World → Prop} {f : FuncId} {fn : Func} (hf : P.funcs[f]? = some fn) {as : Array Operand} {ts : Array TypeId} {args : Array Value} {v : Value} {R : World → Prop}
    (hcall : Calls P f args w fun e w' => e = .returned v ∧ R w') (h : ∀ w', R w' → K (a.put N v) w')
    (hname : (fn.name == "runtime.NumGoroutine") = false := by kernel_rfl) (hb : fn.body.isSome = true := by rfl)
    (hw : Region.wanted oi (yielded ops a.tmps) = true := by rfl) (hN : oi.dst = N := by rfl) (hop : oi.op = .call { callee := .value (.func f), args := as, argTypes := ts } := by rfl)
    (hargs : as.map a.eval = args := by (try simp only [List.map_toArray, List.map_cons, List.map_nil]); first | done | rfl | (simp only [List.length_drop, List.length_take]; rfl)) : if Region.wanted oi (yielded ops a.tmps) = true then Oper.wp P oi a w K Q else K (a.put N undef) w :=
  goes_ hf hname hb args hw hN hop hargs (hcall.mono fun e w' hh => ⟨v, hh.1, h w' hh.2⟩)
theorem xk {oi : Oper} {a : Act} {w w1 : World} {K : Act → World → Prop} (h : K a w1) (hw : Region.wanted oi (yielded ops a.tmps) = true := by rfl) (hN : oi.dst = none := by rfl) (hrun : (execOp a.eval oi).run P w = .ok .skip w1 := by
      go_simp
      rfl) : if Region.wanted oi (yielded ops a.tmps) = true then Oper.wp P oi a w K Q else K (a.put none undef) w := skip_ hw hN hrun h
theorem xN (n : Tmp) {fuel : Nat} {l : Array Bool} {a a' : Act} {v : Value} {w : World} (h : wpAnyLast P md ops Q S ds fuel l a' w) (ha : a.put (some n) v = a' := by
      simp only [Act.put, List.setIfInBounds_toArray, List.set_cons_zero, List.set_cons_succ, i64_w, i32_w]
      rfl) : wpAnyLast P md ops Q S ds fuel l (a.put (some n) v) w := norm_ ha h
end
end Go.Proofs.YtpoogjcgjpkbeaaDoorW.Sq
