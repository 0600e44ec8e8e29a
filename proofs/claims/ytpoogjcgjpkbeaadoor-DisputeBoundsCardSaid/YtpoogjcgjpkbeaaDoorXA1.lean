/- Walks of functions of the program: a plain Lean function for each, and a proof that a call answers as it says. Written by a program (the kit's print with changes, then shortened). -/
import Derived.Test.YtpoogjcgjpkbeaaDoorProg
import Derived.Below
import Derived.Deep.Draws
import Derived.Deep.AppendLies
import Derived.Maps.AppendAt
import Derived.OwnWalk
import Derived.Laws.BytesArg
import Derived.Laws.MakeOwn
import Derived.Laws.OwnMore
import Derived.Deep.OwnRows
import Derived.Tactics
import Derived.Lib.ConvBytes
import Derived.Laws.Slices
import Derived.WalkKit
import Derived.KernelRfl
import Derived.RowKit3
import Derived.Deep.LoopGhost
import Derived.Deep.QuietTactic
import Derived.BigQuiet
import Derived.WideLaws
import Derived.Deep.DeepCutAuto
import Derived.Deep.CutBlock
import Derived.Deep.RegionHeld3
import Derived.Laws.Rows
import Derived.Lib.AppendStr
import Derived.ArgAppend
import Derived.Laws.IdiomCopy
import Derived.OrdersHeld
import Derived.Laws.BitsLemmas
import Derived.RowKit
import Derived.Test.YtpoogjcgjpkbeaaDoorWWords
import Derived.Test.YtpoogjcgjpkbeaaDoorWLast
import Derived.Test.YtpoogjcgjpkbeaaDoorWTab
import Derived.Test.YtpoogjcgjpkbeaaDoorWFour
import Derived.Test.YtpoogjcgjpkbeaaDoorWQPut
import Derived.Test.YtpoogjcgjpkbeaaDoorWApart
import Derived.Test.YtpoogjcgjpkbeaaDoorWArr
import Derived.Test.YtpoogjcgjpkbeaaDoorWZeros
import Derived.Test.YtpoogjcgjpkbeaaDoorWFoot
import Derived.Test.YtpoogjcgjpkbeaaDoorWKept
import Derived.Test.YtpoogjcgjpkbeaaDoorWShare
import Derived.Test.YtpoogjcgjpkbeaaDoorWN
import Derived.Test.YtpoogjcgjpkbeaaDoorWFootNe
import Derived.Test.YtpoogjcgjpkbeaaDoorWAt
import Derived.Test.YtpoogjcgjpkbeaaDoorWEqStruct
import Derived.Test.YtpoogjcgjpkbeaaDoorWRepsOne
import Derived.Test.YtpoogjcgjpkbeaaDoorWInv
import Derived.Test.YtpoogjcgjpkbeaaDoorWInvWords
import Derived.Test.YtpoogjcgjpkbeaaDoorWGuard
import Derived.Test.YtpoogjcgjpkbeaaDoorWNEv
import Derived.Test.YtpoogjcgjpkbeaaDoorWMore
import Derived.Test.YtpoogjcgjpkbeaaDoorWMine
import Derived.Test.YtpoogjcgjpkbeaaDoorWWin
import Derived.Test.YtpoogjcgjpkbeaaDoorWShelf
import Derived.Test.YtpoogjcgjpkbeaaDoorWSs
import Derived.Test.YtpoogjcgjpkbeaaDoorWSr
namespace Go.Proofs.YtpoogjcgjpkbeaaDoor.XA
open Go.RowKit Go.Proofs.YtpoogjcgjpkbeaaDoorW.PrintWords Go.Proofs.YtpoogjcgjpkbeaaDoorW.PrintLast Go.Proofs.YtpoogjcgjpkbeaaDoorW.PrintMore Go.Proofs.YtpoogjcgjpkbeaaDoorW.Sq Go.Proofs.YtpoogjcgjpkbeaaDoorW.Sr Go.Proofs.YtpoogjcgjpkbeaaDoorW.Ss
attribute [local go_sem] max2_int min2_int max_two min_two max_three min_three max_four min_four   -- for this text's walks alone
set_option linter.unusedVariables false
set_option linter.unusedSimpArgs false
set_option maxHeartbeats 8000000
set_option maxRecDepth 100000
open Go.RowKit Go.Proofs.YtpoogjcgjpkbeaaDoorW.PrintWords Go.Proofs.YtpoogjcgjpkbeaaDoorW.PrintLast Go.Proofs.YtpoogjcgjpkbeaaDoorW.PrintMore Go.Proofs.YtpoogjcgjpkbeaaDoorW.Sq Go.Proofs.YtpoogjcgjpkbeaaDoorW.Sr
def errW : Option Int → Value
 | none => .nilIface
 | some c => .iface 0 (.int .i64 c)
theorem errW_none : errW none = .nilIface := rfl
theorem errW_some (c : Int) : errW (some c) = .iface 0 (.int .i64 c) := rfl
theorem info3 : (Tryd.prog.info? 3).map (fun i => (i.zero, i.size, i.bytes)) = some (some (.int .i64 0), 1, 8) := by kernel_rfl
theorem info5 : (Tryd.prog.info? 5).map (fun i => (i.zero, i.size, i.bytes)) = some (some (.int .u8 0), 1, 1) := by kernel_rfl
theorem info25 : (Tryd.prog.info? 25).map (fun i => (i.zero, i.size, i.bytes)) = some (some (.agg #[(.bool false), (.string ⟨#[]⟩), (.string ⟨#[]⟩)]), 3, 40) := by kernel_rfl
theorem info50 : (Tryd.prog.info? 50).map (fun i => (i.zero, i.size, i.bytes)) = some (some (.agg #[(.int .i64 0), (.int .i64 0), (.slice none 0 0)]), 3, 40) := by kernel_rfl
theorem info54 : (Tryd.prog.info? 54).map (fun i => (i.zero, i.size, i.bytes)) = some (some (.agg #[(.bool false), (.string ⟨#[]⟩), (.string ⟨#[]⟩), (.int .i64 0)]), 4, 48) := by kernel_rfl
theorem info85 : (Tryd.prog.info? 85).map (fun i => (i.zero, i.size, i.bytes)) = some (some (.int .u32 0), 1, 4) := by kernel_rfl
-- the values' own types
/-! #### struct type 25 -/
structure S25 where
 f0 : Bool
 f1 : ByteArray
 f2 : ByteArray
def z25 : S25 := ⟨false, (⟨#[]⟩ : ByteArray), (⟨#[]⟩ : ByteArray)⟩
def k25 : Kd S25 := Kd.iso (Kd.pair Kd.bool (Kd.pair Kd.string Kd.string)) (fun x : S25 => (x.f0, x.f1, x.f2))
theorem k25_heap : Kd.Heap k25 := Kd.heap_iso _ (Kd.heap_pair Kd.heap_bool (Kd.heap_pair Kd.heap_string Kd.heap_string))
theorem k25_open {w : World} {x : S25} {cs : List Value} (h : k25.K w x cs) : cs = [.bool x.f0, .string x.f1, .string x.f2] := by
 obtain ⟨_, _, rfl, rfl, ⟨_, _, rfl, rfl, rfl⟩⟩ := h
 exact rfl
theorem k25_openM {w : World} {base : Nat} {ok : Nat → Prop} {x : S25} {cs : List Value} (h : k25.M w base ok x cs) : cs = [.bool x.f0, .string x.f1, .string x.f2] := by
 obtain ⟨_, _, rfl, rfl, ⟨_, _, rfl, rfl, rfl⟩⟩ := h
 exact rfl
theorem k25_mk (w : World) (x : S25)  : k25.K w x [.bool x.f0, .string x.f1, .string x.f2] := ⟨[.bool x.f0], [.string x.f1, .string x.f2], rfl, rfl, ⟨[.string x.f1], [.string x.f2], rfl, rfl, rfl⟩⟩
theorem k25_mkM (w : World) (base : Nat) (ok : Nat → Prop) (x : S25)  : k25.M w base ok x [.bool x.f0, .string x.f1, .string x.f2] := ⟨[.bool x.f0], [.string x.f1, .string x.f2], rfl, rfl, ⟨[.string x.f1], [.string x.f2], rfl, rfl, rfl⟩⟩
theorem k25_mkF (W : World) (ok : Nat → Prop) (x : S25) : Kd.FK k25 W ok x [.bool x.f0, .string x.f1, .string x.f2] := fun W2 _ => k25_mk W2 x
def rd_T25 (xs : List S25) (i : Int) : S25 := xs.getD i.toNat z25
theorem at_T25 {w : World} {A : Option Addr} {n : Nat} {xs : List S25} (h : Kd.C k25 w A n xs) (i : Int) (h0 : 0 ≤ i) (h1 : i < n) : ∃ ad , A = some ad ∧ w.cell? (ad.add (i.toNat * 3)) = some (.bool (rd_T25 xs i).f0) ∧ w.cell? ⟨(ad.add (i.toNat * 3)).block, (ad.add (i.toNat * 3)).off + 1, none⟩ = some (.string (rd_T25 xs i).f1) ∧ w.cell? ⟨(ad.add (i.toNat * 3)).block, (ad.add (i.toNat * 3)).off + 2, none⟩ = some (.string (rd_T25 xs i).f2) := by
 obtain ⟨ad, c, e, _, hK, hc0⟩ := Kd.C_get h z25 i h0 h1
 have hc : ∀ j u, c[j]? = some u → w.cell? (ad.add (i.toNat * 3 + j)) = some u := hc0
 obtain rfl := k25_open hK
 exact ⟨ad, e, hc 0 _ rfl, by rw [← add_field _ _ 1 (by omega)]; exact hc 1 _ rfl, by rw [← add_field _ _ 2 (by omega)]; exact hc 2 _ rfl⟩
/-! #### struct type 47 -/
structure S47 where
 f0 : Int
 f1 : Int
def z47 : S47 := ⟨(0 : Int), (0 : Int)⟩
def k47 : Kd S47 := Kd.iso (Kd.pair (Kd.int .i64) (Kd.int .i64)) (fun x : S47 => (x.f0, x.f1))
theorem k47_heap : Kd.Heap k47 := Kd.heap_iso _ (Kd.heap_pair (Kd.heap_int .i64) (Kd.heap_int .i64))
theorem k47_open {w : World} {x : S47} {cs : List Value} (h : k47.K w x cs) : cs = [.int .i64 x.f0, .int .i64 x.f1] := by
 obtain ⟨_, _, rfl, rfl, rfl⟩ := h
 exact rfl
theorem k47_openM {w : World} {base : Nat} {ok : Nat → Prop} {x : S47} {cs : List Value} (h : k47.M w base ok x cs) : cs = [.int .i64 x.f0, .int .i64 x.f1] := by
 obtain ⟨_, _, rfl, rfl, rfl⟩ := h
 exact rfl
theorem k47_mk (w : World) (x : S47)  : k47.K w x [.int .i64 x.f0, .int .i64 x.f1] := ⟨[.int .i64 x.f0], [.int .i64 x.f1], rfl, rfl, rfl⟩
theorem k47_mkM (w : World) (base : Nat) (ok : Nat → Prop) (x : S47)  : k47.M w base ok x [.int .i64 x.f0, .int .i64 x.f1] := ⟨[.int .i64 x.f0], [.int .i64 x.f1], rfl, rfl, rfl⟩
theorem k47_mkF (W : World) (ok : Nat → Prop) (x : S47) : Kd.FK k47 W ok x [.int .i64 x.f0, .int .i64 x.f1] := fun W2 _ => k47_mk W2 x
def rd_T47 (xs : List S47) (i : Int) : S47 := xs.getD i.toNat z47
theorem at_T47 {w : World} {A : Option Addr} {n : Nat} {xs : List S47} (h : Kd.C k47 w A n xs) (i : Int) (h0 : 0 ≤ i) (h1 : i < n) : ∃ ad , A = some ad ∧ w.cell? (ad.add (i.toNat * 2)) = some (.int .i64 (rd_T47 xs i).f0) ∧ w.cell? ⟨(ad.add (i.toNat * 2)).block, (ad.add (i.toNat * 2)).off + 1, none⟩ = some (.int .i64 (rd_T47 xs i).f1) := by
 obtain ⟨ad, c, e, _, hK, hc0⟩ := Kd.C_get h z47 i h0 h1
 have hc : ∀ j u, c[j]? = some u → w.cell? (ad.add (i.toNat * 2 + j)) = some u := hc0
 obtain rfl := k47_open hK
 exact ⟨ad, e, hc 0 _ rfl, by rw [← add_field _ _ 1 (by omega)]; exact hc 1 _ rfl⟩
/-! #### struct type 54 -/
structure S54 where
 f0 : S25
 f1 : Int
def z54 : S54 := ⟨z25, (0 : Int)⟩
def k54 : Kd S54 := Kd.iso (Kd.pair k25 (Kd.int .i64)) (fun x : S54 => (x.f0, x.f1))
theorem k54_heap : Kd.Heap k54 := Kd.heap_iso _ (Kd.heap_pair k25_heap (Kd.heap_int .i64))
theorem k54_open {w : World} {x : S54} {cs : List Value} (h : k54.K w x cs) : cs = [.bool x.f0.f0, .string x.f0.f1, .string x.f0.f2, .int .i64 x.f1] := by
 obtain ⟨_, _, rfl, s0, rfl⟩ := h
 obtain rfl := k25_open s0
 exact rfl
theorem k54_openM {w : World} {base : Nat} {ok : Nat → Prop} {x : S54} {cs : List Value} (h : k54.M w base ok x cs) : cs = [.bool x.f0.f0, .string x.f0.f1, .string x.f0.f2, .int .i64 x.f1] := by
 obtain ⟨_, _, rfl, s0, rfl⟩ := h
 obtain rfl := k25_openM s0
 exact rfl
theorem k54_mk (w : World) (x : S54)  : k54.K w x [.bool x.f0.f0, .string x.f0.f1, .string x.f0.f2, .int .i64 x.f1] := ⟨[.bool x.f0.f0, .string x.f0.f1, .string x.f0.f2], [.int .i64 x.f1], rfl, (k25_mk w x.f0 ), rfl⟩
theorem k54_mkM (w : World) (base : Nat) (ok : Nat → Prop) (x : S54)  : k54.M w base ok x [.bool x.f0.f0, .string x.f0.f1, .string x.f0.f2, .int .i64 x.f1] := ⟨[.bool x.f0.f0, .string x.f0.f1, .string x.f0.f2], [.int .i64 x.f1], rfl, (k25_mkM w base ok x.f0 ), rfl⟩
theorem k54_mkF (W : World) (ok : Nat → Prop) (x : S54) : Kd.FK k54 W ok x [.bool x.f0.f0, .string x.f0.f1, .string x.f0.f2, .int .i64 x.f1] := fun W2 _ => k54_mk W2 x
def rd_T54 (xs : List S54) (i : Int) : S54 := xs.getD i.toNat z54
theorem at_T54 {w : World} {A : Option Addr} {n : Nat} {xs : List S54} (h : Kd.C k54 w A n xs) (i : Int) (h0 : 0 ≤ i) (h1 : i < n) : ∃ ad , A = some ad ∧ w.cell? (ad.add (i.toNat * 4)) = some (.bool (rd_T54 xs i).f0.f0) ∧ w.cell? ⟨(ad.add (i.toNat * 4)).block, (ad.add (i.toNat * 4)).off + 1, none⟩ = some (.string (rd_T54 xs i).f0.f1) ∧ w.cell? ⟨(ad.add (i.toNat * 4)).block, (ad.add (i.toNat * 4)).off + 2, none⟩ = some (.string (rd_T54 xs i).f0.f2) ∧ w.cell? ⟨(ad.add (i.toNat * 4)).block, (ad.add (i.toNat * 4)).off + 3, none⟩ = some (.int .i64 (rd_T54 xs i).f1) := by
 obtain ⟨ad, c, e, _, hK, hc0⟩ := Kd.C_get h z54 i h0 h1
 have hc : ∀ j u, c[j]? = some u → w.cell? (ad.add (i.toNat * 4 + j)) = some u := hc0
 obtain rfl := k54_open hK
 exact ⟨ad, e, hc 0 _ rfl, by rw [← add_field _ _ 1 (by omega)]; exact hc 1 _ rfl, by rw [← add_field _ _ 2 (by omega)]; exact hc 2 _ rfl, by rw [← add_field _ _ 3 (by omega)]; exact hc 3 _ rfl⟩
def rd_L9 (xs : List (List S54)) (i : Int) : (List S54) := xs.getD i.toNat ([] : List S54)
theorem at_L9 {w : World} {A : Option Addr} {n : Nat} {xs : List (List S54)} (h : Kd.C (Kd.slice 54 k54) w A n xs) (i : Int) (h0 : 0 ≤ i) (h1 : i < n) : ∃ ad A0 c0, A = some ad ∧ w.cell? (ad.add i.toNat) = some (.slice A0 (rd_L9 xs i).length c0) ∧ (rd_L9 xs i).length ≤ c0 ∧ k54.C w A0 (rd_L9 xs i).length (rd_L9 xs i) := by
 obtain ⟨ad, c, e, _, hK, hc0⟩ := Kd.C_get h ([] : List S54) i h0 h1
 have hc : ∀ j u, c[j]? = some u → w.cell? (ad.add (i.toNat * 1 + j)) = some u := hc0
 obtain ⟨A0, c0, rfl, l0, g0⟩ := hK
 exact ⟨ad, A0, c0, e, by have hq := hc 0 _ rfl; rwa [Nat.mul_one, Nat.add_zero] at hq, l0, g0⟩
/-! #### struct type 50 -/
structure S50 where
 f0 : S47
 f1 : (List S54)
def z50 : S50 := ⟨z47, ([] : List S54)⟩
def k50 : Kd S50 := Kd.iso (Kd.pair k47 (Kd.slice 54 k54)) (fun x : S50 => (x.f0, x.f1))
theorem k50_heap : Kd.Heap k50 := Kd.heap_iso _ (Kd.heap_pair k47_heap (Kd.heap_slice 54 k54_heap))
theorem k50_open {w : World} {x : S50} {cs : List Value} (h : k50.K w x cs) : ∃ A2 c2, cs = [.int .i64 x.f0.f0, .int .i64 x.f0.f1, .slice A2 x.f1.length c2] ∧ x.f1.length ≤ c2 ∧ k54.C w A2 x.f1.length x.f1 := by
 obtain ⟨_, _, rfl, s0, ⟨A2, c2, rfl, l2, g2⟩⟩ := h
 obtain rfl := k47_open s0
 exact ⟨A2, c2, rfl, l2, g2⟩
theorem k50_openM {w : World} {base : Nat} {ok : Nat → Prop} {x : S50} {cs : List Value} (h : k50.M w base ok x cs) : ∃ v2, cs = [.int .i64 x.f0.f0, .int .i64 x.f0.f1, v2] ∧ k54.R 54 w base ok v2 x.f1 := by
 obtain ⟨_, _, rfl, s0, ⟨v2, rfl, g2⟩⟩ := h
 obtain rfl := k47_openM s0
 exact ⟨v2, rfl, g2⟩
theorem k50_mk (w : World) (x : S50) {A2 : Option Addr} {c2 : Nat} (l2 : x.f1.length ≤ c2) (g2 : k54.C w A2 x.f1.length x.f1) : k50.K w x [.int .i64 x.f0.f0, .int .i64 x.f0.f1, .slice A2 x.f1.length c2] := ⟨[.int .i64 x.f0.f0, .int .i64 x.f0.f1], [.slice A2 x.f1.length c2], rfl, (k47_mk w x.f0 ), ⟨A2, c2, rfl, l2, g2⟩⟩
theorem k50_mkM (w : World) (base : Nat) (ok : Nat → Prop) (x : S50) {v2 : Value} (g2 : k54.R 54 w base ok v2 x.f1) : k50.M w base ok x [.int .i64 x.f0.f0, .int .i64 x.f0.f1, v2] := ⟨[.int .i64 x.f0.f0, .int .i64 x.f0.f1], [v2], rfl, (k47_mkM w base ok x.f0 ), ⟨v2, rfl, g2⟩⟩
theorem k50_openF {W : World} {ok : Nat → Prop} {x : S50} {cs : List Value} (h : Kd.FK k50 W ok x cs) : ∃ A2 c2, cs = [.int .i64 x.f0.f0, .int .i64 x.f0.f1, .slice A2 x.f1.length c2] ∧ x.f1.length ≤ c2 ∧ Kd.F k54 W ok A2 x.f1.length x.f1 := by
 obtain ⟨A2, c2, rfl, l2, _⟩ := k50_open (Kd.FK_now h)
 exact ⟨A2, c2, rfl, l2, (fun W' hW => by obtain ⟨A2_, c2_, he, l2_, g2_⟩ := k50_open (h W' hW); injection (Option.some.inj (show some (Value.slice A2 x.f1.length c2) = some (Value.slice A2_ x.f1.length c2_) from congrArg (fun l => l[2]?) he)) with ha_ _ _; rw [ha_]; exact g2_)⟩
theorem k50_mkF (W : World) (ok : Nat → Prop) (x : S50) {A2 : Option Addr} {c2 : Nat} (l2 : x.f1.length ≤ c2) (g2 : Kd.F k54 W ok A2 x.f1.length x.f1) : Kd.FK k50 W ok x [.int .i64 x.f0.f0, .int .i64 x.f0.f1, .slice A2 x.f1.length c2] := fun W2 hW => k50_mk W2 x l2 (g2 W2 hW)
def rd_T50 (xs : List S50) (i : Int) : S50 := xs.getD i.toNat z50
theorem at_T50 {w : World} {A : Option Addr} {n : Nat} {xs : List S50} (h : Kd.C k50 w A n xs) (i : Int) (h0 : 0 ≤ i) (h1 : i < n) : ∃ ad A2 c2, A = some ad ∧ w.cell? (ad.add (i.toNat * 3)) = some (.int .i64 (rd_T50 xs i).f0.f0) ∧ w.cell? ⟨(ad.add (i.toNat * 3)).block, (ad.add (i.toNat * 3)).off + 1, none⟩ = some (.int .i64 (rd_T50 xs i).f0.f1) ∧ w.cell? ⟨(ad.add (i.toNat * 3)).block, (ad.add (i.toNat * 3)).off + 2, none⟩ = some (.slice A2 (rd_T50 xs i).f1.length c2) ∧ (rd_T50 xs i).f1.length ≤ c2 ∧ k54.C w A2 (rd_T50 xs i).f1.length (rd_T50 xs i).f1 := by
 obtain ⟨ad, c, e, _, hK, hc0⟩ := Kd.C_get h z50 i h0 h1
 have hc : ∀ j u, c[j]? = some u → w.cell? (ad.add (i.toNat * 3 + j)) = some u := hc0
 obtain ⟨A2, c2, rfl, l2, g2⟩ := k50_open hK
 exact ⟨ad, A2, c2, e, hc 0 _ rfl, by rw [← add_field _ _ 1 (by omega)]; exact hc 1 _ rfl, by rw [← add_field _ _ 2 (by omega)]; exact hc 2 _ rfl, l2, g2⟩
theorem eqA25 (d : Nat) (w : World) (x0 y0 : Bool) (x1 y1 : ByteArray) (x2 y2 : ByteArray) :
  (Op.equalIn (d + 2) 25 (.agg #[.bool x0, .string x1, .string x2]) (.agg #[.bool y0, .string y1, .string y2])).run Tryd.prog w = .ok (x0 == y0 && (x1.toList == y1.toList && (x2.toList == y2.toList))) w := by
 refine eqA_of Tryd.underlying25 (by kernel_rfl) ?_
 refine eqf_cons (by rfl) (by go_simp; rfl) (by go_simp; rfl) (by go_simp) ?_
 refine eqf_cons (by rfl) (by go_simp; rfl) (by go_simp; rfl) (by go_simp) ?_
 exact eqf_last (by rfl) (by go_simp; rfl) (by go_simp; rfl) (by go_simp)
/-! ### ir_Normalize: function 89 -/
def ir_Normalize.l0 : Nat → ByteArray → Int → Option (ByteArray)
 | 0, _, _ => none
 | k + 1, x0, x3 => if x3 < (x0.size : Int) then (if 0 ≤ x3 then (if (bt x0 x3) = 0 then (ir_Normalize.l0 k x0 (wrap64 (x3 + 1))) else (if x3 ≤ (x0.size : Int) then (some (x0.extract (x3 : Int).toNat x0.size)) else (none))) else (none)) else (if 0 ≤ x3 then (if x3 ≤ (x0.size : Int) then (some (x0.extract (x3 : Int).toNat x0.size)) else (none)) else (none))
def ir_Normalize.f (k : Nat) (a0 : ByteArray) : Option (ByteArray) := ir_Normalize.l0 k a0 0
theorem ir_Normalize.mono_l : ∀ k, (∀ y0 y1, LeO (ir_Normalize.l0 k y0 y1) (ir_Normalize.l0 (k + 1) y0 y1))
 | 0 => fun _ _ r h => by simp [ir_Normalize.l0] at h
 | k + 1 => by
  have ih0 := ir_Normalize.mono_l k
  ·intro y0 y1
   unfold ir_Normalize.l0
   have m0 := @ih0; exact xM
theorem ir_Normalize.mono : ∀ a0 k, LeO (ir_Normalize.f k a0) (ir_Normalize.f (k + 1) a0) := by
 intro a0 k
 have ih0 := ir_Normalize.mono_l k
 unfold ir_Normalize.f
 have m0 := @ih0; exact xM
theorem ir_Normalize.calls (k : Nat) (a0 : ByteArray) (r : ByteArray) (w : World) (h : ir_Normalize.f k a0 = some r) :
  Calls Tryd.prog 89 #[.string a0] w fun e w' => e = .returned (.string r) ∧ Drawn0 w w' := by
 have H := h; clear h
 unfold ir_Normalize.f at H
 have H' := Aside0.mk H
 clear H
 go_enter Tryd.func89, Tryd.ntmps89
 go_wp2
 go_loopg [3] k (fun kq v3 w' => ∃ (x3_1 : Int), v3 = .int .i64 x3_1 ∧ Aside0 (ir_Normalize.l0 kq a0 x3_1 = some r) ∧ Aside0 (kq ≤ k) ∧ Drawn0 w w')
 case atStart => exact ⟨(0), xz, H', ⟨Nat.le_refl _⟩, xd⟩
 case round =>
  clear H'
  obtain ⟨x3_1, rfl, HA, HK1, ⟨m1, rfl⟩⟩ := hrel
  cases gk with
  | zero => exact absurd HA.out (by simp [ir_Normalize.l0])
  | succ k1 =>
   have H := HA.out
   clear HA
   simp only [ir_Normalize.l0] at H
   obtain ⟨c2b0, H⟩ | ⟨c2b0, H⟩ := xOd H
   ·obtain ⟨c3b0, H⟩ := xQd H
    obtain ⟨c5, H⟩ | ⟨c5, H⟩ := xO H
    ·have c5b0 := beq_iff_eq.mpr c5
     have c5b1 := bne_eq_false_iff_eq.mpr c5
     clear c5
     have H' := Aside0.mk H
     clear H
     have p4 : 0 ≤ (x3_1 : Int) := xa
     have q4 : x3_1 < (a0.size : Int) := xa
     have hx4 := bt_at a0 x3_1
     replace p4 := eq_true p4
     replace q4 := eq_true q4
     go_wp2
     go_roundg k1
     case measure => have := HK1.out; omega
     case rel => exact ⟨(wrap64 (x3_1 + 1)), xz, H', ⟨by have := HK1.out; omega⟩, xd⟩
    have c5b0 := beq_eq_false_iff_ne.mpr c5
    have c5b1 := bne_iff_ne.mpr c5
    have c6b0 := eq_true (xa : 0 ≤ x3_1)
    obtain ⟨c7b0, c7b1, H⟩ := xQt H
    obtain rfl := Option.some.inj H
    have p4 : 0 ≤ (x3_1 : Int) := xa
    have q4 : x3_1 < (a0.size : Int) := xa
    have hx4 := bt_at a0 x3_1
    replace p4 := eq_true p4
    replace q4 := eq_true q4
    go_wp2
    go_ret
    exact ⟨xz, xd⟩
   obtain ⟨c8b0, c8b1, H⟩ := xQt H
   obtain ⟨c9b0, c9b1, H⟩ := xQt H
   obtain rfl := Option.some.inj H
   go_wp2
   go_ret
   exact ⟨xz, xd⟩
/-! ### ir_limbs: function 67 -/
def ir_limbs.l0 : Nat → ByteArray → List Int → Int → Option (List Int)
 | 0, _, _, _ => none
 | k + 1, x0, x3, x4 => if x4 < (x0.size : Int) then (if 0 ≤ (wrap64 (Int.tdiv x4 4)) then (if (wrap64 (Int.tdiv x4 4)) < (x3.length : Int) then (if 0 ≤ (wrap64 ((wrap64 ((x0.size : Int) - 1)) - x4)) then (if (wrap64 ((wrap64 ((x0.size : Int) - 1)) - x4)) < (x0.size : Int) then (if 0 ≤ (IntKind.u64.wrap (wrap64 (8 * (Int.tmod x4 4)))) then (ir_limbs.l0 k x0 (x3.set ((wrap64 (Int.tdiv x4 4)) : Int).toNat (Go.bits .or .u32 (rd x3 (wrap64 (Int.tdiv x4 4))) (shl .u32 ((bt x0 (wrap64 ((wrap64 ((x0.size : Int) - 1)) - x4))) % 4294967296) (IntKind.u64.wrap (wrap64 (8 * (Int.tmod x4 4))))))) (wrap64 (x4 + 1))) else (none)) else (none)) else (none)) else (none)) else (none)) else (some x3)
def ir_limbs.f (k : Nat) (a0 : ByteArray) : Option (List Int) := (ir_Normalize.f k a0).bind fun t101 => (if 0 ≤ (wrap64 (Int.tdiv (wrap64 ((t101.size : Int) + 3)) 4)) then (if (wrap64 (Int.tdiv (wrap64 ((t101.size : Int) + 3)) 4) : Int).toNat ≤ 70368744177664 then (ir_limbs.l0 k t101 (List.replicate (wrap64 (Int.tdiv (wrap64 ((t101.size : Int) + 3)) 4) : Int).toNat 0) 0) else (none)) else (none))
theorem ir_limbs.mono_l : ∀ k, (∀ y0 y1 y2, LeO (ir_limbs.l0 k y0 y1 y2) (ir_limbs.l0 (k + 1) y0 y1 y2))
 | 0 => fun _ _ _ r h => by simp [ir_limbs.l0] at h
 | k + 1 => by
  have ih0 := ir_limbs.mono_l k
  ·intro y0 y1 y2
   unfold ir_limbs.l0
   have m0 := @ih0; have m1 := @ir_Normalize.mono; exact xM
theorem ir_limbs.mono : ∀ a0 k, LeO (ir_limbs.f k a0) (ir_limbs.f (k + 1) a0) := by
 intro a0 k
 have ih0 := ir_limbs.mono_l k
 unfold ir_limbs.f
 have m0 := @ih0; have m1 := @ir_Normalize.mono; exact xM
def ir_limbs.T6 : Bool × List (List Nat × List Nat) := (true, [([], []), ([], []), ([1], [1]), ([], []), ([], []), ([4], [4]), ([3, 5], [3, 5]), ([6], [6]), ([], []), ([], []), ([9], [9]), ([10], [10]), ([], []), ([11, 12], [11, 12]), ([8, 13], [8, 13]), ([14], [14]), ([], []), ([16], [16]), ([17], [17]), ([18], [18]), ([15, 19], [15, 19]), ([7, 20], [7, 20]), ([0, 2, 0, 1, 2, 3, 4, 5, 6, 7, 8, 9, 10, 11, 12, 13, 14, 15, 16, 17, 18, 19, 20, 21], [0, 2]), ([22, 21, 0, 1, 2, 3, 4, 5, 6, 7, 8, 9, 10, 11, 12, 13, 14, 15, 16, 17, 18, 19, 20, 21], [21, 22])])
def ir_limbs.B6 : List Nat := [0, 0, 2, 0, 0, 16, 56, 120, 0, 0, 512, 1536, 0, 7680, 16128, 32512, 0, 65536, 196608, 458752, 1048320, 2097144, 4194303, 8388607]
theorem ir_limbs.tab6 : rtab .any (opsOf Tryd.f67 6) = ir_limbs.T6 := by kernel_rfl
theorem ir_limbs.bits6 : waitsOk ir_limbs.T6.2 ir_limbs.B6 = true := by kernel_rfl
theorem ir_limbs.calls (k : Nat) (a0 : ByteArray) (r : List Int) (w : World) (h : ir_limbs.f k a0 = some r) :
  Calls Tryd.prog 67 #[.string a0] w fun e w' => ∃ v0_ : Value, e = .returned (v0_) ∧ Kd.R (Kd.int .u32) 85 w' w.heap.size (fun _ => True) v0_ r ∧ Below w.heap.size w w' := by
 have HB := Aside0.mk (Below.refl w.heap.size w)
 have H := h; clear h
 unfold ir_limbs.f at H
 replace H := xH H; obtain ⟨t101, A2, H⟩ := H
 generalize hji3 : (wrap64 (Int.tdiv (wrap64 ((t101.size : Int) + 3)) 4)) = ji3 at H
 have hji3w : (IntKind.i64.wrap (Int.tdiv (wrap64 ((t101.size : Int) + 3)) 4)) = ji3 := (i64_w _).trans hji3
 obtain ⟨c4b0, c4b1, H⟩ := xQt H
 obtain ⟨c5b0, c5b1, H⟩ := xQt H
 generalize hy102 : (List.replicate (ji3 : Int).toNat 0 : List Int) = y102 at H
 have Ny102 := Aside0.mk hy102.symm
 clear hy102
 have H' := Aside0.mk H
 clear H
 go_enter Tryd.func67, Tryd.ntmps67
 go_wp2_with (first | (refine xg Tryd.func89 (some 6) #[.string a0] ?_; (with_reducible refine (ir_Normalize.calls k a0 t101 _ A2.out).mono ?_); rintro e w' ⟨rfl, ⟨nd, rfl⟩⟩; refine ⟨_, rfl, ?_⟩) | ((with_reducible refine gate_dst (N := 11) rfl ?_); refine Kd.R_make (Kd.int .u32) _ 85 rfl (N := 11) rfl 73 _ _ rfl ji3 rfl rfl Tryd.underlying73 (.int .u32 0) 4 info85 rfl (by decide) (by omega) 0 (ok := fun _ => True) (okp := fun _ => True) rfl (fun _ hk => hk) trivial (xa) (Nat.le_trans (Nat.mul_le_mul_right _ (xa : ji3.toNat ≤ 70368744177664)) (by omega)) (Below.refl _ _) (Nat.le_refl _) ?_; intro v103 w6 ho7 hb hg_ hnew_; clear hg_ hnew_; (rw [← Ny102.out] at ho7); have HO104 := Aside0.mk (Kd.R_lower ho7 (below_size (xs HB))); replace HB := xS HB hb; clear hb ho7))
 go_loopg [4] k (fun kq v4 w' => ∃ (x3_1 : List Int) (x4_1 : Int), v4 = .int .i64 x4_1 ∧ Aside0 (ir_limbs.l0 kq t101 x3_1 x4_1 = some r) ∧ Aside0 (kq ≤ k) ∧ Aside0 (Kd.R (Kd.int .u32) 85 w' w.heap.size (fun _ => True) v103 x3_1) ∧ Aside0 (Below w.heap.size w w'))
 case atStart => exact ⟨(y102), (0), xz, H', ⟨Nat.le_refl _⟩, ⟨xr HO104.out⟩, ⟨xs HB⟩⟩
 case round =>
  clear H'
  clear c4b0 c4b1 c5b0 c5b1
  obtain ⟨x3_1, x4_1, rfl, HA, HK1, HO_3, HB⟩ := hrel
  cases gk with
  | zero => exact absurd HA.out (by simp [ir_limbs.l0])
  | succ k1 =>
   have H := HA.out
   clear HA
   simp only [ir_limbs.l0] at H
   obtain ⟨c8b0, H⟩ | ⟨c8b0, H⟩ := xOd H
   ·generalize hji9 : (wrap64 (Int.tdiv x4_1 4)) = ji9 at H
    have hji9w : (IntKind.i64.wrap (Int.tdiv x4_1 4)) = ji9 := (i64_w _).trans hji9
    obtain ⟨c10b0, H⟩ := xQd H
    obtain ⟨c11b0, H⟩ := xQd H
    generalize hji12 : (wrap64 ((wrap64 ((t101.size : Int) - 1)) - x4_1)) = ji12 at H
    have hji12w : (IntKind.i64.wrap ((wrap64 ((t101.size : Int) - 1)) - x4_1)) = ji12 := (i64_w _).trans hji12
    obtain ⟨c13b0, H⟩ := xQd H
    obtain ⟨c14b0, H⟩ := xQd H
    generalize hji16 : ((IntKind.u64.wrap (wrap64 (8 * (Int.tmod x4_1 4)))) : Int) = ji16 at H
    obtain ⟨c17b0, c17b1, H⟩ := xQt H
    generalize hji18 : (shl .u32 ((bt t101 (ji12)) % 4294967296) (ji16)) = ji18 at H
    have hji18_ : (IntKind.u32.wrap (((bt t101 (ji12)) % 4294967296) * 2 ^ min (ji16).toNat 32)) = ji18 := hji18
    have hji18m : (((bt t101 (ji12)) % 4294967296) * 2 ^ min (ji16).toNat 32) % 4294967296 = ji18 := (IntKind.wrap_u32 _).symm.trans hji18
    have hji18z : (ji16) ≤ 32 → (IntKind.u32.wrap (((bt t101 (ji12)) % 4294967296) * 2 ^ (ji16).toNat)) = ji18 := shl_small hji18
    generalize hy106 : (x3_1.set ((ji9) : Int).toNat (Go.bits .or .u32 (rd x3_1 (ji9)) (ji18)) : List Int) = y106 at H
    have Ny106 := Aside0.mk hy106.symm
    clear hy106
    have H' := Aside0.mk H
    clear H
    try go_wp2
    replace HO_3 := Aside0.mk (Kd.R_drew HO_3.out)
    replace HB := xW HB
    obtain ⟨Ao21, co21, eo21⟩ := Kd.R_slice HO_3.out
    subst eo21
    obtain ⟨p105, q105, ad105, e105, hx105_0⟩ := xA (Kd.at_int (Kd.R_reads' HO_3.out).2.2 (ji9))
    cases e105
    have p15 : 0 ≤ ((ji12) : Int) := xa
    have q15 : (ji12) < (t101.size : Int) := xa
    have hx15 := bt_at t101 (ji12)
    replace p15 := eq_true p15
    replace q15 := eq_true q15
    have p19 : 0 ≤ ((ji9) : Int) := xa
    have q19 : ((ji9) : Int) < ((x3_1.length : Int) : Int) := xa
    obtain ⟨go19, co19, eo19, gb19, gl19, cl19, HG19⟩ := Kd.R_form HO_3.out (by omega)
    cases eo19
    have GB19 := Aside0.mk gb19
    have GG19 := Aside0.mk HG19
    clear gb19 gl19 HG19
    simp only [add_plain] at hx105_0
    obtain ⟨hx19_0, hf19_0⟩ := Kd.R_celln 0 HO_3.out ((ji9) : Int) p19 q19
    replace p19 := eq_true p19
    replace q19 := eq_true q19
    have HP22 := Kd.R_putn HO_3.out ((ji9) : Int) (Go.bits .or .u32 (rd x3_1 (ji9)) (ji18))
    rw [← Ny106.out] at HP22
    have HQ22 := Aside0.mk HP22
    clear HP22
    refine start_ (n := 24) (S := fun w' => w'.cell? ⟨go19, (ji9).toNat, none⟩ = some (.int .u32 (rd x3_1 (ji9)))) (ds := [23]) (b 24 0) (by kernel_rfl) rfl rfl (hx105_0) (fun hHeld => ?_); refine with_tabW ir_limbs.tab6 ir_limbs.bits6 (fun HT_ HW_ => ?_)
    generalize wr.drew = w20 at HO_3 HB GG19 HQ22 hf19_0 hx105_0 hx19_0 hHeld ⊢
    refine yP 0 (some 18) (b 24 1) ?_
    refine yP 1 (some 19) (b 24 3) ?_
    refine yP 2 (some 20) (b 24 7) ?_
    refine yP 3 (some 21) (b 24 15) ?_
    refine yP 4 (some 22) (b 24 31) ?_
    refine yP 5 (some 23) (b 24 63) ?_
    refine yP 6 (some 24) (b 24 127) ?_
    refine yP 8 (some 26) (b 24 383) ?_
    refine yP 9 (some 27) (b 24 895) ?_
    refine yP 10 (some 28) (b 24 1919) ?_
    refine yP 11 (some 29) (b 24 3967) ?_
    refine yP 12 (some 30) (b 24 8063) ?_
    refine yP 13 (some 31) (b 24 16255) ?_
    refine yP 16 (some 34) (b 24 81791) ?_
    refine yP 17 (some 35) (b 24 212863) ?_
    refine yP 18 (some 36) (b 24 475007) ?_
    refine yP 19 (some 37) (b 24 999295) ?_
    refine yT 7 (some 25) (b 24 999423) hHeld ?_
    refine yT 14 (some 32) (b 24 1015807) hHeld ?_
    refine yP 15 (some 33) (b 24 1048575) ?_
    refine yP 20 (some 38) (b 24 2097151) ?_
    refine yP 21 (some 39) (b 24 4194303) ?_
    refine yP 22 (some 40) (b 24 8388607) ?_
    refine yZ 23 none (b 24 16777215) fun K hK => ?_
    refine xk ?_
    refine hK.out _ _ ?_
    clear hK K
    refine done_ (done_of HT_.out (by kernel_rfl)) ?_
    try go_wp2
    go_roundg k1
    case measure => have := HK1.out; omega
    case rel => exact ⟨(y106), (wrap64 (x4_1 + 1)), xz, H', ⟨by have := HK1.out; omega⟩, ⟨by (have q_ := HQ22.out; simp only [← hji18m] at q_; exact q_)⟩, ⟨xs HB⟩⟩
   obtain rfl := Option.some.inj H
   go_wp2
   go_ret
   exact ⟨_, by rfl, HO_3.out, xs HB⟩
/-! ### ir_order: function 70 -/
def ir_order.l0 : Nat → List Int → List Int → Int → Option (Int)
 | 0, _, _, _ => none
 | k + 1, x0, x1, x5 => if x5 ≥ 0 then (if 0 ≤ x5 then (if x5 < (x0.length : Int) then (if x5 < (x1.length : Int) then (if (rd x0 x5) = (rd x1 x5) then (ir_order.l0 k x0 x1 (wrap64 (x5 - 1))) else (if (rd x0 x5) < (rd x1 x5) then (some (-1)) else (some 1))) else (none)) else (none)) else (none)) else (some 0)
def ir_order.f (k : Nat) (l0 : List Int) (l1 : List Int) : Option (Int) := if (l0.length : Int) = (l1.length : Int) then (ir_order.l0 k l0 l1 (wrap64 ((l0.length : Int) - 1))) else (if (l0.length : Int) < (l1.length : Int) then (some (-1)) else (some 1))
theorem ir_order.mono_l : ∀ k, (∀ y0 y1 y2, LeO (ir_order.l0 k y0 y1 y2) (ir_order.l0 (k + 1) y0 y1 y2))
 | 0 => fun _ _ _ r h => by simp [ir_order.l0] at h
 | k + 1 => by
  have ih0 := ir_order.mono_l k
  ·intro y0 y1 y2
   unfold ir_order.l0
   have m0 := @ih0; exact xM
theorem ir_order.mono : ∀ a0 a1 k, LeO (ir_order.f k a0 a1) (ir_order.f (k + 1) a0 a1) := by
 intro a0 a1 k
 have ih0 := ir_order.mono_l k
 unfold ir_order.f
 have m0 := @ih0; exact xM
theorem ir_order.calls (k : Nat) (A0 : Option Addr) (c0 : Nat) (l0 : List Int) (A1 : Option Addr) (c1 : Nat) (l1 : List Int) (r : Int) (w : World) (hr0 : Kd.C (Kd.int .u32) w A0 l0.length l0) (hc0 : l0.length ≤ c0) (hr1 : Kd.C (Kd.int .u32) w A1 l1.length l1) (hc1 : l1.length ≤ c1) (h : ir_order.f k l0 l1 = some r) :
  Calls Tryd.prog 70 #[.slice A0 l0.length c0, .slice A1 l1.length c1] w fun e w' => e = .returned (.int .i64 r) ∧ Drawn0 w w' := by
 have HR0 := Aside0.mk hr0
 have HC0 := Aside0.mk hc0
 clear hr0 hc0
 have HR1 := Aside0.mk hr1
 have HC1 := Aside0.mk hc1
 clear hr1 hc1
 have H := h; clear h
 unfold ir_order.f at H
 obtain ⟨c3, H⟩ | ⟨c3, H⟩ := xO H
 ·have c3b0 := beq_iff_eq.mpr c3
  have c3b1 := bne_eq_false_iff_eq.mpr c3
  have c3b2 : (l0.length == l1.length) = true := by (simp at c3 ⊢; omega)
  clear c3
  have H' := Aside0.mk H
  clear H
  go_enter Tryd.func70, Tryd.ntmps70
  go_wp2
  repeat (go_quiet (fail); try go_wp2)
  go_loopg [5] k (fun kq v5 w' => ∃ (x5_1 : Int), v5 = .int .i64 x5_1 ∧ Aside0 (ir_order.l0 kq l0 l1 x5_1 = some r) ∧ Aside0 (kq ≤ k) ∧ Drawn0 w w')
  case atStart => exact ⟨(wrap64 ((l0.length : Int) - 1)), xz, H', ⟨Nat.le_refl _⟩, xd⟩
  case round =>
   clear H'
   clear c3b0 c3b1 c3b2
   obtain ⟨x5_1, rfl, HA, HK1, ⟨m1, rfl⟩⟩ := hrel
   cases gk with
   | zero => exact absurd HA.out (by simp [ir_order.l0])
   | succ k1 =>
    have H := HA.out
    clear HA
    simp only [ir_order.l0] at H
    obtain ⟨c4b0, H⟩ | ⟨c4b0, H⟩ := xOd H
    ·obtain ⟨c5b0, H⟩ := xQd H
     obtain ⟨c6b0, H⟩ := xQd H
     obtain ⟨c7b0, H⟩ := xQd H
     obtain ⟨c8, H⟩ | ⟨c8, H⟩ := xO H
     ·have c8b0 := beq_iff_eq.mpr c8
      have c8b1 := bne_eq_false_iff_eq.mpr c8
      clear c8
      have H' := Aside0.mk H
      clear H
      obtain ⟨p107, q107, ad107, e107, hx107_0⟩ := xA (Kd.at_int HR0.out x5_1)
      cases e107
      obtain ⟨p108, q108, ad108, e108, hx108_0⟩ := xA (Kd.at_int HR1.out x5_1)
      cases e108
      go_wp2
      repeat (go_quiet (fail); try go_wp2)
      go_roundg k1
      case measure => have := HK1.out; omega
      case rel => exact ⟨(wrap64 (x5_1 - 1)), xz, H', ⟨by have := HK1.out; omega⟩, xd⟩
     have c8b0 := beq_eq_false_iff_ne.mpr c8
     have c8b1 := bne_iff_ne.mpr c8
     obtain ⟨c9b0, H⟩ | ⟨c9b0, H⟩ := xOd H
     ·obtain rfl := Option.some.inj H
      obtain ⟨p107, q107, ad107, e107, hx107_0⟩ := xA (Kd.at_int HR0.out x5_1)
      cases e107
      obtain ⟨p108, q108, ad108, e108, hx108_0⟩ := xA (Kd.at_int HR1.out x5_1)
      cases e108
      obtain ⟨p109, q109, ad109, e109, hx109_0⟩ := xA (Kd.at_int HR0.out x5_1)
      obtain rfl : ad107 = ad109 := (by injection e109)
      obtain ⟨p110, q110, ad110, e110, hx110_0⟩ := xA (Kd.at_int HR1.out x5_1)
      obtain rfl : ad108 = ad110 := (by injection e110)
      go_wp2
      repeat (go_quiet (fail); try go_wp2)
      go_ret
      exact ⟨xz, xd⟩
     obtain rfl := Option.some.inj H
     obtain ⟨p107, q107, ad107, e107, hx107_0⟩ := xA (Kd.at_int HR0.out x5_1)
     cases e107
     obtain ⟨p108, q108, ad108, e108, hx108_0⟩ := xA (Kd.at_int HR1.out x5_1)
     cases e108
     obtain ⟨p109, q109, ad109, e109, hx109_0⟩ := xA (Kd.at_int HR0.out x5_1)
     obtain rfl : ad107 = ad109 := (by injection e109)
     obtain ⟨p110, q110, ad110, e110, hx110_0⟩ := xA (Kd.at_int HR1.out x5_1)
     obtain rfl : ad108 = ad110 := (by injection e110)
     go_wp2
     repeat (go_quiet (fail); try go_wp2)
     go_ret
     exact ⟨xz, xd⟩
    obtain rfl := Option.some.inj H
    go_wp2
    repeat (go_quiet (fail); try go_wp2)
    go_ret
    exact ⟨xz, xd⟩
 have c3b0 := beq_eq_false_iff_ne.mpr c3
 have c3b1 := bne_iff_ne.mpr c3
 have c3b2 : (l0.length == l1.length) = false := by (simp at c3 ⊢; omega)
 obtain ⟨c10, H⟩ | ⟨c10, H⟩ := xO H
 ·have c10b0 := decide_eq_true c10
  have c10b1 : decide (l0.length < l1.length) = true := decide_eq_true (Int.ofNat_lt.mp c10)
  clear c10
  obtain rfl := Option.some.inj H
  go_enter Tryd.func70, Tryd.ntmps70
  go_wp2
  repeat (go_quiet (fail); try go_wp2)
  go_ret
  exact ⟨xz, xd⟩
 have c10b0 := decide_eq_false c10
 have c10b1 : decide (l0.length < l1.length) = false := decide_eq_false (fun h => c10 (Int.ofNat_lt.mpr h))
 clear c10
 obtain rfl := Option.some.inj H
 go_enter Tryd.func70, Tryd.ntmps70
 go_wp2
 repeat (go_quiet (fail); try go_wp2)
 go_ret
 exact ⟨xz, xd⟩
/-! ### ir_strip: function 88 -/
def ir_strip.l0 : Nat → List Int → Int → Option (List Int)
 | 0, _, _ => none
 | k + 1, x0, x3 => if x3 > 0 then (if 0 ≤ (wrap64 (x3 - 1)) then (if (wrap64 (x3 - 1)) < (x0.length : Int) then (if (rd x0 (wrap64 (x3 - 1))) = 0 then (ir_strip.l0 k x0 (wrap64 (x3 - 1))) else (if 0 ≤ x3 then (if x3 ≤ (x0.length : Int) then (some (x0.take (x3 : Int).toNat)) else (none)) else (none))) else (none)) else (none)) else (if 0 ≤ x3 then (if x3 ≤ (x0.length : Int) then (some (x0.take (x3 : Int).toNat)) else (none)) else (none))
def ir_strip.f (k : Nat) (l0 : List Int) : Option (List Int) := ir_strip.l0 k l0 (l0.length : Int)
theorem ir_strip.mono_l : ∀ k, (∀ y0 y1, LeO (ir_strip.l0 k y0 y1) (ir_strip.l0 (k + 1) y0 y1))
 | 0 => fun _ _ r h => by simp [ir_strip.l0] at h
 | k + 1 => by
  have ih0 := ir_strip.mono_l k
  ·intro y0 y1
   unfold ir_strip.l0
   have m0 := @ih0; exact xM
theorem ir_strip.mono : ∀ a0 k, LeO (ir_strip.f k a0) (ir_strip.f (k + 1) a0) := by
 intro a0 k
 have ih0 := ir_strip.mono_l k
 unfold ir_strip.f
 have m0 := @ih0; exact xM
theorem ir_strip.calls (k : Nat) (P0_ : Nat → Prop) (A0 : Option Addr) (c0 : Nat) (l0 : List Int) (r : List Int) (w : World) (hs0 : Kd.V (Kd.int .u32) 85 w w.heap.size (fun k_ => P0_ k_) (.slice A0 l0.length c0) l0) (h : ir_strip.f k l0 = some r) :
  Calls Tryd.prog 88 #[.slice A0 l0.length c0] w fun e w' => ∃ v0_ : Value, e = .returned (v0_) ∧ Kd.V (Kd.int .u32) 85 w' w.heap.size (fun k_ => (P0_ k_ ∨ w.heap.size ≤ k_)) v0_ r ∧ Below w.heap.size w w' := by
 have HO0 := Aside0.mk (show Kd.V (Kd.int .u32) 85 w w.heap.size (fun k_ => (P0_ k_ ∨ w.heap.size ≤ k_)) (.slice A0 l0.length c0) l0 from Kd.V_mono hs0 (fun k_ hk => .inl hk))
 have HB := Aside0.mk (Below.refl w.heap.size w)
 have H := h; clear h
 unfold ir_strip.f at H
 have H' := Aside0.mk H
 clear H
 go_enter Tryd.func88, Tryd.ntmps88
 go_wp2
 go_loopg [3] k (fun kq v3 w' => ∃ (x3_1 : Int), v3 = .int .i64 x3_1 ∧ Aside0 (ir_strip.l0 kq l0 x3_1 = some r) ∧ Aside0 (kq ≤ k) ∧ Aside0 (Kd.V (Kd.int .u32) 85 w' w.heap.size (fun k_ => (P0_ k_ ∨ w.heap.size ≤ k_)) (.slice A0 l0.length c0) l0) ∧ Aside0 (Below w.heap.size w w'))
 case atStart => exact ⟨(l0.length : Int), xz, H', ⟨Nat.le_refl _⟩, ⟨xv HO0.out⟩, ⟨xs HB⟩⟩
 case round =>
  clear H'
  obtain ⟨x3_1, rfl, HA, HK1, HO_0, HB⟩ := hrel
  cases gk with
  | zero => exact absurd HA.out (by simp [ir_strip.l0])
  | succ k1 =>
   have H := HA.out
   clear HA
   simp only [ir_strip.l0] at H
   obtain ⟨c2b0, H⟩ | ⟨c2b0, H⟩ := xOd H
   ·generalize hji3 : (wrap64 (x3_1 - 1)) = ji3 at H
    have hji3w : (IntKind.i64.wrap (x3_1 - 1)) = ji3 := (i64_w _).trans hji3
    obtain ⟨c4b0, H⟩ := xQd H
    obtain ⟨c5b0, H⟩ := xQd H
    obtain ⟨c6, H⟩ | ⟨c6, H⟩ := xO H
    ·have c6b0 := beq_iff_eq.mpr c6
     have c6b1 := bne_eq_false_iff_eq.mpr c6
     clear c6
     have H' := Aside0.mk H
     clear H
     obtain ⟨p111, q111, ad111, e111, hx111_0⟩ := xA (Kd.at_int (Kd.V_reads' HO_0.out).2.2 (ji3))
     cases e111
     go_wp2
     go_roundg k1
     case measure => have := HK1.out; omega
     case rel => exact ⟨(ji3), (by rfl), H', ⟨by have := HK1.out; omega⟩, ⟨xv HO_0.out⟩, ⟨xs HB⟩⟩
    have c6b0 := beq_eq_false_iff_ne.mpr c6
    have c6b1 := bne_iff_ne.mpr c6
    obtain ⟨c7b0, c7b1, H⟩ := xQt H
    obtain ⟨c8b0, c8b1, H⟩ := xQt H
    generalize hy112 : (l0.take (x3_1 : Int).toNat : List Int) = y112 at H
    have Ny112 := Aside0.mk hy112.symm
    clear hy112
    obtain rfl := Option.some.inj H
    obtain ⟨p111, q111, ad111, e111, hx111_0⟩ := xA (Kd.at_int (Kd.V_reads' HO_0.out).2.2 (ji3))
    cases e111
    have q9 : (x3_1 : Int) ≤ ((l0.length : Int) : Int) := xa
    obtain ⟨i09, hi09, _, hsz9, _⟩ := info_parts info85
    have hroom9 : l0.length ≤ c0 := (Kd.V_reads' HO_0.out).2.1
    have hC9 : Kd.F (Kd.int .u32) _ _ (some ad111) l0.length l0 := (Kd.V_at (base := w.heap.size) HO_0.out).2.2
    have hcut9 := cut_to (P := Tryd.prog) 73 85 .i64 Tryd.underlying73 hi09 (some ad111) l0.length c0 x3_1 (xa) q9 hroom9
    have hr9 := Kd.F_take (m := (x3_1 : Int).toNat) hC9 (by omega)
    have hy9 : y112.length = (x3_1 : Int).toNat := (by rw [Ny112.out, List.length_take]; omega)
    rw [← Ny112.out] at hr9
    rw [← hy9] at hcut9
    have HO116 := Aside0.mk (show Kd.V (Kd.int .u32) 85 _ w.heap.size _ (.slice (some ad111) y112.length c0) y112 from Kd.V_mk (by omega) hr9)
    have HC116 := Aside0.mk (show y112.length ≤ c0 from by omega)
    clear hr9 hC9 hroom9 hi09 hsz9
    have KY9 := Aside0.mk hy9
    clear hy9
    replace q9 := eq_true q9
    go_wp2
    go_ret
    exact ⟨_, by rfl, HO116.out, xs HB⟩
   obtain ⟨c10b0, c10b1, H⟩ := xQt H
   obtain ⟨c11b0, c11b1, H⟩ := xQt H
   generalize hy117 : (l0.take (x3_1 : Int).toNat : List Int) = y117 at H
   have Ny117 := Aside0.mk hy117.symm
   clear hy117
   obtain rfl := Option.some.inj H
   have q12 : (x3_1 : Int) ≤ ((l0.length : Int) : Int) := xa
   obtain ⟨i012, hi012, _, hsz12, _⟩ := info_parts info85
   have hroom12 : l0.length ≤ c0 := (Kd.V_reads' HO_0.out).2.1
   have hC12 : Kd.F (Kd.int .u32) _ _ A0 l0.length l0 := (Kd.V_at (base := w.heap.size) HO_0.out).2.2
   have hcut12 := cut_to (P := Tryd.prog) 73 85 .i64 Tryd.underlying73 hi012 A0 l0.length c0 x3_1 (xa) q12 hroom12
   have hr12 := Kd.F_take (m := (x3_1 : Int).toNat) hC12 (by omega)
   have hy12 : y117.length = (x3_1 : Int).toNat := (by rw [Ny117.out, List.length_take]; omega)
   rw [← Ny117.out] at hr12
   rw [← hy12] at hcut12
   have HO121 := Aside0.mk (show Kd.V (Kd.int .u32) 85 _ w.heap.size _ (.slice A0 y117.length c0) y117 from Kd.V_mk (by omega) hr12)
   have HC121 := Aside0.mk (show y117.length ≤ c0 from by omega)
   clear hr12 hC12 hroom12 hi012 hsz12
   have KY12 := Aside0.mk hy12
   clear hy12
   replace q12 := eq_true q12
   go_wp2
   go_ret
   exact ⟨_, xy, HO121.out, xs HB⟩
/-! ### ir_short: function 101 -/
def ir_short.l0 : Nat → List Int → Int → List Int → Int → Int → Option (List Int × Int)
 | 0, _, _, _, _, _ => none
 | k + 1, x0, x1, x6, x7, x8 => if x8 ≥ 0 then (if 0 ≤ x8 then (if x8 < (x0.length : Int) then (if (IntKind.u64.wrap (x1)) = 0 then (none) else (if x8 < (x6.length : Int) then (ir_short.l0 k x0 x1 (x6.set (x8 : Int).toNat ((IntKind.u64.wrap (Int.tdiv (Go.bits .or .u64 (IntKind.u64.wrap (x7 * 4294967296)) (IntKind.u64.wrap (rd x0 x8))) (IntKind.u64.wrap (x1)))) % 4294967296)) (Int.tmod (Go.bits .or .u64 (IntKind.u64.wrap (x7 * 4294967296)) (IntKind.u64.wrap (rd x0 x8))) (IntKind.u64.wrap (x1))) (wrap64 (x8 - 1))) else (none))) else (none)) else (none)) else ((ir_strip.f k x6).bind fun t127 => (some (t127, (x7) % 4294967296)))
def ir_short.f (k : Nat) (l0 : List Int) (a1 : Int) : Option (List Int × Int) := if 0 ≤ (l0.length : Int) then (if ((l0.length : Int) : Int).toNat ≤ 70368744177664 then (ir_short.l0 k l0 a1 (List.replicate ((l0.length : Int) : Int).toNat 0) 0 (wrap64 ((l0.length : Int) - 1))) else (none)) else (none)
theorem ir_short.mono_l : ∀ k, (∀ y0 y1 y2 y3 y4, LeO (ir_short.l0 k y0 y1 y2 y3 y4) (ir_short.l0 (k + 1) y0 y1 y2 y3 y4))
 | 0 => fun _ _ _ _ _ r h => by simp [ir_short.l0] at h
 | k + 1 => by
  have ih0 := ir_short.mono_l k
  ·intro y0 y1 y2 y3 y4
   unfold ir_short.l0
   have m0 := @ih0; have m1 := @ir_strip.mono; exact xM
theorem ir_short.mono : ∀ a0 a1 k, LeO (ir_short.f k a0 a1) (ir_short.f (k + 1) a0 a1) := by
 intro a0 a1 k
 have ih0 := ir_short.mono_l k
 unfold ir_short.f
 have m0 := @ih0; have m1 := @ir_strip.mono; exact xM
theorem ir_short.calls (k : Nat) (A0 : Option Addr) (c0 : Nat) (l0 : List Int) (a1 : Int) (r1 : List Int) (r2 : Int) (w : World) (hr0 : Kd.C (Kd.int .u32) w A0 l0.length l0) (hc0 : l0.length ≤ c0) (h : ir_short.f k l0 a1 = some (r1, r2)) :
  Calls Tryd.prog 101 #[.slice A0 l0.length c0, .int .u32 a1] w fun e w' => ∃ v0_ : Value, e = .returned (.tuple #[v0_, .int .u32 r2]) ∧ Kd.V (Kd.int .u32) 85 w' w.heap.size (fun k_ => (w.heap.size ≤ k_)) v0_ r1 ∧ Below w.heap.size w w' := by
 have HR0 := Aside0.mk hr0
 have HC0 := Aside0.mk hc0
 clear hr0 hc0
 have HB := Aside0.mk (Below.refl w.heap.size w)
 have H := h; clear h
 unfold ir_short.f at H
 obtain ⟨c3b0, c3b1, H⟩ := xQt H
 obtain ⟨c4b0, c4b1, H⟩ := xQt H
 generalize hy122 : (List.replicate ((l0.length : Int) : Int).toNat 0 : List Int) = y122 at H
 have Ny122 := Aside0.mk hy122.symm
 clear hy122
 have H' := Aside0.mk H
 clear H
 go_enter Tryd.func101, Tryd.ntmps101
 go_wp2_with ((with_reducible refine gate_dst (N := 11) rfl ?_); refine Kd.R_make (Kd.int .u32) _ 85 rfl (N := 11) rfl 73 _ _ rfl (l0.length : Int) rfl rfl Tryd.underlying73 (.int .u32 0) 4 info85 rfl (by decide) (by omega) 0 (ok := fun _ => True) (okp := fun _ => True) rfl (fun _ hk => hk) trivial (xa) (Nat.le_trans (Nat.mul_le_mul_right _ (xa : (l0.length : Int).toNat ≤ 70368744177664)) (by omega)) (Below.refl _ _) (Nat.le_refl _) ?_; intro v123 w5 ho6 hb hg_ hnew_; clear hg_ hnew_; (rw [← Ny122.out] at ho6); have HO124 := Aside0.mk (Kd.R_lower (Kd.R_newM (M := fun k_ => (w.heap.size ≤ k_)) ho6 (below_size (xs HB)) (fun k_ h_ => h_)) (below_size (xs HB))); replace HB := xS HB hb; clear hb ho6)
 go_loopg [7, 8] k (fun kq v7 v8 w' => ∃ (x6_1 : List Int) (x7_1 : Int) (x8_1 : Int), v7 = .int .u64 x7_1 ∧ v8 = .int .i64 x8_1 ∧ Aside0 (ir_short.l0 kq l0 a1 x6_1 x7_1 x8_1 = some (r1, r2)) ∧ Aside0 (kq ≤ k) ∧ Aside0 (Kd.R (Kd.int .u32) 85 w' w.heap.size (fun k_ => (w.heap.size ≤ k_)) v123 x6_1) ∧ Aside0 (Below w.heap.size w w'))
 case atStart => exact ⟨(y122), (0), (wrap64 ((l0.length : Int) - 1)), xz, xz, H', ⟨Nat.le_refl _⟩, ⟨by exact Kd.R_mono HO124.out (fun _ hk => hk.1)⟩, ⟨xs HB⟩⟩
 case round =>
  clear H'
  clear c3b0 c3b1 c4b0 c4b1
  obtain ⟨x6_1, x7_1, x8_1, rfl, rfl, HA, HK1, HO_6, HB⟩ := hrel
  cases gk with
  | zero => exact absurd HA.out (by simp [ir_short.l0])
  | succ k1 =>
   have H := HA.out
   clear HA
   simp only [ir_short.l0] at H
   obtain ⟨c7b0, H⟩ | ⟨c7b0, H⟩ := xOd H
   ·obtain ⟨c8b0, H⟩ := xQd H
    obtain ⟨c9b0, H⟩ := xQd H
    obtain ⟨c10, H⟩ := xR H
    have c10b0 := beq_eq_false_iff_ne.mpr c10
    have c10b1 := bne_iff_ne.mpr c10
    obtain ⟨c11b0, H⟩ := xQd H
    generalize hy126 : (x6_1.set (x8_1 : Int).toNat ((IntKind.u64.wrap (Int.tdiv (Go.bits .or .u64 (IntKind.u64.wrap (x7_1 * 4294967296)) (IntKind.u64.wrap (rd l0 x8_1))) (IntKind.u64.wrap (a1)))) % 4294967296) : List Int) = y126 at H
    have Ny126 := Aside0.mk hy126.symm
    clear hy126
    have H' := Aside0.mk H
    clear H
    obtain ⟨p125, q125, ad125, e125, hx125_0⟩ := xA (Kd.at_int HR0.out x8_1)
    cases e125
    (try replace hx125_0 := xcl HB hx125_0)
    have p12 : 0 ≤ (x8_1 : Int) := xa
    have q12 : (x8_1 : Int) < ((x6_1.length : Int) : Int) := xa
    obtain ⟨go12, co12, eo12, gb12, gl12, cl12, HG12⟩ := Kd.R_form HO_6.out (by omega)
    cases eo12
    have GB12 := Aside0.mk gb12
    have GG12 := Aside0.mk HG12
    clear gb12 gl12 HG12
    obtain ⟨hx12_0, hf12_0⟩ := Kd.R_celln 0 HO_6.out (x8_1 : Int) p12 q12
    replace p12 := eq_true p12
    replace q12 := eq_true q12
    have HP13 := Kd.R_putg HO_6.out (x8_1 : Int) ((IntKind.u64.wrap (Int.tdiv (Go.bits .or .u64 (IntKind.u64.wrap (x7_1 * 4294967296)) (IntKind.u64.wrap (rd l0 x8_1))) (IntKind.u64.wrap (a1)))) % 4294967296)
    go_wp2_with (refine xst 85 34 (wr.setCell ⟨go12, (x8_1 : Int).toNat, none⟩ (.int .u32 ((IntKind.u64.wrap (Int.tdiv (Go.bits .or .u64 (IntKind.u64.wrap (x7_1 * 4294967296)) (IntKind.u64.wrap (rd l0 x8_1))) (IntKind.u64.wrap (a1)))) % 4294967296))) ?_; intro w14 hw; have hg : wr.grownBy w14 (some go12) := (by rw [hw]; exact HP13.2); have hp_ : Kd.R (Kd.int .u32) 85 w14 w.heap.size (fun k_ => (w.heap.size ≤ k_)) (.slice (some ⟨go12, 0, none⟩) x6_1.length co12) y126 := (by rw [hw, Ny126.out]; exact HP13.1); clear HP13; replace HO_6 := Aside0.mk (hp_); replace HB := Aside0.mk (by rw [hw]; exact below_set (HB.out) GB12.out : Below w.heap.size w w14); clear hg hw hp_)
    go_roundg k1
    case measure => have := HK1.out; omega
    case rel => exact ⟨(y126), (Int.tmod (Go.bits .or .u64 (IntKind.u64.wrap (x7_1 * 4294967296)) (IntKind.u64.wrap (rd l0 x8_1))) (IntKind.u64.wrap (a1))), (wrap64 (x8_1 - 1)), xz, xz, H', ⟨by have := HK1.out; omega⟩, ⟨xr HO_6.out⟩, ⟨xs HB⟩⟩
   replace H := xH H; obtain ⟨t127, A15, H⟩ := H
   simp only [Option.some.injEq, Prod.mk.injEq] at H
   obtain ⟨rfl, rfl⟩ := H
   obtain ⟨Ao16, co16, eo16⟩ := Kd.R_slice HO_6.out
   subst eo16
   go_wp2_with (refine xg Tryd.func88 (some 40) #[.slice Ao16 x6_1.length co16] ?_; (with_reducible refine (ir_strip.calls k1 (fun k_ => some k_ = (.slice Ao16 x6_1.length co16 : Value).ownBlock) _ _ x6_1 t127 _ ?side1 A15.out).mono ?_); (case side1 => exact Kd.R_V (Kd.R_tight rfl (HO_6.out))); rintro e w17 ⟨v128, rfl, ho0, hb⟩; refine ⟨_, rfl, ?_⟩; have HO129 := xVm w (fun k_ => (w.heap.size ≤ k_)) ho0 (fun k_ hk_ => Or.elim hk_ (fun hs_ => ((HO_6.out).1 k_ hs_.symm)) (fun hn_ => (Nat.le_trans (below_size (xs HB)) hn_))); replace HO_6 := xRb HO_6 hb; replace HB := xS HB hb; clear hb ho0)
   go_ret2
   exact ⟨_, xy, HO129.out, xs HB⟩
/-! ### ir_shifted: function 114 -/
def ir_shifted.l0 : Nat → List Int → Int → List Int → Int → Option (List Int)
 | 0, _, _, _, _ => none
 | k + 1, x0, x1, x5, x6 => if x6 < (x0.length : Int) then (if 0 ≤ x6 then (if 0 ≤ x1 then (if x6 < (x5.length : Int) then (if 0 ≤ (wrap64 (x6 + 1)) then (if (wrap64 (x6 + 1)) < (x5.length : Int) then (ir_shifted.l0 k x0 x1 ((x5.set (x6 : Int).toNat (Go.bits .or .u32 (rd x5 x6) ((shl .u64 (IntKind.u64.wrap (rd x0 x6)) x1) % 4294967296))).set ((wrap64 (x6 + 1)) : Int).toNat (((shl .u64 (IntKind.u64.wrap (rd x0 x6)) x1) / 4294967296) % 4294967296)) (wrap64 (x6 + 1))) else (none)) else (none)) else (none)) else (none)) else (none)) else (some x5)
def ir_shifted.f (k : Nat) (l0 : List Int) (a1 : Int) : Option (List Int) := if 0 ≤ (wrap64 ((l0.length : Int) + 1)) then (if (wrap64 ((l0.length : Int) + 1) : Int).toNat ≤ 70368744177664 then (ir_shifted.l0 k l0 a1 (List.replicate (wrap64 ((l0.length : Int) + 1) : Int).toNat 0) 0) else (none)) else (none)
theorem ir_shifted.mono_l : ∀ k, (∀ y0 y1 y2 y3, LeO (ir_shifted.l0 k y0 y1 y2 y3) (ir_shifted.l0 (k + 1) y0 y1 y2 y3))
 | 0 => fun _ _ _ _ r h => by simp [ir_shifted.l0] at h
 | k + 1 => by
  have ih0 := ir_shifted.mono_l k
  ·intro y0 y1 y2 y3
   unfold ir_shifted.l0
   have m0 := @ih0; exact xM
theorem ir_shifted.mono : ∀ a0 a1 k, LeO (ir_shifted.f k a0 a1) (ir_shifted.f (k + 1) a0 a1) := by
 intro a0 a1 k
 have ih0 := ir_shifted.mono_l k
 unfold ir_shifted.f
 have m0 := @ih0; exact xM
theorem ir_shifted.calls (k : Nat) (A0 : Option Addr) (c0 : Nat) (l0 : List Int) (a1 : Int) (r : List Int) (w : World) (hr0 : Kd.C (Kd.int .u32) w A0 l0.length l0) (hc0 : l0.length ≤ c0) (h : ir_shifted.f k l0 a1 = some r) :
  Calls Tryd.prog 114 #[.slice A0 l0.length c0, .int .u64 a1] w fun e w' => ∃ v0_ : Value, e = .returned (v0_) ∧ Kd.R (Kd.int .u32) 85 w' w.heap.size (fun _ => True) v0_ r ∧ Below w.heap.size w w' := by
 have HR0 := Aside0.mk hr0
 have HC0 := Aside0.mk hc0
 clear hr0 hc0
 have HB := Aside0.mk (Below.refl w.heap.size w)
 have H := h; clear h
 unfold ir_shifted.f at H
 generalize hji3 : (wrap64 ((l0.length : Int) + 1)) = ji3 at H
 have hji3w : (IntKind.i64.wrap ((l0.length : Int) + 1)) = ji3 := (i64_w _).trans hji3
 obtain ⟨c4b0, c4b1, H⟩ := xQt H
 obtain ⟨c5b0, c5b1, H⟩ := xQt H
 generalize hy130 : (List.replicate (ji3 : Int).toNat 0 : List Int) = y130 at H
 have Ny130 := Aside0.mk hy130.symm
 clear hy130
 have H' := Aside0.mk H
 clear H
 go_enter Tryd.func114, Tryd.ntmps114
 go_wp2_with ((with_reducible refine gate_dst (N := 11) rfl ?_); refine Kd.R_make (Kd.int .u32) _ 85 rfl (N := 11) rfl 73 _ _ rfl ji3 rfl rfl Tryd.underlying73 (.int .u32 0) 4 info85 rfl (by decide) (by omega) 0 (ok := fun _ => True) (okp := fun _ => True) rfl (fun _ hk => hk) trivial (xa) (Nat.le_trans (Nat.mul_le_mul_right _ (xa : ji3.toNat ≤ 70368744177664)) (by omega)) (Below.refl _ _) (Nat.le_refl _) ?_; intro v131 w6 ho7 hb hg_ hnew_; clear hg_ hnew_; (rw [← Ny130.out] at ho7); have HO132 := Aside0.mk (Kd.R_lower ho7 (below_size (xs HB))); replace HB := xS HB hb; clear hb ho7)
 go_loopg [6] k (fun kq v6 w' => ∃ (x5_1 : List Int) (x6_1 : Int), v6 = .int .i64 x6_1 ∧ Aside0 (ir_shifted.l0 kq l0 a1 x5_1 x6_1 = some r) ∧ Aside0 (kq ≤ k) ∧ Aside0 (Kd.R (Kd.int .u32) 85 w' w.heap.size (fun _ => True) v131 x5_1) ∧ Aside0 (Below w.heap.size w w'))
 case atStart => exact ⟨(y130), (0), xz, H', ⟨Nat.le_refl _⟩, ⟨xr HO132.out⟩, ⟨xs HB⟩⟩
 case round =>
  clear H'
  clear c4b0 c4b1 c5b0 c5b1
  obtain ⟨x5_1, x6_1, rfl, HA, HK1, HO_5, HB⟩ := hrel
  cases gk with
  | zero => exact absurd HA.out (by simp [ir_shifted.l0])
  | succ k1 =>
   have H := HA.out
   clear HA
   simp only [ir_shifted.l0] at H
   obtain ⟨c8b0, H⟩ | ⟨c8b0, H⟩ := xOd H
   ·obtain ⟨c9b0, H⟩ := xQd H
    obtain ⟨c10b0, c10b1, H⟩ := xQt H
    generalize hji11 : (shl .u64 (IntKind.u64.wrap (rd l0 x6_1)) a1) = ji11 at H
    have hji11_ : (IntKind.u64.wrap ((IntKind.u64.wrap (rd l0 x6_1)) * 2 ^ min a1.toNat 64)) = ji11 := hji11
    have hji11z : a1 ≤ 64 → (IntKind.u64.wrap ((IntKind.u64.wrap (rd l0 x6_1)) * 2 ^ a1.toNat)) = ji11 := shl_small hji11
    obtain ⟨c12b0, H⟩ := xQd H
    generalize hy135 : (x5_1.set (x6_1 : Int).toNat (Go.bits .or .u32 (rd x5_1 x6_1) ((ji11) % 4294967296)) : List Int) = y135 at H
    have Ny135 := Aside0.mk hy135.symm
    clear hy135
    generalize hji14 : (wrap64 (x6_1 + 1)) = ji14 at H
    have hji14w : (IntKind.i64.wrap (x6_1 + 1)) = ji14 := (i64_w _).trans hji14
    obtain ⟨c15b0, H⟩ := xQd H
    obtain ⟨c16b0, H⟩ := xQd H
    generalize hy136 : (y135.set ((ji14) : Int).toNat (((ji11) / 4294967296) % 4294967296) : List Int) = y136 at H
    have Ny136 := Aside0.mk hy136.symm
    clear hy136
    have H' := Aside0.mk H
    clear H
    obtain ⟨p133, q133, ad133, e133, hx133_0⟩ := xA (Kd.at_int HR0.out x6_1)
    cases e133
    (try replace hx133_0 := xcl HB hx133_0)
    obtain ⟨Ao18, co18, eo18⟩ := Kd.R_slice HO_5.out
    subst eo18
    obtain ⟨p134, q134, ad134, e134, hx134_0⟩ := xA (Kd.at_int (Kd.R_reads' HO_5.out).2.2 x6_1)
    cases e134
    have p13 : 0 ≤ (x6_1 : Int) := xa
    have q13 : (x6_1 : Int) < ((x5_1.length : Int) : Int) := xa
    obtain ⟨go13, co13, eo13, gb13, gl13, cl13, HG13⟩ := Kd.R_form HO_5.out (by omega)
    cases eo13
    have GB13 := Aside0.mk gb13
    have GG13 := Aside0.mk HG13
    clear gb13 gl13 HG13
    simp only [add_plain] at hx134_0
    obtain ⟨hx13_0, hf13_0⟩ := Kd.R_celln 0 HO_5.out (x6_1 : Int) p13 q13
    replace p13 := eq_true p13
    replace q13 := eq_true q13
    have HP19 := Kd.R_putg HO_5.out (x6_1 : Int) (Go.bits .or .u32 (rd x5_1 x6_1) ((ji11) % 4294967296))
    go_wp2_with (first | (refine xst 85 34 (wr.setCell ⟨go13, (x6_1 : Int).toNat, none⟩ (.int .u32 (Go.bits .or .u32 (rd x5_1 x6_1) ((ji11) % 4294967296)))) ?_; intro w20 hw; have hg : wr.grownBy w20 (some go13) := (by rw [hw]; exact HP19.2); have hp_ : Kd.R (Kd.int .u32) 85 w20 w.heap.size (fun _ => True) (.slice (some ⟨go13, 0, none⟩) x5_1.length co18) y135 := (by rw [hw, Ny135.out]; exact HP19.1); clear HP19; replace HO_5 := Aside0.mk (hp_); replace HB := Aside0.mk (by rw [hw]; exact below_set (HB.out) GB13.out : Below w.heap.size w w20); clear hg hw hp_; have p17 : 0 ≤ ((ji14) : Int) := xa; have q17 : ((ji14) : Int) < ((x5_1.length : Int) : Int) := xa; obtain ⟨hx17_0, hf17_0⟩ := Kd.R_celln 0 HO_5.out ((ji14) : Int) p17 q17; replace p17 := eq_true p17; replace q17 := eq_true q17; obtain ⟨hy21_, hz21_⟩ := Kd.R_celln 0 HO_5.out ((ji14) : Int) (xa) (xa); have HP21 := Kd.R_putg HO_5.out ((ji14) : Int) (((ji11) / 4294967296) % 4294967296)) | (refine xst 85 41 (w20.setCell ⟨go13, ((ji14) : Int).toNat, none⟩ (.int .u32 (((ji11) / 4294967296) % 4294967296))) ?_; intro w22 hw; have hg : w20.grownBy w22 (some go13) := (by rw [hw]; exact HP21.2); have hp_ : Kd.R (Kd.int .u32) 85 w22 w.heap.size (fun _ => True) (.slice (some ⟨go13, 0, none⟩) x5_1.length co18) y136 := (by rw [hw, Ny136.out]; exact HP21.1); clear HP21; replace HO_5 := Aside0.mk (hp_); replace HB := Aside0.mk (by rw [hw]; exact below_set (HB.out) GB13.out : Below w.heap.size w w22); clear hg hw hp_))
    go_roundg k1
    case measure => have := HK1.out; omega
    case rel => exact ⟨(y136), (ji14), (by rfl), H', ⟨by have := HK1.out; omega⟩, ⟨xr HO_5.out⟩, ⟨xs HB⟩⟩
   obtain rfl := Option.some.inj H
   go_wp2
   go_ret
   exact ⟨_, by rfl, HO_5.out, xs HB⟩
/-! ### ir_long: function 102 -/
mutual
def ir_long.l0 : Nat → List Int → List Int → Int → Int → Option (List Int × List Int)
 | 0, _, _, _, _ => none
 | k + 1, x0, x1, x6, x7 => if 0 ≤ (wrap64 (x6 - 1)) then (if (wrap64 (x6 - 1)) < (x1.length : Int) then (if 0 ≤ x7 then (if (shl .u32 (rd x1 (wrap64 (x6 - 1))) x7) < 2147483648 then (ir_long.l0 k x0 x1 x6 (IntKind.u64.wrap (x7 + 1))) else ((ir_shifted.f k x0 x7).bind fun t138 => ((ir_shifted.f k x1 x7).bind fun t141 => (if 0 ≤ x6 then (if x6 ≤ (t141.length : Int) then (if 0 ≤ (wrap64 ((wrap64 ((x0.length : Int) - x6)) + 1)) then (if (wrap64 ((wrap64 ((x0.length : Int) - x6)) + 1) : Int).toNat ≤ 70368744177664 then (ir_long.l1 k x6 x7 t138 (t141.take (x6 : Int).toNat) (List.replicate (wrap64 ((wrap64 ((x0.length : Int) - x6)) + 1) : Int).toNat 0) (wrap64 ((x0.length : Int) - x6))) else (none)) else (none)) else (none)) else (none))))) else (none)) else (none)) else (none)
def ir_long.l1 : Nat → Int → Int → List Int → List Int → List Int → Int → Option (List Int × List Int)
 | 0, _, _, _, _, _, _ => none
 | k + 1, x6, x7, x8, x9, x10, x11 => if x11 ≥ 0 then (if 0 ≤ (wrap64 (x11 + x6)) then (if (wrap64 (x11 + x6)) < (x8.length : Int) then (if 0 ≤ (wrap64 ((wrap64 (x11 + x6)) - 1)) then (if (wrap64 ((wrap64 (x11 + x6)) - 1)) < (x8.length : Int) then (if 0 ≤ (wrap64 (x6 - 1)) then (if (wrap64 (x6 - 1)) < (x9.length : Int) then (if (IntKind.u64.wrap (rd x9 (wrap64 (x6 - 1)))) = 0 then (none) else (ir_long.l2 k x6 x7 x8 x9 x10 x11 (IntKind.u64.wrap (Int.tdiv (Go.bits .or .u64 (IntKind.u64.wrap ((IntKind.u64.wrap (rd x8 (wrap64 (x11 + x6)))) * 4294967296)) (IntKind.u64.wrap (rd x8 (wrap64 ((wrap64 (x11 + x6)) - 1))))) (IntKind.u64.wrap (rd x9 (wrap64 (x6 - 1)))))) (Int.tmod (Go.bits .or .u64 (IntKind.u64.wrap ((IntKind.u64.wrap (rd x8 (wrap64 (x11 + x6)))) * 4294967296)) (IntKind.u64.wrap (rd x8 (wrap64 ((wrap64 (x11 + x6)) - 1))))) (IntKind.u64.wrap (rd x9 (wrap64 (x6 - 1))))))) else (none)) else (none)) else (none)) else (none)) else (none)) else (none)) else (if 0 ≤ x6 then (if (x6 : Int).toNat ≤ 70368744177664 then (ir_long.l5 k x6 x7 x8 x10 (List.replicate (x6 : Int).toNat 0) 0) else (none)) else (none))
def ir_long.j4 : Nat → Int → Int → List Int → List Int → List Int → Int → Int → Option (List Int × List Int)
 | 0, _, _, _, _, _, _, _ => none
 | k + 1, x6, x7, x8, x9, x10, x11, x13 => ir_long.l3 k x6 x7 x8 x9 x10 x11 x13 0 0 0
def ir_long.l3 : Nat → Int → Int → List Int → List Int → List Int → Int → Int → Int → Int → Int → Option (List Int × List Int)
 | 0, _, _, _, _, _, _, _, _, _, _ => none
 | k + 1, x6, x7, x8, x9, x10, x11, x13, x15, x16, x17 => if x17 < x6 then (if 0 ≤ x17 then (if x17 < (x9.length : Int) then (if 0 ≤ (wrap64 (x11 + x17)) then (if (wrap64 (x11 + x17)) < (x8.length : Int) then (if (IntKind.u64.wrap (rd x8 (wrap64 (x11 + x17)))) < (IntKind.u64.wrap ((Go.bits .and .u64 (IntKind.u64.wrap (x15 + (IntKind.u64.wrap (x13 * (IntKind.u64.wrap (rd x9 x17)))))) 4294967295) + x16)) then (ir_long.l3 k x6 x7 (x8.set ((wrap64 (x11 + x17)) : Int).toNat ((IntKind.u64.wrap ((IntKind.u64.wrap ((IntKind.u64.wrap (rd x8 (wrap64 (x11 + x17)))) + 4294967296)) - (IntKind.u64.wrap ((Go.bits .and .u64 (IntKind.u64.wrap (x15 + (IntKind.u64.wrap (x13 * (IntKind.u64.wrap (rd x9 x17)))))) 4294967295) + x16)))) % 4294967296)) x9 x10 x11 x13 ((IntKind.u64.wrap (x15 + (IntKind.u64.wrap (x13 * (IntKind.u64.wrap (rd x9 x17)))))) / 4294967296) 1 (wrap64 (x17 + 1))) else (ir_long.l3 k x6 x7 (x8.set ((wrap64 (x11 + x17)) : Int).toNat ((IntKind.u64.wrap ((IntKind.u64.wrap (rd x8 (wrap64 (x11 + x17)))) - (IntKind.u64.wrap ((Go.bits .and .u64 (IntKind.u64.wrap (x15 + (IntKind.u64.wrap (x13 * (IntKind.u64.wrap (rd x9 x17)))))) 4294967295) + x16)))) % 4294967296)) x9 x10 x11 x13 ((IntKind.u64.wrap (x15 + (IntKind.u64.wrap (x13 * (IntKind.u64.wrap (rd x9 x17)))))) / 4294967296) 0 (wrap64 (x17 + 1)))) else (none)) else (none)) else (none)) else (none)) else (if 0 ≤ (wrap64 (x11 + x6)) then (if (wrap64 (x11 + x6)) < (x8.length : Int) then ((some (x8.set ((wrap64 (x11 + x6)) : Int).toNat ((IntKind.u64.wrap ((IntKind.u64.wrap (rd x8 (wrap64 (x11 + x6)))) - (IntKind.u64.wrap (x15 + x16)))) % 4294967296) : List Int)).bind fun y162 => (if (IntKind.u64.wrap (rd x8 (wrap64 (x11 + x6)))) < (IntKind.u64.wrap (x15 + x16)) then (ir_long.l4 k x6 x7 y162 x9 x10 x11 (IntKind.u64.wrap (x13 - 1)) 0 0) else (if 0 ≤ x11 then (if x11 < (x10.length : Int) then (ir_long.l1 k x6 x7 y162 x9 (x10.set (x11 : Int).toNat ((x13) % 4294967296)) (wrap64 (x11 - 1))) else (none)) else (none)))) else (none)) else (none))
def ir_long.l4 : Nat → Int → Int → List Int → List Int → List Int → Int → Int → Int → Int → Option (List Int × List Int)
 | 0, _, _, _, _, _, _, _, _, _ => none
 | k + 1, x6, x7, x8, x9, x10, x11, x13, x15, x23 => if x23 < x6 then (if 0 ≤ (wrap64 (x11 + x23)) then (if (wrap64 (x11 + x23)) < (x8.length : Int) then (if 0 ≤ x23 then (if x23 < (x9.length : Int) then (ir_long.l4 k x6 x7 (x8.set ((wrap64 (x11 + x23)) : Int).toNat ((IntKind.u64.wrap ((IntKind.u64.wrap (x15 + (IntKind.u64.wrap (rd x8 (wrap64 (x11 + x23)))))) + (IntKind.u64.wrap (rd x9 x23)))) % 4294967296)) x9 x10 x11 x13 ((IntKind.u64.wrap ((IntKind.u64.wrap (x15 + (IntKind.u64.wrap (rd x8 (wrap64 (x11 + x23)))))) + (IntKind.u64.wrap (rd x9 x23)))) / 4294967296) (wrap64 (x23 + 1))) else (none)) else (none)) else (none)) else (none)) else (if 0 ≤ (wrap64 (x11 + x6)) then (if (wrap64 (x11 + x6)) < (x8.length : Int) then (if 0 ≤ x11 then (if x11 < (x10.length : Int) then (ir_long.l1 k x6 x7 (x8.set ((wrap64 (x11 + x6)) : Int).toNat (((rd x8 (wrap64 (x11 + x6))) + ((x15) % 4294967296)) % 4294967296)) x9 (x10.set (x11 : Int).toNat ((x13) % 4294967296)) (wrap64 (x11 - 1))) else (none)) else (none)) else (none)) else (none))
def ir_long.l2 : Nat → Int → Int → List Int → List Int → List Int → Int → Int → Int → Option (List Int × List Int)
 | 0, _, _, _, _, _, _, _, _ => none
 | k + 1, x6, x7, x8, x9, x10, x11, x13, x14 => if x13 ≥ 4294967296 then (ir_long.j3 k x6 x7 x8 x9 x10 x11 x13 x14 true) else (if 0 ≤ (wrap64 (x6 - 2)) then (if (wrap64 (x6 - 2)) < (x9.length : Int) then (if 0 ≤ (wrap64 ((wrap64 (x11 + x6)) - 2)) then (if (wrap64 ((wrap64 (x11 + x6)) - 2)) < (x8.length : Int) then (ir_long.j3 k x6 x7 x8 x9 x10 x11 x13 x14 (decide ((IntKind.u64.wrap (x13 * (IntKind.u64.wrap (rd x9 (wrap64 (x6 - 2)))))) > (Go.bits .or .u64 (IntKind.u64.wrap (x14 * 4294967296)) (IntKind.u64.wrap (rd x8 (wrap64 ((wrap64 (x11 + x6)) - 2)))))))) else (none)) else (none)) else (none)) else (none))
def ir_long.j3 : Nat → Int → Int → List Int → List Int → List Int → Int → Int → Int → Bool → Option (List Int × List Int)
 | 0, _, _, _, _, _, _, _, _, _ => none
 | k + 1, x6, x7, x8, x9, x10, x11, x13, x14, x116 => if x116 = true then (if 0 ≤ (wrap64 (x6 - 1)) then (if (wrap64 (x6 - 1)) < (x9.length : Int) then (if (IntKind.u64.wrap (x14 + (IntKind.u64.wrap (rd x9 (wrap64 (x6 - 1)))))) ≥ 4294967296 then (ir_long.j4 k x6 x7 x8 x9 x10 x11 (IntKind.u64.wrap (x13 - 1))) else (ir_long.l2 k x6 x7 x8 x9 x10 x11 (IntKind.u64.wrap (x13 - 1)) (IntKind.u64.wrap (x14 + (IntKind.u64.wrap (rd x9 (wrap64 (x6 - 1)))))))) else (none)) else (none)) else (ir_long.j4 k x6 x7 x8 x9 x10 x11 x13)
def ir_long.l5 : Nat → Int → Int → List Int → List Int → List Int → Int → Option (List Int × List Int)
 | 0, _, _, _, _, _, _ => none
 | k + 1, x6, x7, x8, x10, x24, x25 => if x25 < x6 then (if 0 ≤ (wrap64 (x25 + 1)) then (if (wrap64 (x25 + 1)) < (x8.length : Int) then (if 0 ≤ x25 then (if x25 < (x8.length : Int) then (if 0 ≤ x7 then (if x25 < (x24.length : Int) then (ir_long.l5 k x6 x7 x8 x10 (x24.set (x25 : Int).toNat ((shr .u64 (Go.bits .or .u64 (IntKind.u64.wrap ((IntKind.u64.wrap (rd x8 (wrap64 (x25 + 1)))) * 4294967296)) (IntKind.u64.wrap (rd x8 x25))) x7) % 4294967296)) (wrap64 (x25 + 1))) else (none)) else (none)) else (none)) else (none)) else (none)) else (none)) else ((ir_strip.f k x10).bind fun t176 => ((ir_strip.f k x24).bind fun t179 => (some (t176, t179))))
end
def ir_long.f (k : Nat) (l0 : List Int) (l1 : List Int) : Option (List Int × List Int) := ir_long.l0 k l0 l1 (l1.length : Int) 0
theorem ir_long.mono_l : ∀ k, (∀ y0 y1 y2 y3, LeO (ir_long.l0 k y0 y1 y2 y3) (ir_long.l0 (k + 1) y0 y1 y2 y3)) ∧ (∀ y0 y1 y2 y3 y4 y5, LeO (ir_long.l1 k y0 y1 y2 y3 y4 y5) (ir_long.l1 (k + 1) y0 y1 y2 y3 y4 y5)) ∧ (∀ y0 y1 y2 y3 y4 y5 y6, LeO (ir_long.j4 k y0 y1 y2 y3 y4 y5 y6) (ir_long.j4 (k + 1) y0 y1 y2 y3 y4 y5 y6)) ∧ (∀ y0 y1 y2 y3 y4 y5 y6 y7 y8 y9, LeO (ir_long.l3 k y0 y1 y2 y3 y4 y5 y6 y7 y8 y9) (ir_long.l3 (k + 1) y0 y1 y2 y3 y4 y5 y6 y7 y8 y9)) ∧ (∀ y0 y1 y2 y3 y4 y5 y6 y7 y8, LeO (ir_long.l4 k y0 y1 y2 y3 y4 y5 y6 y7 y8) (ir_long.l4 (k + 1) y0 y1 y2 y3 y4 y5 y6 y7 y8)) ∧ (∀ y0 y1 y2 y3 y4 y5 y6 y7, LeO (ir_long.l2 k y0 y1 y2 y3 y4 y5 y6 y7) (ir_long.l2 (k + 1) y0 y1 y2 y3 y4 y5 y6 y7)) ∧ (∀ y0 y1 y2 y3 y4 y5 y6 y7 y8, LeO (ir_long.j3 k y0 y1 y2 y3 y4 y5 y6 y7 y8) (ir_long.j3 (k + 1) y0 y1 y2 y3 y4 y5 y6 y7 y8)) ∧ (∀ y0 y1 y2 y3 y4 y5, LeO (ir_long.l5 k y0 y1 y2 y3 y4 y5) (ir_long.l5 (k + 1) y0 y1 y2 y3 y4 y5))
 | 0 => ⟨fun _ _ _ _ r h => by simp [ir_long.l0] at h, fun _ _ _ _ _ _ r h => by simp [ir_long.l1] at h, fun _ _ _ _ _ _ _ r h => by simp [ir_long.j4] at h, fun _ _ _ _ _ _ _ _ _ _ r h => by simp [ir_long.l3] at h, fun _ _ _ _ _ _ _ _ _ r h => by simp [ir_long.l4] at h, fun _ _ _ _ _ _ _ _ r h => by simp [ir_long.l2] at h, fun _ _ _ _ _ _ _ _ _ r h => by simp [ir_long.j3] at h, fun _ _ _ _ _ _ r h => by simp [ir_long.l5] at h⟩
 | k + 1 => by
  obtain ⟨ih0, ih1, ih2, ih3, ih4, ih5, ih6, ih7⟩ := ir_long.mono_l k
  refine ⟨?_, ?_, ?_, ?_, ?_, ?_, ?_, ?_⟩
  ·intro y0 y1 y2 y3
   unfold ir_long.l0
   have m0 := @ih0; have m1 := @ih1; have m2 := @ih2; have m3 := @ih3; have m4 := @ih4; have m5 := @ih5; have m6 := @ih6; have m7 := @ih7; have m8 := @ir_shifted.mono; have m9 := @ir_strip.mono; exact xM
  ·intro y0 y1 y2 y3 y4 y5
   unfold ir_long.l1
   have m0 := @ih0; have m1 := @ih1; have m2 := @ih2; have m3 := @ih3; have m4 := @ih4; have m5 := @ih5; have m6 := @ih6; have m7 := @ih7; have m8 := @ir_shifted.mono; have m9 := @ir_strip.mono; exact xM
  ·intro y0 y1 y2 y3 y4 y5 y6
   unfold ir_long.j4
   have m0 := @ih0; have m1 := @ih1; have m2 := @ih2; have m3 := @ih3; have m4 := @ih4; have m5 := @ih5; have m6 := @ih6; have m7 := @ih7; have m8 := @ir_shifted.mono; have m9 := @ir_strip.mono; exact xM
  ·intro y0 y1 y2 y3 y4 y5 y6 y7 y8 y9
   unfold ir_long.l3
   have m0 := @ih0; have m1 := @ih1; have m2 := @ih2; have m3 := @ih3; have m4 := @ih4; have m5 := @ih5; have m6 := @ih6; have m7 := @ih7; have m8 := @ir_shifted.mono; have m9 := @ir_strip.mono; exact xM
  ·intro y0 y1 y2 y3 y4 y5 y6 y7 y8
   unfold ir_long.l4
   have m0 := @ih0; have m1 := @ih1; have m2 := @ih2; have m3 := @ih3; have m4 := @ih4; have m5 := @ih5; have m6 := @ih6; have m7 := @ih7; have m8 := @ir_shifted.mono; have m9 := @ir_strip.mono; exact xM
  ·intro y0 y1 y2 y3 y4 y5 y6 y7
   unfold ir_long.l2
   have m0 := @ih0; have m1 := @ih1; have m2 := @ih2; have m3 := @ih3; have m4 := @ih4; have m5 := @ih5; have m6 := @ih6; have m7 := @ih7; have m8 := @ir_shifted.mono; have m9 := @ir_strip.mono; exact xM
  ·intro y0 y1 y2 y3 y4 y5 y6 y7 y8
   unfold ir_long.j3
   have m0 := @ih0; have m1 := @ih1; have m2 := @ih2; have m3 := @ih3; have m4 := @ih4; have m5 := @ih5; have m6 := @ih6; have m7 := @ih7; have m8 := @ir_shifted.mono; have m9 := @ir_strip.mono; exact xM
  ·intro y0 y1 y2 y3 y4 y5
   unfold ir_long.l5
   have m0 := @ih0; have m1 := @ih1; have m2 := @ih2; have m3 := @ih3; have m4 := @ih4; have m5 := @ih5; have m6 := @ih6; have m7 := @ih7; have m8 := @ir_shifted.mono; have m9 := @ir_strip.mono; exact xM
theorem ir_long.mono : ∀ a0 a1 k, LeO (ir_long.f k a0 a1) (ir_long.f (k + 1) a0 a1) := by
 intro a0 a1 k
 obtain ⟨ih0, ih1, ih2, ih3, ih4, ih5, ih6, ih7⟩ := ir_long.mono_l k
 unfold ir_long.f
 have m0 := @ih0; have m1 := @ih1; have m2 := @ih2; have m3 := @ih3; have m4 := @ih4; have m5 := @ih5; have m6 := @ih6; have m7 := @ih7; have m8 := @ir_shifted.mono; have m9 := @ir_strip.mono; exact xM
def ir_long.T11 : Bool × List (List Nat × List Nat) := (true, [([], []), ([], []), ([], []), ([1, 2], [1, 2]), ([0, 3], [0, 3]), ([4], [4]), ([5], [5]), ([6], [6]), ([], []), ([], []), ([], []), ([9, 10], [9, 10]), ([11], [11]), ([8, 12], [8, 12]), ([13], [13]), ([14], [14]), ([7, 15], [7, 15]), ([16, 0, 1, 2, 3, 4, 5, 6, 7, 8, 9, 10, 11, 12, 13, 14, 15, 16], [16])])
def ir_long.B11 : List Nat := [0, 0, 0, 6, 15, 31, 63, 127, 0, 0, 0, 1536, 3584, 7936, 16128, 32512, 65535, 131071]
theorem ir_long.tab11 : rtab .any (opsOf Tryd.f102 11) = ir_long.T11 := by kernel_rfl
theorem ir_long.bits11 : waitsOk ir_long.T11.2 ir_long.B11 = true := by kernel_rfl
def ir_long.T14 : Bool × List (List Nat × List Nat) := (true, [([], []), ([0], [0]), ([1], [1]), ([2], [2]), ([2], [2]), ([2], [2]), ([5, 2], [2, 5]), ([4, 6, 2], [2, 4, 6]), ([7, 2], [2, 7]), ([8, 2], [2, 8]), ([3, 9, 2], [2, 3, 9]), ([2], [2]), ([11, 2], [2, 11]), ([2], [2]), ([2], [2]), ([2], [2]), ([14, 15, 2], [2, 14, 15]), ([16, 2], [2, 16]), ([13, 17, 2], [2, 13, 17]), ([18, 2], [2, 18]), ([19, 2], [2, 19]), ([12, 20, 2], [2, 12, 20]), ([10, 21, 2], [2, 10, 21]), ([2, 22], [2, 22])])
def ir_long.B14 : List Nat := [0, 1, 3, 7, 7, 7, 39, 119, 247, 503, 1023, 7, 2055, 7, 7, 7, 49159, 114695, 253959, 516103, 1040391, 2095111, 4194303, 8388607]
theorem ir_long.tab14 : rtab .any (opsOf Tryd.f102 14) = ir_long.T14 := by kernel_rfl
theorem ir_long.bits14 : waitsOk ir_long.T14.2 ir_long.B14 = true := by kernel_rfl
def ir_long.T42 : Bool × List (List Nat × List Nat) := (true, [([], []), ([], []), ([], []), ([], []), ([2, 3], [2, 3]), ([1, 4], [1, 4]), ([5], [5]), ([6], [6]), ([0, 7], [0, 7]), ([], []), ([], []), ([9, 10], [9, 10]), ([11], [11]), ([12], [12]), ([8, 13], [8, 13]), ([14, 0, 1, 2, 3, 4, 5, 6, 7, 8, 9, 10, 11, 12, 13, 14], [0, 14])])
def ir_long.B42 : List Nat := [0, 0, 0, 0, 12, 30, 62, 126, 255, 0, 0, 1536, 3584, 7680, 16383, 32767]
theorem ir_long.tab42 : rtab .any (opsOf Tryd.f102 42) = ir_long.T42 := by kernel_rfl
theorem ir_long.bits42 : waitsOk ir_long.T42.2 ir_long.B42 = true := by kernel_rfl
def ir_long.T51 : Bool × List (List Nat × List Nat) := (true, [([], []), ([], []), ([], []), ([], []), ([3], [3]), ([2, 4], [2, 4]), ([5], [5]), ([6], [6]), ([7], [7]), ([], []), ([], []), ([9, 10], [9, 10]), ([11], [11]), ([12], [12]), ([8, 13], [8, 13]), ([], []), ([14, 15], [14, 15]), ([16], [16]), ([0, 1, 0, 1, 2, 3, 4, 5, 6, 7, 8, 9, 10, 11, 12, 13, 14, 15, 16, 17], [0, 1]), ([18, 17, 0, 1, 2, 3, 4, 5, 6, 7, 8, 9, 10, 11, 12, 13, 14, 15, 16, 17], [17, 18])])
def ir_long.B51 : List Nat := [0, 0, 0, 0, 8, 28, 60, 124, 252, 0, 0, 1536, 3584, 7680, 16380, 0, 65532, 131068, 262143, 524287]
theorem ir_long.tab51 : rtab .any (opsOf Tryd.f102 51) = ir_long.T51 := by kernel_rfl
theorem ir_long.bits51 : waitsOk ir_long.T51.2 ir_long.B51 = true := by kernel_rfl
theorem ir_long.calls (k : Nat) (A0 : Option Addr) (c0 : Nat) (l0 : List Int) (A1 : Option Addr) (c1 : Nat) (l1 : List Int) (r1 : List Int) (r2 : List Int) (w : World) (hr0 : Kd.C (Kd.int .u32) w A0 l0.length l0) (hc0 : l0.length ≤ c0) (hr1 : Kd.C (Kd.int .u32) w A1 l1.length l1) (hc1 : l1.length ≤ c1) (h : ir_long.f k l0 l1 = some (r1, r2)) :
  Calls Tryd.prog 102 #[.slice A0 l0.length c0, .slice A1 l1.length c1] w fun e w' => ∃ v0_ v1_ : Value, e = .returned (.tuple #[v0_, v1_]) ∧ Kd.V (Kd.int .u32) 85 w' w.heap.size (fun k_ => (w.heap.size ≤ k_)) v0_ r1 ∧ Kd.V (Kd.int .u32) 85 w' w.heap.size (fun k_ => (w.heap.size ≤ k_)) v1_ r2 ∧ Below w.heap.size w w' := by
 have HR0 := Aside0.mk hr0
 have HC0 := Aside0.mk hc0
 clear hr0 hc0
 have HR1 := Aside0.mk hr1
 have HC1 := Aside0.mk hc1
 clear hr1 hc1
 have HB := Aside0.mk (Below.refl w.heap.size w)
 have H := h; clear h
 unfold ir_long.f at H
 have H' := Aside0.mk H
 clear H
 go_enter Tryd.func102, Tryd.ntmps102
 go_wp2
 go_loopg [7] k (fun kq v7 w' => ∃ (x7_1 : Int), v7 = .int .u64 x7_1 ∧ Aside0 (ir_long.l0 kq l0 l1 (l1.length : Int) x7_1 = some (r1, r2)) ∧ Aside0 (kq ≤ k) ∧ Aside0 (Below w.heap.size w w'))
 case atStart => exact ⟨(0), xz, H', ⟨Nat.le_refl _⟩, ⟨xs HB⟩⟩
 case round => as_aux_lemma =>
  clear H'
  obtain ⟨x7_1, rfl, HA, HK1, HB⟩ := hrel
  cases gk with
  | zero => exact absurd HA.out (by simp [ir_long.l0])
  | succ k1 =>
   have H := HA.out
   clear HA
   simp only [ir_long.l0] at H
   generalize hji3 : (wrap64 ((l1.length : Int) - 1)) = ji3 at H
   have hji3w : (IntKind.i64.wrap ((l1.length : Int) - 1)) = ji3 := (i64_w _).trans hji3
   obtain ⟨c4b0, H⟩ := xQd H
   obtain ⟨c5b0, H⟩ := xQd H
   obtain ⟨c6b0, c6b1, H⟩ := xQt H
   generalize hji7 : (shl .u32 (rd l1 (ji3)) x7_1) = ji7 at H
   have hji7_ : (IntKind.u32.wrap ((rd l1 (ji3)) * 2 ^ min x7_1.toNat 32)) = ji7 := hji7
   have hji7m : ((rd l1 (ji3)) * 2 ^ min x7_1.toNat 32) % 4294967296 = ji7 := (IntKind.wrap_u32 _).symm.trans hji7
   have hji7z : x7_1 ≤ 32 → (IntKind.u32.wrap ((rd l1 (ji3)) * 2 ^ x7_1.toNat)) = ji7 := shl_small hji7
   obtain ⟨c8b0, H⟩ | ⟨c8b0, H⟩ := xOd H
   ·have H' := Aside0.mk H
    clear H
    obtain ⟨p137, q137, ad137, e137, hx137_0⟩ := xA (Kd.at_int HR1.out (ji3))
    cases e137
    (try replace hx137_0 := xcl HB hx137_0)
    go_wp2
    go_roundg k1
    case measure => have := HK1.out; omega
    case rel => exact ⟨(IntKind.u64.wrap (x7_1 + 1)), xz, H', ⟨by have := HK1.out; omega⟩, ⟨xs HB⟩⟩
   replace H := xH H; obtain ⟨t138, A9, H⟩ := H
   replace H := xH H; obtain ⟨t141, A10, H⟩ := H
   obtain ⟨c11b0, c11b1, H⟩ := xQt H
   obtain ⟨c12b0, c12b1, H⟩ := xQt H
   generalize hy144 : (t141.take ((l1.length : Int) : Int).toNat : List Int) = y144 at H
   have Ny144 := Aside0.mk hy144.symm
   clear hy144
   generalize hji13 : (wrap64 ((wrap64 ((l0.length : Int) - (l1.length : Int))) + 1)) = ji13 at H
   have hji13w : (IntKind.i64.wrap ((wrap64 ((l0.length : Int) - (l1.length : Int))) + 1)) = ji13 := (i64_w _).trans hji13
   obtain ⟨c14b0, c14b1, H⟩ := xQt H
   obtain ⟨c15b0, c15b1, H⟩ := xQt H
   generalize hy147 : (List.replicate (ji13 : Int).toNat 0 : List Int) = y147 at H
   have Ny147 := Aside0.mk hy147.symm
   clear hy147
   have H' := Aside0.mk H
   clear H
   obtain ⟨p137, q137, ad137, e137, hx137_0⟩ := xA (Kd.at_int HR1.out (ji3))
   cases e137
   (try replace hx137_0 := xcl HB hx137_0)
   go_wp2_with (first | (refine xg Tryd.func114 (some 40) #[.slice A0 l0.length c0, .int .u64 x7_1] ?_; (with_reducible refine (ir_shifted.calls k1 _ _ l0 x7_1 t138 _ (xf (Kd.C_below HR0.out HB.out)) HC0.out A9.out).mono ?_); rintro e w16 ⟨v139, rfl, ho0, hb⟩; refine ⟨_, rfl, ?_⟩; have HO140 := Aside0.mk (Kd.R_lower (Kd.R_newM (M := fun k_ => (w.heap.size ≤ k_)) ho0 (below_size (xs HB)) (fun k_ h_ => h_)) (below_size (xs HB))); replace HB := xS HB hb; clear hb ho0) | (refine xg Tryd.func114 (some 43) #[.slice (some ad137) l1.length c1, .int .u64 x7_1] ?_; (with_reducible refine (ir_shifted.calls k1 _ _ l1 x7_1 t141 _ (xf (Kd.C_below HR1.out HB.out)) HC1.out A10.out).mono ?_); rintro e w17 ⟨v142, rfl, ho0, hb⟩; refine ⟨_, rfl, ?_⟩; have HO143 := Aside0.mk (Kd.R_lower (Kd.R_new' (Kd.R_newM (M := fun k_ => (w.heap.size ≤ k_)) ho0 (below_size (xs HB)) (fun k_ h_ => h_)) (Kd.R_lt (xr HO140.out))) (below_size (xs HB))); replace HO140 := Aside0.mk (Kd.R_elder' (xr HO140.out) (Kd.R_base ho0) hb); replace HB := xS HB hb; clear hb ho0; obtain ⟨Ao18, co18, eo18⟩ := Kd.R_slice HO143.out; subst eo18; have q19 : ((l1.length : Int) : Int) ≤ ((t141.length : Int) : Int) := xa; obtain ⟨i019, hi019, _, hsz19, _⟩ := info_parts info85; have hcut19 := cut_to (P := Tryd.prog) 73 85 .i64 Tryd.underlying73 hi019 Ao18 t141.length co18 (l1.length : Int) (xa) q19 (Kd.R_reads' HO143.out).2.1; have hr19 := Kd.R_take (m := ((l1.length : Int) : Int).toNat) HO143.out (by omega); have hy19 : y144.length = ((l1.length : Int) : Int).toNat := (by rw [Ny144.out, List.length_take]; omega); rw [← Ny144.out] at hr19; rw [← hy19] at hr19 hcut19; clear hy19 hi019 hsz19 HO143; have HO146 := Aside0.mk hr19; clear hr19; replace q19 := eq_true q19) | ((with_reducible refine gate_dst (N := 51) rfl ?_); refine Kd.R_make (Kd.int .u32) _ 85 rfl (N := 51) rfl 73 _ _ rfl ji13 rfl rfl Tryd.underlying73 (.int .u32 0) 4 info85 rfl (by decide) (by omega) 0 (ok := fun _ => True) (okp := fun _ => True) rfl (fun _ hk => hk) trivial (xa) (Nat.le_trans (Nat.mul_le_mul_right _ (xa : ji13.toNat ≤ 70368744177664)) (by omega)) (Below.refl _ _) (Nat.le_refl _) ?_; intro v148 w20 ho21 hb hg_ hnew_; clear hg_ hnew_; (rw [← Ny147.out] at ho21); have HO149 := Aside0.mk (Kd.R_lower (Kd.R_new' (Kd.R_new' (Kd.R_newM (M := fun k_ => (w.heap.size ≤ k_)) ho21 (below_size (xs HB)) (fun k_ h_ => h_)) (Kd.R_lt (xr HO140.out))) (Kd.R_lt (xr HO146.out))) (below_size (xs HB))); replace HO140 := Aside0.mk (Kd.R_elder' (xr HO140.out) (Kd.R_base ho21) hb); replace HO146 := Aside0.mk (Kd.R_elder' (xr HO146.out) (Kd.R_base ho21) hb); replace HB := xS HB hb; clear hb ho21))
   go_loopg [11] k1 (fun kq v11 w' => ∃ (x8_2 : List Int) (x10_2 : List Int) (x11_2 : Int), v11 = .int .i64 x11_2 ∧ Aside0 (ir_long.l1 kq (l1.length : Int) x7_1 x8_2 y144 x10_2 x11_2 = some (r1, r2)) ∧ Aside0 (kq ≤ k1) ∧ Aside0 (Kd.R (Kd.int .u32) 85 w' w.heap.size (fun k_ => (w.heap.size ≤ k_) ∧ some k_ ≠ ((.slice Ao18 y144.length co18) : Value).ownBlock ∧ some k_ ≠ (v148 : Value).ownBlock) v139 x8_2) ∧ Aside0 (Kd.R (Kd.int .u32) 85 w' w.heap.size (fun k_ => (w.heap.size ≤ k_) ∧ some k_ ≠ (v139 : Value).ownBlock ∧ some k_ ≠ (v148 : Value).ownBlock) (.slice Ao18 y144.length co18) y144) ∧ Aside0 (Kd.R (Kd.int .u32) 85 w' w.heap.size (fun k_ => (w.heap.size ≤ k_) ∧ some k_ ≠ (v139 : Value).ownBlock ∧ some k_ ≠ ((.slice Ao18 y144.length co18) : Value).ownBlock) v148 x10_2) ∧ Aside0 (Below w.heap.size w w'))
   case atStart => exact ⟨(t138), (y147), (wrap64 ((l0.length : Int) - (l1.length : Int))), xz, H', ⟨Nat.le_refl _⟩, ⟨by exact Kd.R_mono HO140.out (fun _ hk => by (simp only [ob_map] at hk ⊢; exact ⟨hk.1.1.1, ⟨hk.1.2, hk.2⟩⟩))⟩, ⟨by exact Kd.R_mono HO146.out (fun _ hk => by exact ⟨hk.1.1.1, ⟨hk.1.2, hk.2⟩⟩)⟩, ⟨by exact Kd.R_mono HO149.out (fun _ hk => by exact ⟨hk.1.1.1, ⟨hk.1.2, hk.2⟩⟩)⟩, ⟨xs HB⟩⟩
   case round => as_aux_lemma =>
    clear H'
    clear c4b0 c5b0 c6b0 c6b1 c8b0 c11b0 c11b1 c12b0 c12b1 c14b0 c14b1 c15b0 c15b1 q19 hx137_0 p137 q137
    obtain ⟨x8_2, x10_2, x11_2, rfl, HA, HK2, HO_8, HO_9, HO_10, HB⟩ := hrel
    cases gk with
    | zero => exact absurd HA.out (by simp [ir_long.l1])
    | succ k2 =>
     have H := HA.out
     clear HA
     simp only [ir_long.l1] at H
     obtain ⟨c22b0, H⟩ | ⟨c22b0, H⟩ := xOd H
     ·generalize hji23 : (wrap64 (x11_2 + (l1.length : Int))) = ji23 at H
      have hji23w : (IntKind.i64.wrap (x11_2 + (l1.length : Int))) = ji23 := (i64_w _).trans hji23
      obtain ⟨c24b0, H⟩ := xQd H
      obtain ⟨c25b0, H⟩ := xQd H
      generalize hji26 : (wrap64 ((ji23) - 1)) = ji26 at H
      have hji26w : (IntKind.i64.wrap ((ji23) - 1)) = ji26 := (i64_w _).trans hji26
      obtain ⟨c27b0, H⟩ := xQd H
      obtain ⟨c28b0, H⟩ := xQd H
      obtain ⟨ji29, hji29⟩ : ∃ j_ : Int, (wrap64 ((l1.length : Int) - 1)) = j_ := ⟨_, rfl⟩
      clear hji3w hji3
      replace H : (if 0 ≤ (ji29) then (if (ji29) < (y144.length : Int) then (if (IntKind.u64.wrap (rd y144 (ji29))) = 0 then (none) else (ir_long.l2 k2 (l1.length : Int) x7_1 x8_2 y144 x10_2 x11_2 (IntKind.u64.wrap (Int.tdiv (Go.bits .or .u64 (IntKind.u64.wrap ((IntKind.u64.wrap (rd x8_2 (ji23))) * 4294967296)) (IntKind.u64.wrap (rd x8_2 (ji26)))) (IntKind.u64.wrap (rd y144 (ji29))))) (Int.tmod (Go.bits .or .u64 (IntKind.u64.wrap ((IntKind.u64.wrap (rd x8_2 (ji23))) * 4294967296)) (IntKind.u64.wrap (rd x8_2 (ji26)))) (IntKind.u64.wrap (rd y144 (ji29)))))) else (none)) else (none)) = some (r1, r2) := by (rw [hji29] at H; exact H)
      have hji29w : (IntKind.i64.wrap ((l1.length : Int) - 1)) = ji29 := (i64_w _).trans hji29
      obtain ⟨c30b0, H⟩ := xQd H
      obtain ⟨c31b0, H⟩ := xQd H
      obtain ⟨c32, H⟩ := xR H
      have c32b0 := beq_eq_false_iff_ne.mpr c32
      have c32b1 := bne_iff_ne.mpr c32
      have HC33 := Aside0.mk H
      clear H
      try go_wp2
      replace HO_8 := Aside0.mk (Kd.R_drew HO_8.out)
      replace HO_9 := Aside0.mk (Kd.R_drew HO_9.out)
      replace HO_10 := Aside0.mk (Kd.R_drew HO_10.out)
      replace HB := xW HB
      obtain ⟨Ao35, co35, eo35⟩ := Kd.R_slice HO_8.out
      subst eo35
      obtain ⟨p150, q150, ad150, e150, hx150_0⟩ := xA (Kd.at_int (Kd.R_reads' HO_8.out).2.2 (ji23))
      cases e150
      obtain ⟨p151, q151, ad151, e151, hx151_0⟩ := xA (Kd.at_int (Kd.R_reads' HO_8.out).2.2 (ji26))
      obtain rfl : ad150 = ad151 := (by injection e151)
      refine start_ (n := 18) (S := fun w' => w'.cell? (ad150.add (ji23).toNat) = some (.int .u32 (rd x8_2 (ji23))) ∧ w'.cell? (ad150.add (ji26).toNat) = some (.int .u32 (rd x8_2 (ji26)))) (ds := []) (b 18 0) (by kernel_rfl) rfl rfl ⟨hx150_0, hx151_0⟩ (fun hHeld => ?_); refine with_tabW ir_long.tab11 ir_long.bits11 (fun HT_ HW_ => ?_)
      generalize wr.drew = w34 at HO_8 HO_9 HO_10 HB hx150_0 hx151_0 hHeld ⊢
      refine yP 0 (some 60) (b 18 1) ?_
      refine yP 1 (some 61) (b 18 3) ?_
      refine yP 2 (some 62) (b 18 7) ?_
      refine yP 3 (some 63) (b 18 15) ?_
      refine yP 4 (some 64) (b 18 31) ?_
      refine yP 8 (some 68) (b 18 287) ?_
      refine yP 9 (some 69) (b 18 799) ?_
      refine yP 10 (some 70) (b 18 1823) ?_
      refine yP 11 (some 71) (b 18 3871) ?_
      refine yP 12 (some 72) (b 18 7967) ?_
      refine yP 13 (some 73) (b 18 16159) ?_
      refine yT 5 (some 65) (b 18 16191) hHeld ?_
      refine yP 6 (some 66) (b 18 16255) ?_
      refine yP 7 (some 67) (b 18 16383) ?_
      refine yT 14 (some 74) (b 18 32767) hHeld ?_
      refine yP 15 (some 75) (b 18 65535) ?_
      refine yP 16 (some 76) (b 18 131071) ?_
      refine yP 17 (some 12) (b 18 262143) ?_
      refine done_ (done_of HT_.out (by kernel_rfl)) ?_
      obtain ⟨p152, q152, ad152, e152, hx152_0⟩ := xA (Kd.at_int (Kd.R_reads' HO_9.out).2.2 (ji29))
      cases e152
      obtain ⟨p153, q153, ad153, e153, hx153_0⟩ := xA (Kd.at_int (Kd.R_reads' HO_9.out).2.2 (ji29))
      obtain rfl : ad152 = ad153 := (by injection e153)
      go_upto_block 4 with (fail)
      repeat (go_quiet (fail); go_upto_block 4 with (fail))
      go_cut [13] (fun v13 wc => ∃ (kq : Nat) (x13_32 : Int), v13 = .int .u64 x13_32 ∧ Aside0 (ir_long.j4 kq (l1.length : Int) x7_1 x8_2 y144 x10_2 x11_2 x13_32 = some (r1, r2)) ∧ Aside0 (kq ≤ k2) ∧ Aside0 (Kd.R (Kd.int .u32) 85 wc w.heap.size (fun k_ => (w.heap.size ≤ k_) ∧ some k_ ≠ ((.slice (some ad152) y144.length co18) : Value).ownBlock ∧ some k_ ≠ (v148 : Value).ownBlock) (.slice (some ad150) x8_2.length co35) x8_2) ∧ Aside0 (Kd.R (Kd.int .u32) 85 wc w.heap.size (fun k_ => (w.heap.size ≤ k_) ∧ some k_ ≠ ((.slice (some ad150) x8_2.length co35) : Value).ownBlock ∧ some k_ ≠ (v148 : Value).ownBlock) (.slice (some ad152) y144.length co18) y144) ∧ Aside0 (Kd.R (Kd.int .u32) 85 wc w.heap.size (fun k_ => (w.heap.size ≤ k_) ∧ some k_ ≠ ((.slice (some ad150) x8_2.length co35) : Value).ownBlock ∧ some k_ ≠ ((.slice (some ad152) y144.length co18) : Value).ownBlock) v148 x10_2) ∧ Aside0 (Below w.heap.size w wc))
      case first =>
       have H := HC33.out
       clear HC33
       have H' := Aside0.mk H
       clear H
       go_wp2
       go_loopg [13, 14] k2 (fun kq v13 v14 w' => ∃ (x13_3 : Int) (x14_3 : Int), v13 = .int .u64 x13_3 ∧ v14 = .int .u64 x14_3 ∧ Aside0 (ir_long.l2 kq (l1.length : Int) x7_1 x8_2 y144 x10_2 x11_2 x13_3 x14_3 = some (r1, r2)) ∧ Aside0 (kq ≤ k2) ∧ Aside0 (Kd.R (Kd.int .u32) 85 w' w.heap.size (fun k_ => (w.heap.size ≤ k_) ∧ some k_ ≠ ((.slice (some ad152) y144.length co18) : Value).ownBlock ∧ some k_ ≠ (v148 : Value).ownBlock) (.slice (some ad150) x8_2.length co35) x8_2) ∧ Aside0 (Kd.R (Kd.int .u32) 85 w' w.heap.size (fun k_ => (w.heap.size ≤ k_) ∧ some k_ ≠ ((.slice (some ad150) x8_2.length co35) : Value).ownBlock ∧ some k_ ≠ (v148 : Value).ownBlock) (.slice (some ad152) y144.length co18) y144) ∧ Aside0 (Kd.R (Kd.int .u32) 85 w' w.heap.size (fun k_ => (w.heap.size ≤ k_) ∧ some k_ ≠ ((.slice (some ad150) x8_2.length co35) : Value).ownBlock ∧ some k_ ≠ ((.slice (some ad152) y144.length co18) : Value).ownBlock) v148 x10_2) ∧ Aside0 (Below w.heap.size w w'))
       case atStart => exact ⟨(IntKind.u64.wrap (Int.tdiv (Go.bits .or .u64 (IntKind.u64.wrap ((IntKind.u64.wrap (rd x8_2 (ji23))) * 4294967296)) (IntKind.u64.wrap (rd x8_2 (ji26)))) (IntKind.u64.wrap (rd y144 (ji29))))), (Int.tmod (Go.bits .or .u64 (IntKind.u64.wrap ((IntKind.u64.wrap (rd x8_2 (ji23))) * 4294967296)) (IntKind.u64.wrap (rd x8_2 (ji26)))) (IntKind.u64.wrap (rd y144 (ji29)))), (by rfl), (by rfl), H', ⟨Nat.le_refl _⟩, ⟨xr HO_8.out⟩, ⟨xr HO_9.out⟩, ⟨xr HO_10.out⟩, ⟨xs HB⟩⟩
       case round => as_aux_lemma =>
        clear H'
        clear c22b0 c24b0 c25b0 c27b0 c28b0 c30b0 c31b0 c32 c32b0 c32b1 hx150_0 hx151_0 hx152_0 hx153_0 p150 p151 p152 p153 q150 q151 q152 q153
        obtain ⟨x13_3, x14_3, rfl, rfl, HA, HK3, HO_8, HO_9, HO_10, HB⟩ := hrel
        cases gk with
        | zero => exact absurd HA.out (by simp [ir_long.l2])
        | succ k3 =>
         have H := HA.out
         clear HA
         simp only [ir_long.l2] at H
         have HC36 := Aside0.mk H
         clear H
         go_upto_region 14 with (fail)
         repeat (go_quiet (fail); go_upto_region 14 with (fail))
         go_cut [116] (fun v116 wc => ∃ (kq : Nat) (x116_35 : Bool), v116 = .bool x116_35 ∧ Aside0 (ir_long.j3 kq (l1.length : Int) x7_1 x8_2 y144 x10_2 x11_2 x13_3 x14_3 x116_35 = some (r1, r2)) ∧ Aside0 (kq ≤ k3) ∧ Aside0 (Kd.R (Kd.int .u32) 85 wc w.heap.size (fun k_ => (w.heap.size ≤ k_) ∧ some k_ ≠ ((.slice (some ad152) y144.length co18) : Value).ownBlock ∧ some k_ ≠ (v148 : Value).ownBlock) (.slice (some ad150) x8_2.length co35) x8_2) ∧ Aside0 (Kd.R (Kd.int .u32) 85 wc w.heap.size (fun k_ => (w.heap.size ≤ k_) ∧ some k_ ≠ ((.slice (some ad150) x8_2.length co35) : Value).ownBlock ∧ some k_ ≠ (v148 : Value).ownBlock) (.slice (some ad152) y144.length co18) y144) ∧ Aside0 (Kd.R (Kd.int .u32) 85 wc w.heap.size (fun k_ => (w.heap.size ≤ k_) ∧ some k_ ≠ ((.slice (some ad150) x8_2.length co35) : Value).ownBlock ∧ some k_ ≠ ((.slice (some ad152) y144.length co18) : Value).ownBlock) v148 x10_2) ∧ Aside0 (Below w.heap.size w wc))
         case first =>
          have H := HC36.out
          clear HC36
          obtain ⟨c37b0, H⟩ | ⟨c37b0, H⟩ := xOd H
          ·skip
           have H' := Aside0.mk H
           clear H
           try go_wp2
           replace HO_8 := Aside0.mk (Kd.R_drew HO_8.out)
           replace HO_9 := Aside0.mk (Kd.R_drew HO_9.out)
           replace HO_10 := Aside0.mk (Kd.R_drew HO_10.out)
           replace HB := xW HB
           refine start_ (n := 24) (S := fun w' => True) (ds := []) (b 24 0) (by kernel_rfl) rfl rfl trivial (fun hHeld => ?_); refine with_tabW ir_long.tab14 ir_long.bits14 (fun HT_ HW_ => ?_)
           generalize wr.drew = w38 at HO_8 HO_9 HO_10 HB hHeld ⊢
           refine yP 0 (some 93) (b 24 1) ?_
           refine yP 1 (some 94) (b 24 3) ?_
           refine yP 2 (some 95) (b 24 7) ?_
           refine yU 3 (some 96) (b 24 15) ?_
           refine yU 4 (some 97) (b 24 31) ?_
           refine yU 5 (some 98) (b 24 63) ?_
           refine yU 6 (some 99) (b 24 127) ?_
           refine yU 7 (some 100) (b 24 255) ?_
           refine yU 8 (some 101) (b 24 511) ?_
           refine yU 9 (some 102) (b 24 1023) ?_
           refine yU 10 (some 103) (b 24 2047) ?_
           refine yU 11 (some 104) (b 24 4095) ?_
           refine yU 12 (some 105) (b 24 8191) ?_
           refine yU 13 (some 106) (b 24 16383) ?_
           refine yU 14 (some 107) (b 24 32767) ?_
           refine yU 15 (some 108) (b 24 65535) ?_
           refine yU 16 (some 109) (b 24 131071) ?_
           refine yU 17 (some 110) (b 24 262143) ?_
           refine yU 18 (some 111) (b 24 524287) ?_
           refine yU 19 (some 112) (b 24 1048575) ?_
           refine yU 20 (some 113) (b 24 2097151) ?_
           refine yU 21 (some 114) (b 24 4194303) ?_
           refine yU 22 (some 115) (b 24 8388607) ?_
           refine yP 23 (some 116) (b 24 16777215) ?_
           refine done_ (done_of HT_.out (by kernel_rfl)) ?_
           try go_wp2
           go_meet
           case rel => exact ⟨_, (true), xz, H', ⟨by have := HK1.out; have := HK2.out; have := HK3.out; omega⟩, ⟨xr HO_8.out⟩, ⟨xr HO_9.out⟩, ⟨xr HO_10.out⟩, ⟨xs HB⟩⟩
          skip
          generalize hji39 : (wrap64 ((l1.length : Int) - 2)) = ji39 at H
          have hji39w : (IntKind.i64.wrap ((l1.length : Int) - 2)) = ji39 := (i64_w _).trans hji39
          obtain ⟨c40b0, H⟩ := xQd H
          obtain ⟨c41b0, H⟩ := xQd H
          generalize hji42 : (wrap64 ((wrap64 (x11_2 + (l1.length : Int))) - 2)) = ji42 at H
          (try (have hji42n := hji42; simp only [hji23] at hji42n))
          have hji42w : (IntKind.i64.wrap ((wrap64 (x11_2 + (l1.length : Int))) - 2)) = ji42 := (i64_w _).trans hji42
          obtain ⟨c43b0, H⟩ := xQd H
          obtain ⟨c44b0, H⟩ := xQd H
          have H' := Aside0.mk H
          clear H
          try go_wp2
          replace HO_8 := Aside0.mk (Kd.R_drew HO_8.out)
          replace HO_9 := Aside0.mk (Kd.R_drew HO_9.out)
          replace HO_10 := Aside0.mk (Kd.R_drew HO_10.out)
          replace HB := xW HB
          obtain ⟨p154, q154, ad154, e154, hx154_0⟩ := xA (Kd.at_int (Kd.R_reads' HO_9.out).2.2 (ji39))
          obtain rfl : ad152 = ad154 := (by injection e154)
          obtain ⟨p155, q155, ad155, e155, hx155_0⟩ := xA (Kd.at_int (Kd.R_reads' HO_8.out).2.2 (ji42))
          obtain rfl : ad150 = ad155 := (by injection e155)
          refine start_ (n := 24) (S := fun w' => w'.cell? (ad152.add (ji39).toNat) = some (.int .u32 (rd y144 (ji39))) ∧ w'.cell? (ad150.add (ji42).toNat) = some (.int .u32 (rd x8_2 (ji42)))) (ds := []) (b 24 0) (by kernel_rfl) rfl rfl ⟨hx154_0, hx155_0⟩ (fun hHeld => ?_); refine with_tabW ir_long.tab14 ir_long.bits14 (fun HT_ HW_ => ?_)
          generalize wr.drew = w45 at HO_8 HO_9 HO_10 HB hx154_0 hx155_0 hHeld ⊢
          refine yP 0 (some 93) (b 24 1) ?_
          refine yP 1 (some 94) (b 24 3) ?_
          refine yP 2 (some 95) (b 24 7) ?_
          refine yP 3 (some 96) (b 24 15) ?_
          refine yP 4 (some 97) (b 24 31) ?_
          refine yP 5 (some 98) (b 24 63) ?_
          refine yP 6 (some 99) (b 24 127) ?_
          refine yP 7 (some 100) (b 24 255) ?_
          refine yP 11 (some 104) (b 24 2303) ?_
          refine yP 12 (some 105) (b 24 6399) ?_
          refine yP 13 (some 106) (b 24 14591) ?_
          refine yP 14 (some 107) (b 24 30975) ?_
          refine yP 15 (some 108) (b 24 63743) ?_
          refine yP 16 (some 109) (b 24 129279) ?_
          refine yP 17 (some 110) (b 24 260351) ?_
          refine yP 18 (some 111) (b 24 522495) ?_
          refine yT 8 (some 101) (b 24 522751) hHeld ?_
          refine yP 9 (some 102) (b 24 523263) ?_
          refine yP 10 (some 103) (b 24 524287) ?_
          refine yT 19 (some 112) (b 24 1048575) hHeld ?_
          refine yP 20 (some 113) (b 24 2097151) ?_
          refine yP 21 (some 114) (b 24 4194303) ?_
          refine yP 22 (some 115) (b 24 8388607) ?_
          refine yP 23 (some 116) (b 24 16777215) ?_
          refine done_ (done_of HT_.out (by kernel_rfl)) ?_
          try go_wp2
          go_meet
          case rel => exact ⟨_, (decide ((IntKind.u64.wrap (x13_3 * (IntKind.u64.wrap (rd y144 (ji39))))) > (Go.bits .or .u64 (IntKind.u64.wrap (x14_3 * 4294967296)) (IntKind.u64.wrap (rd x8_2 (ji42)))))), (by rfl), H', ⟨by have := HK1.out; have := HK2.out; have := HK3.out; omega⟩, ⟨xr HO_8.out⟩, ⟨xr HO_9.out⟩, ⟨xr HO_10.out⟩, ⟨xs HB⟩⟩
         case rest => as_aux_lemma =>
          clear HC36
          obtain ⟨kq, x116_35, rfl, HA, HJ35, HO_8, HO_9, HO_10, HB⟩ := hcut
          cases kq with
          | zero => exact absurd HA.out (by simp [ir_long.j3])
          | succ kj35 =>
           have H := HA.out
           clear HA
           simp only [ir_long.j3] at H
           by_cases c46 : x116_35 = true
           ·subst c46
            replace H := xI H
            obtain ⟨ji47, hji47⟩ : ∃ j_ : Int, (wrap64 ((l1.length : Int) - 1)) = j_ := ⟨_, rfl⟩
            clear hji29w hji29
            replace H : (if 0 ≤ (ji47) then (if (ji47) < (y144.length : Int) then (if (IntKind.u64.wrap (x14_3 + (IntKind.u64.wrap (rd y144 (ji47))))) ≥ 4294967296 then (ir_long.j4 kj35 (l1.length : Int) x7_1 x8_2 y144 x10_2 x11_2 (IntKind.u64.wrap (x13_3 - 1))) else (ir_long.l2 kj35 (l1.length : Int) x7_1 x8_2 y144 x10_2 x11_2 (IntKind.u64.wrap (x13_3 - 1)) (IntKind.u64.wrap (x14_3 + (IntKind.u64.wrap (rd y144 (ji47))))))) else (none)) else (none)) = some (r1, r2) := by (rw [hji47] at H; exact H)
            have hji47w : (IntKind.i64.wrap ((l1.length : Int) - 1)) = ji47 := (i64_w _).trans hji47
            obtain ⟨c48b0, H⟩ := xQd H
            obtain ⟨c49b0, H⟩ := xQd H
            obtain ⟨c50b0, H⟩ | ⟨c50b0, H⟩ := xOd H
            ·have H' := Aside0.mk H
             clear H
             obtain ⟨p156, q156, ad156, e156, hx156_0⟩ := xA (Kd.at_int (Kd.R_reads' HO_9.out).2.2 (ji47))
             obtain rfl : ad152 = ad156 := (by injection e156)
             go_wp2
             go_meet
             case rel => exact ⟨_, (IntKind.u64.wrap (x13_3 - 1)), xz, H', ⟨by have := HK1.out; have := HK2.out; have := HK3.out; have := HJ35.out; omega⟩, ⟨xr HO_8.out⟩, ⟨xr HO_9.out⟩, ⟨xr HO_10.out⟩, ⟨xs HB⟩⟩
            have H' := Aside0.mk H
            clear H
            obtain ⟨p156, q156, ad156, e156, hx156_0⟩ := xA (Kd.at_int (Kd.R_reads' HO_9.out).2.2 (ji47))
            obtain rfl : ad152 = ad156 := (by injection e156)
            go_wp2
            go_roundg kj35
            case measure => have := HK1.out; have := HK2.out; have := HK3.out; have := HJ35.out; omega
            case rel => exact ⟨(IntKind.u64.wrap (x13_3 - 1)), (IntKind.u64.wrap (x14_3 + (IntKind.u64.wrap (rd y144 (ji47))))), xz, (by rfl), H', ⟨by have := HK1.out; have := HK2.out; have := HK3.out; have := HJ35.out; omega⟩, ⟨xr HO_8.out⟩, ⟨xr HO_9.out⟩, ⟨xr HO_10.out⟩, ⟨xs HB⟩⟩
           replace c46 := Bool.eq_false_iff.mpr c46
           subst c46
           have H1 : (ir_long.j4 kj35 (l1.length : Int) x7_1 x8_2 y144 x10_2 x11_2 x13_3) = some (r1, r2) := by rw [if_neg (show ¬ (false = true) by decide)] at H; exact H
           clear H
           have H := H1
           clear H1
           have H' := Aside0.mk H
           clear H
           go_wp2
           go_meet
           case rel => exact ⟨_, (x13_3), xz, H', ⟨by have := HK1.out; have := HK2.out; have := HK3.out; have := HJ35.out; omega⟩, ⟨xr HO_8.out⟩, ⟨xr HO_9.out⟩, ⟨xr HO_10.out⟩, ⟨xs HB⟩⟩
      case rest => as_aux_lemma =>
       clear HC33
       obtain ⟨kq, x13_32, rfl, HA, HJ32, HO_8, HO_9, HO_10, HB⟩ := hcut
       cases kq with
       | zero => exact absurd HA.out (by simp [ir_long.j4])
       | succ kj32 =>
        have H := HA.out
        clear HA
        simp only [ir_long.j4] at H
        have H' := Aside0.mk H
        clear H
        go_wp2
        go_loopg [15, 16, 17] kj32 (fun kq v15 v16 v17 w' => ∃ (x8_4 : List Int) (x15_4 : Int) (x16_4 : Int) (x17_4 : Int), v15 = .int .u64 x15_4 ∧ v16 = .int .u64 x16_4 ∧ v17 = .int .i64 x17_4 ∧ Aside0 (ir_long.l3 kq (l1.length : Int) x7_1 x8_4 y144 x10_2 x11_2 x13_32 x15_4 x16_4 x17_4 = some (r1, r2)) ∧ Aside0 (kq ≤ kj32) ∧ Aside0 (Kd.R (Kd.int .u32) 85 w' w.heap.size (fun k_ => (w.heap.size ≤ k_) ∧ some k_ ≠ ((.slice (some ad152) y144.length co18) : Value).ownBlock ∧ some k_ ≠ (v148 : Value).ownBlock) (.slice (some ad150) x8_2.length co35) x8_4) ∧ Aside0 (Kd.R (Kd.int .u32) 85 w' w.heap.size (fun k_ => (w.heap.size ≤ k_) ∧ some k_ ≠ ((.slice (some ad150) x8_2.length co35) : Value).ownBlock ∧ some k_ ≠ (v148 : Value).ownBlock) (.slice (some ad152) y144.length co18) y144) ∧ Aside0 (Kd.R (Kd.int .u32) 85 w' w.heap.size (fun k_ => (w.heap.size ≤ k_) ∧ some k_ ≠ ((.slice (some ad150) x8_2.length co35) : Value).ownBlock ∧ some k_ ≠ ((.slice (some ad152) y144.length co18) : Value).ownBlock) v148 x10_2) ∧ Aside0 (Below w.heap.size w w'))
        case atStart => exact ⟨(x8_2), (0), (0), (0), xz, xz, xz, H', ⟨Nat.le_refl _⟩, ⟨xr HO_8.out⟩, ⟨xr HO_9.out⟩, ⟨xr HO_10.out⟩, ⟨xs HB⟩⟩
        case round => as_aux_lemma =>
         clear H'
         obtain ⟨x8_4, x15_4, x16_4, x17_4, rfl, rfl, rfl, HA, HK4, HO_8, HO_9, HO_10, HB⟩ := hrel
         have hl8_4 := (Kd.R_reads' HO_8.out).1
         rw [hl8_4] at HO_8
         (try simp only [hl8_4])
         (try simp only [hl8_4] at HO_9)
         (try simp only [hl8_4] at HO_10)
         cases gk with
         | zero => exact absurd HA.out (by simp [ir_long.l3])
         | succ k4 =>
          have H := HA.out
          clear HA
          simp only [ir_long.l3] at H
          obtain ⟨c51, H⟩ | ⟨c51, H⟩ := xO H
          ·have c51b0 := decide_eq_true c51
           clear c51
           obtain ⟨c52b0, H⟩ := xQd H
           obtain ⟨c53, H⟩ := xQ H
           have c53b0 := decide_eq_true c53
           clear c53
           generalize hji54 : (wrap64 (x11_2 + x17_4)) = ji54 at H
           have hji54w : (IntKind.i64.wrap (x11_2 + x17_4)) = ji54 := (i64_w _).trans hji54
           obtain ⟨c55b0, H⟩ := xQd H
           obtain ⟨c56, H⟩ := xQ H
           have c56b0 := decide_eq_true c56
           clear c56
           obtain ⟨c57b0, H⟩ | ⟨c57b0, H⟩ := xOd H
           ·generalize hy159 : (x8_4.set ((ji54) : Int).toNat ((IntKind.u64.wrap ((IntKind.u64.wrap ((IntKind.u64.wrap (rd x8_4 (ji54))) + 4294967296)) - (IntKind.u64.wrap ((Go.bits .and .u64 (IntKind.u64.wrap (x15_4 + (IntKind.u64.wrap (x13_32 * (IntKind.u64.wrap (rd y144 x17_4)))))) 4294967295) + x16_4)))) % 4294967296) : List Int) = y159 at H
            have Ny159 := Aside0.mk hy159.symm
            clear hy159
            have H' := Aside0.mk H
            clear H
            obtain ⟨p157, q157, ad157, e157, hx157_0⟩ := xA (Kd.at_int (Kd.R_reads' HO_9.out).2.2 x17_4)
            obtain rfl : ad152 = ad157 := (by injection e157)
            obtain ⟨p158, q158, ad158, e158, hx158_0⟩ := xA (Kd.at_int (Kd.R_reads' HO_8.out).2.2 (ji54))
            obtain rfl : ad150 = ad158 := (by injection e158)
            have p58 : 0 ≤ ((ji54) : Int) := xa
            have q58 : ((ji54) : Int) < ((x8_4.length : Int) : Int) := xa
            obtain ⟨go58, co58, eo58, gb58, gl58, cl58, HG58⟩ := Kd.R_form HO_8.out (by omega)
            cases eo58
            have GB58 := Aside0.mk gb58
            have GG58 := Aside0.mk HG58
            clear gb58 gl58 HG58
            simp only [add_plain] at hx150_0
            simp only [add_plain] at hx151_0
            skip
            simp only [add_plain] at hx158_0
            obtain ⟨hx58_0, hf58_0⟩ := Kd.R_celln 0 HO_8.out ((ji54) : Int) p58 q58
            replace p58 := eq_true p58
            replace q58 := eq_true q58
            have HP59 := Kd.R_putg HO_8.out ((ji54) : Int) ((IntKind.u64.wrap ((IntKind.u64.wrap ((IntKind.u64.wrap (rd x8_4 (ji54))) + 4294967296)) - (IntKind.u64.wrap ((Go.bits .and .u64 (IntKind.u64.wrap (x15_4 + (IntKind.u64.wrap (x13_32 * (IntKind.u64.wrap (rd y144 x17_4)))))) 4294967295) + x16_4)))) % 4294967296)
            go_wp2_with (refine xst 85 169 (wr.setCell ⟨go58, ((ji54) : Int).toNat, none⟩ (.int .u32 ((IntKind.u64.wrap ((IntKind.u64.wrap ((IntKind.u64.wrap (rd x8_4 (ji54))) + 4294967296)) - (IntKind.u64.wrap ((Go.bits .and .u64 (IntKind.u64.wrap (x15_4 + (IntKind.u64.wrap (x13_32 * (IntKind.u64.wrap (rd y144 x17_4)))))) 4294967295) + x16_4)))) % 4294967296))) ?_; intro w60 hw; have hg : wr.grownBy w60 (some go58) := (by rw [hw]; exact HP59.2); have hp_ : Kd.R (Kd.int .u32) 85 w60 w.heap.size (fun k_ => (w.heap.size ≤ k_) ∧ some k_ ≠ (.slice (some ad152) y144.length co18 : Value).ownBlock ∧ some k_ ≠ (v148 : Value).ownBlock) (.slice (some ⟨go58, 0, none⟩) x8_4.length co35) y159 := (by rw [hw, Ny159.out]; exact HP59.1); clear HP59; replace HO_8 := Aside0.mk (hp_); replace HO_9 := Aside0.mk (Kd.R_after (v := (.slice (some ⟨go58, 0, none⟩) x8_4.length co35)) (v1 := (.slice (some ⟨go58, 0, none⟩) x8_4.length co35)) (ok := (fun k_ => (w.heap.size ≤ k_) ∧ some k_ ≠ (v148 : Value).ownBlock)) (by exact Kd.R_mono HO_9.out (fun _ hk => by exact ⟨⟨hk.1, hk.2.2⟩, hk.2.1⟩)) hg (.inl rfl)); replace HO_10 := Aside0.mk (Kd.R_after (v := (.slice (some ⟨go58, 0, none⟩) x8_4.length co35)) (v1 := (.slice (some ⟨go58, 0, none⟩) x8_4.length co35)) (ok := (fun k_ => (w.heap.size ≤ k_) ∧ some k_ ≠ (.slice (some ad152) y144.length co18 : Value).ownBlock)) (by exact Kd.R_mono HO_10.out (fun _ hk => by exact ⟨⟨hk.1, hk.2.2⟩, hk.2.1⟩)) hg (.inl rfl)); replace HB := Aside0.mk (by rw [hw]; exact below_set (HB.out) GB58.out : Below w.heap.size w w60); clear hg hw hp_)
            (try simp only [← hl8_4])
            refine Handed.intro k4 ?measure ?_; rotate_left; go_step; (repeat apply Exists.intro); refine ⟨?rel, (by (simp only [add_plain]; rfl))⟩
            case measure => have := HK1.out; have := HK2.out; have := HJ32.out; have := HK4.out; omega
            case rel => exact ⟨(y159), ((IntKind.u64.wrap (x15_4 + (IntKind.u64.wrap (x13_32 * (IntKind.u64.wrap (rd y144 x17_4)))))) / 4294967296), (1), (wrap64 (x17_4 + 1)), xz, xz, xz, H', ⟨by have := HK1.out; have := HK2.out; have := HJ32.out; have := HK4.out; omega⟩, ⟨by (try simp only [hl8_4]); exact HO_8.out⟩, ⟨by (try simp only [hl8_4]); exact Kd.R_mono HO_9.out (fun _ hk => by exact ⟨hk.1.1, ⟨hk.2, hk.1.2⟩⟩)⟩, ⟨by (try simp only [hl8_4]); exact Kd.R_mono HO_10.out (fun _ hk => by exact ⟨hk.1.1, ⟨hk.2, hk.1.2⟩⟩)⟩, ⟨xs HB⟩⟩
           generalize hy160 : (x8_4.set ((ji54) : Int).toNat ((IntKind.u64.wrap ((IntKind.u64.wrap (rd x8_4 (ji54))) - (IntKind.u64.wrap ((Go.bits .and .u64 (IntKind.u64.wrap (x15_4 + (IntKind.u64.wrap (x13_32 * (IntKind.u64.wrap (rd y144 x17_4)))))) 4294967295) + x16_4)))) % 4294967296) : List Int) = y160 at H
           have Ny160 := Aside0.mk hy160.symm
           clear hy160
           have H' := Aside0.mk H
           clear H
           obtain ⟨p157, q157, ad157, e157, hx157_0⟩ := xA (Kd.at_int (Kd.R_reads' HO_9.out).2.2 x17_4)
           obtain rfl : ad152 = ad157 := (by injection e157)
           obtain ⟨p158, q158, ad158, e158, hx158_0⟩ := xA (Kd.at_int (Kd.R_reads' HO_8.out).2.2 (ji54))
           obtain rfl : ad150 = ad158 := (by injection e158)
           have p61 : 0 ≤ ((ji54) : Int) := xa
           have q61 : ((ji54) : Int) < ((x8_4.length : Int) : Int) := xa
           obtain ⟨go61, co61, eo61, gb61, gl61, cl61, HG61⟩ := Kd.R_form HO_8.out (by omega)
           cases eo61
           have GB61 := Aside0.mk gb61
           have GG61 := Aside0.mk HG61
           clear gb61 gl61 HG61
           simp only [add_plain] at hx158_0
           obtain ⟨hx61_0, hf61_0⟩ := Kd.R_celln 0 HO_8.out ((ji54) : Int) p61 q61
           replace p61 := eq_true p61
           replace q61 := eq_true q61
           have HP62 := Kd.R_putg HO_8.out ((ji54) : Int) ((IntKind.u64.wrap ((IntKind.u64.wrap (rd x8_4 (ji54))) - (IntKind.u64.wrap ((Go.bits .and .u64 (IntKind.u64.wrap (x15_4 + (IntKind.u64.wrap (x13_32 * (IntKind.u64.wrap (rd y144 x17_4)))))) 4294967295) + x16_4)))) % 4294967296)
           go_wp2_with (refine xst 85 169 (wr.setCell ⟨go61, ((ji54) : Int).toNat, none⟩ (.int .u32 ((IntKind.u64.wrap ((IntKind.u64.wrap (rd x8_4 (ji54))) - (IntKind.u64.wrap ((Go.bits .and .u64 (IntKind.u64.wrap (x15_4 + (IntKind.u64.wrap (x13_32 * (IntKind.u64.wrap (rd y144 x17_4)))))) 4294967295) + x16_4)))) % 4294967296))) ?_; intro w63 hw; have hg : wr.grownBy w63 (some go61) := (by rw [hw]; exact HP62.2); have hp_ : Kd.R (Kd.int .u32) 85 w63 w.heap.size (fun k_ => (w.heap.size ≤ k_) ∧ some k_ ≠ (.slice (some ad152) y144.length co18 : Value).ownBlock ∧ some k_ ≠ (v148 : Value).ownBlock) (.slice (some ⟨go61, 0, none⟩) x8_4.length co35) y160 := (by rw [hw, Ny160.out]; exact HP62.1); clear HP62; replace HO_8 := Aside0.mk (hp_); replace HO_9 := Aside0.mk (Kd.R_after (v := (.slice (some ⟨go61, 0, none⟩) x8_4.length co35)) (v1 := (.slice (some ⟨go61, 0, none⟩) x8_4.length co35)) (ok := (fun k_ => (w.heap.size ≤ k_) ∧ some k_ ≠ (v148 : Value).ownBlock)) (by exact Kd.R_mono HO_9.out (fun _ hk => by exact ⟨⟨hk.1, hk.2.2⟩, hk.2.1⟩)) hg (.inl rfl)); replace HO_10 := Aside0.mk (Kd.R_after (v := (.slice (some ⟨go61, 0, none⟩) x8_4.length co35)) (v1 := (.slice (some ⟨go61, 0, none⟩) x8_4.length co35)) (ok := (fun k_ => (w.heap.size ≤ k_) ∧ some k_ ≠ (.slice (some ad152) y144.length co18 : Value).ownBlock)) (by exact Kd.R_mono HO_10.out (fun _ hk => by exact ⟨⟨hk.1, hk.2.2⟩, hk.2.1⟩)) hg (.inl rfl)); replace HB := Aside0.mk (by rw [hw]; exact below_set (HB.out) GB61.out : Below w.heap.size w w63); clear hg hw hp_)
           (try simp only [← hl8_4])
           refine Handed.intro k4 ?measure ?_; rotate_left; go_step; (repeat apply Exists.intro); refine ⟨?rel, (by (simp only [add_plain]; rfl))⟩
           case measure => have := HK1.out; have := HK2.out; have := HJ32.out; have := HK4.out; omega
           case rel => exact ⟨(y160), ((IntKind.u64.wrap (x15_4 + (IntKind.u64.wrap (x13_32 * (IntKind.u64.wrap (rd y144 x17_4)))))) / 4294967296), (0), (wrap64 (x17_4 + 1)), xz, xz, xz, H', ⟨by have := HK1.out; have := HK2.out; have := HJ32.out; have := HK4.out; omega⟩, ⟨by (try simp only [hl8_4]); exact HO_8.out⟩, ⟨by (try simp only [hl8_4]); exact Kd.R_mono HO_9.out (fun _ hk => by exact ⟨hk.1.1, ⟨hk.2, hk.1.2⟩⟩)⟩, ⟨by (try simp only [hl8_4]); exact Kd.R_mono HO_10.out (fun _ hk => by exact ⟨hk.1.1, ⟨hk.2, hk.1.2⟩⟩)⟩, ⟨xs HB⟩⟩
          have c51b0 := decide_eq_false c51
          clear c51
          obtain ⟨ji64, hji64⟩ : ∃ j_ : Int, (wrap64 (x11_2 + (l1.length : Int))) = j_ := ⟨_, rfl⟩
          clear hji23w hji23
          replace H : (if 0 ≤ (ji64) then (if (ji64) < (x8_4.length : Int) then ((some (x8_4.set ((ji64) : Int).toNat ((IntKind.u64.wrap ((IntKind.u64.wrap (rd x8_4 (ji64))) - (IntKind.u64.wrap (x15_4 + x16_4)))) % 4294967296) : List Int)).bind fun y162 => (if (IntKind.u64.wrap (rd x8_4 (ji64))) < (IntKind.u64.wrap (x15_4 + x16_4)) then (ir_long.l4 k4 (l1.length : Int) x7_1 y162 y144 x10_2 x11_2 (IntKind.u64.wrap (x13_32 - 1)) 0 0) else (if 0 ≤ x11_2 then (if x11_2 < (x10_2.length : Int) then (ir_long.l1 k4 (l1.length : Int) x7_1 y162 y144 (x10_2.set (x11_2 : Int).toNat ((x13_32) % 4294967296)) (wrap64 (x11_2 - 1))) else (none)) else (none)))) else (none)) else (none)) = some (r1, r2) := by (rw [hji64] at H; exact H)
          have hji64w : (IntKind.i64.wrap (x11_2 + (l1.length : Int))) = ji64 := (i64_w _).trans hji64
          obtain ⟨c65b0, H⟩ := xQd H
          obtain ⟨c66, H⟩ := xQ H
          have c66b0 := decide_eq_true c66
          clear c66
          obtain ⟨y162, Ny162, H⟩ := xYa H
          obtain ⟨c68b0, H⟩ | ⟨c68b0, H⟩ := xOd H
          ·have H' := Aside0.mk H
           clear H
           obtain ⟨p161, q161, ad161, e161, hx161_0⟩ := xA (Kd.at_int (Kd.R_reads' HO_8.out).2.2 (ji64))
           obtain rfl : ad150 = ad161 := (by injection e161)
           have p67 : 0 ≤ ((ji64) : Int) := xa
           have q67 : ((ji64) : Int) < ((x8_4.length : Int) : Int) := xa
           obtain ⟨go67, co67, eo67, gb67, gl67, cl67, HG67⟩ := Kd.R_form HO_8.out (by omega)
           cases eo67
           have GB67 := Aside0.mk gb67
           have GG67 := Aside0.mk HG67
           clear gb67 gl67 HG67
           simp only [add_plain] at hx161_0
           obtain ⟨hx67_0, hf67_0⟩ := Kd.R_celln 0 HO_8.out ((ji64) : Int) p67 q67
           replace p67 := eq_true p67
           replace q67 := eq_true q67
           have HP69 := Kd.R_putg HO_8.out ((ji64) : Int) ((IntKind.u64.wrap ((IntKind.u64.wrap (rd x8_4 (ji64))) - (IntKind.u64.wrap (x15_4 + x16_4)))) % 4294967296)
           go_wp2_with (refine xst 85 191 (wr.setCell ⟨go67, ((ji64) : Int).toNat, none⟩ (.int .u32 ((IntKind.u64.wrap ((IntKind.u64.wrap (rd x8_4 (ji64))) - (IntKind.u64.wrap (x15_4 + x16_4)))) % 4294967296))) ?_; intro w70 hw; have hg : wr.grownBy w70 (some go67) := (by rw [hw]; exact HP69.2); have hp_ : Kd.R (Kd.int .u32) 85 w70 w.heap.size (fun k_ => (w.heap.size ≤ k_) ∧ some k_ ≠ (.slice (some ad152) y144.length co18 : Value).ownBlock ∧ some k_ ≠ (v148 : Value).ownBlock) (.slice (some ⟨go67, 0, none⟩) x8_4.length co35) y162 := (by rw [hw, Ny162.out]; exact HP69.1); clear HP69; replace HO_8 := Aside0.mk (hp_); replace HO_9 := Aside0.mk (Kd.R_after (v := (.slice (some ⟨go67, 0, none⟩) x8_4.length co35)) (v1 := (.slice (some ⟨go67, 0, none⟩) x8_4.length co35)) (ok := (fun k_ => (w.heap.size ≤ k_) ∧ some k_ ≠ (v148 : Value).ownBlock)) (by exact Kd.R_mono HO_9.out (fun _ hk => by exact ⟨⟨hk.1, hk.2.2⟩, hk.2.1⟩)) hg (.inl rfl)); replace HO_10 := Aside0.mk (Kd.R_after (v := (.slice (some ⟨go67, 0, none⟩) x8_4.length co35)) (v1 := (.slice (some ⟨go67, 0, none⟩) x8_4.length co35)) (ok := (fun k_ => (w.heap.size ≤ k_) ∧ some k_ ≠ (.slice (some ad152) y144.length co18 : Value).ownBlock)) (by exact Kd.R_mono HO_10.out (fun _ hk => by exact ⟨⟨hk.1, hk.2.2⟩, hk.2.1⟩)) hg (.inl rfl)); replace HB := Aside0.mk (by rw [hw]; exact below_set (HB.out) GB67.out : Below w.heap.size w w70); clear hg hw hp_)
           go_loopg [15, 23] k4 (fun kq v15 v23 w' => ∃ (x8_5 : List Int) (x15_5 : Int) (x23_5 : Int), v15 = .int .u64 x15_5 ∧ v23 = .int .i64 x23_5 ∧ Aside0 (ir_long.l4 kq (l1.length : Int) x7_1 x8_5 y144 x10_2 x11_2 (IntKind.u64.wrap (x13_32 - 1)) x15_5 x23_5 = some (r1, r2)) ∧ Aside0 (kq ≤ k4) ∧ Aside0 (Kd.R (Kd.int .u32) 85 w' w.heap.size (fun k_ => (w.heap.size ≤ k_) ∧ some k_ ≠ ((.slice (some ad152) y144.length co18) : Value).ownBlock ∧ some k_ ≠ (v148 : Value).ownBlock) (.slice (some ⟨go67, 0, none⟩) x8_4.length co35) x8_5) ∧ Aside0 (Kd.R (Kd.int .u32) 85 w' w.heap.size (fun k_ => (w.heap.size ≤ k_) ∧ some k_ ≠ ((.slice (some ⟨go67, 0, none⟩) x8_4.length co35) : Value).ownBlock ∧ some k_ ≠ (v148 : Value).ownBlock) (.slice (some ad152) y144.length co18) y144) ∧ Aside0 (Kd.R (Kd.int .u32) 85 w' w.heap.size (fun k_ => (w.heap.size ≤ k_) ∧ some k_ ≠ ((.slice (some ⟨go67, 0, none⟩) x8_4.length co35) : Value).ownBlock ∧ some k_ ≠ ((.slice (some ad152) y144.length co18) : Value).ownBlock) v148 x10_2) ∧ Aside0 (Below w.heap.size w w'))
           case atStart => exact ⟨(y162), (0), (0), xz, xz, H', ⟨Nat.le_refl _⟩, ⟨by skip; exact HO_8.out⟩, ⟨by skip; exact Kd.R_mono HO_9.out (fun _ hk => by exact ⟨hk.1.1, ⟨hk.2, hk.1.2⟩⟩)⟩, ⟨by skip; exact Kd.R_mono HO_10.out (fun _ hk => by exact ⟨hk.1.1, ⟨hk.2, hk.1.2⟩⟩)⟩, ⟨xs HB⟩⟩
           case round => as_aux_lemma =>
            clear H'
            try clear c51b0; try clear c52b0; try clear c53b0; try clear c55b0; try clear c56b0; try clear c57b0; try clear c65b0; try clear c66b0; try clear p67; try clear q67; try clear c68b0; try clear hx161_0; try clear hx67_0; try clear p161; try clear q161
            obtain ⟨x8_5, x15_5, x23_5, rfl, rfl, HA, HK5, HO_8, HO_9, HO_10, HB⟩ := hrel
            have hl8_5 := (Kd.R_reads' HO_8.out).1
            rw [hl8_5] at HO_8
            (try simp only [hl8_5])
            (try simp only [hl8_5] at HO_9)
            (try simp only [hl8_5] at HO_10)
            cases gk with
            | zero => exact absurd HA.out (by simp [ir_long.l4])
            | succ k5 =>
             have H := HA.out
             clear HA
             simp only [ir_long.l4] at H
             obtain ⟨c71, H⟩ | ⟨c71, H⟩ := xO H
             ·have c71b0 := decide_eq_true c71
              clear c71
              generalize hji72 : (wrap64 (x11_2 + x23_5)) = ji72 at H
              have hji72w : (IntKind.i64.wrap (x11_2 + x23_5)) = ji72 := (i64_w _).trans hji72
              obtain ⟨c73b0, H⟩ := xQd H
              obtain ⟨c74, H⟩ := xQ H
              have c74b0 := decide_eq_true c74
              clear c74
              obtain ⟨c75b0, H⟩ := xQd H
              obtain ⟨c76, H⟩ := xQ H
              have c76b0 := decide_eq_true c76
              clear c76
              generalize hy165 : (x8_5.set ((ji72) : Int).toNat ((IntKind.u64.wrap ((IntKind.u64.wrap (x15_5 + (IntKind.u64.wrap (rd x8_5 (ji72))))) + (IntKind.u64.wrap (rd y144 x23_5)))) % 4294967296) : List Int) = y165 at H
              have Ny165 := Aside0.mk hy165.symm
              clear hy165
              have H' := Aside0.mk H
              clear H
              try go_wp2
              replace HO_8 := Aside0.mk (Kd.R_drew HO_8.out)
              replace HO_9 := Aside0.mk (Kd.R_drew HO_9.out)
              replace HO_10 := Aside0.mk (Kd.R_drew HO_10.out)
              replace HB := xW HB
              obtain ⟨p163, q163, ad163, e163, hx163_0⟩ := xA (Kd.at_int (Kd.R_reads' HO_8.out).2.2 (ji72))
              obtain rfl : (⟨go67, 0, none⟩ : Addr) = ad163 := (by injection e163)
              simp only [add_plain] at hx163_0
              obtain ⟨p164, q164, ad164, e164, hx164_0⟩ := xA (Kd.at_int (Kd.R_reads' HO_9.out).2.2 x23_5)
              obtain rfl : ad152 = ad164 := (by injection e164)
              refine start_ (n := 16) (S := fun w' => w'.cell? ⟨go67, (ji72).toNat, none⟩ = some (.int .u32 (rd x8_5 (ji72))) ∧ w'.cell? (ad152.add (x23_5).toNat) = some (.int .u32 (rd y144 x23_5))) (ds := []) (b 16 0) (by kernel_rfl) rfl rfl ⟨hx163_0, hx164_0⟩ (fun hHeld => ?_); refine with_tabW ir_long.tab42 ir_long.bits42 (fun HT_ HW_ => ?_)
              generalize wr.drew = w78 at HO_8 HO_9 HO_10 HB hx163_0 hx164_0 hHeld ⊢
              refine yP 0 (some 200) (b 16 1) ?_
              refine yP 1 (some 201) (b 16 3) ?_
              refine yP 2 (some 202) (b 16 7) ?_
              refine yP 3 (some 203) (b 16 15) ?_
              refine yP 4 (some 204) (b 16 31) ?_
              refine yP 5 (some 205) (b 16 63) ?_
              refine yP 9 (some 209) (b 16 575) ?_
              refine yP 10 (some 210) (b 16 1599) ?_
              refine yP 11 (some 211) (b 16 3647) ?_
              refine yT 6 (some 206) (b 16 3711) hHeld ?_
              refine yP 7 (some 207) (b 16 3839) ?_
              refine yP 8 (some 208) (b 16 4095) ?_
              refine yT 12 (some 212) (b 16 8191) hHeld ?_
              refine yP 13 (some 213) (b 16 16383) ?_
              refine yP 14 (some 214) (b 16 32767) ?_
              refine yP 15 (some 15) (b 16 65535) ?_
              refine done_ (done_of HT_.out (by kernel_rfl)) ?_
              obtain ⟨p77, q77, hx77_0, hf77_0⟩ := xA (Kd.R_celln 0 HO_8.out ((ji72) : Int))
              obtain ⟨hy79_, hz79_⟩ := Kd.R_celln 0 HO_8.out ((ji72) : Int) (xa) (xa)
              have HP79 := Kd.R_putg HO_8.out ((ji72) : Int) ((IntKind.u64.wrap ((IntKind.u64.wrap (x15_5 + (IntKind.u64.wrap (rd x8_5 (ji72))))) + (IntKind.u64.wrap (rd y144 x23_5)))) % 4294967296)
              try go_wp2_with (refine xst 85 221 (w78.setCell ⟨go67, ((ji72) : Int).toNat, none⟩ (.int .u32 ((IntKind.u64.wrap ((IntKind.u64.wrap (x15_5 + (IntKind.u64.wrap (rd x8_5 (ji72))))) + (IntKind.u64.wrap (rd y144 x23_5)))) % 4294967296))) ?_; intro w80 hw; have hg : w78.grownBy w80 (some go67) := (by rw [hw]; exact HP79.2); have hp_ : Kd.R (Kd.int .u32) 85 w80 w.heap.size (fun k_ => (w.heap.size ≤ k_) ∧ some k_ ≠ (.slice (some ad152) y144.length co18 : Value).ownBlock ∧ some k_ ≠ (v148 : Value).ownBlock) (.slice (some ⟨go67, 0, none⟩) x8_5.length co35) y165 := (by rw [hw, Ny165.out]; exact HP79.1); clear HP79; replace HO_8 := Aside0.mk (hp_); replace HO_9 := Aside0.mk (Kd.R_after (v := (.slice (some ⟨go67, 0, none⟩) x8_5.length co35)) (v1 := (.slice (some ⟨go67, 0, none⟩) x8_5.length co35)) (ok := (fun k_ => (w.heap.size ≤ k_) ∧ some k_ ≠ (v148 : Value).ownBlock)) (by exact Kd.R_mono HO_9.out (fun _ hk => by exact ⟨⟨hk.1, hk.2.2⟩, hk.2.1⟩)) hg (.inl rfl)); replace HO_10 := Aside0.mk (Kd.R_after (v := (.slice (some ⟨go67, 0, none⟩) x8_5.length co35)) (v1 := (.slice (some ⟨go67, 0, none⟩) x8_5.length co35)) (ok := (fun k_ => (w.heap.size ≤ k_) ∧ some k_ ≠ (.slice (some ad152) y144.length co18 : Value).ownBlock)) (by exact Kd.R_mono HO_10.out (fun _ hk => by exact ⟨⟨hk.1, hk.2.2⟩, hk.2.1⟩)) hg (.inl rfl)); replace HB := Aside0.mk (by rw [hw]; exact below_set (HB.out) GB67.out : Below w.heap.size w w80); clear hg hw hp_)
              (try simp only [← hl8_5])
              go_roundg k5
              case measure => have := HK1.out; have := HK2.out; have := HJ32.out; have := HK4.out; have := HK5.out; omega
              case rel => exact ⟨(y165), ((IntKind.u64.wrap ((IntKind.u64.wrap (x15_5 + (IntKind.u64.wrap (rd x8_5 (ji72))))) + (IntKind.u64.wrap (rd y144 x23_5)))) / 4294967296), (wrap64 (x23_5 + 1)), (by rfl), xz, H', ⟨by have := HK1.out; have := HK2.out; have := HJ32.out; have := HK4.out; have := HK5.out; omega⟩, ⟨by skip; (try simp only [hl8_5]); exact HO_8.out⟩, ⟨by skip; (try simp only [hl8_5]); exact Kd.R_mono HO_9.out (fun _ hk => by exact ⟨hk.1.1, ⟨hk.2, hk.1.2⟩⟩)⟩, ⟨by skip; (try simp only [hl8_5]); exact Kd.R_mono HO_10.out (fun _ hk => by exact ⟨hk.1.1, ⟨hk.2, hk.1.2⟩⟩)⟩, ⟨xs HB⟩⟩
             have c71b0 := decide_eq_false c71
             clear c71
             obtain ⟨ji81, hji81⟩ : ∃ j_ : Int, (wrap64 (x11_2 + (l1.length : Int))) = j_ := ⟨_, rfl⟩
             clear hji64w hji64
             replace H : (if 0 ≤ (ji81) then (if (ji81) < (x8_5.length : Int) then (if 0 ≤ x11_2 then (if x11_2 < (x10_2.length : Int) then (ir_long.l1 k5 (l1.length : Int) x7_1 (x8_5.set ((ji81) : Int).toNat (((rd x8_5 (ji81)) + ((x15_5) % 4294967296)) % 4294967296)) y144 (x10_2.set (x11_2 : Int).toNat ((IntKind.u64.wrap (x13_32 - 1)) % 4294967296)) (wrap64 (x11_2 - 1))) else (none)) else (none)) else (none)) else (none)) = some (r1, r2) := by (rw [hji81] at H; exact H)
             have hji81w : (IntKind.i64.wrap (x11_2 + (l1.length : Int))) = ji81 := (i64_w _).trans hji81
             obtain ⟨c82b0, H⟩ := xQd H
             obtain ⟨c83, H⟩ := xQ H
             have c83b0 := decide_eq_true c83
             clear c83
             generalize hy167 : (x8_5.set ((ji81) : Int).toNat (((rd x8_5 (ji81)) + ((x15_5) % 4294967296)) % 4294967296) : List Int) = y167 at H
             have Ny167 := Aside0.mk hy167.symm
             clear hy167
             obtain ⟨c85b0, H⟩ := xQd H
             obtain ⟨c86, H⟩ := xQ H
             have c86b0 := decide_eq_true c86
             clear c86
             generalize hy168 : (x10_2.set (x11_2 : Int).toNat ((IntKind.u64.wrap (x13_32 - 1)) % 4294967296) : List Int) = y168 at H
             have Ny168 := Aside0.mk hy168.symm
             clear hy168
             have H' := Aside0.mk H
             clear H
             obtain ⟨p166, q166, ad166, e166, hx166_0⟩ := xA (Kd.at_int (Kd.R_reads' HO_8.out).2.2 (ji81))
             obtain rfl : (⟨go67, 0, none⟩ : Addr) = ad166 := (by injection e166)
             simp only [add_plain] at hx166_0
             obtain ⟨p84, q84, hx84_0, hf84_0⟩ := xA (Kd.R_celln 0 HO_8.out ((ji81) : Int))
             have HP88 := Kd.R_putg HO_8.out ((ji81) : Int) (((rd x8_5 (ji81)) + ((x15_5) % 4294967296)) % 4294967296)
             go_wp2_with (first | (refine xst 85 237 (wr.setCell ⟨go67, ((ji81) : Int).toNat, none⟩ (.int .u32 (((rd x8_5 (ji81)) + ((x15_5) % 4294967296)) % 4294967296))) ?_; intro w89 hw; have hg : wr.grownBy w89 (some go67) := (by rw [hw]; exact HP88.2); have hp_ : Kd.R (Kd.int .u32) 85 w89 w.heap.size (fun k_ => (w.heap.size ≤ k_) ∧ some k_ ≠ (.slice (some ad152) y144.length co18 : Value).ownBlock ∧ some k_ ≠ (v148 : Value).ownBlock) (.slice (some ⟨go67, 0, none⟩) x8_5.length co35) y167 := (by rw [hw, Ny167.out]; exact HP88.1); clear HP88; replace HO_8 := Aside0.mk (hp_); replace HO_9 := Aside0.mk (Kd.R_after (v := (.slice (some ⟨go67, 0, none⟩) x8_5.length co35)) (v1 := (.slice (some ⟨go67, 0, none⟩) x8_5.length co35)) (ok := (fun k_ => (w.heap.size ≤ k_) ∧ some k_ ≠ (v148 : Value).ownBlock)) (by exact Kd.R_mono HO_9.out (fun _ hk => by exact ⟨⟨hk.1, hk.2.2⟩, hk.2.1⟩)) hg (.inl rfl)); replace HO_10 := Aside0.mk (Kd.R_after (v := (.slice (some ⟨go67, 0, none⟩) x8_5.length co35)) (v1 := (.slice (some ⟨go67, 0, none⟩) x8_5.length co35)) (ok := (fun k_ => (w.heap.size ≤ k_) ∧ some k_ ≠ (.slice (some ad152) y144.length co18 : Value).ownBlock)) (by exact Kd.R_mono HO_10.out (fun _ hk => by exact ⟨⟨hk.1, hk.2.2⟩, hk.2.1⟩)) hg (.inl rfl)); replace HB := Aside0.mk (by rw [hw]; exact below_set (HB.out) GB67.out : Below w.heap.size w w89); clear hg hw hp_; have p87 : 0 ≤ (x11_2 : Int) := xa; have q87 : (x11_2 : Int) < ((x10_2.length : Int) : Int) := xa; obtain ⟨go87, co87, eo87, gb87, gl87, cl87, HG87⟩ := Kd.R_form HO_10.out (by omega); (cases eo87); have GB87 := Aside0.mk gb87; have GG87 := Aside0.mk HG87; clear gb87 gl87 HG87; obtain ⟨hx87_0, hf87_0⟩ := Kd.R_celln 0 HO_10.out (x11_2 : Int) p87 q87; replace p87 := eq_true p87; replace q87 := eq_true q87; have n_ := Aside0.mk (Kd.R_mono (ok' := (fun k_ => (w.heap.size ≤ k_) ∧ some k_ ≠ (.slice (some ⟨go67, 0, none⟩) x8_5.length co35 : Value).ownBlock ∧ some k_ ≠ (.slice (some ad152) y144.length co18 : Value).ownBlock)) HO_10.out (fun k_ hk => ⟨hk.1.1, ⟨hk.2, hk.1.2⟩⟩)); clear HO_10; have HO_10 := n_; clear n_; obtain ⟨hy90_, hz90_⟩ := Kd.R_celln 0 HO_10.out (x11_2 : Int) (xa) (xa); have HP90 := Kd.R_putg HO_10.out (x11_2 : Int) ((IntKind.u64.wrap (x13_32 - 1)) % 4294967296)) | (refine xst 85 242 (w89.setCell ⟨go87, (x11_2 : Int).toNat, none⟩ (.int .u32 ((IntKind.u64.wrap (x13_32 - 1)) % 4294967296))) ?_; intro w91 hw; have hg : w89.grownBy w91 (some go87) := (by rw [hw]; exact HP90.2); have hp_ : Kd.R (Kd.int .u32) 85 w91 w.heap.size (fun k_ => (w.heap.size ≤ k_) ∧ some k_ ≠ (.slice (some ⟨go67, 0, none⟩) x8_5.length co35 : Value).ownBlock ∧ some k_ ≠ (.slice (some ad152) y144.length co18 : Value).ownBlock) (.slice (some ⟨go87, 0, none⟩) x10_2.length co87) y168 := (by rw [hw, Ny168.out]; exact HP90.1); clear HP90; replace HO_8 := Aside0.mk (Kd.R_after (v := (.slice (some ⟨go87, 0, none⟩) x10_2.length co87)) (v1 := (.slice (some ⟨go87, 0, none⟩) x10_2.length co87)) (ok := (fun k_ => (w.heap.size ≤ k_) ∧ some k_ ≠ (.slice (some ad152) y144.length co18 : Value).ownBlock)) (by exact Kd.R_mono HO_8.out (fun _ hk => by exact ⟨⟨hk.1, hk.2.1⟩, hk.2.2⟩)) hg (.inl rfl)); replace HO_9 := Aside0.mk (Kd.R_after (v := (.slice (some ⟨go87, 0, none⟩) x10_2.length co87)) (v1 := (.slice (some ⟨go87, 0, none⟩) x10_2.length co87)) (ok := (fun k_ => (w.heap.size ≤ k_) ∧ some k_ ≠ (.slice (some ⟨go67, 0, none⟩) x8_5.length co35 : Value).ownBlock)) (by exact Kd.R_mono HO_9.out (fun _ hk => by exact ⟨⟨hk.1.1, hk.2⟩, hk.1.2⟩)) hg (.inl rfl)); replace HO_10 := Aside0.mk (hp_); replace HB := Aside0.mk (by rw [hw]; exact below_set (HB.out) GB87.out : Below w.heap.size w w91); clear hg hw hp_))
             (try simp only [← hl8_4, ← hl8_5])
             go_roundg k5
             case measure => have := HK1.out; have := HK2.out; have := HJ32.out; have := HK4.out; have := HK5.out; omega
             case rel => exact ⟨(y167), (y168), (wrap64 (x11_2 - 1)), xz, H', ⟨by have := HK1.out; have := HK2.out; have := HJ32.out; have := HK4.out; have := HK5.out; omega⟩, ⟨by (try simp only [hl8_4]); (try simp only [hl8_5]); exact Kd.R_mono HO_8.out (fun _ hk => by exact ⟨hk.1.1, ⟨hk.1.2, hk.2⟩⟩)⟩, ⟨by (try simp only [hl8_4]); (try simp only [hl8_5]); exact Kd.R_mono HO_9.out (fun _ hk => by exact ⟨hk.1.1, ⟨hk.1.2, hk.2⟩⟩)⟩, ⟨by (try simp only [hl8_4]); (try simp only [hl8_5]); exact HO_10.out⟩, ⟨xs HB⟩⟩
          obtain ⟨c92b0, H⟩ := xQd H
          obtain ⟨c93, H⟩ := xQ H
          have c93b0 := decide_eq_true c93
          clear c93
          generalize hy169 : (x10_2.set (x11_2 : Int).toNat ((x13_32) % 4294967296) : List Int) = y169 at H
          have Ny169 := Aside0.mk hy169.symm
          clear hy169
          have H' := Aside0.mk H
          clear H
          obtain ⟨p161, q161, ad161, e161, hx161_0⟩ := xA (Kd.at_int (Kd.R_reads' HO_8.out).2.2 (ji64))
          obtain rfl : ad150 = ad161 := (by injection e161)
          have p67 : 0 ≤ ((ji64) : Int) := xa
          have q67 : ((ji64) : Int) < ((x8_4.length : Int) : Int) := xa
          obtain ⟨go67, co67, eo67, gb67, gl67, cl67, HG67⟩ := Kd.R_form HO_8.out (by omega)
          cases eo67
          have GB67 := Aside0.mk gb67
          have GG67 := Aside0.mk HG67
          clear gb67 gl67 HG67
          simp only [add_plain] at hx161_0
          obtain ⟨hx67_0, hf67_0⟩ := Kd.R_celln 0 HO_8.out ((ji64) : Int) p67 q67
          replace p67 := eq_true p67
          replace q67 := eq_true q67
          have HP95 := Kd.R_putg HO_8.out ((ji64) : Int) ((IntKind.u64.wrap ((IntKind.u64.wrap (rd x8_4 (ji64))) - (IntKind.u64.wrap (x15_4 + x16_4)))) % 4294967296)
          go_wp2_with (first | (refine xst 85 191 (wr.setCell ⟨go67, ((ji64) : Int).toNat, none⟩ (.int .u32 ((IntKind.u64.wrap ((IntKind.u64.wrap (rd x8_4 (ji64))) - (IntKind.u64.wrap (x15_4 + x16_4)))) % 4294967296))) ?_; intro w96 hw; have hg : wr.grownBy w96 (some go67) := (by rw [hw]; exact HP95.2); have hp_ : Kd.R (Kd.int .u32) 85 w96 w.heap.size (fun k_ => (w.heap.size ≤ k_) ∧ some k_ ≠ (.slice (some ad152) y144.length co18 : Value).ownBlock ∧ some k_ ≠ (v148 : Value).ownBlock) (.slice (some ⟨go67, 0, none⟩) x8_4.length co35) y162 := (by rw [hw, Ny162.out]; exact HP95.1); clear HP95; replace HO_8 := Aside0.mk (hp_); replace HO_9 := Aside0.mk (Kd.R_after (v := (.slice (some ⟨go67, 0, none⟩) x8_4.length co35)) (v1 := (.slice (some ⟨go67, 0, none⟩) x8_4.length co35)) (ok := (fun k_ => (w.heap.size ≤ k_) ∧ some k_ ≠ (v148 : Value).ownBlock)) (by exact Kd.R_mono HO_9.out (fun _ hk => by exact ⟨⟨hk.1, hk.2.2⟩, hk.2.1⟩)) hg (.inl rfl)); replace HO_10 := Aside0.mk (Kd.R_after (v := (.slice (some ⟨go67, 0, none⟩) x8_4.length co35)) (v1 := (.slice (some ⟨go67, 0, none⟩) x8_4.length co35)) (ok := (fun k_ => (w.heap.size ≤ k_) ∧ some k_ ≠ (.slice (some ad152) y144.length co18 : Value).ownBlock)) (by exact Kd.R_mono HO_10.out (fun _ hk => by exact ⟨⟨hk.1, hk.2.2⟩, hk.2.1⟩)) hg (.inl rfl)); replace HB := Aside0.mk (by rw [hw]; exact below_set (HB.out) GB67.out : Below w.heap.size w w96); clear hg hw hp_; have p94 : 0 ≤ (x11_2 : Int) := xa; have q94 : (x11_2 : Int) < ((x10_2.length : Int) : Int) := xa; obtain ⟨go94, co94, eo94, gb94, gl94, cl94, HG94⟩ := Kd.R_form HO_10.out (by omega); (cases eo94); have GB94 := Aside0.mk gb94; have GG94 := Aside0.mk HG94; clear gb94 gl94 HG94; obtain ⟨hx94_0, hf94_0⟩ := Kd.R_celln 0 HO_10.out (x11_2 : Int) p94 q94; replace p94 := eq_true p94; replace q94 := eq_true q94; have n_ := Aside0.mk (Kd.R_mono (ok' := (fun k_ => (w.heap.size ≤ k_) ∧ some k_ ≠ (.slice (some ⟨go67, 0, none⟩) x8_4.length co35 : Value).ownBlock ∧ some k_ ≠ (.slice (some ad152) y144.length co18 : Value).ownBlock)) HO_10.out (fun k_ hk => ⟨hk.1.1, ⟨hk.2, hk.1.2⟩⟩)); clear HO_10; have HO_10 := n_; clear n_; obtain ⟨hy97_, hz97_⟩ := Kd.R_celln 0 HO_10.out (x11_2 : Int) (xa) (xa); have HP97 := Kd.R_putg HO_10.out (x11_2 : Int) ((x13_32) % 4294967296)) | (refine xst 85 242 (w96.setCell ⟨go94, (x11_2 : Int).toNat, none⟩ (.int .u32 ((x13_32) % 4294967296))) ?_; intro w98 hw; have hg : w96.grownBy w98 (some go94) := (by rw [hw]; exact HP97.2); have hp_ : Kd.R (Kd.int .u32) 85 w98 w.heap.size (fun k_ => (w.heap.size ≤ k_) ∧ some k_ ≠ (.slice (some ⟨go67, 0, none⟩) x8_4.length co35 : Value).ownBlock ∧ some k_ ≠ (.slice (some ad152) y144.length co18 : Value).ownBlock) (.slice (some ⟨go94, 0, none⟩) x10_2.length co94) y169 := (by rw [hw, Ny169.out]; exact HP97.1); clear HP97; replace HO_8 := Aside0.mk (Kd.R_after (v := (.slice (some ⟨go94, 0, none⟩) x10_2.length co94)) (v1 := (.slice (some ⟨go94, 0, none⟩) x10_2.length co94)) (ok := (fun k_ => (w.heap.size ≤ k_) ∧ some k_ ≠ (.slice (some ad152) y144.length co18 : Value).ownBlock)) (by exact Kd.R_mono HO_8.out (fun _ hk => by exact ⟨⟨hk.1, hk.2.1⟩, hk.2.2⟩)) hg (.inl rfl)); replace HO_9 := Aside0.mk (Kd.R_after (v := (.slice (some ⟨go94, 0, none⟩) x10_2.length co94)) (v1 := (.slice (some ⟨go94, 0, none⟩) x10_2.length co94)) (ok := (fun k_ => (w.heap.size ≤ k_) ∧ some k_ ≠ (.slice (some ⟨go67, 0, none⟩) x8_4.length co35 : Value).ownBlock)) (by exact Kd.R_mono HO_9.out (fun _ hk => by exact ⟨⟨hk.1.1, hk.2⟩, hk.1.2⟩)) hg (.inl rfl)); replace HO_10 := Aside0.mk (hp_); replace HB := Aside0.mk (by rw [hw]; exact below_set (HB.out) GB94.out : Below w.heap.size w w98); clear hg hw hp_))
          (try simp only [← hl8_4])
          go_roundg k4
          case measure => have := HK1.out; have := HK2.out; have := HJ32.out; have := HK4.out; omega
          case rel => exact ⟨(y162), (y169), (wrap64 (x11_2 - 1)), xz, H', ⟨by have := HK1.out; have := HK2.out; have := HJ32.out; have := HK4.out; omega⟩, ⟨by (try simp only [hl8_4]); exact Kd.R_mono HO_8.out (fun _ hk => by exact ⟨hk.1.1, ⟨hk.1.2, hk.2⟩⟩)⟩, ⟨by (try simp only [hl8_4]); exact Kd.R_mono HO_9.out (fun _ hk => by exact ⟨hk.1.1, ⟨hk.1.2, hk.2⟩⟩)⟩, ⟨by (try simp only [hl8_4]); exact HO_10.out⟩, ⟨xs HB⟩⟩
     obtain ⟨c99b0, c99b1, H⟩ := xQt H
     obtain ⟨c100b0, c100b1, H⟩ := xQt H
     generalize hy170 : (List.replicate ((l1.length : Int) : Int).toNat 0 : List Int) = y170 at H
     have Ny170 := Aside0.mk hy170.symm
     clear hy170
     have H' := Aside0.mk H
     clear H
     go_wp2_with ((with_reducible refine gate_dst (N := 244) rfl ?_); refine Kd.R_make (Kd.int .u32) _ 85 rfl (N := 244) rfl 73 _ _ rfl (l1.length : Int) rfl rfl Tryd.underlying73 (.int .u32 0) 4 info85 rfl (by decide) (by omega) 0 (ok := fun _ => True) (okp := fun _ => True) rfl (fun _ hk => hk) trivial (xa) (Nat.le_trans (Nat.mul_le_mul_right _ (xa : (l1.length : Int).toNat ≤ 70368744177664)) (by omega)) (Below.refl _ _) (Nat.le_refl _) ?_; intro v171 w101 ho102 hb hg_ hnew_; clear hg_ hnew_; (rw [← Ny170.out] at ho102); have HO172 := Aside0.mk (Kd.R_lower (Kd.R_new' (Kd.R_new' (Kd.R_new' (Kd.R_newM (M := fun k_ => (w.heap.size ≤ k_)) ho102 (below_size (xs HB)) (fun k_ h_ => h_)) (Kd.R_lt (xr HO_8.out))) (Kd.R_lt (xr HO_9.out))) (Kd.R_lt (xr HO_10.out))) (below_size (xs HB))); replace HO_8 := Aside0.mk (Kd.R_elder' (xr HO_8.out) (Kd.R_base ho102) hb); replace HO_9 := Aside0.mk (Kd.R_elder' (xr HO_9.out) (Kd.R_base ho102) hb); replace HO_10 := Aside0.mk (Kd.R_elder' (xr HO_10.out) (Kd.R_base ho102) hb); replace HB := xS HB hb; clear hb ho102)
     go_loopg [25] k2 (fun kq v25 w' => ∃ (x24_3 : List Int) (x25_3 : Int), v25 = .int .i64 x25_3 ∧ Aside0 (ir_long.l5 kq (l1.length : Int) x7_1 x8_2 x10_2 x24_3 x25_3 = some (r1, r2)) ∧ Aside0 (kq ≤ k2) ∧ Aside0 (Kd.R (Kd.int .u32) 85 w' w.heap.size (fun k_ => (w.heap.size ≤ k_) ∧ some k_ ≠ (v148 : Value).ownBlock ∧ some k_ ≠ (v171 : Value).ownBlock) v139 x8_2) ∧ Aside0 (Kd.R (Kd.int .u32) 85 w' w.heap.size (fun k_ => (w.heap.size ≤ k_) ∧ some k_ ≠ (v139 : Value).ownBlock ∧ some k_ ≠ (v171 : Value).ownBlock) v148 x10_2) ∧ Aside0 (Kd.R (Kd.int .u32) 85 w' w.heap.size (fun k_ => (w.heap.size ≤ k_) ∧ some k_ ≠ (v139 : Value).ownBlock ∧ some k_ ≠ (v148 : Value).ownBlock) v171 x24_3) ∧ Aside0 (Below w.heap.size w w'))
     case atStart => exact ⟨(y170), (0), xz, H', ⟨Nat.le_refl _⟩, ⟨by exact Kd.R_mono HO_8.out (fun _ hk => by exact ⟨hk.1.1, ⟨hk.1.2.2, hk.2⟩⟩)⟩, ⟨by exact Kd.R_mono HO_10.out (fun _ hk => by exact ⟨hk.1.1, ⟨hk.1.2.1, hk.2⟩⟩)⟩, ⟨by exact Kd.R_mono HO172.out (fun _ hk => by exact ⟨hk.1.1.1.1, ⟨hk.1.1.2, hk.2⟩⟩)⟩, ⟨xs HB⟩⟩
     case round => as_aux_lemma =>
      clear H'
      clear c99b0 c99b1 c100b0 c100b1
      obtain ⟨x24_3, x25_3, rfl, HA, HK3, HO_8, HO_10, HO_24, HB⟩ := hrel
      cases gk with
      | zero => exact absurd HA.out (by simp [ir_long.l5])
      | succ k3 =>
       have H := HA.out
       clear HA
       simp only [ir_long.l5] at H
       obtain ⟨c103b0, H⟩ | ⟨c103b0, H⟩ := xOd H
       ·generalize hji104 : (wrap64 (x25_3 + 1)) = ji104 at H
        have hji104w : (IntKind.i64.wrap (x25_3 + 1)) = ji104 := (i64_w _).trans hji104
        obtain ⟨c105b0, H⟩ := xQd H
        obtain ⟨c106b0, H⟩ := xQd H
        obtain ⟨c107b0, H⟩ := xQd H
        obtain ⟨c108b0, H⟩ := xQd H
        obtain ⟨c109b0, c109b1, H⟩ := xQt H
        generalize hji110 : (shr .u64 (Go.bits .or .u64 (IntKind.u64.wrap ((IntKind.u64.wrap (rd x8_2 (ji104))) * 4294967296)) (IntKind.u64.wrap (rd x8_2 x25_3))) x7_1) = ji110 at H
        have hji110_ : ((Go.bits .or .u64 (IntKind.u64.wrap ((IntKind.u64.wrap (rd x8_2 (ji104))) * 4294967296)) (IntKind.u64.wrap (rd x8_2 x25_3))) / 2 ^ min x7_1.toNat 64) = ji110 := hji110
        have hji110z : x7_1 ≤ 64 → ((Go.bits .or .u64 (IntKind.u64.wrap ((IntKind.u64.wrap (rd x8_2 (ji104))) * 4294967296)) (IntKind.u64.wrap (rd x8_2 x25_3))) / 2 ^ x7_1.toNat) = ji110 := shr_small hji110
        obtain ⟨c111b0, H⟩ := xQd H
        generalize hy175 : (x24_3.set (x25_3 : Int).toNat ((ji110) % 4294967296) : List Int) = y175 at H
        have Ny175 := Aside0.mk hy175.symm
        clear hy175
        have H' := Aside0.mk H
        clear H
        try go_wp2
        replace HO_8 := Aside0.mk (Kd.R_drew HO_8.out)
        replace HO_10 := Aside0.mk (Kd.R_drew HO_10.out)
        replace HO_24 := Aside0.mk (Kd.R_drew HO_24.out)
        replace HB := xW HB
        obtain ⟨Ao114, co114, eo114⟩ := Kd.R_slice HO_8.out
        subst eo114
        obtain ⟨p173, q173, ad173, e173, hx173_0⟩ := xA (Kd.at_int (Kd.R_reads' HO_8.out).2.2 (ji104))
        cases e173
        obtain ⟨p174, q174, ad174, e174, hx174_0⟩ := xA (Kd.at_int (Kd.R_reads' HO_8.out).2.2 x25_3)
        obtain rfl : ad173 = ad174 := (by injection e174)
        have p112 : 0 ≤ (x25_3 : Int) := xa
        have q112 : (x25_3 : Int) < ((x24_3.length : Int) : Int) := xa
        obtain ⟨go112, co112, eo112, gb112, gl112, cl112, HG112⟩ := Kd.R_form HO_24.out (by omega)
        cases eo112
        have GB112 := Aside0.mk gb112
        have GG112 := Aside0.mk HG112
        clear gb112 gl112 HG112
        obtain ⟨hx112_0, hf112_0⟩ := Kd.R_celln 0 HO_24.out (x25_3 : Int) p112 q112
        replace p112 := eq_true p112
        replace q112 := eq_true q112
        have HP115 := Kd.R_putn HO_24.out (x25_3 : Int) ((ji110) % 4294967296)
        rw [← Ny175.out] at HP115
        have HQ115 := Aside0.mk HP115
        clear HP115
        refine start_ (n := 20) (S := fun w' => w'.cell? (ad173.add (ji104).toNat) = some (.int .u32 (rd x8_2 (ji104))) ∧ w'.cell? (ad173.add (x25_3).toNat) = some (.int .u32 (rd x8_2 x25_3))) (ds := [19]) (b 20 0) (by kernel_rfl) rfl rfl ⟨hx173_0, hx174_0⟩ (fun hHeld => ?_); refine with_tabW ir_long.tab51 ir_long.bits51 (fun HT_ HW_ => ?_)
        generalize wr.drew = w113 at HO_8 HO_10 HO_24 HB GG112 HQ115 hf112_0 hx112_0 hx173_0 hx174_0 hHeld ⊢
        refine yP 0 (some 250) (b 20 1) ?_
        refine yP 1 (some 251) (b 20 3) ?_
        refine yP 2 (some 252) (b 20 7) ?_
        refine yP 3 (some 253) (b 20 15) ?_
        refine yP 4 (some 254) (b 20 31) ?_
        refine yP 5 (some 255) (b 20 63) ?_
        refine yP 9 (some 259) (b 20 575) ?_
        refine yP 10 (some 260) (b 20 1599) ?_
        refine yP 11 (some 261) (b 20 3647) ?_
        refine yP 15 (some 265) (b 20 36415) ?_
        refine yT 6 (some 256) (b 20 36479) hHeld ?_
        refine yP 7 (some 257) (b 20 36607) ?_
        refine yP 8 (some 258) (b 20 36863) ?_
        refine yT 12 (some 262) (b 20 40959) hHeld ?_
        refine yP 13 (some 263) (b 20 49151) ?_
        refine yP 14 (some 264) (b 20 65535) ?_
        refine yP 16 (some 266) (b 20 131071) ?_
        refine yP 17 (some 267) (b 20 262143) ?_
        refine yP 18 (some 268) (b 20 524287) ?_
        refine yZ 19 none (b 20 1048575) fun K hK => ?_
        refine xk ?_
        refine hK.out _ _ ?_
        clear hK K
        refine done_ (done_of HT_.out (by kernel_rfl)) ?_
        try go_wp2
        go_roundg k3
        case measure => have := HK1.out; have := HK2.out; have := HK3.out; omega
        case rel => exact ⟨(y175), (ji104), (by rfl), H', ⟨by have := HK1.out; have := HK2.out; have := HK3.out; omega⟩, ⟨by exact Kd.R_mono (Kd.R_far (p := ⟨go112, (x25_3 : Int).toNat, none⟩) (Kd.R_mono HO_8.out (fun k_ hk => (⟨hk, fun e_ => hk.2.2 (by rw [e_]; rfl)⟩ : _ ∧ k_ ≠ go112))) (fun _ hk => hk.2) (.int .u32 ((ji110) % 4294967296))) (fun _ hk => ⟨hk.1.1, ⟨hk.1.2.1, hk.1.2.2⟩⟩)⟩, ⟨by exact Kd.R_mono (Kd.R_far (p := ⟨go112, (x25_3 : Int).toNat, none⟩) (Kd.R_mono HO_10.out (fun k_ hk => (⟨hk, fun e_ => hk.2.2 (by rw [e_]; rfl)⟩ : _ ∧ k_ ≠ go112))) (fun _ hk => hk.2) (.int .u32 ((ji110) % 4294967296))) (fun _ hk => ⟨hk.1.1, ⟨hk.1.2.1, hk.1.2.2⟩⟩)⟩, ⟨by (exact HQ115.out)⟩, ⟨xs HB⟩⟩
       replace H := xH H; obtain ⟨t176, A116, H⟩ := H
       replace H := xH H; obtain ⟨t179, A117, H⟩ := H
       simp only [Option.some.injEq, Prod.mk.injEq] at H
       obtain ⟨rfl, rfl⟩ := H
       obtain ⟨Ao118, co118, eo118⟩ := Kd.R_slice HO_10.out
       subst eo118
       go_wp2_with (first | (refine xg Tryd.func88 (some 270) #[.slice Ao118 x10_2.length co118] ?_; (with_reducible refine (ir_strip.calls k3 (fun k_ => some k_ = (.slice Ao118 x10_2.length co118 : Value).ownBlock) _ _ x10_2 t176 _ ?side1 A116.out).mono ?_); (case side1 => exact Kd.R_V (Kd.R_tight rfl (HO_10.out))); rintro e w119 ⟨v177, rfl, ho0, hb⟩; refine ⟨_, rfl, ?_⟩; have HO178 := xVm w (fun k_ => (w.heap.size ≤ k_) ∧ some k_ ≠ (v139 : Value).ownBlock ∧ some k_ ≠ (v171 : Value).ownBlock) ho0 (fun k_ hk_ => ⟨Or.elim hk_ (fun hs_ => ((HO_10.out).1 k_ hs_.symm).1) (fun hn_ => (Nat.le_trans (below_size (xs HB)) hn_)), Or.elim hk_ (fun hs_ => ((HO_10.out).1 k_ hs_.symm).2.1) (fun hn_ => (Kd.fresh' (Kd.R_lt (xr HO_8.out)) k_ hn_)), Or.elim hk_ (fun hs_ => ((HO_10.out).1 k_ hs_.symm).2.2) (fun hn_ => (Kd.fresh' (Kd.R_lt (xr HO_24.out)) k_ hn_))⟩); replace HO_8 := xRb HO_8 hb; replace HO_10 := xRb HO_10 hb; replace HO_24 := xRb HO_24 hb; replace HB := xS HB hb; clear hb ho0; obtain ⟨Ao120, co120, eo120⟩ := Kd.R_slice HO_24.out; subst eo120) | (refine xg Tryd.func88 (some 272) #[.slice Ao120 x24_3.length co120] ?_; (with_reducible refine (ir_strip.calls k3 (fun k_ => some k_ = (.slice Ao120 x24_3.length co120 : Value).ownBlock) _ _ x24_3 t179 _ ?side1 A117.out).mono ?_); (case side1 => exact Kd.R_V (Kd.R_tight rfl (HO_24.out))); rintro e w121 ⟨v180, rfl, ho0, hb⟩; refine ⟨_, rfl, ?_⟩; replace HO178 := xVb HO178 hb; have HO181 := xVm w (fun k_ => (w.heap.size ≤ k_) ∧ some k_ ≠ (v139 : Value).ownBlock ∧ some k_ ≠ (.slice Ao118 x10_2.length co118 : Value).ownBlock) ho0 (fun k_ hk_ => ⟨Or.elim hk_ (fun hs_ => ((HO_24.out).1 k_ hs_.symm).1) (fun hn_ => (Nat.le_trans (below_size (xs HB)) hn_)), Or.elim hk_ (fun hs_ => ((HO_24.out).1 k_ hs_.symm).2.1) (fun hn_ => (Kd.fresh' (Kd.R_lt (xr HO_8.out)) k_ hn_)), Or.elim hk_ (fun hs_ => ((HO_24.out).1 k_ hs_.symm).2.2) (fun hn_ => (Kd.fresh' (Kd.R_lt (xr HO_10.out)) k_ hn_))⟩); replace HO_8 := xRb HO_8 hb; replace HO_10 := xRb HO_10 hb; replace HO_24 := xRb HO_24 hb; replace HB := xS HB hb; clear hb ho0))
       go_ret2
       exact ⟨_, _, by rfl, by exact Kd.V_mono HO178.out (fun _ hk => hk.1), by exact Kd.V_mono HO181.out (fun _ hk => hk.1), xs HB⟩
/-! ### ir_divide: function 91 -/
def ir_divide.f (k : Nat) (l0 : List Int) (l1 : List Int) : Option (List Int × List Int) := (ir_order.f k l0 l1).bind fun t182 => (if t182 < 0 then (some (([] : List Int), l0)) else (if (l1.length : Int) = 1 then (if 0 < (l1.length : Int) then ((ir_short.f k l0 (rd l1 0)).bind fun bt184 => ((ir_strip.f k ([bt184.2] : List Int)).bind fun t191 => (some (bt184.1, t191)))) else (none)) else ((ir_long.f k l0 l1).bind fun bt194 => (some (bt194.1, bt194.2)))))
theorem ir_divide.mono : ∀ a0 a1 k, LeO (ir_divide.f k a0 a1) (ir_divide.f (k + 1) a0 a1) := by
 intro a0 a1 k
 unfold ir_divide.f
 have m0 := @ir_long.mono; have m1 := @ir_order.mono; have m2 := @ir_short.mono; have m3 := @ir_strip.mono; exact xM
theorem ir_divide.calls (k : Nat) (P0_ : Nat → Prop) (A0 : Option Addr) (c0 : Nat) (l0 : List Int) (A1 : Option Addr) (c1 : Nat) (l1 : List Int) (r1 : List Int) (r2 : List Int) (w : World) (hs0 : Kd.V (Kd.int .u32) 85 w w.heap.size (fun k_ => P0_ k_) (.slice A0 l0.length c0) l0) (hr1 : Kd.C (Kd.int .u32) w A1 l1.length l1) (hc1 : l1.length ≤ c1) (h : ir_divide.f k l0 l1 = some (r1, r2)) :
  Calls Tryd.prog 91 #[.slice A0 l0.length c0, .slice A1 l1.length c1] w fun e w' => ∃ v0_ v1_ : Value, e = .returned (.tuple #[v0_, v1_]) ∧ Kd.V (Kd.int .u32) 85 w' w.heap.size (fun k_ => (P0_ k_ ∨ w.heap.size ≤ k_)) v0_ r1 ∧ Kd.V (Kd.int .u32) 85 w' w.heap.size (fun k_ => (P0_ k_ ∨ w.heap.size ≤ k_)) v1_ r2 ∧ Below w.heap.size w w' := by
 have HO0 := Aside0.mk (show Kd.V (Kd.int .u32) 85 w w.heap.size (fun k_ => (P0_ k_ ∨ w.heap.size ≤ k_)) (.slice A0 l0.length c0) l0 from Kd.V_mono hs0 (fun k_ hk => .inl hk))
 have HR1 := Aside0.mk hr1
 have HC1 := Aside0.mk hc1
 clear hr1 hc1
 have HB := Aside0.mk (Below.refl w.heap.size w)
 have H := h; clear h
 unfold ir_divide.f at H
 replace H := xH H; obtain ⟨t182, A3, H⟩ := H
 obtain ⟨c4b0, H⟩ | ⟨c4b0, H⟩ := xOd H
 ·simp only [Option.some.injEq, Prod.mk.injEq] at H
  obtain ⟨rfl, rfl⟩ := H
  go_enter Tryd.func91, Tryd.ntmps91
  go_wp2_with (refine xg Tryd.func70 (some 10) #[.slice A0 l0.length c0, .slice A1 l1.length c1] ?_; (with_reducible refine (ir_order.calls k _ _ l0 _ _ l1 t182 _ (xf (Kd.V_reads' HO0.out).2.2) (Kd.V_reads' HO0.out).2.1 (xf HR1.out) HC1.out A3.out).mono ?_); rintro e w' ⟨rfl, ⟨nd, rfl⟩⟩; refine ⟨_, rfl, ?_⟩)
  go_ret2
  exact ⟨_, _, xy, Kd.V_nil _ _ _ _ _, by (with_reducible repeat (apply Kd.V_drewN)); exact HO0.out, xs HB⟩
 obtain ⟨c5, H⟩ | ⟨c5, H⟩ := xO H
 ·have c5b0 := beq_iff_eq.mpr c5
  have c5b1 := bne_eq_false_iff_eq.mpr c5
  clear c5
  obtain ⟨c6, H⟩ := xQ H
  have c6b0 := decide_eq_true c6
  have c6b1 : decide (0 < l1.length) = true := decide_eq_true (by omega)
  clear c6
  replace H := xH H; obtain ⟨⟨t184, t187⟩, A7, H⟩ := H
  dsimp only at H
  generalize hy188 : (([t187] : List Int) : List Int) = y188 at H
  have Ny188 := Aside0.mk hy188.symm
  clear hy188
  replace H := xH H; obtain ⟨t191, A8, H⟩ := H
  simp only [Option.some.injEq, Prod.mk.injEq] at H
  obtain ⟨rfl, rfl⟩ := H
  go_enter Tryd.func91, Tryd.ntmps91
  go_wp2_with (first | (refine xg Tryd.func70 (some 10) #[.slice A0 l0.length c0, .slice A1 l1.length c1] ?_; (with_reducible refine (ir_order.calls k _ _ l0 _ _ l1 t182 _ (xf (Kd.V_reads' HO0.out).2.2) (Kd.V_reads' HO0.out).2.1 (xf HR1.out) HC1.out A3.out).mono ?_); rintro e w' ⟨rfl, ⟨nd, rfl⟩⟩; refine ⟨_, rfl, ?_⟩; have p183 : 0 ≤ (0 : Int) := (by omega); have q183 : 0 < (l1.length : Int) := xa; obtain ⟨ad183, e183, hx183_0⟩ := Kd.at_int HR1.out 0 p183 q183; cases e183; have qi183 : (0 < l1.length) = True := eq_true (by omega); (try rw [show (0 : Int).toNat = 0 from rfl] at hx183_0); (try rw [Addr.add_zero'] at hx183_0); replace p183 := eq_true p183; replace q183 := eq_true q183) | (refine xg Tryd.func101 (some 21) #[.slice A0 l0.length c0, .int .u32 (rd l1 0)] ?_; (with_reducible refine (ir_short.calls k _ _ l0 (rd l1 0) t184 t187 _ (xf (Kd.V_reads' HO0.out).2.2) (Kd.V_reads' HO0.out).2.1 A7.out).mono ?_); rintro e w9 ⟨v185, rfl, ho0, hb⟩; refine ⟨_, rfl, ?_⟩; replace HO0 := xVb HO0 hb; have HO186 := xVm w (fun k_ => (P0_ k_ ∨ w.heap.size ≤ k_)) ho0 (fun k_ hk_ => (.inr (Nat.le_trans (below_size (xs HB)) hk_))); replace HB := xS HB hb; clear hb ho0) | ((with_reducible refine gate_dst (N := 26) rfl ?_); refine Kd.R_lit (Kd.int .u32) _ 85 ?hg (N := 26) ?hd (xs := ([t187] : List Int)) (inner := [.int .u32 t187]) (ok := fun _ => True) (okp := fun _ => True) ?hr ?hp (fun _ hk => hk) trivial (Below.refl _ _) (Nat.le_refl _) (by simp) ?_; (case hd => rfl); (case hg => rfl); (case hr => (go_simp; done)); (case hp => exact (Reps.one (show Kd.M (Kd.int .u32) _ _ _ t187 [.int .u32 t187] from rfl) (Reps.none _ _))); intro v189 w10 ho11 hb hg_ hnew_; clear hg_ hnew_; (rw [← Ny188.out] at ho11); replace HO0 := Aside0.mk (Kd.V_elder' (xv HO0.out) (Kd.R_base ho11) hb); replace HO186 := Aside0.mk (Kd.V_elder' (xv HO186.out) (Kd.R_base ho11) hb); have HO190 := Aside0.mk (Kd.R_lower (Kd.R_newM (M := fun k_ => (w.heap.size ≤ k_)) ho11 (below_size (xs HB)) (fun k_ h_ => h_)) (below_size (xs HB))); replace HB := xS HB hb; clear hb ho11; obtain ⟨Ao12, co12, eo12⟩ := Kd.R_slice HO190.out; subst eo12) | (refine xg Tryd.func88 (some 27) #[.slice Ao12 y188.length co12] ?_; (with_reducible refine (ir_strip.calls k (fun k_ => some k_ = (.slice Ao12 y188.length co12 : Value).ownBlock) _ _ y188 t191 _ ?side1 A8.out).mono ?_); (case side1 => exact Kd.R_V (Kd.R_tight rfl (HO190.out))); rintro e w13 ⟨v192, rfl, ho0, hb⟩; refine ⟨_, rfl, ?_⟩; replace HO0 := xVb HO0 hb; replace HO186 := xVb HO186 hb; have HO193 := xVm w (fun k_ => (P0_ k_ ∨ w.heap.size ≤ k_)) ho0 (fun k_ hk_ => Or.elim hk_ (fun hs_ => (.inr (((HO190.out).1 k_ hs_.symm).1))) (fun hn_ => (.inr (Nat.le_trans (below_size (xs HB)) hn_)))); replace HO190 := xRb HO190 hb; replace HB := xS HB hb; clear hb ho0))
  go_ret2
  exact ⟨_, _, xy, by exact Kd.V_mono HO186.out (fun _ hk => hk.1), HO193.out, xs HB⟩
 have c5b0 := beq_eq_false_iff_ne.mpr c5
 have c5b1 := bne_iff_ne.mpr c5
 replace H := xH H; obtain ⟨⟨t194, t197⟩, A14, H⟩ := H
 dsimp only at H
 simp only [Option.some.injEq, Prod.mk.injEq] at H
 obtain ⟨rfl, rfl⟩ := H
 go_enter Tryd.func91, Tryd.ntmps91
 go_wp2_with (first | (refine xg Tryd.func70 (some 10) #[.slice A0 l0.length c0, .slice A1 l1.length c1] ?_; (with_reducible refine (ir_order.calls k _ _ l0 _ _ l1 t182 _ (xf (Kd.V_reads' HO0.out).2.2) (Kd.V_reads' HO0.out).2.1 (xf HR1.out) HC1.out A3.out).mono ?_); rintro e w' ⟨rfl, ⟨nd, rfl⟩⟩; refine ⟨_, rfl, ?_⟩) | (refine xg Tryd.func102 (some 30) #[.slice A0 l0.length c0, .slice A1 l1.length c1] ?_; (with_reducible refine (ir_long.calls k _ _ l0 _ _ l1 t194 t197 _ (xf (Kd.V_reads' HO0.out).2.2) (Kd.V_reads' HO0.out).2.1 (xf HR1.out) HC1.out A14.out).mono ?_); rintro e w15 ⟨v195, v198, rfl, ho0, ho1, hb⟩; refine ⟨_, rfl, ?_⟩; replace HO0 := xVb HO0 hb; have HO196 := xVm w (fun k_ => (P0_ k_ ∨ w.heap.size ≤ k_)) ho0 (fun k_ hk_ => (.inr (Nat.le_trans (below_size (xs HB)) hk_))); have HO199 := xVm w (fun k_ => (P0_ k_ ∨ w.heap.size ≤ k_)) ho1 (fun k_ hk_ => (.inr (Nat.le_trans (below_size (xs HB)) hk_))); replace HB := xS HB hb; clear hb ho0 ho1))
 go_ret2
 exact ⟨_, _, xy, HO196.out, HO199.out, xs HB⟩
/-! ### ir_common: function 90 -/
def ir_common.l0 : Nat → List Int → List Int → Option (List Int)
 | 0, _, _ => none
 | k + 1, x0, x1 => if (x1.length : Int) > 0 then ((ir_divide.f k x0 x1).bind fun bt200 => (ir_common.l0 k x1 bt200.2)) else (some x0)
def ir_common.f (k : Nat) (l0 : List Int) (l1 : List Int) : Option (List Int) := ir_common.l0 k l0 l1
theorem ir_common.mono_l : ∀ k, (∀ y0 y1, LeO (ir_common.l0 k y0 y1) (ir_common.l0 (k + 1) y0 y1))
 | 0 => fun _ _ r h => by simp [ir_common.l0] at h
 | k + 1 => by
  have ih0 := ir_common.mono_l k
  ·intro y0 y1
   unfold ir_common.l0
   have m0 := @ih0; have m1 := @ir_divide.mono; exact xM
theorem ir_common.mono : ∀ a0 a1 k, LeO (ir_common.f k a0 a1) (ir_common.f (k + 1) a0 a1) := by
 intro a0 a1 k
 have ih0 := ir_common.mono_l k
 unfold ir_common.f
 have m0 := @ih0; have m1 := @ir_divide.mono; exact xM
theorem ir_common.calls (k : Nat) (P0_ : Nat → Prop) (A0 : Option Addr) (c0 : Nat) (l0 : List Int) (P1_ : Nat → Prop) (A1 : Option Addr) (c1 : Nat) (l1 : List Int) (r : List Int) (w : World) (hs0 : Kd.V (Kd.int .u32) 85 w w.heap.size (fun k_ => P0_ k_) (.slice A0 l0.length c0) l0) (hs1 : Kd.V (Kd.int .u32) 85 w w.heap.size (fun k_ => P1_ k_) (.slice A1 l1.length c1) l1) (h : ir_common.f k l0 l1 = some r) :
  Calls Tryd.prog 90 #[.slice A0 l0.length c0, .slice A1 l1.length c1] w fun e w' => ∃ v0_ : Value, e = .returned (v0_) ∧ Kd.V (Kd.int .u32) 85 w' w.heap.size (fun k_ => ((P0_ k_ ∨ P1_ k_) ∨ w.heap.size ≤ k_)) v0_ r ∧ Below w.heap.size w w' := by
 have HO0 := Aside0.mk (show Kd.V (Kd.int .u32) 85 w w.heap.size (fun k_ => ((P0_ k_ ∨ P1_ k_) ∨ w.heap.size ≤ k_)) (.slice A0 l0.length c0) l0 from Kd.V_mono hs0 (fun k_ hk => .inl (.inl hk)))
 have HO1 := Aside0.mk (show Kd.V (Kd.int .u32) 85 w w.heap.size (fun k_ => ((P0_ k_ ∨ P1_ k_) ∨ w.heap.size ≤ k_)) (.slice A1 l1.length c1) l1 from Kd.V_mono hs1 (fun k_ hk => .inl (.inr hk)))
 have HB := Aside0.mk (Below.refl w.heap.size w)
 have H := h; clear h
 unfold ir_common.f at H
 have H' := Aside0.mk H
 clear H
 go_enter Tryd.func90, Tryd.ntmps90
 go_wp2
 go_loopg [0, 1] k (fun kq v0 v1 w' => ∃ (x0_1 : List Int) (x1_1 : List Int), Aside0 (ir_common.l0 kq x0_1 x1_1 = some r) ∧ Aside0 (kq ≤ k) ∧ Aside0 (Kd.V (Kd.int .u32) 85 w' w.heap.size (fun k_ => ((P0_ k_ ∨ P1_ k_) ∨ w.heap.size ≤ k_)) v0 x0_1) ∧ Aside0 (Kd.V (Kd.int .u32) 85 w' w.heap.size (fun k_ => ((P0_ k_ ∨ P1_ k_) ∨ w.heap.size ≤ k_)) v1 x1_1) ∧ Aside0 (Below w.heap.size w w'))
 case atStart => exact ⟨(l0), (l1), H', ⟨Nat.le_refl _⟩, ⟨xv HO0.out⟩, ⟨xv HO1.out⟩, ⟨xs HB⟩⟩
 case round =>
  clear H'
  obtain ⟨x0_1, x1_1, HA, HK1, HO_0, HO_1, HB⟩ := hrel
  cases gk with
  | zero => exact absurd HA.out (by simp [ir_common.l0])
  | succ k1 =>
   have H := HA.out
   clear HA
   simp only [ir_common.l0] at H
   obtain ⟨c3, H⟩ | ⟨c3, H⟩ := xO H
   ·have c3b0 := decide_eq_true c3
    have c3b1 : decide (0 < x1_1.length) = true := decide_eq_true (by omega)
    clear c3
    replace H := xH H; obtain ⟨⟨t200, t203⟩, A4, H⟩ := H
    dsimp only at H
    have H' := Aside0.mk H
    clear H
    obtain ⟨Ao5, co5, eo5⟩ := Kd.V_slice HO_1.out
    subst eo5
    obtain ⟨Ao6, co6, eo6⟩ := Kd.V_slice HO_0.out
    subst eo6
    go_wp2_with (refine xg Tryd.func91 (some 13) #[.slice Ao6 x0_1.length co6, .slice Ao5 x1_1.length co5] ?_; (with_reducible refine (ir_divide.calls k1 (fun k_ => ((P0_ k_ ∨ P1_ k_) ∨ w.heap.size ≤ k_)) _ _ x0_1 _ _ x1_1 t200 t203 _ HO_0.out (xf (Kd.V_reads' HO_1.out).2.2) (Kd.V_reads' HO_1.out).2.1 A4.out).mono ?_); rintro e w7 ⟨v201, v204, rfl, ho0, ho1, hb⟩; refine ⟨_, rfl, ?_⟩; replace HO_0 := xVb HO_0 hb; replace HO_1 := xVb HO_1 hb; have HO202 := xVm w (fun k_ => ((P0_ k_ ∨ P1_ k_) ∨ w.heap.size ≤ k_)) ho0 (fun k_ hk_ => Or.elim hk_ (fun hs_ => hs_) (fun hn_ => (.inr (Nat.le_trans (below_size (xs HB)) hn_)))); have HO205 := xVm w (fun k_ => ((P0_ k_ ∨ P1_ k_) ∨ w.heap.size ≤ k_)) ho1 (fun k_ hk_ => Or.elim hk_ (fun hs_ => hs_) (fun hn_ => (.inr (Nat.le_trans (below_size (xs HB)) hn_)))); replace HB := xS HB hb; clear hb ho0 ho1)
    go_roundg k1
    case measure => have := HK1.out; omega
    case rel => exact ⟨(x1_1), (t203), H', ⟨by have := HK1.out; omega⟩, ⟨xv HO_1.out⟩, ⟨xv HO205.out⟩, ⟨xs HB⟩⟩
   have c3b0 := decide_eq_false c3
   have c3b1 : decide (0 < x1_1.length) = false := decide_eq_false (by omega)
   clear c3
   obtain rfl := Option.some.inj H
   obtain ⟨Ao8, co8, eo8⟩ := Kd.V_slice HO_1.out
   subst eo8
   go_wp2
   go_ret
   exact ⟨_, xy, HO_0.out, xs HB⟩
/-! ### ir_text: function 92 -/
def ir_text.l0 : Nat → List Int → List Int → Int → Option (ByteArray)
 | 0, _, _, _ => none
 | k + 1, x0, x3, x4 => if x4 ≥ 0 then (if 0 ≤ x4 then (if x4 < (x0.length : Int) then ((some (([((rd x0 x4) / 16777216) % 256, ((rd x0 x4) / 65536) % 256, ((rd x0 x4) / 256) % 256, (rd x0 x4) % 256] : List Int) : List Int)).bind fun y213 => (if x3.length + y213.length < 140737488355328 then (ir_text.l0 k x0 (x3 ++ y213) (wrap64 (x4 - 1))) else (none))) else (none)) else (none)) else ((ir_Normalize.f k (strOfNums x3)).bind fun t219 => (some t219))
def ir_text.f (k : Nat) (l0 : List Int) : Option (ByteArray) := (ir_strip.f k l0).bind fun t206 => (if 0 ≤ (wrap64 (4 * (t206.length : Int))) then (if (wrap64 (4 * (t206.length : Int)) : Int).toNat ≤ 281474976710656 then (ir_text.l0 k t206 (List.replicate 0 0) (wrap64 ((t206.length : Int) - 1))) else (none)) else (none))
theorem ir_text.mono_l : ∀ k, (∀ y0 y1 y2, LeO (ir_text.l0 k y0 y1 y2) (ir_text.l0 (k + 1) y0 y1 y2))
 | 0 => fun _ _ _ r h => by simp [ir_text.l0] at h
 | k + 1 => by
  have ih0 := ir_text.mono_l k
  ·intro y0 y1 y2
   unfold ir_text.l0
   have m0 := @ih0; have m1 := @ir_Normalize.mono; have m2 := @ir_strip.mono; exact xM
theorem ir_text.mono : ∀ a0 k, LeO (ir_text.f k a0) (ir_text.f (k + 1) a0) := by
 intro a0 k
 have ih0 := ir_text.mono_l k
 unfold ir_text.f
 have m0 := @ih0; have m1 := @ir_Normalize.mono; have m2 := @ir_strip.mono; exact xM
theorem ir_text.calls (k : Nat) (A0 : Option Addr) (c0 : Nat) (l0 : List Int) (r : ByteArray) (w : World) (hr0 : Kd.C (Kd.int .u32) w A0 l0.length l0) (hc0 : l0.length ≤ c0) (h : ir_text.f k l0 = some r) :
  Calls Tryd.prog 92 #[.slice A0 l0.length c0] w fun e w' => e = .returned (.string r) ∧ Below w.heap.size w w' := by
 have HR0 := Aside0.mk hr0
 have HC0 := Aside0.mk hc0
 clear hr0 hc0
 have HB := Aside0.mk (Below.refl w.heap.size w)
 have H := h; clear h
 unfold ir_text.f at H
 replace H := xH H; obtain ⟨t206, A2, H⟩ := H
 generalize hji3 : (wrap64 (4 * (t206.length : Int))) = ji3 at H
 have hji3w : (IntKind.i64.wrap (4 * (t206.length : Int))) = ji3 := (i64_w _).trans hji3
 obtain ⟨c4b0, c4b1, H⟩ := xQt H
 obtain ⟨c5b0, c5b1, H⟩ := xQt H
 generalize hy209 : (List.replicate 0 0 : List Int) = y209 at H
 have Ny209 := Aside0.mk hy209.symm
 clear hy209
 have H' := Aside0.mk H
 clear H
 go_enter Tryd.func92, Tryd.ntmps92
 go_wp2_with (first | (refine xg Tryd.func88 (some 7) #[.slice A0 l0.length c0] ?_; (with_reducible refine (ir_strip.calls k (fun k_ => k_ < w.heap.size) _ _ l0 t206 _ ?side1 A2.out).mono ?_); (case side1 => exact Kd.V_mk HC0.out (Kd.F_below (Kd.C_F (Kd.heap_int .u32) HR0.out) (xs HB))); rintro e w6 ⟨v207, rfl, ho0, hb⟩; refine ⟨_, rfl, ?_⟩; have HO208 := xVm w (fun k_ => True) ho0 (fun k_ hk_ => trivial); replace HB := xS HB hb; clear hb ho0; obtain ⟨Ao7, co7, eo7⟩ := Kd.V_slice HO208.out; subst eo7) | ((with_reducible refine gate_dst (N := 11) rfl ?_); refine Kd.R_make0 (Kd.int .u8) _ 5 rfl (N := 11) rfl 103 _ _ rfl ji3 rfl rfl Tryd.underlying103 (.int .u8 0) 1 info5 rfl (by decide) (by omega) 0 (ok := fun _ => True) (okp := fun _ => True) rfl (fun _ hk => hk) trivial (xa) (Nat.le_trans (Nat.mul_le_mul_right _ (xa : ji3.toNat ≤ 281474976710656)) (by omega)) (Below.refl _ _) (Nat.le_refl _) ?_; intro v210 w8 ho9 hb hg_ hnew_; clear hg_ hnew_; (rw [← Ny209.out] at ho9); replace HO208 := Aside0.mk (Kd.V_elder' (xv HO208.out) (Kd.R_base ho9) hb); have HO211 := Aside0.mk (Kd.R_lower ho9 (below_size (xs HB))); replace HB := xS HB hb; clear hb ho9))
 go_loopg [3, 4] k (fun kq v3 v4 w' => ∃ (x3_1 : List Int) (x4_1 : Int), v4 = .int .i64 x4_1 ∧ Aside0 (ir_text.l0 kq t206 x3_1 x4_1 = some r) ∧ Aside0 (kq ≤ k) ∧ Aside0 (Kd.V (Kd.int .u32) 85 w' w.heap.size (fun k_ => some k_ ≠ (v3 : Value).ownBlock) (.slice Ao7 t206.length co7) t206) ∧ Aside0 (Kd.R (Kd.int .u8) 5 w' w.heap.size (fun _ => True) v3 x3_1) ∧ Aside0 (Below w.heap.size w w'))
 case atStart => exact ⟨(y209), (wrap64 ((t206.length : Int) - 1)), xz, H', ⟨Nat.le_refl _⟩, ⟨by exact Kd.V_mono HO208.out (fun _ hk => hk.2)⟩, ⟨xr HO211.out⟩, ⟨xs HB⟩⟩
 case round =>
  clear H'
  clear c4b0 c4b1 c5b0 c5b1
  obtain ⟨x3_1, x4_1, rfl, HA, HK1, HO_0, HO_3, HB⟩ := hrel
  cases gk with
  | zero => exact absurd HA.out (by simp [ir_text.l0])
  | succ k1 =>
   have H := HA.out
   clear HA
   simp only [ir_text.l0] at H
   obtain ⟨c10b0, H⟩ | ⟨c10b0, H⟩ := xOd H
   ·obtain ⟨c11b0, H⟩ := xQd H
    obtain ⟨c12b0, H⟩ := xQd H
    obtain ⟨y213, Ny213, H⟩ := xYa H
    obtain ⟨c13, H⟩ := xQ H
    have LMc13 := Aside0.mk c13
    clear c13
    generalize hy216 : (x3_1 ++ y213 : List Int) = y216 at H
    have Ny216 := Aside0.mk hy216.symm
    clear hy216
    have H' := Aside0.mk H
    clear H
    obtain ⟨p212, q212, ad212, e212, hx212_0⟩ := xA (Kd.at_int (Kd.V_reads' HO_0.out).2.2 x4_1)
    cases e212
    go_wp2_with (first | ((with_reducible refine gate_dst (N := 35) rfl ?_); refine Kd.R_lit (Kd.int .u8) _ 5 ?hg (N := 35) ?hd (xs := ([((rd t206 x4_1) / 16777216) % 256, ((rd t206 x4_1) / 65536) % 256, ((rd t206 x4_1) / 256) % 256, (rd t206 x4_1) % 256] : List Int)) (inner := [.int .u8 (((rd t206 x4_1) / 16777216) % 256), .int .u8 (((rd t206 x4_1) / 65536) % 256), .int .u8 (((rd t206 x4_1) / 256) % 256), .int .u8 ((rd t206 x4_1) % 256)]) (ok := fun _ => True) (okp := fun _ => True) ?hr ?hp (fun _ hk => hk) trivial (Below.refl _ _) (Nat.le_refl _) (by simp) ?_; (case hd => rfl); (case hg => rfl); (case hr => (go_simp; done)); (case hp => exact (Reps.one (show Kd.M (Kd.int .u8) _ _ _ (((rd t206 x4_1) / 16777216) % 256) [.int .u8 (((rd t206 x4_1) / 16777216) % 256)] from rfl) (Reps.one (show Kd.M (Kd.int .u8) _ _ _ (((rd t206 x4_1) / 65536) % 256) [.int .u8 (((rd t206 x4_1) / 65536) % 256)] from rfl) (Reps.one (show Kd.M (Kd.int .u8) _ _ _ (((rd t206 x4_1) / 256) % 256) [.int .u8 (((rd t206 x4_1) / 256) % 256)] from rfl) (Reps.one (show Kd.M (Kd.int .u8) _ _ _ ((rd t206 x4_1) % 256) [.int .u8 ((rd t206 x4_1) % 256)] from rfl) (Reps.none _ _)))))); intro v214 w14 ho15 hb hg_ hnew_; clear hg_ hnew_; (rw [← Ny213.out] at ho15); replace HO_0 := Aside0.mk (Kd.V_elder' (xv HO_0.out) (Kd.R_base ho15) hb); have HO215 := Aside0.mk (Kd.R_lower (Kd.R_new' ho15 (Kd.R_lt (xr HO_3.out))) (below_size (xs HB))); replace HO_3 := Aside0.mk (Kd.R_elder' (xr HO_3.out) (Kd.R_base ho15) hb); replace HB := xS HB hb; clear hb ho15; obtain ⟨Ao17, co17, eo17⟩ := Kd.R_slice HO215.out; subst eo17) | ((with_reducible refine gate_builtin (b := .append) (xs := #[.tmp 23, .tmp 35]) rfl ?_); at_builtin; refine Kd.R_append_rows (Kd.int .u8) (w0 := w) w.heap.size rfl (.tmp 23) (.tmp 35) 103 5 (.int .u8 0) 1 rfl Tryd.underlying103 info5 rfl (by decide) (by omega) u3 x3_1 y213 _ _ _ (fun k_ => some k_ ≠ (.slice Ao17 y213.length co17 : Value).ownBlock) (fun _ => False) rfl rfl ?aO ?aR (fun _ _ h => h) (fun _ h => h.elim) ?aF ?aB ?aS ?aL ?_; (case aR => repeat (exact (Kd.R_reads' HO215.out).2.2)); (case aB => exact (xs HB)); (case aF => exact (fun k_ hk => Kd.fresh' (Kd.R_lt (xr HO215.out)) k_ hk)); (case aO => exact (by exact Kd.R_mono HO_3.out (fun _ hk => hk.2))); (case aS => exact (below_size (xs HB))); (case aL => have := LMc13.out; omega); intro v217 w16 ho hb hg hat; rw [← Ny216.out] at ho; replace HO_0 := Aside0.mk (Kd.V_afterv (ok := (fun k_ => some k_ ≠ (.slice Ao17 y213.length co17 : Value).ownBlock)) (by exact Kd.V_mono HO_0.out (fun _ hk => by exact ⟨hk.2, hk.1⟩)) hg hat); replace HO215 := Aside0.mk (Kd.R_after (ok := (fun _ => True)) (xr HO215.out) hg hat); replace HB := Aside0.mk (hb); have HO218 := Aside0.mk (ho); clear HO_3 ho hb hg hat))
    go_roundg k1
    case measure => have := HK1.out; omega
    case rel => exact ⟨(y216), (wrap64 (x4_1 - 1)), xz, H', ⟨by have := HK1.out; omega⟩, ⟨by exact Kd.V_mono HO_0.out (fun _ hk => hk.2)⟩, ⟨by exact Kd.R_mono HO218.out (fun _ hk => trivial)⟩, ⟨xs HB⟩⟩
   replace H := xH H; obtain ⟨t219, A18, H⟩ := H
   obtain rfl := Option.some.inj H
   have hcv19 := own_string (P := Tryd.prog) Tryd.underlying103 Tryd.underlying5 Tryd.underlying9 (Kd.own_of_R HO_3.out)
   go_wp2_with (refine xg Tryd.func89 (some 39) #[.string (strOfNums x3_1)] ?_; (with_reducible refine (ir_Normalize.calls k1 (strOfNums x3_1) t219 _ A18.out).mono ?_); rintro e w' ⟨rfl, ⟨nd, rfl⟩⟩; refine ⟨_, rfl, ?_⟩)
   go_ret
   exact ⟨by rfl, xs HB⟩
/-! ### ir_reduced: function 68 -/
def ir_reduced.f (k : Nat) (a0 : Bool) (l1 : List Int) (l2 : List Int) : Option (Bool × ByteArray × ByteArray) := if (l1.length : Int) = 0 then (some (false, (⟨#[]⟩ : ByteArray), (⟨#[]⟩ : ByteArray))) else ((ir_common.f k l1 l2).bind fun t221 => (if (t221.length : Int) > 1 then ((ir_divide.f k l1 t221).bind fun bt224 => ((ir_divide.f k l2 t221).bind fun bt230 => ((ir_text.f k bt224.1).bind fun t236 => (if (bt230.1.length : Int) > 1 then ((ir_text.f k bt230.1).bind fun t238 => (some (a0, t236, t238))) else (if 0 < (bt230.1.length : Int) then (if (rd bt230.1 0) > 1 then ((ir_text.f k bt230.1).bind fun t240 => (some (a0, t236, t240))) else (some (a0, t236, (⟨#[]⟩ : ByteArray)))) else (none)))))) else (if 0 < (t221.length : Int) then (if (rd t221 0) > 1 then ((ir_divide.f k l1 t221).bind fun bt242 => ((ir_divide.f k l2 t221).bind fun bt248 => ((ir_text.f k bt242.1).bind fun t254 => (if (bt248.1.length : Int) > 1 then ((ir_text.f k bt248.1).bind fun t256 => (some (a0, t254, t256))) else (if 0 < (bt248.1.length : Int) then (if (rd bt248.1 0) > 1 then ((ir_text.f k bt248.1).bind fun t258 => (some (a0, t254, t258))) else (some (a0, t254, (⟨#[]⟩ : ByteArray)))) else (none)))))) else ((ir_text.f k l1).bind fun t259 => (if (l2.length : Int) > 1 then ((ir_text.f k l2).bind fun t261 => (some (a0, t259, t261))) else (if 0 < (l2.length : Int) then (if (rd l2 0) > 1 then ((ir_text.f k l2).bind fun t263 => (some (a0, t259, t263))) else (some (a0, t259, (⟨#[]⟩ : ByteArray)))) else (none))))) else (none))))
theorem ir_reduced.mono : ∀ a0 a1 a2 k, LeO (ir_reduced.f k a0 a1 a2) (ir_reduced.f (k + 1) a0 a1 a2) := by
 intro a0 a1 a2 k
 unfold ir_reduced.f
 have m0 := @ir_common.mono; have m1 := @ir_divide.mono; have m2 := @ir_text.mono; exact xM
theorem ir_reduced.calls (k : Nat) (a0 : Bool) (A1 : Option Addr) (c1 : Nat) (l1 : List Int) (A2 : Option Addr) (c2 : Nat) (l2 : List Int) (r1 : Bool) (r2 : ByteArray) (r3 : ByteArray) (w : World) (hr1 : Kd.C (Kd.int .u32) w A1 l1.length l1) (hc1 : l1.length ≤ c1) (hr2 : Kd.C (Kd.int .u32) w A2 l2.length l2) (hc2 : l2.length ≤ c2) (h : ir_reduced.f k a0 l1 l2 = some (r1, r2, r3)) :
  Calls Tryd.prog 68 #[.bool a0, .slice A1 l1.length c1, .slice A2 l2.length c2] w fun e w' => e = .returned (.agg #[.bool r1, .string r2, .string r3]) ∧ Below w.heap.size w w' := by
 have hu25 := Tryd.underlying25
 have HR1 := Aside0.mk hr1
 have HC1 := Aside0.mk hc1
 clear hr1 hc1
 have HR2 := Aside0.mk hr2
 have HC2 := Aside0.mk hc2
 clear hr2 hc2
 have HB := Aside0.mk (Below.refl w.heap.size w)
 have H := h; clear h
 unfold ir_reduced.f at H
 obtain ⟨c4, H⟩ | ⟨c4, H⟩ := xO H
 ·have c4b0 := beq_iff_eq.mpr c4
  have c4b1 := bne_eq_false_iff_eq.mpr c4
  clear c4
  simp only [Option.some.injEq, Prod.mk.injEq] at H
  obtain ⟨rfl, rfl, rfl⟩ := H
  go_enter Tryd.func68, Tryd.ntmps68
  go_wp2_with (refine xF (N := 6) #[.bool false, .string (⟨#[]⟩ : ByteArray), .string (⟨#[]⟩ : ByteArray)] 25 HB ?_; clear HB; intro gb220 hg w5 hb BK220 GW220 HB; clear hb hg; obtain ⟨hcz6_0, hcz6_1, hcz6_2, hfz6_0, hfz6_1, hfz6_2⟩ := x6 BK220)
  refine bodyPost_ret (results_cell_row rfl _ _ gb220 25 #[.bool false, .string (⟨#[]⟩ : ByteArray), .string (⟨#[]⟩ : ByteArray)] (0, 0) _ rfl (xp BK220) Tryd.underlying25 rfl (by kernel_rfl)) rfl ?_
  exact ⟨xy, xs HB⟩
 have c4b0 := beq_eq_false_iff_ne.mpr c4
 have c4b1 := bne_iff_ne.mpr c4
 have c4b2 : ¬ (l1 = []) := fun h_ => c4 (by rw [h_]; rfl)
 replace H := xH H; obtain ⟨t221, A7, H⟩ := H
 obtain ⟨c8, H⟩ | ⟨c8, H⟩ := xO H
 ·have c8b0 := decide_eq_true c8
  have c8b1 : decide (1 < t221.length) = true := decide_eq_true (by omega)
  clear c8
  replace H := xH H; obtain ⟨⟨t224, t227⟩, A9, H⟩ := H
  dsimp only at H
  replace H := xH H; obtain ⟨⟨t230, t233⟩, A10, H⟩ := H
  dsimp only at H
  replace H := xH H; obtain ⟨t236, A11, H⟩ := H
  obtain ⟨c12, H⟩ | ⟨c12, H⟩ := xO H
  ·have c12b0 := decide_eq_true c12
   have c12b1 : decide (1 < t230.length) = true := decide_eq_true (by omega)
   clear c12
   replace H := xH H; obtain ⟨t238, A13, H⟩ := H
   simp only [Option.some.injEq, Prod.mk.injEq] at H
   obtain ⟨rfl, rfl, rfl⟩ := H
   go_enter Tryd.func68, Tryd.ntmps68
   go_wp2_with (first | (refine xF (N := 6) #[.bool false, .string (⟨#[]⟩ : ByteArray), .string (⟨#[]⟩ : ByteArray)] 25 HB ?_; clear HB; intro gb220 hg w14 hb BK220 GW220 HB; clear hb hg) | (refine xg Tryd.func90 (some 15) #[.slice A1 l1.length c1, .slice A2 l2.length c2] ?_; (with_reducible refine (ir_common.calls k (fun k_ => k_ < w.heap.size) _ _ l1 (fun k_ => k_ < w.heap.size) _ _ l2 t221 _ ?side1 ?side2 A7.out).mono ?_); (case side1 => exact Kd.V_mk HC1.out (Kd.F_below (Kd.C_F (Kd.heap_int .u32) HR1.out) (xs HB))); (case side2 => exact Kd.V_mk HC2.out (Kd.F_below (Kd.C_F (Kd.heap_int .u32) HR2.out) (xs HB))); rintro e w15 ⟨v222, rfl, ho0, hb⟩; refine ⟨_, rfl, ?_⟩; have HO223 := xVm w (fun k_ => k_ ≠ gb220) ho0 (fun k_ hk_ => Or.elim hk_ (fun hs_ => Or.elim hs_ (fun hs_ => fun e_ => Nat.not_le.2 hs_ (by rw [e_]; exact GW220.out)) (fun hs_ => fun e_ => Nat.not_le.2 hs_ (by rw [e_]; exact GW220.out))) (fun hn_ => (Kd.freshB (g := gb220) (o := .cells #[.bool false, .string (⟨#[]⟩ : ByteArray), .string (⟨#[]⟩ : ByteArray)] 25 (0, 0)) (xb BK220) k_ hn_))); replace BK220 := xB BK220 hb; replace HB := xS HB hb; clear hb ho0; obtain ⟨Ao16, co16, eo16⟩ := Kd.V_slice HO223.out; subst eo16) | (refine xg Tryd.func91 (some 28) #[.slice A1 l1.length c1, .slice Ao16 t221.length co16] ?_; (with_reducible refine (ir_divide.calls k (fun k_ => k_ < w.heap.size) _ _ l1 _ _ t221 t224 t227 _ ?side1 ?side2 ?side3 A9.out).mono ?_); (case side1 => exact Kd.V_mk HC1.out (Kd.F_below (Kd.C_F (Kd.heap_int .u32) HR1.out) (xs HB))); (case side2 => repeat (exact (Kd.V_reads' HO223.out).2.2)); (case side3 => exact (Kd.V_reads' HO223.out).2.1); rintro e w17 ⟨v225, v228, rfl, ho0, ho1, hb⟩; refine ⟨_, rfl, ?_⟩; replace HO223 := xVb HO223 hb; have HO226 := xVm w (fun k_ => k_ ≠ gb220) ho0 (fun k_ hk_ => Or.elim hk_ (fun hs_ => fun e_ => Nat.not_le.2 hs_ (by rw [e_]; exact GW220.out)) (fun hn_ => (Kd.freshB (g := gb220) (o := .cells #[.bool false, .string (⟨#[]⟩ : ByteArray), .string (⟨#[]⟩ : ByteArray)] 25 (0, 0)) (xb BK220) k_ hn_))); have HO229 := xVm w (fun k_ => k_ ≠ gb220) ho1 (fun k_ hk_ => Or.elim hk_ (fun hs_ => fun e_ => Nat.not_le.2 hs_ (by rw [e_]; exact GW220.out)) (fun hn_ => (Kd.freshB (g := gb220) (o := .cells #[.bool false, .string (⟨#[]⟩ : ByteArray), .string (⟨#[]⟩ : ByteArray)] 25 (0, 0)) (xb BK220) k_ hn_))); replace BK220 := xB BK220 hb; replace HB := xS HB hb; clear hb ho0 ho1) | (refine xg Tryd.func91 (some 34) #[.slice A2 l2.length c2, .slice Ao16 t221.length co16] ?_; (with_reducible refine (ir_divide.calls k (fun k_ => k_ < w.heap.size) _ _ l2 _ _ t221 t230 t233 _ ?side1 ?side2 ?side3 A10.out).mono ?_); (case side1 => exact Kd.V_mk HC2.out (Kd.F_below (Kd.C_F (Kd.heap_int .u32) HR2.out) (xs HB))); (case side2 => repeat (exact (Kd.V_reads' HO223.out).2.2)); (case side3 => exact (Kd.V_reads' HO223.out).2.1); rintro e w18 ⟨v231, v234, rfl, ho0, ho1, hb⟩; refine ⟨_, rfl, ?_⟩; replace HO223 := xVb HO223 hb; replace HO226 := xVb HO226 hb; replace HO229 := xVb HO229 hb; have HO232 := xVm w (fun k_ => k_ ≠ gb220) ho0 (fun k_ hk_ => Or.elim hk_ (fun hs_ => fun e_ => Nat.not_le.2 hs_ (by rw [e_]; exact GW220.out)) (fun hn_ => (Kd.freshB (g := gb220) (o := .cells #[.bool false, .string (⟨#[]⟩ : ByteArray), .string (⟨#[]⟩ : ByteArray)] 25 (0, 0)) (xb BK220) k_ hn_))); have HO235 := xVm w (fun k_ => k_ ≠ gb220) ho1 (fun k_ hk_ => Or.elim hk_ (fun hs_ => fun e_ => Nat.not_le.2 hs_ (by rw [e_]; exact GW220.out)) (fun hn_ => (Kd.freshB (g := gb220) (o := .cells #[.bool false, .string (⟨#[]⟩ : ByteArray), .string (⟨#[]⟩ : ByteArray)] 25 (0, 0)) (xb BK220) k_ hn_))); replace BK220 := xB BK220 hb; replace HB := xS HB hb; clear hb ho0 ho1; obtain ⟨Ao19, co19, eo19⟩ := Kd.V_slice HO226.out; subst eo19) | (refine xg Tryd.func92 (some 39) #[.slice Ao19 t224.length co19] ?_; (with_reducible refine (ir_text.calls k _ _ t224 t236 _ (xf (Kd.V_reads' HO226.out).2.2) (Kd.V_reads' HO226.out).2.1 A11.out).mono ?_); rintro e w20 ⟨rfl, hb⟩; refine ⟨_, rfl, ?_⟩; replace HO223 := xVb HO223 hb; replace HO226 := xVb HO226 hb; replace HO229 := xVb HO229 hb; replace HO232 := xVb HO232 hb; replace HO235 := xVb HO235 hb; replace BK220 := xB BK220 hb; replace HB := xS HB hb; clear hb) | (refine xF (N := 8) #[.bool false, .string (⟨#[]⟩ : ByteArray), .string (⟨#[]⟩ : ByteArray)] 25 HB ?_; clear HB; intro gb237 hg w21 hb BK237 GW237 HB; replace HO223 := xVe HO223 hg hb; replace HO226 := xVe HO226 hg hb; replace HO229 := xVe HO229 hg hb; replace HO232 := xVe HO232 hg hb; replace HO235 := xVe HO235 hg hb; have NB220_237 := xL BK220 hg; have NB237_220 := xR BK220 hg; replace BK220 := xB BK220 hb; clear hb hg; have hnb22 := NB237_220.out; have hnc22 := NB220_237.out; obtain ⟨hcz23_0, hcz23_1, hcz23_2, hfz23_0, hfz23_1, hfz23_2⟩ := x6 BK237; obtain ⟨Ao24, co24, eo24⟩ := Kd.V_slice HO232.out; subst eo24) | (refine xg Tryd.func92 (some 51) #[.slice Ao24 t230.length co24] ?_; (with_reducible refine (ir_text.calls k _ _ t230 t238 _ ?side1 ?side2 A13.out).mono ?_); (case side1 => refine (Kd.V_reads' (e := 85) (base := w.heap.size) (ok := fun k_ => (k_ ≠ gb220 ∧ k_ ≠ gb237)) (n := t230.length) (c := co24) ?_).2.2; exact (by exact (Kd.V_mono (Kd.V_far (p := ⟨gb237, 2, none⟩) (Kd.V_far (p := ⟨gb237, 1, none⟩) (Kd.V_far (p := ⟨gb237, 0, none⟩) (Kd.V_mono HO232.out (fun k_ hk => (⟨hk, hk.2⟩ : _ ∧ k_ ≠ gb237))) (fun _ hk => hk.2) (.bool a0)) (fun _ hk => hk.2) (.string t236)) (fun _ hk => hk.2) (.string (⟨#[]⟩ : ByteArray))) (fun _ h_ => h_.1)))); (case side2 => exact (Kd.V_reads' HO232.out).2.1); rintro e w25 ⟨rfl, hb⟩; refine ⟨_, rfl, ?_⟩; replace HO223 := Aside0.mk (Kd.V_below (by exact (Kd.V_mono (Kd.V_far (p := ⟨gb237, 2, none⟩) (Kd.V_far (p := ⟨gb237, 1, none⟩) (Kd.V_far (p := ⟨gb237, 0, none⟩) (Kd.V_mono HO223.out (fun k_ hk => (⟨hk, hk.2⟩ : _ ∧ k_ ≠ gb237))) (fun _ hk => hk.2) (.bool a0)) (fun _ hk => hk.2) (.string t236)) (fun _ hk => hk.2) (.string (⟨#[]⟩ : ByteArray))) (fun _ h_ => h_.1))) hb); replace HO226 := Aside0.mk (Kd.V_below (by exact (Kd.V_mono (Kd.V_far (p := ⟨gb237, 2, none⟩) (Kd.V_far (p := ⟨gb237, 1, none⟩) (Kd.V_far (p := ⟨gb237, 0, none⟩) (Kd.V_mono HO226.out (fun k_ hk => (⟨hk, hk.2⟩ : _ ∧ k_ ≠ gb237))) (fun _ hk => hk.2) (.bool a0)) (fun _ hk => hk.2) (.string t236)) (fun _ hk => hk.2) (.string (⟨#[]⟩ : ByteArray))) (fun _ h_ => h_.1))) hb); replace HO229 := Aside0.mk (Kd.V_below (by exact (Kd.V_mono (Kd.V_far (p := ⟨gb237, 2, none⟩) (Kd.V_far (p := ⟨gb237, 1, none⟩) (Kd.V_far (p := ⟨gb237, 0, none⟩) (Kd.V_mono HO229.out (fun k_ hk => (⟨hk, hk.2⟩ : _ ∧ k_ ≠ gb237))) (fun _ hk => hk.2) (.bool a0)) (fun _ hk => hk.2) (.string t236)) (fun _ hk => hk.2) (.string (⟨#[]⟩ : ByteArray))) (fun _ h_ => h_.1))) hb); replace HO232 := Aside0.mk (Kd.V_below (by exact (Kd.V_mono (Kd.V_far (p := ⟨gb237, 2, none⟩) (Kd.V_far (p := ⟨gb237, 1, none⟩) (Kd.V_far (p := ⟨gb237, 0, none⟩) (Kd.V_mono HO232.out (fun k_ hk => (⟨hk, hk.2⟩ : _ ∧ k_ ≠ gb237))) (fun _ hk => hk.2) (.bool a0)) (fun _ hk => hk.2) (.string t236)) (fun _ hk => hk.2) (.string (⟨#[]⟩ : ByteArray))) (fun _ h_ => h_.1))) hb); replace HO235 := Aside0.mk (Kd.V_below (by exact (Kd.V_mono (Kd.V_far (p := ⟨gb237, 2, none⟩) (Kd.V_far (p := ⟨gb237, 1, none⟩) (Kd.V_far (p := ⟨gb237, 0, none⟩) (Kd.V_mono HO235.out (fun k_ hk => (⟨hk, hk.2⟩ : _ ∧ k_ ≠ gb237))) (fun _ hk => hk.2) (.bool a0)) (fun _ hk => hk.2) (.string t236)) (fun _ hk => hk.2) (.string (⟨#[]⟩ : ByteArray))) (fun _ h_ => h_.1))) hb); replace BK220 := xB BK220 hb; replace BK237 := Aside0.mk (blk_below (g := gb237) (o := .cells #[.bool a0, .string t236, .string (⟨#[]⟩ : ByteArray)] 25 (0, 0)) (xp BK237) hb); replace HB := xS HB hb; clear hb; obtain ⟨hcz26_0, hcz26_1, hcz26_2, hfz26_0, hfz26_1, hfz26_2⟩ := x6 BK237; obtain ⟨hcz27_0, hcz27_1, hcz27_2, hfz27_0, hfz27_1, hfz27_2⟩ := x6 BK220))
   refine bodyPost_ret (results_cell_row rfl _ _ gb220 25 #[.bool a0, .string t236, .string t238] (0, 0) _ rfl (xp BK220) Tryd.underlying25 rfl (by kernel_rfl)) rfl ?_
   exact ⟨xy, xs HB⟩
  have c12b0 := decide_eq_false c12
  have c12b1 : decide (1 < t230.length) = false := decide_eq_false (by omega)
  clear c12
  obtain ⟨c28, H⟩ := xQ H
  have c28b0 := decide_eq_true c28
  have c28b1 : decide (0 < t230.length) = true := decide_eq_true (by omega)
  clear c28
  obtain ⟨c29b0, H⟩ | ⟨c29b0, H⟩ := xOd H
  ·replace H := xH H; obtain ⟨t240, A30, H⟩ := H
   simp only [Option.some.injEq, Prod.mk.injEq] at H
   obtain ⟨rfl, rfl, rfl⟩ := H
   go_enter Tryd.func68, Tryd.ntmps68
   go_wp2_with (first | (refine xF (N := 6) #[.bool false, .string (⟨#[]⟩ : ByteArray), .string (⟨#[]⟩ : ByteArray)] 25 HB ?_; clear HB; intro gb220 hg w31 hb BK220 GW220 HB; clear hb hg) | (refine xg Tryd.func90 (some 15) #[.slice A1 l1.length c1, .slice A2 l2.length c2] ?_; (with_reducible refine (ir_common.calls k (fun k_ => k_ < w.heap.size) _ _ l1 (fun k_ => k_ < w.heap.size) _ _ l2 t221 _ ?side1 ?side2 A7.out).mono ?_); (case side1 => exact Kd.V_mk HC1.out (Kd.F_below (Kd.C_F (Kd.heap_int .u32) HR1.out) (xs HB))); (case side2 => exact Kd.V_mk HC2.out (Kd.F_below (Kd.C_F (Kd.heap_int .u32) HR2.out) (xs HB))); rintro e w32 ⟨v222, rfl, ho0, hb⟩; refine ⟨_, rfl, ?_⟩; have HO223 := xVm w (fun k_ => k_ ≠ gb220) ho0 (fun k_ hk_ => Or.elim hk_ (fun hs_ => Or.elim hs_ (fun hs_ => fun e_ => Nat.not_le.2 hs_ (by rw [e_]; exact GW220.out)) (fun hs_ => fun e_ => Nat.not_le.2 hs_ (by rw [e_]; exact GW220.out))) (fun hn_ => (Kd.freshB (g := gb220) (o := .cells #[.bool false, .string (⟨#[]⟩ : ByteArray), .string (⟨#[]⟩ : ByteArray)] 25 (0, 0)) (xb BK220) k_ hn_))); replace BK220 := xB BK220 hb; replace HB := xS HB hb; clear hb ho0; obtain ⟨Ao33, co33, eo33⟩ := Kd.V_slice HO223.out; subst eo33) | (refine xg Tryd.func91 (some 28) #[.slice A1 l1.length c1, .slice Ao33 t221.length co33] ?_; (with_reducible refine (ir_divide.calls k (fun k_ => k_ < w.heap.size) _ _ l1 _ _ t221 t224 t227 _ ?side1 ?side2 ?side3 A9.out).mono ?_); (case side1 => exact Kd.V_mk HC1.out (Kd.F_below (Kd.C_F (Kd.heap_int .u32) HR1.out) (xs HB))); (case side2 => repeat (exact (Kd.V_reads' HO223.out).2.2)); (case side3 => exact (Kd.V_reads' HO223.out).2.1); rintro e w34 ⟨v225, v228, rfl, ho0, ho1, hb⟩; refine ⟨_, rfl, ?_⟩; replace HO223 := xVb HO223 hb; have HO226 := xVm w (fun k_ => k_ ≠ gb220) ho0 (fun k_ hk_ => Or.elim hk_ (fun hs_ => fun e_ => Nat.not_le.2 hs_ (by rw [e_]; exact GW220.out)) (fun hn_ => (Kd.freshB (g := gb220) (o := .cells #[.bool false, .string (⟨#[]⟩ : ByteArray), .string (⟨#[]⟩ : ByteArray)] 25 (0, 0)) (xb BK220) k_ hn_))); have HO229 := xVm w (fun k_ => k_ ≠ gb220) ho1 (fun k_ hk_ => Or.elim hk_ (fun hs_ => fun e_ => Nat.not_le.2 hs_ (by rw [e_]; exact GW220.out)) (fun hn_ => (Kd.freshB (g := gb220) (o := .cells #[.bool false, .string (⟨#[]⟩ : ByteArray), .string (⟨#[]⟩ : ByteArray)] 25 (0, 0)) (xb BK220) k_ hn_))); replace BK220 := xB BK220 hb; replace HB := xS HB hb; clear hb ho0 ho1) | (refine xg Tryd.func91 (some 34) #[.slice A2 l2.length c2, .slice Ao33 t221.length co33] ?_; (with_reducible refine (ir_divide.calls k (fun k_ => k_ < w.heap.size) _ _ l2 _ _ t221 t230 t233 _ ?side1 ?side2 ?side3 A10.out).mono ?_); (case side1 => exact Kd.V_mk HC2.out (Kd.F_below (Kd.C_F (Kd.heap_int .u32) HR2.out) (xs HB))); (case side2 => repeat (exact (Kd.V_reads' HO223.out).2.2)); (case side3 => exact (Kd.V_reads' HO223.out).2.1); rintro e w35 ⟨v231, v234, rfl, ho0, ho1, hb⟩; refine ⟨_, rfl, ?_⟩; replace HO223 := xVb HO223 hb; replace HO226 := xVb HO226 hb; replace HO229 := xVb HO229 hb; have HO232 := xVm w (fun k_ => k_ ≠ gb220) ho0 (fun k_ hk_ => Or.elim hk_ (fun hs_ => fun e_ => Nat.not_le.2 hs_ (by rw [e_]; exact GW220.out)) (fun hn_ => (Kd.freshB (g := gb220) (o := .cells #[.bool false, .string (⟨#[]⟩ : ByteArray), .string (⟨#[]⟩ : ByteArray)] 25 (0, 0)) (xb BK220) k_ hn_))); have HO235 := xVm w (fun k_ => k_ ≠ gb220) ho1 (fun k_ hk_ => Or.elim hk_ (fun hs_ => fun e_ => Nat.not_le.2 hs_ (by rw [e_]; exact GW220.out)) (fun hn_ => (Kd.freshB (g := gb220) (o := .cells #[.bool false, .string (⟨#[]⟩ : ByteArray), .string (⟨#[]⟩ : ByteArray)] 25 (0, 0)) (xb BK220) k_ hn_))); replace BK220 := xB BK220 hb; replace HB := xS HB hb; clear hb ho0 ho1; obtain ⟨Ao36, co36, eo36⟩ := Kd.V_slice HO226.out; subst eo36) | (refine xg Tryd.func92 (some 39) #[.slice Ao36 t224.length co36] ?_; (with_reducible refine (ir_text.calls k _ _ t224 t236 _ (xf (Kd.V_reads' HO226.out).2.2) (Kd.V_reads' HO226.out).2.1 A11.out).mono ?_); rintro e w37 ⟨rfl, hb⟩; refine ⟨_, rfl, ?_⟩; replace HO223 := xVb HO223 hb; replace HO226 := xVb HO226 hb; replace HO229 := xVb HO229 hb; replace HO232 := xVb HO232 hb; replace HO235 := xVb HO235 hb; replace BK220 := xB BK220 hb; replace HB := xS HB hb; clear hb) | (refine xF (N := 8) #[.bool false, .string (⟨#[]⟩ : ByteArray), .string (⟨#[]⟩ : ByteArray)] 25 HB ?_; clear HB; intro gb237 hg w38 hb BK237 GW237 HB; replace HO223 := xVe HO223 hg hb; replace HO226 := xVe HO226 hg hb; replace HO229 := xVe HO229 hg hb; replace HO232 := xVe HO232 hg hb; replace HO235 := xVe HO235 hg hb; have NB220_237 := xL BK220 hg; have NB237_220 := xR BK220 hg; replace BK220 := xB BK220 hb; clear hb hg; have hnb39 := NB237_220.out; have hnc39 := NB220_237.out; obtain ⟨hcz40_0, hcz40_1, hcz40_2, hfz40_0, hfz40_1, hfz40_2⟩ := x6 BK237; obtain ⟨Ao41, co41, eo41⟩ := Kd.V_slice HO232.out; subst eo41; have p239 : 0 ≤ (0 : Int) := (by omega); have q239 : 0 < (t230.length : Int) := xa; obtain ⟨ad239, e239, hx239_0⟩ := Kd.at_int (Kd.V_reads' HO232.out).2.2 0 p239 q239; cases e239; have qi239 : (0 < t230.length) = True := eq_true (by omega); (try rw [show (0 : Int).toNat = 0 from rfl] at hx239_0); (try rw [Addr.add_zero'] at hx239_0); have hn239_0 : ad239.block ≠ gb237 := Kd.V_blk HO232.out p239 q239 (fun _ hk => by exact hk.2); have hn239_1 : ad239.block ≠ gb237 := Kd.V_blk HO232.out p239 q239 (fun _ hk => by exact hk.2); have hn239_2 : ad239.block ≠ gb237 := Kd.V_blk HO232.out p239 q239 (fun _ hk => by exact hk.2); replace hx239_0 := (cell_far (p := ⟨gb237, 0, none⟩) (by exact hn239_0) (.bool a0)).trans hx239_0; replace hx239_0 := (cell_far (p := ⟨gb237, 1, none⟩) (by exact hn239_1) (.string t236)).trans hx239_0; replace hx239_0 := (cell_far (p := ⟨gb237, 2, none⟩) (by exact hn239_2) (.string (⟨#[]⟩ : ByteArray))).trans hx239_0; clear hn239_0 hn239_1 hn239_2; replace p239 := eq_true p239; replace q239 := eq_true q239) | (refine xg Tryd.func92 (some 51) #[.slice (some ad239) t230.length co41] ?_; (with_reducible refine (ir_text.calls k _ _ t230 t240 _ ?side1 ?side2 A30.out).mono ?_); (case side1 => refine (Kd.V_reads' (e := 85) (base := w.heap.size) (ok := fun k_ => (k_ ≠ gb220 ∧ k_ ≠ gb237)) (n := t230.length) (c := co41) ?_).2.2; exact (by exact (Kd.V_mono (Kd.V_far (p := ⟨gb237, 2, none⟩) (Kd.V_far (p := ⟨gb237, 1, none⟩) (Kd.V_far (p := ⟨gb237, 0, none⟩) (Kd.V_mono HO232.out (fun k_ hk => (⟨hk, hk.2⟩ : _ ∧ k_ ≠ gb237))) (fun _ hk => hk.2) (.bool a0)) (fun _ hk => hk.2) (.string t236)) (fun _ hk => hk.2) (.string (⟨#[]⟩ : ByteArray))) (fun _ h_ => h_.1)))); (case side2 => exact (Kd.V_reads' HO232.out).2.1); rintro e w42 ⟨rfl, hb⟩; refine ⟨_, rfl, ?_⟩; replace HO223 := Aside0.mk (Kd.V_below (by exact (Kd.V_mono (Kd.V_far (p := ⟨gb237, 2, none⟩) (Kd.V_far (p := ⟨gb237, 1, none⟩) (Kd.V_far (p := ⟨gb237, 0, none⟩) (Kd.V_mono HO223.out (fun k_ hk => (⟨hk, hk.2⟩ : _ ∧ k_ ≠ gb237))) (fun _ hk => hk.2) (.bool a0)) (fun _ hk => hk.2) (.string t236)) (fun _ hk => hk.2) (.string (⟨#[]⟩ : ByteArray))) (fun _ h_ => h_.1))) hb); replace HO226 := Aside0.mk (Kd.V_below (by exact (Kd.V_mono (Kd.V_far (p := ⟨gb237, 2, none⟩) (Kd.V_far (p := ⟨gb237, 1, none⟩) (Kd.V_far (p := ⟨gb237, 0, none⟩) (Kd.V_mono HO226.out (fun k_ hk => (⟨hk, hk.2⟩ : _ ∧ k_ ≠ gb237))) (fun _ hk => hk.2) (.bool a0)) (fun _ hk => hk.2) (.string t236)) (fun _ hk => hk.2) (.string (⟨#[]⟩ : ByteArray))) (fun _ h_ => h_.1))) hb); replace HO229 := Aside0.mk (Kd.V_below (by exact (Kd.V_mono (Kd.V_far (p := ⟨gb237, 2, none⟩) (Kd.V_far (p := ⟨gb237, 1, none⟩) (Kd.V_far (p := ⟨gb237, 0, none⟩) (Kd.V_mono HO229.out (fun k_ hk => (⟨hk, hk.2⟩ : _ ∧ k_ ≠ gb237))) (fun _ hk => hk.2) (.bool a0)) (fun _ hk => hk.2) (.string t236)) (fun _ hk => hk.2) (.string (⟨#[]⟩ : ByteArray))) (fun _ h_ => h_.1))) hb); replace HO232 := Aside0.mk (Kd.V_below (by exact (Kd.V_mono (Kd.V_far (p := ⟨gb237, 2, none⟩) (Kd.V_far (p := ⟨gb237, 1, none⟩) (Kd.V_far (p := ⟨gb237, 0, none⟩) (Kd.V_mono HO232.out (fun k_ hk => (⟨hk, hk.2⟩ : _ ∧ k_ ≠ gb237))) (fun _ hk => hk.2) (.bool a0)) (fun _ hk => hk.2) (.string t236)) (fun _ hk => hk.2) (.string (⟨#[]⟩ : ByteArray))) (fun _ h_ => h_.1))) hb); replace HO235 := Aside0.mk (Kd.V_below (by exact (Kd.V_mono (Kd.V_far (p := ⟨gb237, 2, none⟩) (Kd.V_far (p := ⟨gb237, 1, none⟩) (Kd.V_far (p := ⟨gb237, 0, none⟩) (Kd.V_mono HO235.out (fun k_ hk => (⟨hk, hk.2⟩ : _ ∧ k_ ≠ gb237))) (fun _ hk => hk.2) (.bool a0)) (fun _ hk => hk.2) (.string t236)) (fun _ hk => hk.2) (.string (⟨#[]⟩ : ByteArray))) (fun _ h_ => h_.1))) hb); replace BK220 := xB BK220 hb; replace BK237 := Aside0.mk (blk_below (g := gb237) (o := .cells #[.bool a0, .string t236, .string (⟨#[]⟩ : ByteArray)] 25 (0, 0)) (xp BK237) hb); replace HB := xS HB hb; clear hb; obtain ⟨hcz43_0, hcz43_1, hcz43_2, hfz43_0, hfz43_1, hfz43_2⟩ := x6 BK237; obtain ⟨hcz44_0, hcz44_1, hcz44_2, hfz44_0, hfz44_1, hfz44_2⟩ := x6 BK220))
   refine bodyPost_ret (results_cell_row rfl _ _ gb220 25 #[.bool a0, .string t236, .string t240] (0, 0) _ rfl (xp BK220) Tryd.underlying25 rfl (by kernel_rfl)) rfl ?_
   exact ⟨xy, xs HB⟩
  simp only [Option.some.injEq, Prod.mk.injEq] at H
  obtain ⟨rfl, rfl, rfl⟩ := H
  go_enter Tryd.func68, Tryd.ntmps68
  go_wp2_with (first | (refine xF (N := 6) #[.bool false, .string (⟨#[]⟩ : ByteArray), .string (⟨#[]⟩ : ByteArray)] 25 HB ?_; clear HB; intro gb220 hg w45 hb BK220 GW220 HB; clear hb hg) | (refine xg Tryd.func90 (some 15) #[.slice A1 l1.length c1, .slice A2 l2.length c2] ?_; (with_reducible refine (ir_common.calls k (fun k_ => k_ < w.heap.size) _ _ l1 (fun k_ => k_ < w.heap.size) _ _ l2 t221 _ ?side1 ?side2 A7.out).mono ?_); (case side1 => exact Kd.V_mk HC1.out (Kd.F_below (Kd.C_F (Kd.heap_int .u32) HR1.out) (xs HB))); (case side2 => exact Kd.V_mk HC2.out (Kd.F_below (Kd.C_F (Kd.heap_int .u32) HR2.out) (xs HB))); rintro e w46 ⟨v222, rfl, ho0, hb⟩; refine ⟨_, rfl, ?_⟩; have HO223 := xVm w (fun k_ => k_ ≠ gb220) ho0 (fun k_ hk_ => Or.elim hk_ (fun hs_ => Or.elim hs_ (fun hs_ => fun e_ => Nat.not_le.2 hs_ (by rw [e_]; exact GW220.out)) (fun hs_ => fun e_ => Nat.not_le.2 hs_ (by rw [e_]; exact GW220.out))) (fun hn_ => (Kd.freshB (g := gb220) (o := .cells #[.bool false, .string (⟨#[]⟩ : ByteArray), .string (⟨#[]⟩ : ByteArray)] 25 (0, 0)) (xb BK220) k_ hn_))); replace BK220 := xB BK220 hb; replace HB := xS HB hb; clear hb ho0; obtain ⟨Ao47, co47, eo47⟩ := Kd.V_slice HO223.out; subst eo47) | (refine xg Tryd.func91 (some 28) #[.slice A1 l1.length c1, .slice Ao47 t221.length co47] ?_; (with_reducible refine (ir_divide.calls k (fun k_ => k_ < w.heap.size) _ _ l1 _ _ t221 t224 t227 _ ?side1 ?side2 ?side3 A9.out).mono ?_); (case side1 => exact Kd.V_mk HC1.out (Kd.F_below (Kd.C_F (Kd.heap_int .u32) HR1.out) (xs HB))); (case side2 => repeat (exact (Kd.V_reads' HO223.out).2.2)); (case side3 => exact (Kd.V_reads' HO223.out).2.1); rintro e w48 ⟨v225, v228, rfl, ho0, ho1, hb⟩; refine ⟨_, rfl, ?_⟩; replace HO223 := xVb HO223 hb; have HO226 := xVm w (fun k_ => k_ ≠ gb220) ho0 (fun k_ hk_ => Or.elim hk_ (fun hs_ => fun e_ => Nat.not_le.2 hs_ (by rw [e_]; exact GW220.out)) (fun hn_ => (Kd.freshB (g := gb220) (o := .cells #[.bool false, .string (⟨#[]⟩ : ByteArray), .string (⟨#[]⟩ : ByteArray)] 25 (0, 0)) (xb BK220) k_ hn_))); have HO229 := xVm w (fun k_ => k_ ≠ gb220) ho1 (fun k_ hk_ => Or.elim hk_ (fun hs_ => fun e_ => Nat.not_le.2 hs_ (by rw [e_]; exact GW220.out)) (fun hn_ => (Kd.freshB (g := gb220) (o := .cells #[.bool false, .string (⟨#[]⟩ : ByteArray), .string (⟨#[]⟩ : ByteArray)] 25 (0, 0)) (xb BK220) k_ hn_))); replace BK220 := xB BK220 hb; replace HB := xS HB hb; clear hb ho0 ho1) | (refine xg Tryd.func91 (some 34) #[.slice A2 l2.length c2, .slice Ao47 t221.length co47] ?_; (with_reducible refine (ir_divide.calls k (fun k_ => k_ < w.heap.size) _ _ l2 _ _ t221 t230 t233 _ ?side1 ?side2 ?side3 A10.out).mono ?_); (case side1 => exact Kd.V_mk HC2.out (Kd.F_below (Kd.C_F (Kd.heap_int .u32) HR2.out) (xs HB))); (case side2 => repeat (exact (Kd.V_reads' HO223.out).2.2)); (case side3 => exact (Kd.V_reads' HO223.out).2.1); rintro e w49 ⟨v231, v234, rfl, ho0, ho1, hb⟩; refine ⟨_, rfl, ?_⟩; replace HO223 := xVb HO223 hb; replace HO226 := xVb HO226 hb; replace HO229 := xVb HO229 hb; have HO232 := xVm w (fun k_ => k_ ≠ gb220) ho0 (fun k_ hk_ => Or.elim hk_ (fun hs_ => fun e_ => Nat.not_le.2 hs_ (by rw [e_]; exact GW220.out)) (fun hn_ => (Kd.freshB (g := gb220) (o := .cells #[.bool false, .string (⟨#[]⟩ : ByteArray), .string (⟨#[]⟩ : ByteArray)] 25 (0, 0)) (xb BK220) k_ hn_))); have HO235 := xVm w (fun k_ => k_ ≠ gb220) ho1 (fun k_ hk_ => Or.elim hk_ (fun hs_ => fun e_ => Nat.not_le.2 hs_ (by rw [e_]; exact GW220.out)) (fun hn_ => (Kd.freshB (g := gb220) (o := .cells #[.bool false, .string (⟨#[]⟩ : ByteArray), .string (⟨#[]⟩ : ByteArray)] 25 (0, 0)) (xb BK220) k_ hn_))); replace BK220 := xB BK220 hb; replace HB := xS HB hb; clear hb ho0 ho1; obtain ⟨Ao50, co50, eo50⟩ := Kd.V_slice HO226.out; subst eo50) | (refine xg Tryd.func92 (some 39) #[.slice Ao50 t224.length co50] ?_; (with_reducible refine (ir_text.calls k _ _ t224 t236 _ (xf (Kd.V_reads' HO226.out).2.2) (Kd.V_reads' HO226.out).2.1 A11.out).mono ?_); rintro e w51 ⟨rfl, hb⟩; refine ⟨_, rfl, ?_⟩; replace HO223 := xVb HO223 hb; replace HO226 := xVb HO226 hb; replace HO229 := xVb HO229 hb; replace HO232 := xVb HO232 hb; replace HO235 := xVb HO235 hb; replace BK220 := xB BK220 hb; replace HB := xS HB hb; clear hb) | (refine xF (N := 8) #[.bool false, .string (⟨#[]⟩ : ByteArray), .string (⟨#[]⟩ : ByteArray)] 25 HB ?_; clear HB; intro gb237 hg w52 hb BK237 GW237 HB; replace HO223 := xVe HO223 hg hb; replace HO226 := xVe HO226 hg hb; replace HO229 := xVe HO229 hg hb; replace HO232 := xVe HO232 hg hb; replace HO235 := xVe HO235 hg hb; have NB220_237 := xL BK220 hg; have NB237_220 := xR BK220 hg; replace BK220 := xB BK220 hb; clear hb hg; have hnb53 := NB237_220.out; have hnc53 := NB220_237.out; obtain ⟨hcz54_0, hcz54_1, hcz54_2, hfz54_0, hfz54_1, hfz54_2⟩ := x6 BK237; obtain ⟨Ao55, co55, eo55⟩ := Kd.V_slice HO232.out; subst eo55; have p239 : 0 ≤ (0 : Int) := (by omega); have q239 : 0 < (t230.length : Int) := xa; obtain ⟨ad239, e239, hx239_0⟩ := Kd.at_int (Kd.V_reads' HO232.out).2.2 0 p239 q239; cases e239; have qi239 : (0 < t230.length) = True := eq_true (by omega); (try rw [show (0 : Int).toNat = 0 from rfl] at hx239_0); (try rw [Addr.add_zero'] at hx239_0); have hn239_0 : ad239.block ≠ gb237 := Kd.V_blk HO232.out p239 q239 (fun _ hk => by exact hk.2); have hn239_1 : ad239.block ≠ gb237 := Kd.V_blk HO232.out p239 q239 (fun _ hk => by exact hk.2); have hn239_2 : ad239.block ≠ gb237 := Kd.V_blk HO232.out p239 q239 (fun _ hk => by exact hk.2); replace hx239_0 := (cell_far (p := ⟨gb237, 0, none⟩) (by exact hn239_0) (.bool a0)).trans hx239_0; replace hx239_0 := (cell_far (p := ⟨gb237, 1, none⟩) (by exact hn239_1) (.string t236)).trans hx239_0; replace hx239_0 := (cell_far (p := ⟨gb237, 2, none⟩) (by exact hn239_2) (.string (⟨#[]⟩ : ByteArray))).trans hx239_0; clear hn239_0 hn239_1 hn239_2; replace p239 := eq_true p239; replace q239 := eq_true q239; obtain ⟨hcz56_0, hcz56_1, hcz56_2, hfz56_0, hfz56_1, hfz56_2⟩ := x6 BK220))
  refine bodyPost_ret (results_cell_row rfl _ _ gb220 25 #[.bool a0, .string t236, .string (⟨#[]⟩ : ByteArray)] (0, 0) _ rfl (xp BK220) Tryd.underlying25 rfl (by kernel_rfl)) rfl ?_
  exact ⟨xy, xs HB⟩
 have c8b0 := decide_eq_false c8
 have c8b1 : decide (1 < t221.length) = false := decide_eq_false (by omega)
 clear c8
 obtain ⟨c57, H⟩ := xQ H
 have c57b0 := decide_eq_true c57
 have c57b1 : decide (0 < t221.length) = true := decide_eq_true (by omega)
 clear c57
 obtain ⟨c58b0, H⟩ | ⟨c58b0, H⟩ := xOd H
 ·replace H := xH H; obtain ⟨⟨t242, t245⟩, A59, H⟩ := H
  dsimp only at H
  replace H := xH H; obtain ⟨⟨t248, t251⟩, A60, H⟩ := H
  dsimp only at H
  replace H := xH H; obtain ⟨t254, A61, H⟩ := H
  obtain ⟨c62, H⟩ | ⟨c62, H⟩ := xO H
  ·have c62b0 := decide_eq_true c62
   have c62b1 : decide (1 < t248.length) = true := decide_eq_true (by omega)
   clear c62
   replace H := xH H; obtain ⟨t256, A63, H⟩ := H
   simp only [Option.some.injEq, Prod.mk.injEq] at H
   obtain ⟨rfl, rfl, rfl⟩ := H
   go_enter Tryd.func68, Tryd.ntmps68
   go_wp2_with (first | (refine xF (N := 6) #[.bool false, .string (⟨#[]⟩ : ByteArray), .string (⟨#[]⟩ : ByteArray)] 25 HB ?_; clear HB; intro gb220 hg w64 hb BK220 GW220 HB; clear hb hg) | (refine xg Tryd.func90 (some 15) #[.slice A1 l1.length c1, .slice A2 l2.length c2] ?_; (with_reducible refine (ir_common.calls k (fun k_ => k_ < w.heap.size) _ _ l1 (fun k_ => k_ < w.heap.size) _ _ l2 t221 _ ?side1 ?side2 A7.out).mono ?_); (case side1 => exact Kd.V_mk HC1.out (Kd.F_below (Kd.C_F (Kd.heap_int .u32) HR1.out) (xs HB))); (case side2 => exact Kd.V_mk HC2.out (Kd.F_below (Kd.C_F (Kd.heap_int .u32) HR2.out) (xs HB))); rintro e w65 ⟨v222, rfl, ho0, hb⟩; refine ⟨_, rfl, ?_⟩; have HO223 := xVm w (fun k_ => k_ ≠ gb220) ho0 (fun k_ hk_ => Or.elim hk_ (fun hs_ => Or.elim hs_ (fun hs_ => fun e_ => Nat.not_le.2 hs_ (by rw [e_]; exact GW220.out)) (fun hs_ => fun e_ => Nat.not_le.2 hs_ (by rw [e_]; exact GW220.out))) (fun hn_ => (Kd.freshB (g := gb220) (o := .cells #[.bool false, .string (⟨#[]⟩ : ByteArray), .string (⟨#[]⟩ : ByteArray)] 25 (0, 0)) (xb BK220) k_ hn_))); replace BK220 := xB BK220 hb; replace HB := xS HB hb; clear hb ho0; obtain ⟨Ao66, co66, eo66⟩ := Kd.V_slice HO223.out; subst eo66; have p241 : 0 ≤ (0 : Int) := (by omega); have q241 : 0 < (t221.length : Int) := xa; obtain ⟨ad241, e241, hx241_0⟩ := Kd.at_int (Kd.V_reads' HO223.out).2.2 0 p241 q241; cases e241; have qi241 : (0 < t221.length) = True := eq_true (by omega); (try rw [show (0 : Int).toNat = 0 from rfl] at hx241_0); (try rw [Addr.add_zero'] at hx241_0); replace p241 := eq_true p241; replace q241 := eq_true q241) | (refine xg Tryd.func91 (some 28) #[.slice A1 l1.length c1, .slice (some ad241) t221.length co66] ?_; (with_reducible refine (ir_divide.calls k (fun k_ => k_ < w.heap.size) _ _ l1 _ _ t221 t242 t245 _ ?side1 ?side2 ?side3 A59.out).mono ?_); (case side1 => exact Kd.V_mk HC1.out (Kd.F_below (Kd.C_F (Kd.heap_int .u32) HR1.out) (xs HB))); (case side2 => repeat (exact (Kd.V_reads' HO223.out).2.2)); (case side3 => exact (Kd.V_reads' HO223.out).2.1); rintro e w67 ⟨v243, v246, rfl, ho0, ho1, hb⟩; refine ⟨_, rfl, ?_⟩; replace HO223 := xVb HO223 hb; have HO244 := xVm w (fun k_ => k_ ≠ gb220) ho0 (fun k_ hk_ => Or.elim hk_ (fun hs_ => fun e_ => Nat.not_le.2 hs_ (by rw [e_]; exact GW220.out)) (fun hn_ => (Kd.freshB (g := gb220) (o := .cells #[.bool false, .string (⟨#[]⟩ : ByteArray), .string (⟨#[]⟩ : ByteArray)] 25 (0, 0)) (xb BK220) k_ hn_))); have HO247 := xVm w (fun k_ => k_ ≠ gb220) ho1 (fun k_ hk_ => Or.elim hk_ (fun hs_ => fun e_ => Nat.not_le.2 hs_ (by rw [e_]; exact GW220.out)) (fun hn_ => (Kd.freshB (g := gb220) (o := .cells #[.bool false, .string (⟨#[]⟩ : ByteArray), .string (⟨#[]⟩ : ByteArray)] 25 (0, 0)) (xb BK220) k_ hn_))); replace BK220 := xB BK220 hb; replace HB := xS HB hb; clear hb ho0 ho1) | (refine xg Tryd.func91 (some 34) #[.slice A2 l2.length c2, .slice (some ad241) t221.length co66] ?_; (with_reducible refine (ir_divide.calls k (fun k_ => k_ < w.heap.size) _ _ l2 _ _ t221 t248 t251 _ ?side1 ?side2 ?side3 A60.out).mono ?_); (case side1 => exact Kd.V_mk HC2.out (Kd.F_below (Kd.C_F (Kd.heap_int .u32) HR2.out) (xs HB))); (case side2 => repeat (exact (Kd.V_reads' HO223.out).2.2)); (case side3 => exact (Kd.V_reads' HO223.out).2.1); rintro e w68 ⟨v249, v252, rfl, ho0, ho1, hb⟩; refine ⟨_, rfl, ?_⟩; replace HO223 := xVb HO223 hb; replace HO244 := xVb HO244 hb; replace HO247 := xVb HO247 hb; have HO250 := xVm w (fun k_ => k_ ≠ gb220) ho0 (fun k_ hk_ => Or.elim hk_ (fun hs_ => fun e_ => Nat.not_le.2 hs_ (by rw [e_]; exact GW220.out)) (fun hn_ => (Kd.freshB (g := gb220) (o := .cells #[.bool false, .string (⟨#[]⟩ : ByteArray), .string (⟨#[]⟩ : ByteArray)] 25 (0, 0)) (xb BK220) k_ hn_))); have HO253 := xVm w (fun k_ => k_ ≠ gb220) ho1 (fun k_ hk_ => Or.elim hk_ (fun hs_ => fun e_ => Nat.not_le.2 hs_ (by rw [e_]; exact GW220.out)) (fun hn_ => (Kd.freshB (g := gb220) (o := .cells #[.bool false, .string (⟨#[]⟩ : ByteArray), .string (⟨#[]⟩ : ByteArray)] 25 (0, 0)) (xb BK220) k_ hn_))); replace BK220 := xB BK220 hb; replace HB := xS HB hb; clear hb ho0 ho1; obtain ⟨Ao69, co69, eo69⟩ := Kd.V_slice HO244.out; subst eo69) | (refine xg Tryd.func92 (some 39) #[.slice Ao69 t242.length co69] ?_; (with_reducible refine (ir_text.calls k _ _ t242 t254 _ (xf (Kd.V_reads' HO244.out).2.2) (Kd.V_reads' HO244.out).2.1 A61.out).mono ?_); rintro e w70 ⟨rfl, hb⟩; refine ⟨_, rfl, ?_⟩; replace HO223 := xVb HO223 hb; replace HO244 := xVb HO244 hb; replace HO247 := xVb HO247 hb; replace HO250 := xVb HO250 hb; replace HO253 := xVb HO253 hb; replace BK220 := xB BK220 hb; replace HB := xS HB hb; clear hb) | (refine xF (N := 8) #[.bool false, .string (⟨#[]⟩ : ByteArray), .string (⟨#[]⟩ : ByteArray)] 25 HB ?_; clear HB; intro gb255 hg w71 hb BK255 GW255 HB; replace HO223 := xVe HO223 hg hb; replace HO244 := xVe HO244 hg hb; replace HO247 := xVe HO247 hg hb; replace HO250 := xVe HO250 hg hb; replace HO253 := xVe HO253 hg hb; have NB220_255 := xL BK220 hg; have NB255_220 := xR BK220 hg; replace BK220 := xB BK220 hb; clear hb hg; have hnb72 := NB255_220.out; have hnc72 := NB220_255.out; obtain ⟨hcz73_0, hcz73_1, hcz73_2, hfz73_0, hfz73_1, hfz73_2⟩ := x6 BK255; obtain ⟨Ao74, co74, eo74⟩ := Kd.V_slice HO250.out; subst eo74) | (refine xg Tryd.func92 (some 51) #[.slice Ao74 t248.length co74] ?_; (with_reducible refine (ir_text.calls k _ _ t248 t256 _ ?side1 ?side2 A63.out).mono ?_); (case side1 => refine (Kd.V_reads' (e := 85) (base := w.heap.size) (ok := fun k_ => (k_ ≠ gb220 ∧ k_ ≠ gb255)) (n := t248.length) (c := co74) ?_).2.2; exact (by exact (Kd.V_mono (Kd.V_far (p := ⟨gb255, 2, none⟩) (Kd.V_far (p := ⟨gb255, 1, none⟩) (Kd.V_far (p := ⟨gb255, 0, none⟩) (Kd.V_mono HO250.out (fun k_ hk => (⟨hk, hk.2⟩ : _ ∧ k_ ≠ gb255))) (fun _ hk => hk.2) (.bool a0)) (fun _ hk => hk.2) (.string t254)) (fun _ hk => hk.2) (.string (⟨#[]⟩ : ByteArray))) (fun _ h_ => h_.1)))); (case side2 => exact (Kd.V_reads' HO250.out).2.1); rintro e w75 ⟨rfl, hb⟩; refine ⟨_, rfl, ?_⟩; replace HO223 := Aside0.mk (Kd.V_below (by exact (Kd.V_mono (Kd.V_far (p := ⟨gb255, 2, none⟩) (Kd.V_far (p := ⟨gb255, 1, none⟩) (Kd.V_far (p := ⟨gb255, 0, none⟩) (Kd.V_mono HO223.out (fun k_ hk => (⟨hk, hk.2⟩ : _ ∧ k_ ≠ gb255))) (fun _ hk => hk.2) (.bool a0)) (fun _ hk => hk.2) (.string t254)) (fun _ hk => hk.2) (.string (⟨#[]⟩ : ByteArray))) (fun _ h_ => h_.1))) hb); replace HO244 := Aside0.mk (Kd.V_below (by exact (Kd.V_mono (Kd.V_far (p := ⟨gb255, 2, none⟩) (Kd.V_far (p := ⟨gb255, 1, none⟩) (Kd.V_far (p := ⟨gb255, 0, none⟩) (Kd.V_mono HO244.out (fun k_ hk => (⟨hk, hk.2⟩ : _ ∧ k_ ≠ gb255))) (fun _ hk => hk.2) (.bool a0)) (fun _ hk => hk.2) (.string t254)) (fun _ hk => hk.2) (.string (⟨#[]⟩ : ByteArray))) (fun _ h_ => h_.1))) hb); replace HO247 := Aside0.mk (Kd.V_below (by exact (Kd.V_mono (Kd.V_far (p := ⟨gb255, 2, none⟩) (Kd.V_far (p := ⟨gb255, 1, none⟩) (Kd.V_far (p := ⟨gb255, 0, none⟩) (Kd.V_mono HO247.out (fun k_ hk => (⟨hk, hk.2⟩ : _ ∧ k_ ≠ gb255))) (fun _ hk => hk.2) (.bool a0)) (fun _ hk => hk.2) (.string t254)) (fun _ hk => hk.2) (.string (⟨#[]⟩ : ByteArray))) (fun _ h_ => h_.1))) hb); replace HO250 := Aside0.mk (Kd.V_below (by exact (Kd.V_mono (Kd.V_far (p := ⟨gb255, 2, none⟩) (Kd.V_far (p := ⟨gb255, 1, none⟩) (Kd.V_far (p := ⟨gb255, 0, none⟩) (Kd.V_mono HO250.out (fun k_ hk => (⟨hk, hk.2⟩ : _ ∧ k_ ≠ gb255))) (fun _ hk => hk.2) (.bool a0)) (fun _ hk => hk.2) (.string t254)) (fun _ hk => hk.2) (.string (⟨#[]⟩ : ByteArray))) (fun _ h_ => h_.1))) hb); replace HO253 := Aside0.mk (Kd.V_below (by exact (Kd.V_mono (Kd.V_far (p := ⟨gb255, 2, none⟩) (Kd.V_far (p := ⟨gb255, 1, none⟩) (Kd.V_far (p := ⟨gb255, 0, none⟩) (Kd.V_mono HO253.out (fun k_ hk => (⟨hk, hk.2⟩ : _ ∧ k_ ≠ gb255))) (fun _ hk => hk.2) (.bool a0)) (fun _ hk => hk.2) (.string t254)) (fun _ hk => hk.2) (.string (⟨#[]⟩ : ByteArray))) (fun _ h_ => h_.1))) hb); replace BK220 := xB BK220 hb; replace BK255 := Aside0.mk (blk_below (g := gb255) (o := .cells #[.bool a0, .string t254, .string (⟨#[]⟩ : ByteArray)] 25 (0, 0)) (xp BK255) hb); replace HB := xS HB hb; clear hb; obtain ⟨hcz76_0, hcz76_1, hcz76_2, hfz76_0, hfz76_1, hfz76_2⟩ := x6 BK255; obtain ⟨hcz77_0, hcz77_1, hcz77_2, hfz77_0, hfz77_1, hfz77_2⟩ := x6 BK220))
   refine bodyPost_ret (results_cell_row rfl _ _ gb220 25 #[.bool a0, .string t254, .string t256] (0, 0) _ rfl (xp BK220) Tryd.underlying25 rfl (by kernel_rfl)) rfl ?_
   exact ⟨xy, xs HB⟩
  have c62b0 := decide_eq_false c62
  have c62b1 : decide (1 < t248.length) = false := decide_eq_false (by omega)
  clear c62
  obtain ⟨c78, H⟩ := xQ H
  have c78b0 := decide_eq_true c78
  have c78b1 : decide (0 < t248.length) = true := decide_eq_true (by omega)
  clear c78
  obtain ⟨c79b0, H⟩ | ⟨c79b0, H⟩ := xOd H
  ·replace H := xH H; obtain ⟨t258, A80, H⟩ := H
   simp only [Option.some.injEq, Prod.mk.injEq] at H
   obtain ⟨rfl, rfl, rfl⟩ := H
   go_enter Tryd.func68, Tryd.ntmps68
   go_wp2_with (first | (refine xF (N := 6) #[.bool false, .string (⟨#[]⟩ : ByteArray), .string (⟨#[]⟩ : ByteArray)] 25 HB ?_; clear HB; intro gb220 hg w81 hb BK220 GW220 HB; clear hb hg) | (refine xg Tryd.func90 (some 15) #[.slice A1 l1.length c1, .slice A2 l2.length c2] ?_; (with_reducible refine (ir_common.calls k (fun k_ => k_ < w.heap.size) _ _ l1 (fun k_ => k_ < w.heap.size) _ _ l2 t221 _ ?side1 ?side2 A7.out).mono ?_); (case side1 => exact Kd.V_mk HC1.out (Kd.F_below (Kd.C_F (Kd.heap_int .u32) HR1.out) (xs HB))); (case side2 => exact Kd.V_mk HC2.out (Kd.F_below (Kd.C_F (Kd.heap_int .u32) HR2.out) (xs HB))); rintro e w82 ⟨v222, rfl, ho0, hb⟩; refine ⟨_, rfl, ?_⟩; have HO223 := xVm w (fun k_ => k_ ≠ gb220) ho0 (fun k_ hk_ => Or.elim hk_ (fun hs_ => Or.elim hs_ (fun hs_ => fun e_ => Nat.not_le.2 hs_ (by rw [e_]; exact GW220.out)) (fun hs_ => fun e_ => Nat.not_le.2 hs_ (by rw [e_]; exact GW220.out))) (fun hn_ => (Kd.freshB (g := gb220) (o := .cells #[.bool false, .string (⟨#[]⟩ : ByteArray), .string (⟨#[]⟩ : ByteArray)] 25 (0, 0)) (xb BK220) k_ hn_))); replace BK220 := xB BK220 hb; replace HB := xS HB hb; clear hb ho0; obtain ⟨Ao83, co83, eo83⟩ := Kd.V_slice HO223.out; subst eo83; have p241 : 0 ≤ (0 : Int) := (by omega); have q241 : 0 < (t221.length : Int) := xa; obtain ⟨ad241, e241, hx241_0⟩ := Kd.at_int (Kd.V_reads' HO223.out).2.2 0 p241 q241; cases e241; have qi241 : (0 < t221.length) = True := eq_true (by omega); (try rw [show (0 : Int).toNat = 0 from rfl] at hx241_0); (try rw [Addr.add_zero'] at hx241_0); replace p241 := eq_true p241; replace q241 := eq_true q241) | (refine xg Tryd.func91 (some 28) #[.slice A1 l1.length c1, .slice (some ad241) t221.length co83] ?_; (with_reducible refine (ir_divide.calls k (fun k_ => k_ < w.heap.size) _ _ l1 _ _ t221 t242 t245 _ ?side1 ?side2 ?side3 A59.out).mono ?_); (case side1 => exact Kd.V_mk HC1.out (Kd.F_below (Kd.C_F (Kd.heap_int .u32) HR1.out) (xs HB))); (case side2 => repeat (exact (Kd.V_reads' HO223.out).2.2)); (case side3 => exact (Kd.V_reads' HO223.out).2.1); rintro e w84 ⟨v243, v246, rfl, ho0, ho1, hb⟩; refine ⟨_, rfl, ?_⟩; replace HO223 := xVb HO223 hb; have HO244 := xVm w (fun k_ => k_ ≠ gb220) ho0 (fun k_ hk_ => Or.elim hk_ (fun hs_ => fun e_ => Nat.not_le.2 hs_ (by rw [e_]; exact GW220.out)) (fun hn_ => (Kd.freshB (g := gb220) (o := .cells #[.bool false, .string (⟨#[]⟩ : ByteArray), .string (⟨#[]⟩ : ByteArray)] 25 (0, 0)) (xb BK220) k_ hn_))); have HO247 := xVm w (fun k_ => k_ ≠ gb220) ho1 (fun k_ hk_ => Or.elim hk_ (fun hs_ => fun e_ => Nat.not_le.2 hs_ (by rw [e_]; exact GW220.out)) (fun hn_ => (Kd.freshB (g := gb220) (o := .cells #[.bool false, .string (⟨#[]⟩ : ByteArray), .string (⟨#[]⟩ : ByteArray)] 25 (0, 0)) (xb BK220) k_ hn_))); replace BK220 := xB BK220 hb; replace HB := xS HB hb; clear hb ho0 ho1) | (refine xg Tryd.func91 (some 34) #[.slice A2 l2.length c2, .slice (some ad241) t221.length co83] ?_; (with_reducible refine (ir_divide.calls k (fun k_ => k_ < w.heap.size) _ _ l2 _ _ t221 t248 t251 _ ?side1 ?side2 ?side3 A60.out).mono ?_); (case side1 => exact Kd.V_mk HC2.out (Kd.F_below (Kd.C_F (Kd.heap_int .u32) HR2.out) (xs HB))); (case side2 => repeat (exact (Kd.V_reads' HO223.out).2.2)); (case side3 => exact (Kd.V_reads' HO223.out).2.1); rintro e w85 ⟨v249, v252, rfl, ho0, ho1, hb⟩; refine ⟨_, rfl, ?_⟩; replace HO223 := xVb HO223 hb; replace HO244 := xVb HO244 hb; replace HO247 := xVb HO247 hb; have HO250 := xVm w (fun k_ => k_ ≠ gb220) ho0 (fun k_ hk_ => Or.elim hk_ (fun hs_ => fun e_ => Nat.not_le.2 hs_ (by rw [e_]; exact GW220.out)) (fun hn_ => (Kd.freshB (g := gb220) (o := .cells #[.bool false, .string (⟨#[]⟩ : ByteArray), .string (⟨#[]⟩ : ByteArray)] 25 (0, 0)) (xb BK220) k_ hn_))); have HO253 := xVm w (fun k_ => k_ ≠ gb220) ho1 (fun k_ hk_ => Or.elim hk_ (fun hs_ => fun e_ => Nat.not_le.2 hs_ (by rw [e_]; exact GW220.out)) (fun hn_ => (Kd.freshB (g := gb220) (o := .cells #[.bool false, .string (⟨#[]⟩ : ByteArray), .string (⟨#[]⟩ : ByteArray)] 25 (0, 0)) (xb BK220) k_ hn_))); replace BK220 := xB BK220 hb; replace HB := xS HB hb; clear hb ho0 ho1; obtain ⟨Ao86, co86, eo86⟩ := Kd.V_slice HO244.out; subst eo86) | (refine xg Tryd.func92 (some 39) #[.slice Ao86 t242.length co86] ?_; (with_reducible refine (ir_text.calls k _ _ t242 t254 _ (xf (Kd.V_reads' HO244.out).2.2) (Kd.V_reads' HO244.out).2.1 A61.out).mono ?_); rintro e w87 ⟨rfl, hb⟩; refine ⟨_, rfl, ?_⟩; replace HO223 := xVb HO223 hb; replace HO244 := xVb HO244 hb; replace HO247 := xVb HO247 hb; replace HO250 := xVb HO250 hb; replace HO253 := xVb HO253 hb; replace BK220 := xB BK220 hb; replace HB := xS HB hb; clear hb) | (refine xF (N := 8) #[.bool false, .string (⟨#[]⟩ : ByteArray), .string (⟨#[]⟩ : ByteArray)] 25 HB ?_; clear HB; intro gb255 hg w88 hb BK255 GW255 HB; replace HO223 := xVe HO223 hg hb; replace HO244 := xVe HO244 hg hb; replace HO247 := xVe HO247 hg hb; replace HO250 := xVe HO250 hg hb; replace HO253 := xVe HO253 hg hb; have NB220_255 := xL BK220 hg; have NB255_220 := xR BK220 hg; replace BK220 := xB BK220 hb; clear hb hg; have hnb89 := NB255_220.out; have hnc89 := NB220_255.out; obtain ⟨hcz90_0, hcz90_1, hcz90_2, hfz90_0, hfz90_1, hfz90_2⟩ := x6 BK255; obtain ⟨Ao91, co91, eo91⟩ := Kd.V_slice HO250.out; subst eo91; have p257 : 0 ≤ (0 : Int) := (by omega); have q257 : 0 < (t248.length : Int) := xa; obtain ⟨ad257, e257, hx257_0⟩ := Kd.at_int (Kd.V_reads' HO250.out).2.2 0 p257 q257; cases e257; have qi257 : (0 < t248.length) = True := eq_true (by omega); (try rw [show (0 : Int).toNat = 0 from rfl] at hx257_0); (try rw [Addr.add_zero'] at hx257_0); have hn257_0 : ad257.block ≠ gb255 := Kd.V_blk HO250.out p257 q257 (fun _ hk => by exact hk.2); have hn257_1 : ad257.block ≠ gb255 := Kd.V_blk HO250.out p257 q257 (fun _ hk => by exact hk.2); have hn257_2 : ad257.block ≠ gb255 := Kd.V_blk HO250.out p257 q257 (fun _ hk => by exact hk.2); replace hx257_0 := (cell_far (p := ⟨gb255, 0, none⟩) (by exact hn257_0) (.bool a0)).trans hx257_0; replace hx257_0 := (cell_far (p := ⟨gb255, 1, none⟩) (by exact hn257_1) (.string t254)).trans hx257_0; replace hx257_0 := (cell_far (p := ⟨gb255, 2, none⟩) (by exact hn257_2) (.string (⟨#[]⟩ : ByteArray))).trans hx257_0; clear hn257_0 hn257_1 hn257_2; replace p257 := eq_true p257; replace q257 := eq_true q257) | (refine xg Tryd.func92 (some 51) #[.slice (some ad257) t248.length co91] ?_; (with_reducible refine (ir_text.calls k _ _ t248 t258 _ ?side1 ?side2 A80.out).mono ?_); (case side1 => refine (Kd.V_reads' (e := 85) (base := w.heap.size) (ok := fun k_ => (k_ ≠ gb220 ∧ k_ ≠ gb255)) (n := t248.length) (c := co91) ?_).2.2; exact (by exact (Kd.V_mono (Kd.V_far (p := ⟨gb255, 2, none⟩) (Kd.V_far (p := ⟨gb255, 1, none⟩) (Kd.V_far (p := ⟨gb255, 0, none⟩) (Kd.V_mono HO250.out (fun k_ hk => (⟨hk, hk.2⟩ : _ ∧ k_ ≠ gb255))) (fun _ hk => hk.2) (.bool a0)) (fun _ hk => hk.2) (.string t254)) (fun _ hk => hk.2) (.string (⟨#[]⟩ : ByteArray))) (fun _ h_ => h_.1)))); (case side2 => exact (Kd.V_reads' HO250.out).2.1); rintro e w92 ⟨rfl, hb⟩; refine ⟨_, rfl, ?_⟩; replace HO223 := Aside0.mk (Kd.V_below (by exact (Kd.V_mono (Kd.V_far (p := ⟨gb255, 2, none⟩) (Kd.V_far (p := ⟨gb255, 1, none⟩) (Kd.V_far (p := ⟨gb255, 0, none⟩) (Kd.V_mono HO223.out (fun k_ hk => (⟨hk, hk.2⟩ : _ ∧ k_ ≠ gb255))) (fun _ hk => hk.2) (.bool a0)) (fun _ hk => hk.2) (.string t254)) (fun _ hk => hk.2) (.string (⟨#[]⟩ : ByteArray))) (fun _ h_ => h_.1))) hb); replace HO244 := Aside0.mk (Kd.V_below (by exact (Kd.V_mono (Kd.V_far (p := ⟨gb255, 2, none⟩) (Kd.V_far (p := ⟨gb255, 1, none⟩) (Kd.V_far (p := ⟨gb255, 0, none⟩) (Kd.V_mono HO244.out (fun k_ hk => (⟨hk, hk.2⟩ : _ ∧ k_ ≠ gb255))) (fun _ hk => hk.2) (.bool a0)) (fun _ hk => hk.2) (.string t254)) (fun _ hk => hk.2) (.string (⟨#[]⟩ : ByteArray))) (fun _ h_ => h_.1))) hb); replace HO247 := Aside0.mk (Kd.V_below (by exact (Kd.V_mono (Kd.V_far (p := ⟨gb255, 2, none⟩) (Kd.V_far (p := ⟨gb255, 1, none⟩) (Kd.V_far (p := ⟨gb255, 0, none⟩) (Kd.V_mono HO247.out (fun k_ hk => (⟨hk, hk.2⟩ : _ ∧ k_ ≠ gb255))) (fun _ hk => hk.2) (.bool a0)) (fun _ hk => hk.2) (.string t254)) (fun _ hk => hk.2) (.string (⟨#[]⟩ : ByteArray))) (fun _ h_ => h_.1))) hb); replace HO250 := Aside0.mk (Kd.V_below (by exact (Kd.V_mono (Kd.V_far (p := ⟨gb255, 2, none⟩) (Kd.V_far (p := ⟨gb255, 1, none⟩) (Kd.V_far (p := ⟨gb255, 0, none⟩) (Kd.V_mono HO250.out (fun k_ hk => (⟨hk, hk.2⟩ : _ ∧ k_ ≠ gb255))) (fun _ hk => hk.2) (.bool a0)) (fun _ hk => hk.2) (.string t254)) (fun _ hk => hk.2) (.string (⟨#[]⟩ : ByteArray))) (fun _ h_ => h_.1))) hb); replace HO253 := Aside0.mk (Kd.V_below (by exact (Kd.V_mono (Kd.V_far (p := ⟨gb255, 2, none⟩) (Kd.V_far (p := ⟨gb255, 1, none⟩) (Kd.V_far (p := ⟨gb255, 0, none⟩) (Kd.V_mono HO253.out (fun k_ hk => (⟨hk, hk.2⟩ : _ ∧ k_ ≠ gb255))) (fun _ hk => hk.2) (.bool a0)) (fun _ hk => hk.2) (.string t254)) (fun _ hk => hk.2) (.string (⟨#[]⟩ : ByteArray))) (fun _ h_ => h_.1))) hb); replace BK220 := xB BK220 hb; replace BK255 := Aside0.mk (blk_below (g := gb255) (o := .cells #[.bool a0, .string t254, .string (⟨#[]⟩ : ByteArray)] 25 (0, 0)) (xp BK255) hb); replace HB := xS HB hb; clear hb; obtain ⟨hcz93_0, hcz93_1, hcz93_2, hfz93_0, hfz93_1, hfz93_2⟩ := x6 BK255; obtain ⟨hcz94_0, hcz94_1, hcz94_2, hfz94_0, hfz94_1, hfz94_2⟩ := x6 BK220))
   refine bodyPost_ret (results_cell_row rfl _ _ gb220 25 #[.bool a0, .string t254, .string t258] (0, 0) _ rfl (xp BK220) Tryd.underlying25 rfl (by kernel_rfl)) rfl ?_
   exact ⟨xy, xs HB⟩
  simp only [Option.some.injEq, Prod.mk.injEq] at H
  obtain ⟨rfl, rfl, rfl⟩ := H
  go_enter Tryd.func68, Tryd.ntmps68
  go_wp2_with (first | (refine xF (N := 6) #[.bool false, .string (⟨#[]⟩ : ByteArray), .string (⟨#[]⟩ : ByteArray)] 25 HB ?_; clear HB; intro gb220 hg w95 hb BK220 GW220 HB; clear hb hg) | (refine xg Tryd.func90 (some 15) #[.slice A1 l1.length c1, .slice A2 l2.length c2] ?_; (with_reducible refine (ir_common.calls k (fun k_ => k_ < w.heap.size) _ _ l1 (fun k_ => k_ < w.heap.size) _ _ l2 t221 _ ?side1 ?side2 A7.out).mono ?_); (case side1 => exact Kd.V_mk HC1.out (Kd.F_below (Kd.C_F (Kd.heap_int .u32) HR1.out) (xs HB))); (case side2 => exact Kd.V_mk HC2.out (Kd.F_below (Kd.C_F (Kd.heap_int .u32) HR2.out) (xs HB))); rintro e w96 ⟨v222, rfl, ho0, hb⟩; refine ⟨_, rfl, ?_⟩; have HO223 := xVm w (fun k_ => k_ ≠ gb220) ho0 (fun k_ hk_ => Or.elim hk_ (fun hs_ => Or.elim hs_ (fun hs_ => fun e_ => Nat.not_le.2 hs_ (by rw [e_]; exact GW220.out)) (fun hs_ => fun e_ => Nat.not_le.2 hs_ (by rw [e_]; exact GW220.out))) (fun hn_ => (Kd.freshB (g := gb220) (o := .cells #[.bool false, .string (⟨#[]⟩ : ByteArray), .string (⟨#[]⟩ : ByteArray)] 25 (0, 0)) (xb BK220) k_ hn_))); replace BK220 := xB BK220 hb; replace HB := xS HB hb; clear hb ho0; obtain ⟨Ao97, co97, eo97⟩ := Kd.V_slice HO223.out; subst eo97; have p241 : 0 ≤ (0 : Int) := (by omega); have q241 : 0 < (t221.length : Int) := xa; obtain ⟨ad241, e241, hx241_0⟩ := Kd.at_int (Kd.V_reads' HO223.out).2.2 0 p241 q241; cases e241; have qi241 : (0 < t221.length) = True := eq_true (by omega); (try rw [show (0 : Int).toNat = 0 from rfl] at hx241_0); (try rw [Addr.add_zero'] at hx241_0); replace p241 := eq_true p241; replace q241 := eq_true q241) | (refine xg Tryd.func91 (some 28) #[.slice A1 l1.length c1, .slice (some ad241) t221.length co97] ?_; (with_reducible refine (ir_divide.calls k (fun k_ => k_ < w.heap.size) _ _ l1 _ _ t221 t242 t245 _ ?side1 ?side2 ?side3 A59.out).mono ?_); (case side1 => exact Kd.V_mk HC1.out (Kd.F_below (Kd.C_F (Kd.heap_int .u32) HR1.out) (xs HB))); (case side2 => repeat (exact (Kd.V_reads' HO223.out).2.2)); (case side3 => exact (Kd.V_reads' HO223.out).2.1); rintro e w98 ⟨v243, v246, rfl, ho0, ho1, hb⟩; refine ⟨_, rfl, ?_⟩; replace HO223 := xVb HO223 hb; have HO244 := xVm w (fun k_ => k_ ≠ gb220) ho0 (fun k_ hk_ => Or.elim hk_ (fun hs_ => fun e_ => Nat.not_le.2 hs_ (by rw [e_]; exact GW220.out)) (fun hn_ => (Kd.freshB (g := gb220) (o := .cells #[.bool false, .string (⟨#[]⟩ : ByteArray), .string (⟨#[]⟩ : ByteArray)] 25 (0, 0)) (xb BK220) k_ hn_))); have HO247 := xVm w (fun k_ => k_ ≠ gb220) ho1 (fun k_ hk_ => Or.elim hk_ (fun hs_ => fun e_ => Nat.not_le.2 hs_ (by rw [e_]; exact GW220.out)) (fun hn_ => (Kd.freshB (g := gb220) (o := .cells #[.bool false, .string (⟨#[]⟩ : ByteArray), .string (⟨#[]⟩ : ByteArray)] 25 (0, 0)) (xb BK220) k_ hn_))); replace BK220 := xB BK220 hb; replace HB := xS HB hb; clear hb ho0 ho1) | (refine xg Tryd.func91 (some 34) #[.slice A2 l2.length c2, .slice (some ad241) t221.length co97] ?_; (with_reducible refine (ir_divide.calls k (fun k_ => k_ < w.heap.size) _ _ l2 _ _ t221 t248 t251 _ ?side1 ?side2 ?side3 A60.out).mono ?_); (case side1 => exact Kd.V_mk HC2.out (Kd.F_below (Kd.C_F (Kd.heap_int .u32) HR2.out) (xs HB))); (case side2 => repeat (exact (Kd.V_reads' HO223.out).2.2)); (case side3 => exact (Kd.V_reads' HO223.out).2.1); rintro e w99 ⟨v249, v252, rfl, ho0, ho1, hb⟩; refine ⟨_, rfl, ?_⟩; replace HO223 := xVb HO223 hb; replace HO244 := xVb HO244 hb; replace HO247 := xVb HO247 hb; have HO250 := xVm w (fun k_ => k_ ≠ gb220) ho0 (fun k_ hk_ => Or.elim hk_ (fun hs_ => fun e_ => Nat.not_le.2 hs_ (by rw [e_]; exact GW220.out)) (fun hn_ => (Kd.freshB (g := gb220) (o := .cells #[.bool false, .string (⟨#[]⟩ : ByteArray), .string (⟨#[]⟩ : ByteArray)] 25 (0, 0)) (xb BK220) k_ hn_))); have HO253 := xVm w (fun k_ => k_ ≠ gb220) ho1 (fun k_ hk_ => Or.elim hk_ (fun hs_ => fun e_ => Nat.not_le.2 hs_ (by rw [e_]; exact GW220.out)) (fun hn_ => (Kd.freshB (g := gb220) (o := .cells #[.bool false, .string (⟨#[]⟩ : ByteArray), .string (⟨#[]⟩ : ByteArray)] 25 (0, 0)) (xb BK220) k_ hn_))); replace BK220 := xB BK220 hb; replace HB := xS HB hb; clear hb ho0 ho1; obtain ⟨Ao100, co100, eo100⟩ := Kd.V_slice HO244.out; subst eo100) | (refine xg Tryd.func92 (some 39) #[.slice Ao100 t242.length co100] ?_; (with_reducible refine (ir_text.calls k _ _ t242 t254 _ (xf (Kd.V_reads' HO244.out).2.2) (Kd.V_reads' HO244.out).2.1 A61.out).mono ?_); rintro e w101 ⟨rfl, hb⟩; refine ⟨_, rfl, ?_⟩; replace HO223 := xVb HO223 hb; replace HO244 := xVb HO244 hb; replace HO247 := xVb HO247 hb; replace HO250 := xVb HO250 hb; replace HO253 := xVb HO253 hb; replace BK220 := xB BK220 hb; replace HB := xS HB hb; clear hb) | (refine xF (N := 8) #[.bool false, .string (⟨#[]⟩ : ByteArray), .string (⟨#[]⟩ : ByteArray)] 25 HB ?_; clear HB; intro gb255 hg w102 hb BK255 GW255 HB; replace HO223 := xVe HO223 hg hb; replace HO244 := xVe HO244 hg hb; replace HO247 := xVe HO247 hg hb; replace HO250 := xVe HO250 hg hb; replace HO253 := xVe HO253 hg hb; have NB220_255 := xL BK220 hg; have NB255_220 := xR BK220 hg; replace BK220 := xB BK220 hb; clear hb hg; have hnb103 := NB255_220.out; have hnc103 := NB220_255.out; obtain ⟨hcz104_0, hcz104_1, hcz104_2, hfz104_0, hfz104_1, hfz104_2⟩ := x6 BK255; obtain ⟨Ao105, co105, eo105⟩ := Kd.V_slice HO250.out; subst eo105; have p257 : 0 ≤ (0 : Int) := (by omega); have q257 : 0 < (t248.length : Int) := xa; obtain ⟨ad257, e257, hx257_0⟩ := Kd.at_int (Kd.V_reads' HO250.out).2.2 0 p257 q257; cases e257; have qi257 : (0 < t248.length) = True := eq_true (by omega); (try rw [show (0 : Int).toNat = 0 from rfl] at hx257_0); (try rw [Addr.add_zero'] at hx257_0); have hn257_0 : ad257.block ≠ gb255 := Kd.V_blk HO250.out p257 q257 (fun _ hk => by exact hk.2); have hn257_1 : ad257.block ≠ gb255 := Kd.V_blk HO250.out p257 q257 (fun _ hk => by exact hk.2); have hn257_2 : ad257.block ≠ gb255 := Kd.V_blk HO250.out p257 q257 (fun _ hk => by exact hk.2); replace hx257_0 := (cell_far (p := ⟨gb255, 0, none⟩) (by exact hn257_0) (.bool a0)).trans hx257_0; replace hx257_0 := (cell_far (p := ⟨gb255, 1, none⟩) (by exact hn257_1) (.string t254)).trans hx257_0; replace hx257_0 := (cell_far (p := ⟨gb255, 2, none⟩) (by exact hn257_2) (.string (⟨#[]⟩ : ByteArray))).trans hx257_0; clear hn257_0 hn257_1 hn257_2; replace p257 := eq_true p257; replace q257 := eq_true q257; obtain ⟨hcz106_0, hcz106_1, hcz106_2, hfz106_0, hfz106_1, hfz106_2⟩ := x6 BK220))
  refine bodyPost_ret (results_cell_row rfl _ _ gb220 25 #[.bool a0, .string t254, .string (⟨#[]⟩ : ByteArray)] (0, 0) _ rfl (xp BK220) Tryd.underlying25 rfl (by kernel_rfl)) rfl ?_
  exact ⟨xy, xs HB⟩
 replace H := xH H; obtain ⟨t259, A107, H⟩ := H
 obtain ⟨c108, H⟩ | ⟨c108, H⟩ := xO H
 ·have c108b0 := decide_eq_true c108
  have c108b1 : decide (1 < l2.length) = true := decide_eq_true (by omega)
  clear c108
  replace H := xH H; obtain ⟨t261, A109, H⟩ := H
  simp only [Option.some.injEq, Prod.mk.injEq] at H
  obtain ⟨rfl, rfl, rfl⟩ := H
  go_enter Tryd.func68, Tryd.ntmps68
  go_wp2_with (first | (refine xF (N := 6) #[.bool false, .string (⟨#[]⟩ : ByteArray), .string (⟨#[]⟩ : ByteArray)] 25 HB ?_; clear HB; intro gb220 hg w110 hb BK220 GW220 HB; clear hb hg) | (refine xg Tryd.func90 (some 15) #[.slice A1 l1.length c1, .slice A2 l2.length c2] ?_; (with_reducible refine (ir_common.calls k (fun k_ => k_ < w.heap.size) _ _ l1 (fun k_ => k_ < w.heap.size) _ _ l2 t221 _ ?side1 ?side2 A7.out).mono ?_); (case side1 => exact Kd.V_mk HC1.out (Kd.F_below (Kd.C_F (Kd.heap_int .u32) HR1.out) (xs HB))); (case side2 => exact Kd.V_mk HC2.out (Kd.F_below (Kd.C_F (Kd.heap_int .u32) HR2.out) (xs HB))); rintro e w111 ⟨v222, rfl, ho0, hb⟩; refine ⟨_, rfl, ?_⟩; have HO223 := xVm w (fun k_ => k_ ≠ gb220) ho0 (fun k_ hk_ => Or.elim hk_ (fun hs_ => Or.elim hs_ (fun hs_ => fun e_ => Nat.not_le.2 hs_ (by rw [e_]; exact GW220.out)) (fun hs_ => fun e_ => Nat.not_le.2 hs_ (by rw [e_]; exact GW220.out))) (fun hn_ => (Kd.freshB (g := gb220) (o := .cells #[.bool false, .string (⟨#[]⟩ : ByteArray), .string (⟨#[]⟩ : ByteArray)] 25 (0, 0)) (xb BK220) k_ hn_))); replace BK220 := xB BK220 hb; replace HB := xS HB hb; clear hb ho0; obtain ⟨Ao112, co112, eo112⟩ := Kd.V_slice HO223.out; subst eo112; have p241 : 0 ≤ (0 : Int) := (by omega); have q241 : 0 < (t221.length : Int) := xa; obtain ⟨ad241, e241, hx241_0⟩ := Kd.at_int (Kd.V_reads' HO223.out).2.2 0 p241 q241; cases e241; have qi241 : (0 < t221.length) = True := eq_true (by omega); (try rw [show (0 : Int).toNat = 0 from rfl] at hx241_0); (try rw [Addr.add_zero'] at hx241_0); replace p241 := eq_true p241; replace q241 := eq_true q241) | (refine xg Tryd.func92 (some 39) #[.slice A1 l1.length c1] ?_; (with_reducible refine (ir_text.calls k _ _ l1 t259 _ (xf (Kd.C_below HR1.out HB.out)) HC1.out A107.out).mono ?_); rintro e w113 ⟨rfl, hb⟩; refine ⟨_, rfl, ?_⟩; replace HO223 := xVb HO223 hb; replace BK220 := xB BK220 hb; replace HB := xS HB hb; clear hb) | (refine xF (N := 8) #[.bool false, .string (⟨#[]⟩ : ByteArray), .string (⟨#[]⟩ : ByteArray)] 25 HB ?_; clear HB; intro gb260 hg w114 hb BK260 GW260 HB; replace HO223 := xVe HO223 hg hb; have NB220_260 := xL BK220 hg; have NB260_220 := xR BK220 hg; replace BK220 := xB BK220 hb; clear hb hg; have hnb115 := NB260_220.out; have hnc115 := NB220_260.out; obtain ⟨hcz116_0, hcz116_1, hcz116_2, hfz116_0, hfz116_1, hfz116_2⟩ := x6 BK260) | (refine xg Tryd.func92 (some 51) #[.slice A2 l2.length c2] ?_; (with_reducible refine (ir_text.calls k _ _ l2 t261 _ ?side1 ?side2 A109.out).mono ?_); (case side1 => exact Kd.C_below HR2.out (xs HB)); (case side2 => exact HC2.out); rintro e w117 ⟨rfl, hb⟩; refine ⟨_, rfl, ?_⟩; replace HO223 := Aside0.mk (Kd.V_below (by exact (Kd.V_mono (Kd.V_far (p := ⟨gb260, 2, none⟩) (Kd.V_far (p := ⟨gb260, 1, none⟩) (Kd.V_far (p := ⟨gb260, 0, none⟩) (Kd.V_mono HO223.out (fun k_ hk => (⟨hk, hk.2⟩ : _ ∧ k_ ≠ gb260))) (fun _ hk => hk.2) (.bool a0)) (fun _ hk => hk.2) (.string t259)) (fun _ hk => hk.2) (.string (⟨#[]⟩ : ByteArray))) (fun _ h_ => h_.1))) hb); replace BK220 := xB BK220 hb; replace BK260 := Aside0.mk (blk_below (g := gb260) (o := .cells #[.bool a0, .string t259, .string (⟨#[]⟩ : ByteArray)] 25 (0, 0)) (xp BK260) hb); replace HB := xS HB hb; clear hb; obtain ⟨hcz118_0, hcz118_1, hcz118_2, hfz118_0, hfz118_1, hfz118_2⟩ := x6 BK260; obtain ⟨hcz119_0, hcz119_1, hcz119_2, hfz119_0, hfz119_1, hfz119_2⟩ := x6 BK220))
  refine bodyPost_ret (results_cell_row rfl _ _ gb220 25 #[.bool a0, .string t259, .string t261] (0, 0) _ rfl (xp BK220) Tryd.underlying25 rfl (by kernel_rfl)) rfl ?_
  exact ⟨xy, xs HB⟩
 have c108b0 := decide_eq_false c108
 have c108b1 : decide (1 < l2.length) = false := decide_eq_false (by omega)
 clear c108
 obtain ⟨c120, H⟩ := xQ H
 have c120b0 := decide_eq_true c120
 have c120b1 : decide (0 < l2.length) = true := decide_eq_true (by omega)
 clear c120
 obtain ⟨c121b0, H⟩ | ⟨c121b0, H⟩ := xOd H
 ·replace H := xH H; obtain ⟨t263, A122, H⟩ := H
  simp only [Option.some.injEq, Prod.mk.injEq] at H
  obtain ⟨rfl, rfl, rfl⟩ := H
  go_enter Tryd.func68, Tryd.ntmps68
  go_wp2_with (first | (refine xF (N := 6) #[.bool false, .string (⟨#[]⟩ : ByteArray), .string (⟨#[]⟩ : ByteArray)] 25 HB ?_; clear HB; intro gb220 hg w123 hb BK220 GW220 HB; clear hb hg) | (refine xg Tryd.func90 (some 15) #[.slice A1 l1.length c1, .slice A2 l2.length c2] ?_; (with_reducible refine (ir_common.calls k (fun k_ => k_ < w.heap.size) _ _ l1 (fun k_ => k_ < w.heap.size) _ _ l2 t221 _ ?side1 ?side2 A7.out).mono ?_); (case side1 => exact Kd.V_mk HC1.out (Kd.F_below (Kd.C_F (Kd.heap_int .u32) HR1.out) (xs HB))); (case side2 => exact Kd.V_mk HC2.out (Kd.F_below (Kd.C_F (Kd.heap_int .u32) HR2.out) (xs HB))); rintro e w124 ⟨v222, rfl, ho0, hb⟩; refine ⟨_, rfl, ?_⟩; have HO223 := xVm w (fun k_ => k_ ≠ gb220) ho0 (fun k_ hk_ => Or.elim hk_ (fun hs_ => Or.elim hs_ (fun hs_ => fun e_ => Nat.not_le.2 hs_ (by rw [e_]; exact GW220.out)) (fun hs_ => fun e_ => Nat.not_le.2 hs_ (by rw [e_]; exact GW220.out))) (fun hn_ => (Kd.freshB (g := gb220) (o := .cells #[.bool false, .string (⟨#[]⟩ : ByteArray), .string (⟨#[]⟩ : ByteArray)] 25 (0, 0)) (xb BK220) k_ hn_))); replace BK220 := xB BK220 hb; replace HB := xS HB hb; clear hb ho0; obtain ⟨Ao125, co125, eo125⟩ := Kd.V_slice HO223.out; subst eo125; have p241 : 0 ≤ (0 : Int) := (by omega); have q241 : 0 < (t221.length : Int) := xa; obtain ⟨ad241, e241, hx241_0⟩ := Kd.at_int (Kd.V_reads' HO223.out).2.2 0 p241 q241; cases e241; have qi241 : (0 < t221.length) = True := eq_true (by omega); (try rw [show (0 : Int).toNat = 0 from rfl] at hx241_0); (try rw [Addr.add_zero'] at hx241_0); replace p241 := eq_true p241; replace q241 := eq_true q241) | (refine xg Tryd.func92 (some 39) #[.slice A1 l1.length c1] ?_; (with_reducible refine (ir_text.calls k _ _ l1 t259 _ (xf (Kd.C_below HR1.out HB.out)) HC1.out A107.out).mono ?_); rintro e w126 ⟨rfl, hb⟩; refine ⟨_, rfl, ?_⟩; replace HO223 := xVb HO223 hb; replace BK220 := xB BK220 hb; replace HB := xS HB hb; clear hb) | (refine xF (N := 8) #[.bool false, .string (⟨#[]⟩ : ByteArray), .string (⟨#[]⟩ : ByteArray)] 25 HB ?_; clear HB; intro gb260 hg w127 hb BK260 GW260 HB; replace HO223 := xVe HO223 hg hb; have NB220_260 := xL BK220 hg; have NB260_220 := xR BK220 hg; replace BK220 := xB BK220 hb; clear hb hg; have hnb128 := NB260_220.out; have hnc128 := NB220_260.out; obtain ⟨hcz129_0, hcz129_1, hcz129_2, hfz129_0, hfz129_1, hfz129_2⟩ := x6 BK260; have p262 : 0 ≤ (0 : Int) := (by omega); have q262 : 0 < (l2.length : Int) := xa; obtain ⟨ad262, e262, hx262_0⟩ := Kd.at_int HR2.out 0 p262 q262; cases e262; have qi262 : (0 < l2.length) = True := eq_true (by omega); (try rw [show (0 : Int).toNat = 0 from rfl] at hx262_0); (try rw [Addr.add_zero'] at hx262_0); have hn262_0 : ad262.block ≠ gb260 := Nat.ne_of_lt (Nat.lt_of_lt_of_le (by have := World.block_lt_of_cell? _ _ hx262_0; exact this) GW260.out); have hn262_1 : ad262.block ≠ gb260 := Nat.ne_of_lt (Nat.lt_of_lt_of_le (by have := World.block_lt_of_cell? _ _ hx262_0; exact this) GW260.out); have hn262_2 : ad262.block ≠ gb260 := Nat.ne_of_lt (Nat.lt_of_lt_of_le (by have := World.block_lt_of_cell? _ _ hx262_0; exact this) GW260.out); replace hx262_0 := (HB.out.cell (World.block_lt_of_cell? w _ hx262_0)).trans hx262_0; replace hx262_0 := (cell_far (p := ⟨gb260, 0, none⟩) (by exact hn262_0) (.bool a0)).trans hx262_0; replace hx262_0 := (cell_far (p := ⟨gb260, 1, none⟩) (by exact hn262_1) (.string t259)).trans hx262_0; replace hx262_0 := (cell_far (p := ⟨gb260, 2, none⟩) (by exact hn262_2) (.string (⟨#[]⟩ : ByteArray))).trans hx262_0; clear hn262_0 hn262_1 hn262_2; replace p262 := eq_true p262; replace q262 := eq_true q262) | (refine xg Tryd.func92 (some 51) #[.slice (some ad262) l2.length c2] ?_; (with_reducible refine (ir_text.calls k _ _ l2 t263 _ ?side1 ?side2 A122.out).mono ?_); (case side1 => exact Kd.C_below HR2.out (xs HB)); (case side2 => exact HC2.out); rintro e w130 ⟨rfl, hb⟩; refine ⟨_, rfl, ?_⟩; replace HO223 := Aside0.mk (Kd.V_below (by exact (Kd.V_mono (Kd.V_far (p := ⟨gb260, 2, none⟩) (Kd.V_far (p := ⟨gb260, 1, none⟩) (Kd.V_far (p := ⟨gb260, 0, none⟩) (Kd.V_mono HO223.out (fun k_ hk => (⟨hk, hk.2⟩ : _ ∧ k_ ≠ gb260))) (fun _ hk => hk.2) (.bool a0)) (fun _ hk => hk.2) (.string t259)) (fun _ hk => hk.2) (.string (⟨#[]⟩ : ByteArray))) (fun _ h_ => h_.1))) hb); replace BK220 := xB BK220 hb; replace BK260 := Aside0.mk (blk_below (g := gb260) (o := .cells #[.bool a0, .string t259, .string (⟨#[]⟩ : ByteArray)] 25 (0, 0)) (xp BK260) hb); replace HB := xS HB hb; clear hb; obtain ⟨hcz131_0, hcz131_1, hcz131_2, hfz131_0, hfz131_1, hfz131_2⟩ := x6 BK260; obtain ⟨hcz132_0, hcz132_1, hcz132_2, hfz132_0, hfz132_1, hfz132_2⟩ := x6 BK220))
  refine bodyPost_ret (results_cell_row rfl _ _ gb220 25 #[.bool a0, .string t259, .string t263] (0, 0) _ rfl (xp BK220) Tryd.underlying25 rfl (by kernel_rfl)) rfl ?_
  exact ⟨xy, xs HB⟩
 simp only [Option.some.injEq, Prod.mk.injEq] at H
 obtain ⟨rfl, rfl, rfl⟩ := H
 go_enter Tryd.func68, Tryd.ntmps68
 go_wp2_with (first | (refine xF (N := 6) #[.bool false, .string (⟨#[]⟩ : ByteArray), .string (⟨#[]⟩ : ByteArray)] 25 HB ?_; clear HB; intro gb220 hg w133 hb BK220 GW220 HB; clear hb hg) | (refine xg Tryd.func90 (some 15) #[.slice A1 l1.length c1, .slice A2 l2.length c2] ?_; (with_reducible refine (ir_common.calls k (fun k_ => k_ < w.heap.size) _ _ l1 (fun k_ => k_ < w.heap.size) _ _ l2 t221 _ ?side1 ?side2 A7.out).mono ?_); (case side1 => exact Kd.V_mk HC1.out (Kd.F_below (Kd.C_F (Kd.heap_int .u32) HR1.out) (xs HB))); (case side2 => exact Kd.V_mk HC2.out (Kd.F_below (Kd.C_F (Kd.heap_int .u32) HR2.out) (xs HB))); rintro e w134 ⟨v222, rfl, ho0, hb⟩; refine ⟨_, rfl, ?_⟩; have HO223 := xVm w (fun k_ => k_ ≠ gb220) ho0 (fun k_ hk_ => Or.elim hk_ (fun hs_ => Or.elim hs_ (fun hs_ => fun e_ => Nat.not_le.2 hs_ (by rw [e_]; exact GW220.out)) (fun hs_ => fun e_ => Nat.not_le.2 hs_ (by rw [e_]; exact GW220.out))) (fun hn_ => (Kd.freshB (g := gb220) (o := .cells #[.bool false, .string (⟨#[]⟩ : ByteArray), .string (⟨#[]⟩ : ByteArray)] 25 (0, 0)) (xb BK220) k_ hn_))); replace BK220 := xB BK220 hb; replace HB := xS HB hb; clear hb ho0; obtain ⟨Ao135, co135, eo135⟩ := Kd.V_slice HO223.out; subst eo135; have p241 : 0 ≤ (0 : Int) := (by omega); have q241 : 0 < (t221.length : Int) := xa; obtain ⟨ad241, e241, hx241_0⟩ := Kd.at_int (Kd.V_reads' HO223.out).2.2 0 p241 q241; cases e241; have qi241 : (0 < t221.length) = True := eq_true (by omega); (try rw [show (0 : Int).toNat = 0 from rfl] at hx241_0); (try rw [Addr.add_zero'] at hx241_0); replace p241 := eq_true p241; replace q241 := eq_true q241) | (refine xg Tryd.func92 (some 39) #[.slice A1 l1.length c1] ?_; (with_reducible refine (ir_text.calls k _ _ l1 t259 _ (xf (Kd.C_below HR1.out HB.out)) HC1.out A107.out).mono ?_); rintro e w136 ⟨rfl, hb⟩; refine ⟨_, rfl, ?_⟩; replace HO223 := xVb HO223 hb; replace BK220 := xB BK220 hb; replace HB := xS HB hb; clear hb) | (refine xF (N := 8) #[.bool false, .string (⟨#[]⟩ : ByteArray), .string (⟨#[]⟩ : ByteArray)] 25 HB ?_; clear HB; intro gb260 hg w137 hb BK260 GW260 HB; replace HO223 := xVe HO223 hg hb; have NB220_260 := xL BK220 hg; have NB260_220 := xR BK220 hg; replace BK220 := xB BK220 hb; clear hb hg; have hnb138 := NB260_220.out; have hnc138 := NB220_260.out; obtain ⟨hcz139_0, hcz139_1, hcz139_2, hfz139_0, hfz139_1, hfz139_2⟩ := x6 BK260; have p262 : 0 ≤ (0 : Int) := (by omega); have q262 : 0 < (l2.length : Int) := xa; obtain ⟨ad262, e262, hx262_0⟩ := Kd.at_int HR2.out 0 p262 q262; cases e262; have qi262 : (0 < l2.length) = True := eq_true (by omega); (try rw [show (0 : Int).toNat = 0 from rfl] at hx262_0); (try rw [Addr.add_zero'] at hx262_0); have hn262_0 : ad262.block ≠ gb260 := Nat.ne_of_lt (Nat.lt_of_lt_of_le (by have := World.block_lt_of_cell? _ _ hx262_0; exact this) GW260.out); have hn262_1 : ad262.block ≠ gb260 := Nat.ne_of_lt (Nat.lt_of_lt_of_le (by have := World.block_lt_of_cell? _ _ hx262_0; exact this) GW260.out); have hn262_2 : ad262.block ≠ gb260 := Nat.ne_of_lt (Nat.lt_of_lt_of_le (by have := World.block_lt_of_cell? _ _ hx262_0; exact this) GW260.out); replace hx262_0 := (HB.out.cell (World.block_lt_of_cell? w _ hx262_0)).trans hx262_0; replace hx262_0 := (cell_far (p := ⟨gb260, 0, none⟩) (by exact hn262_0) (.bool a0)).trans hx262_0; replace hx262_0 := (cell_far (p := ⟨gb260, 1, none⟩) (by exact hn262_1) (.string t259)).trans hx262_0; replace hx262_0 := (cell_far (p := ⟨gb260, 2, none⟩) (by exact hn262_2) (.string (⟨#[]⟩ : ByteArray))).trans hx262_0; clear hn262_0 hn262_1 hn262_2; replace p262 := eq_true p262; replace q262 := eq_true q262; obtain ⟨hcz140_0, hcz140_1, hcz140_2, hfz140_0, hfz140_1, hfz140_2⟩ := x6 BK220))
 refine bodyPost_ret (results_cell_row rfl _ _ gb220 25 #[.bool a0, .string t259, .string (⟨#[]⟩ : ByteArray)] (0, 0) _ rfl (xp BK220) Tryd.underlying25 rfl (by kernel_rfl)) rfl ?_
 exact ⟨xy, xs HB⟩
/-! ### strings_trimLeftByte: function 104 -/
def strings_trimLeftByte.l0 : Nat → ByteArray → Int → Option (ByteArray)
 | 0, _, _ => none
 | k + 1, x0, x1 => if (x0.size : Int) > 0 then (if 0 < (x0.size : Int) then (if (bt x0 0) = x1 then (if 1 ≤ (x0.size : Int) then (strings_trimLeftByte.l0 k (x0.extract 1 x0.size) x1) else (none)) else (some x0)) else (none)) else (some x0)
def strings_trimLeftByte.f (k : Nat) (a0 : ByteArray) (a1 : Int) : Option (ByteArray) := strings_trimLeftByte.l0 k a0 a1
theorem strings_trimLeftByte.mono_l : ∀ k, (∀ y0 y1, LeO (strings_trimLeftByte.l0 k y0 y1) (strings_trimLeftByte.l0 (k + 1) y0 y1))
 | 0 => fun _ _ r h => by simp [strings_trimLeftByte.l0] at h
 | k + 1 => by
  have ih0 := strings_trimLeftByte.mono_l k
  ·intro y0 y1
   unfold strings_trimLeftByte.l0
   have m0 := @ih0; exact xM
theorem strings_trimLeftByte.mono : ∀ a0 a1 k, LeO (strings_trimLeftByte.f k a0 a1) (strings_trimLeftByte.f (k + 1) a0 a1) := by
 intro a0 a1 k
 have ih0 := strings_trimLeftByte.mono_l k
 unfold strings_trimLeftByte.f
 have m0 := @ih0; exact xM
theorem strings_trimLeftByte.calls (k : Nat) (a0 : ByteArray) (a1 : Int) (r : ByteArray) (w : World) (h : strings_trimLeftByte.f k a0 a1 = some r) :
  Calls Tryd.prog 104 #[.string a0, .int .u8 a1] w fun e w' => e = .returned (.string r) ∧ Drawn0 w w' := by
 have H := h; clear h
 unfold strings_trimLeftByte.f at H
 have H' := Aside0.mk H
 clear H
 go_enter Tryd.func104, Tryd.ntmps104
 go_wp2
 go_loopg [0] k (fun kq v0 w' => ∃ (x0_1 : ByteArray), v0 = .string x0_1 ∧ Aside0 (strings_trimLeftByte.l0 kq x0_1 a1 = some r) ∧ Aside0 (kq ≤ k) ∧ Drawn0 w w')
 case atStart => exact ⟨(a0), xz, H', ⟨Nat.le_refl _⟩, xd⟩
 case round =>
  clear H'
  obtain ⟨x0_1, rfl, HA, HK1, ⟨m1, rfl⟩⟩ := hrel
  cases gk with
  | zero => exact absurd HA.out (by simp [strings_trimLeftByte.l0])
  | succ k1 =>
   have H := HA.out
   clear HA
   simp only [strings_trimLeftByte.l0] at H
   obtain ⟨c3, H⟩ | ⟨c3, H⟩ := xO H
   ·have c3b0 := decide_eq_true c3
    have c3b1 : decide (0 < x0_1.size) = true := decide_eq_true (by omega)
    clear c3
    obtain ⟨c4, H⟩ := xQ H
    have c4b0 := decide_eq_true c4
    have c4b1 : decide (0 < x0_1.size) = true := decide_eq_true (by omega)
    clear c4
    obtain ⟨c6, H⟩ | ⟨c6, H⟩ := xO H
    ·have c6b0 := beq_iff_eq.mpr c6
     have c6b1 := bne_eq_false_iff_eq.mpr c6
     clear c6
     obtain ⟨c7b0, c7b1, H⟩ := xQt H
     have H' := Aside0.mk H
     clear H
     have p5 : 0 ≤ (0 : Int) := (by omega)
     have q5 : 0 < x0_1.size := (by have : (0 : Int) < (x0_1.size : Int) := xa; omega)
     have hx5 : ∀ h : 0 < x0_1.size, ((x0_1[0]'h).toNat : Int) = bt x0_1 0 := bt_at x0_1 0
     clear p5
     have qi5 : (0 < (x0_1.size : Int)) = True := eq_true (xa)
     replace q5 := eq_true q5
     go_wp2
     go_roundg k1
     case measure => have := HK1.out; omega
     case rel => exact ⟨(x0_1.extract 1 x0_1.size), xz, H', ⟨by have := HK1.out; omega⟩, xd⟩
    have c6b0 := beq_eq_false_iff_ne.mpr c6
    have c6b1 := bne_iff_ne.mpr c6
    obtain rfl := Option.some.inj H
    have p5 : 0 ≤ (0 : Int) := (by omega)
    have q5 : 0 < x0_1.size := (by have : (0 : Int) < (x0_1.size : Int) := xa; omega)
    have hx5 : ∀ h : 0 < x0_1.size, ((x0_1[0]'h).toNat : Int) = bt x0_1 0 := bt_at x0_1 0
    clear p5
    have qi5 : (0 < (x0_1.size : Int)) = True := eq_true (xa)
    replace q5 := eq_true q5
    go_wp2
    go_ret
    exact ⟨xz, xd⟩
   have c3b0 := decide_eq_false c3
   have c3b1 : decide (0 < x0_1.size) = false := decide_eq_false (by omega)
   clear c3
   obtain rfl := Option.some.inj H
   go_wp2
   go_ret
   exact ⟨xz, xd⟩
-- NOT PRINTED: function 105 (strings_makeASCIISet)
-- NOT PRINTED: function 115 (strings_asciiSet_contains)
-- NOT PRINTED: function 106 (strings_trimLeftASCII)
-- NOT PRINTED: function 119 (utf8_decodeRuneInStringSlow)
-- NOT PRINTED: function 116 (utf8_DecodeRuneInString)
-- NOT PRINTED: function 126 (bytealg_IndexByteString)
-- NOT PRINTED: function 125 (stringslite_IndexByte)
-- NOT PRINTED: function 121 (strings_IndexByte)
/-! ### strings_TrimLeft: function 96 -/
mutual
def strings_TrimLeft.j0 : Nat → ByteArray → ByteArray → Bool → Option (ByteArray)
 | 0, _, _, _ => none
 | k + 1, x0, x1, x12 => if x12 = true then (some x0) else (if (x1.size : Int) = 1 then (if 0 < (x1.size : Int) then (strings_TrimLeft.j1 k x0 x1 (decide ((bt x1 0) < 128))) else (none)) else (strings_TrimLeft.j1 k x0 x1 false))
def strings_TrimLeft.j1 : Nat → ByteArray → ByteArray → Bool → Option (ByteArray)
 | 0, _, _, _ => none
 | k + 1, x0, x1, x21 => if x21 = true then (if 0 < (x1.size : Int) then ((strings_trimLeftByte.f k x0 (bt x1 0)).bind fun t317 => (some t317)) else (none)) else (none)
end
def strings_TrimLeft.f (k : Nat) (a0 : ByteArray) (a1 : ByteArray) : Option (ByteArray) := if a0.toList = ([] : List UInt8) then (strings_TrimLeft.j0 k a0 a1 true) else (strings_TrimLeft.j0 k a0 a1 (a1.toList == ([] : List UInt8)))
theorem strings_TrimLeft.mono_l : ∀ k, (∀ y0 y1 y2, LeO (strings_TrimLeft.j0 k y0 y1 y2) (strings_TrimLeft.j0 (k + 1) y0 y1 y2)) ∧ (∀ y0 y1 y2, LeO (strings_TrimLeft.j1 k y0 y1 y2) (strings_TrimLeft.j1 (k + 1) y0 y1 y2))
 | 0 => ⟨fun _ _ _ r h => by simp [strings_TrimLeft.j0] at h, fun _ _ _ r h => by simp [strings_TrimLeft.j1] at h⟩
 | k + 1 => by
  obtain ⟨ih0, ih1⟩ := strings_TrimLeft.mono_l k
  refine ⟨?_, ?_⟩
  ·intro y0 y1 y2
   unfold strings_TrimLeft.j0
   have m0 := @ih0; have m1 := @ih1; have m2 := @strings_trimLeftByte.mono; exact xM
  ·intro y0 y1 y2
   unfold strings_TrimLeft.j1
   have m0 := @ih0; have m1 := @ih1; have m2 := @strings_trimLeftByte.mono; exact xM
theorem strings_TrimLeft.mono : ∀ a0 a1 k, LeO (strings_TrimLeft.f k a0 a1) (strings_TrimLeft.f (k + 1) a0 a1) := by
 intro a0 a1 k
 obtain ⟨ih0, ih1⟩ := strings_TrimLeft.mono_l k
 unfold strings_TrimLeft.f
 have m0 := @ih0; have m1 := @ih1; have m2 := @strings_trimLeftByte.mono; exact xM
theorem strings_TrimLeft.calls (k : Nat) (a0 : ByteArray) (a1 : ByteArray) (r : ByteArray) (w : World) (h : strings_TrimLeft.f k a0 a1 = some r) :
  Calls Tryd.prog 96 #[.string a0, .string a1] w fun e w' => e = .returned (.string r) ∧ Below w.heap.size w w' := by
 have HB := Aside0.mk (Below.refl w.heap.size w)
 have H := h; clear h
 unfold strings_TrimLeft.f at H
 have HC3 := Aside0.mk H
 clear H
 go_enter Tryd.func96, Tryd.ntmps96
 go_upto_region 1 with (fail)
 repeat (go_quiet (fail); go_upto_region 1 with (fail))
 go_cut [12] (fun v12 wc => ∃ (kq : Nat) (x12_2 : Bool), v12 = .bool x12_2 ∧ Aside0 (strings_TrimLeft.j0 kq a0 a1 x12_2 = some r) ∧ Aside0 (kq ≤ k) ∧ Aside0 (Below w.heap.size w wc))
 case first =>
  have H := HC3.out
  clear HC3
  obtain ⟨c4, H⟩ | ⟨c4, H⟩ := xO H
  ·have c4b0 := beq_iff_eq.mpr c4
   have c4b1 := bne_eq_false_iff_eq.mpr c4
   clear c4
   skip
   have H' := Aside0.mk H
   clear H
   go_wp2
   go_meet
   case rel => exact ⟨_, (true), xz, H', ⟨by omega⟩, ⟨xs HB⟩⟩
  have c4b0 := beq_eq_false_iff_ne.mpr c4
  have c4b1 := bne_iff_ne.mpr c4
  skip
  have H' := Aside0.mk H
  clear H
  go_wp2
  go_meet
  case rel => exact ⟨_, (a1.toList == ([] : List UInt8)), xz, H', ⟨by omega⟩, ⟨xs HB⟩⟩
 case rest =>
  clear HC3
  obtain ⟨kq, x12_2, rfl, HA, HJ2, HB⟩ := hcut
  cases kq with
  | zero => exact absurd HA.out (by simp [strings_TrimLeft.j0])
  | succ kj2 =>
   have H := HA.out
   clear HA
   simp only [strings_TrimLeft.j0] at H
   by_cases c5 : x12_2 = true
   ·subst c5
    replace H := xI H
    obtain rfl := Option.some.inj H
    go_wp2
    go_ret
    exact ⟨xy, xs HB⟩
   replace c5 := Bool.eq_false_iff.mpr c5
   subst c5
   have H1 : (if (a1.size : Int) = 1 then (if 0 < (a1.size : Int) then (strings_TrimLeft.j1 kj2 a0 a1 (decide ((bt a1 0) < 128))) else (none)) else (strings_TrimLeft.j1 kj2 a0 a1 false)) = some r := by rw [if_neg (show ¬ (false = true) by decide)] at H; exact H
   clear H
   have H := H1
   clear H1
   have HC6 := Aside0.mk H
   clear H
   go_upto_region 3 with (fail)
   repeat (go_quiet (fail); go_upto_region 3 with (fail))
   go_cut [21] (fun v21 wc => ∃ (kq : Nat) (x21_5 : Bool), v21 = .bool x21_5 ∧ Aside0 (strings_TrimLeft.j1 kq a0 a1 x21_5 = some r) ∧ Aside0 (kq ≤ kj2) ∧ Aside0 (Below w.heap.size w wc))
   case first =>
    have H := HC6.out
    clear HC6
    obtain ⟨c7, H⟩ | ⟨c7, H⟩ := xO H
    ·have c7b0 := beq_iff_eq.mpr c7
     have c7b1 := bne_eq_false_iff_eq.mpr c7
     clear c7
     skip
     obtain ⟨c8, H⟩ := xQ H
     have c8b0 := decide_eq_true c8
     have c8b1 : decide (0 < a1.size) = true := decide_eq_true (by omega)
     clear c8
     have H' := Aside0.mk H
     clear H
     have p9 : 0 ≤ (0 : Int) := (by omega)
     have q9 : 0 < a1.size := (by have : (0 : Int) < (a1.size : Int) := xa; omega)
     have hx9 : ∀ h : 0 < a1.size, ((a1[0]'h).toNat : Int) = bt a1 0 := bt_at a1 0
     clear p9
     have qi9 : (0 < (a1.size : Int)) = True := eq_true (xa)
     replace q9 := eq_true q9
     go_wp2
     go_meet
     case rel => exact ⟨_, (decide ((bt a1 0) < 128)), xz, H', ⟨by have := HJ2.out; omega⟩, ⟨xs HB⟩⟩
    have c7b0 := beq_eq_false_iff_ne.mpr c7
    have c7b1 := bne_iff_ne.mpr c7
    skip
    have H' := Aside0.mk H
    clear H
    go_wp2
    go_meet
    case rel => exact ⟨_, (false), xz, H', ⟨by have := HJ2.out; omega⟩, ⟨xs HB⟩⟩
   case rest =>
    clear HC6
    obtain ⟨kq, x21_5, rfl, HA, HJ5, HB⟩ := hcut
    cases kq with
    | zero => exact absurd HA.out (by simp [strings_TrimLeft.j1])
    | succ kj5 =>
     have H := HA.out
     clear HA
     simp only [strings_TrimLeft.j1] at H
     by_cases c10 : x21_5 = true
     ·subst c10
      replace H := xI H
      obtain ⟨c11, H⟩ := xQ H
      have c11b0 := decide_eq_true c11
      have c11b1 : decide (0 < a1.size) = true := decide_eq_true (by omega)
      clear c11
      replace H := xH H; obtain ⟨t317, A13, H⟩ := H
      obtain rfl := Option.some.inj H
      have p12 : 0 ≤ (0 : Int) := (by omega)
      have q12 : 0 < a1.size := (by have : (0 : Int) < (a1.size : Int) := xa; omega)
      have hx12 : ∀ h : 0 < a1.size, ((a1[0]'h).toNat : Int) = bt a1 0 := bt_at a1 0
      clear p12
      have qi12 : (0 < (a1.size : Int)) = True := eq_true (xa)
      replace q12 := eq_true q12
      go_wp2_with (refine xg Tryd.func104 (some 25) #[.string a0, .int .u8 (bt a1 0)] ?_; (with_reducible refine (strings_trimLeftByte.calls kj5 a0 (bt a1 0) t317 _ A13.out).mono ?_); rintro e w' ⟨rfl, ⟨nd, rfl⟩⟩; refine ⟨_, rfl, ?_⟩)
      go_ret
      exact ⟨xy, xs HB⟩
     replace c10 := Bool.eq_false_iff.mpr c10
     subst c10
     have H1 : (none) = some r := by rw [if_neg (show ¬ (false = true) by decide)] at H; exact H
     clear H
     have H := H1
     clear H1
     exact absurd H (by simp)
/-! ### nt_Normalize: function 74 -/
def nt_Normalize.f (k : Nat) (a0 : ByteArray) : Option (ByteArray) := (strings_TrimLeft.f k a0 (⟨#[0]⟩ : ByteArray)).bind fun t318 => (some t318)
theorem nt_Normalize.mono : ∀ a0 k, LeO (nt_Normalize.f k a0) (nt_Normalize.f (k + 1) a0) := by
 intro a0 k
 unfold nt_Normalize.f
 have m0 := @strings_TrimLeft.mono; exact xM
theorem nt_Normalize.calls (k : Nat) (a0 : ByteArray) (r : ByteArray) (w : World) (h : nt_Normalize.f k a0 = some r) :
  Calls Tryd.prog 74 #[.string a0] w fun e w' => e = .returned (.string r) ∧ Below w.heap.size w w' := by
 have HB := Aside0.mk (Below.refl w.heap.size w)
 have H := h; clear h
 unfold nt_Normalize.f at H
 replace H := xH H; obtain ⟨t318, A2, H⟩ := H
 obtain rfl := Option.some.inj H
 go_enter Tryd.func74, Tryd.ntmps74
 go_wp2_with (refine xC Tryd.func96 (some 4) (strings_TrimLeft.calls k a0 (⟨#[0]⟩ : ByteArray) t318 _ A2.out) ?_; rintro w3 hb; replace HB := xS HB hb; clear hb)
 go_ret
 exact ⟨xy, xs HB⟩
/-! ### nt_limbs_trim: function 98 -/
def nt_limbs_trim.l0 : Nat → List Int → Int → Option (List Int)
 | 0, _, _ => none
 | k + 1, x0, x3 => if x3 > 0 then (if 0 ≤ (wrap64 (x3 - 1)) then (if (wrap64 (x3 - 1)) < (x0.length : Int) then (if (rd x0 (wrap64 (x3 - 1))) = 0 then (nt_limbs_trim.l0 k x0 (wrap64 (x3 - 1))) else (if 0 ≤ x3 then (if x3 ≤ (x0.length : Int) then (some (x0.take (x3 : Int).toNat)) else (none)) else (none))) else (none)) else (none)) else (if 0 ≤ x3 then (if x3 ≤ (x0.length : Int) then (some (x0.take (x3 : Int).toNat)) else (none)) else (none))
def nt_limbs_trim.f (k : Nat) (l0 : List Int) : Option (List Int) := nt_limbs_trim.l0 k l0 (l0.length : Int)
theorem nt_limbs_trim.mono_l : ∀ k, (∀ y0 y1, LeO (nt_limbs_trim.l0 k y0 y1) (nt_limbs_trim.l0 (k + 1) y0 y1))
 | 0 => fun _ _ r h => by simp [nt_limbs_trim.l0] at h
 | k + 1 => by
  have ih0 := nt_limbs_trim.mono_l k
  ·intro y0 y1
   unfold nt_limbs_trim.l0
   have m0 := @ih0; exact xM
theorem nt_limbs_trim.mono : ∀ a0 k, LeO (nt_limbs_trim.f k a0) (nt_limbs_trim.f (k + 1) a0) := by
 intro a0 k
 have ih0 := nt_limbs_trim.mono_l k
 unfold nt_limbs_trim.f
 have m0 := @ih0; exact xM
theorem nt_limbs_trim.calls (k : Nat) (P0_ : Nat → Prop) (A0 : Option Addr) (c0 : Nat) (l0 : List Int) (r : List Int) (w : World) (hs0 : Kd.V (Kd.int .u32) 85 w w.heap.size (fun k_ => P0_ k_) (.slice A0 l0.length c0) l0) (h : nt_limbs_trim.f k l0 = some r) :
  Calls Tryd.prog 98 #[.slice A0 l0.length c0] w fun e w' => ∃ v0_ : Value, e = .returned (v0_) ∧ Kd.V (Kd.int .u32) 85 w' w.heap.size (fun k_ => (P0_ k_ ∨ w.heap.size ≤ k_)) v0_ r ∧ Below w.heap.size w w' := by
 have HO0 := Aside0.mk (show Kd.V (Kd.int .u32) 85 w w.heap.size (fun k_ => (P0_ k_ ∨ w.heap.size ≤ k_)) (.slice A0 l0.length c0) l0 from Kd.V_mono hs0 (fun k_ hk => .inl hk))
 have HB := Aside0.mk (Below.refl w.heap.size w)
 have H := h; clear h
 unfold nt_limbs_trim.f at H
 have H' := Aside0.mk H
 clear H
 go_enter Tryd.func98, Tryd.ntmps98
 go_wp2
 go_loopg [3] k (fun kq v3 w' => ∃ (x3_1 : Int), v3 = .int .i64 x3_1 ∧ Aside0 (nt_limbs_trim.l0 kq l0 x3_1 = some r) ∧ Aside0 (kq ≤ k) ∧ Aside0 (Kd.V (Kd.int .u32) 85 w' w.heap.size (fun k_ => (P0_ k_ ∨ w.heap.size ≤ k_)) (.slice A0 l0.length c0) l0) ∧ Aside0 (Below w.heap.size w w'))
 case atStart => exact ⟨(l0.length : Int), xz, H', ⟨Nat.le_refl _⟩, ⟨xv HO0.out⟩, ⟨xs HB⟩⟩
 case round =>
  clear H'
  obtain ⟨x3_1, rfl, HA, HK1, HO_0, HB⟩ := hrel
  cases gk with
  | zero => exact absurd HA.out (by simp [nt_limbs_trim.l0])
  | succ k1 =>
   have H := HA.out
   clear HA
   simp only [nt_limbs_trim.l0] at H
   obtain ⟨c2b0, H⟩ | ⟨c2b0, H⟩ := xOd H
   ·generalize hji3 : (wrap64 (x3_1 - 1)) = ji3 at H
    have hji3w : (IntKind.i64.wrap (x3_1 - 1)) = ji3 := (i64_w _).trans hji3
    obtain ⟨c4b0, H⟩ := xQd H
    obtain ⟨c5b0, H⟩ := xQd H
    obtain ⟨c6, H⟩ | ⟨c6, H⟩ := xO H
    ·have c6b0 := beq_iff_eq.mpr c6
     have c6b1 := bne_eq_false_iff_eq.mpr c6
     clear c6
     have H' := Aside0.mk H
     clear H
     obtain ⟨p319, q319, ad319, e319, hx319_0⟩ := xA (Kd.at_int (Kd.V_reads' HO_0.out).2.2 (ji3))
     cases e319
     go_wp2
     go_roundg k1
     case measure => have := HK1.out; omega
     case rel => exact ⟨(ji3), (by rfl), H', ⟨by have := HK1.out; omega⟩, ⟨xv HO_0.out⟩, ⟨xs HB⟩⟩
    have c6b0 := beq_eq_false_iff_ne.mpr c6
    have c6b1 := bne_iff_ne.mpr c6
    obtain ⟨c7b0, c7b1, H⟩ := xQt H
    obtain ⟨c8b0, c8b1, H⟩ := xQt H
    generalize hy320 : (l0.take (x3_1 : Int).toNat : List Int) = y320 at H
    have Ny320 := Aside0.mk hy320.symm
    clear hy320
    obtain rfl := Option.some.inj H
    obtain ⟨p319, q319, ad319, e319, hx319_0⟩ := xA (Kd.at_int (Kd.V_reads' HO_0.out).2.2 (ji3))
    cases e319
    have q9 : (x3_1 : Int) ≤ ((l0.length : Int) : Int) := xa
    obtain ⟨i09, hi09, _, hsz9, _⟩ := info_parts info85
    have hroom9 : l0.length ≤ c0 := (Kd.V_reads' HO_0.out).2.1
    have hC9 : Kd.F (Kd.int .u32) _ _ (some ad319) l0.length l0 := (Kd.V_at (base := w.heap.size) HO_0.out).2.2
    have hcut9 := cut_to (P := Tryd.prog) 83 85 .i64 Tryd.underlying83 hi09 (some ad319) l0.length c0 x3_1 (xa) q9 hroom9
    have hr9 := Kd.F_take (m := (x3_1 : Int).toNat) hC9 (by omega)
    have hy9 : y320.length = (x3_1 : Int).toNat := (by rw [Ny320.out, List.length_take]; omega)
    rw [← Ny320.out] at hr9
    rw [← hy9] at hcut9
    have HO324 := Aside0.mk (show Kd.V (Kd.int .u32) 85 _ w.heap.size _ (.slice (some ad319) y320.length c0) y320 from Kd.V_mk (by omega) hr9)
    have HC324 := Aside0.mk (show y320.length ≤ c0 from by omega)
    clear hr9 hC9 hroom9 hi09 hsz9
    have KY9 := Aside0.mk hy9
    clear hy9
    replace q9 := eq_true q9
    go_wp2
    go_ret
    exact ⟨_, by rfl, HO324.out, xs HB⟩
   obtain ⟨c10b0, c10b1, H⟩ := xQt H
   obtain ⟨c11b0, c11b1, H⟩ := xQt H
   generalize hy325 : (l0.take (x3_1 : Int).toNat : List Int) = y325 at H
   have Ny325 := Aside0.mk hy325.symm
   clear hy325
   obtain rfl := Option.some.inj H
   have q12 : (x3_1 : Int) ≤ ((l0.length : Int) : Int) := xa
   obtain ⟨i012, hi012, _, hsz12, _⟩ := info_parts info85
   have hroom12 : l0.length ≤ c0 := (Kd.V_reads' HO_0.out).2.1
   have hC12 : Kd.F (Kd.int .u32) _ _ A0 l0.length l0 := (Kd.V_at (base := w.heap.size) HO_0.out).2.2
   have hcut12 := cut_to (P := Tryd.prog) 83 85 .i64 Tryd.underlying83 hi012 A0 l0.length c0 x3_1 (xa) q12 hroom12
   have hr12 := Kd.F_take (m := (x3_1 : Int).toNat) hC12 (by omega)
   have hy12 : y325.length = (x3_1 : Int).toNat := (by rw [Ny325.out, List.length_take]; omega)
   rw [← Ny325.out] at hr12
   rw [← hy12] at hcut12
   have HO329 := Aside0.mk (show Kd.V (Kd.int .u32) 85 _ w.heap.size _ (.slice A0 y325.length c0) y325 from Kd.V_mk (by omega) hr12)
   have HC329 := Aside0.mk (show y325.length ≤ c0 from by omega)
   clear hr12 hC12 hroom12 hi012 hsz12
   have KY12 := Aside0.mk hy12
   clear hy12
   replace q12 := eq_true q12
   go_wp2
   go_ret
   exact ⟨_, xy, HO329.out, xs HB⟩
/-! ### nt_parse: function 77 -/
def nt_parse.l0 : Nat → ByteArray → List Int → Int → Int → Option (List Int)
 | 0, _, _, _, _ => none
 | k + 1, x0, x3, x12, x13 => if x13 < x12 then (if 0 ≤ (wrap64 (Int.tdiv x13 4)) then (if (wrap64 (Int.tdiv x13 4)) < (x3.length : Int) then (if 0 ≤ (wrap64 ((wrap64 ((x0.size : Int) - 1)) - x13)) then (if (wrap64 ((wrap64 ((x0.size : Int) - 1)) - x13)) < (x0.size : Int) then (if 0 ≤ (wrap64 (8 * (Int.tmod x13 4))) then (nt_parse.l0 k x0 (x3.set ((wrap64 (Int.tdiv x13 4)) : Int).toNat (Go.bits .or .u32 (rd x3 (wrap64 (Int.tdiv x13 4))) (shl .u32 ((bt x0 (wrap64 ((wrap64 ((x0.size : Int) - 1)) - x13))) % 4294967296) (wrap64 (8 * (Int.tmod x13 4)))))) x12 (wrap64 (x13 + 1))) else (none)) else (none)) else (none)) else (none)) else (none)) else ((nt_limbs_trim.f k x3).bind fun t335 => (some t335))
def nt_parse.f (k : Nat) (a0 : ByteArray) : Option (List Int) := if 0 ≤ (wrap64 (Int.tdiv (wrap64 ((wrap64 ((a0.size : Int) + 4)) - 1)) 4)) then (if (wrap64 (Int.tdiv (wrap64 ((wrap64 ((a0.size : Int) + 4)) - 1)) 4) : Int).toNat ≤ 70368744177664 then (nt_parse.l0 k a0 (List.replicate (wrap64 (Int.tdiv (wrap64 ((wrap64 ((a0.size : Int) + 4)) - 1)) 4) : Int).toNat 0) (a0.size : Int) 0) else (none)) else (none)
theorem nt_parse.mono_l : ∀ k, (∀ y0 y1 y2 y3, LeO (nt_parse.l0 k y0 y1 y2 y3) (nt_parse.l0 (k + 1) y0 y1 y2 y3))
 | 0 => fun _ _ _ _ r h => by simp [nt_parse.l0] at h
 | k + 1 => by
  have ih0 := nt_parse.mono_l k
  ·intro y0 y1 y2 y3
   unfold nt_parse.l0
   have m0 := @ih0; have m1 := @nt_limbs_trim.mono; exact xM
theorem nt_parse.mono : ∀ a0 k, LeO (nt_parse.f k a0) (nt_parse.f (k + 1) a0) := by
 intro a0 k
 have ih0 := nt_parse.mono_l k
 unfold nt_parse.f
 have m0 := @ih0; have m1 := @nt_limbs_trim.mono; exact xM
def nt_parse.T5 : Bool × List (List Nat × List Nat) := (true, [([], []), ([], []), ([1], [1]), ([0, 2], [0, 2]), ([3], [3]), ([], []), ([], []), ([6], [6]), ([7], [7]), ([], []), ([8, 9], [8, 9]), ([5, 10], [5, 10]), ([11], [11]), ([], []), ([13], [13]), ([14], [14]), ([12, 15], [12, 15]), ([4, 16], [4, 16]), ([0, 2, 0, 1, 2, 3, 4, 5, 6, 7, 8, 9, 10, 11, 12, 13, 14, 15, 16, 17], [0, 2]), ([18, 17, 0, 1, 2, 3, 4, 5, 6, 7, 8, 9, 10, 11, 12, 13, 14, 15, 16, 17], [17, 18])])
def nt_parse.B5 : List Nat := [0, 0, 2, 7, 15, 0, 0, 64, 192, 0, 960, 2016, 4064, 0, 8192, 24576, 65504, 131071, 262143, 524287]
theorem nt_parse.tab5 : rtab .any (opsOf Tryd.f77 5) = nt_parse.T5 := by kernel_rfl
theorem nt_parse.bits5 : waitsOk nt_parse.T5.2 nt_parse.B5 = true := by kernel_rfl
theorem nt_parse.calls (k : Nat) (a0 : ByteArray) (r : List Int) (w : World) (h : nt_parse.f k a0 = some r) :
  Calls Tryd.prog 77 #[.string a0] w fun e w' => ∃ v0_ : Value, e = .returned (v0_) ∧ Kd.V (Kd.int .u32) 85 w' w.heap.size (fun k_ => (w.heap.size ≤ k_)) v0_ r ∧ Below w.heap.size w w' := by
 have HB := Aside0.mk (Below.refl w.heap.size w)
 have H := h; clear h
 unfold nt_parse.f at H
 generalize hji2 : (wrap64 (Int.tdiv (wrap64 ((wrap64 ((a0.size : Int) + 4)) - 1)) 4)) = ji2 at H
 have hji2w : (IntKind.i64.wrap (Int.tdiv (wrap64 ((wrap64 ((a0.size : Int) + 4)) - 1)) 4)) = ji2 := (i64_w _).trans hji2
 obtain ⟨c3b0, c3b1, H⟩ := xQt H
 obtain ⟨c4b0, c4b1, H⟩ := xQt H
 generalize hy330 : (List.replicate (ji2 : Int).toNat 0 : List Int) = y330 at H
 have Ny330 := Aside0.mk hy330.symm
 clear hy330
 have H' := Aside0.mk H
 clear H
 go_enter Tryd.func77, Tryd.ntmps77
 go_wp2_with ((with_reducible refine gate_dst (N := 10) rfl ?_); refine Kd.R_make (Kd.int .u32) _ 85 rfl (N := 10) rfl 83 _ _ rfl ji2 rfl rfl Tryd.underlying83 (.int .u32 0) 4 info85 rfl (by decide) (by omega) 0 (ok := fun _ => True) (okp := fun _ => True) rfl (fun _ hk => hk) trivial (xa) (Nat.le_trans (Nat.mul_le_mul_right _ (xa : ji2.toNat ≤ 70368744177664)) (by omega)) (Below.refl _ _) (Nat.le_refl _) ?_; intro v331 w5 ho6 hb hg_ hnew_; clear hg_ hnew_; (rw [← Ny330.out] at ho6); have HO332 := Aside0.mk (Kd.R_lower (Kd.R_newM (M := fun k_ => (w.heap.size ≤ k_)) ho6 (below_size (xs HB)) (fun k_ h_ => h_)) (below_size (xs HB))); replace HB := xS HB hb; clear hb ho6)
 go_loopg [13] k (fun kq v13 w' => ∃ (x3_1 : List Int) (x13_1 : Int), v13 = .int .i64 x13_1 ∧ Aside0 (nt_parse.l0 kq a0 x3_1 (a0.size : Int) x13_1 = some r) ∧ Aside0 (kq ≤ k) ∧ Aside0 (Kd.R (Kd.int .u32) 85 w' w.heap.size (fun k_ => (w.heap.size ≤ k_)) v331 x3_1) ∧ Aside0 (Below w.heap.size w w'))
 case atStart => exact ⟨(y330), (0), xz, H', ⟨Nat.le_refl _⟩, ⟨by exact Kd.R_mono HO332.out (fun _ hk => hk.1)⟩, ⟨xs HB⟩⟩
 case round =>
  clear H'
  clear c3b0 c3b1 c4b0 c4b1
  obtain ⟨x3_1, x13_1, rfl, HA, HK1, HO_3, HB⟩ := hrel
  cases gk with
  | zero => exact absurd HA.out (by simp [nt_parse.l0])
  | succ k1 =>
   have H := HA.out
   clear HA
   simp only [nt_parse.l0] at H
   obtain ⟨c7b0, H⟩ | ⟨c7b0, H⟩ := xOd H
   ·generalize hji8 : (wrap64 (Int.tdiv x13_1 4)) = ji8 at H
    have hji8w : (IntKind.i64.wrap (Int.tdiv x13_1 4)) = ji8 := (i64_w _).trans hji8
    obtain ⟨c9b0, H⟩ := xQd H
    obtain ⟨c10b0, H⟩ := xQd H
    generalize hji11 : (wrap64 ((wrap64 ((a0.size : Int) - 1)) - x13_1)) = ji11 at H
    have hji11w : (IntKind.i64.wrap ((wrap64 ((a0.size : Int) - 1)) - x13_1)) = ji11 := (i64_w _).trans hji11
    obtain ⟨c12b0, H⟩ := xQd H
    obtain ⟨c13b0, H⟩ := xQd H
    generalize hji15 : (wrap64 (8 * (Int.tmod x13_1 4))) = ji15 at H
    have hji15w : (IntKind.i64.wrap (8 * (Int.tmod x13_1 4))) = ji15 := (i64_w _).trans hji15
    obtain ⟨c16b0, c16b1, H⟩ := xQt H
    generalize hji17 : (shl .u32 ((bt a0 (ji11)) % 4294967296) (ji15)) = ji17 at H
    have hji17_ : (IntKind.u32.wrap (((bt a0 (ji11)) % 4294967296) * 2 ^ min (ji15).toNat 32)) = ji17 := hji17
    have hji17m : (((bt a0 (ji11)) % 4294967296) * 2 ^ min (ji15).toNat 32) % 4294967296 = ji17 := (IntKind.wrap_u32 _).symm.trans hji17
    have hji17z : (ji15) ≤ 32 → (IntKind.u32.wrap (((bt a0 (ji11)) % 4294967296) * 2 ^ (ji15).toNat)) = ji17 := shl_small hji17
    generalize hy334 : (x3_1.set ((ji8) : Int).toNat (Go.bits .or .u32 (rd x3_1 (ji8)) (ji17)) : List Int) = y334 at H
    have Ny334 := Aside0.mk hy334.symm
    clear hy334
    have H' := Aside0.mk H
    clear H
    try go_wp2
    replace HO_3 := Aside0.mk (Kd.R_drew HO_3.out)
    replace HB := xW HB
    obtain ⟨Ao20, co20, eo20⟩ := Kd.R_slice HO_3.out
    subst eo20
    obtain ⟨p333, q333, ad333, e333, hx333_0⟩ := xA (Kd.at_int (Kd.R_reads' HO_3.out).2.2 (ji8))
    cases e333
    have p14 : 0 ≤ ((ji11) : Int) := xa
    have q14 : (ji11) < (a0.size : Int) := xa
    have hx14 := bt_at a0 (ji11)
    replace p14 := eq_true p14
    replace q14 := eq_true q14
    have p18 : 0 ≤ ((ji8) : Int) := xa
    have q18 : ((ji8) : Int) < ((x3_1.length : Int) : Int) := xa
    obtain ⟨go18, co18, eo18, gb18, gl18, cl18, HG18⟩ := Kd.R_form HO_3.out (by omega)
    cases eo18
    have GB18 := Aside0.mk gb18
    have GG18 := Aside0.mk HG18
    clear gb18 gl18 HG18
    simp only [add_plain] at hx333_0
    obtain ⟨hx18_0, hf18_0⟩ := Kd.R_celln 0 HO_3.out ((ji8) : Int) p18 q18
    replace p18 := eq_true p18
    replace q18 := eq_true q18
    have HP21 := Kd.R_putn HO_3.out ((ji8) : Int) (Go.bits .or .u32 (rd x3_1 (ji8)) (ji17))
    rw [← Ny334.out] at HP21
    have HQ21 := Aside0.mk HP21
    clear HP21
    refine start_ (n := 20) (S := fun w' => w'.cell? ⟨go18, (ji8).toNat, none⟩ = some (.int .u32 (rd x3_1 (ji8)))) (ds := [19]) (b 20 0) (by kernel_rfl) rfl rfl (hx333_0) (fun hHeld => ?_); refine with_tabW nt_parse.tab5 nt_parse.bits5 (fun HT_ HW_ => ?_)
    generalize wr.drew = w19 at HO_3 HB GG18 HQ21 hf18_0 hx18_0 hx333_0 hHeld ⊢
    refine yP 0 (some 16) (b 20 1) ?_
    refine yP 1 (some 17) (b 20 3) ?_
    refine yP 2 (some 18) (b 20 7) ?_
    refine yP 3 (some 19) (b 20 15) ?_
    refine yP 5 (some 21) (b 20 47) ?_
    refine yP 6 (some 22) (b 20 111) ?_
    refine yP 7 (some 23) (b 20 239) ?_
    refine yP 8 (some 24) (b 20 495) ?_
    refine yP 9 (some 25) (b 20 1007) ?_
    refine yP 10 (some 26) (b 20 2031) ?_
    refine yP 13 (some 29) (b 20 10223) ?_
    refine yP 14 (some 30) (b 20 26607) ?_
    refine yP 15 (some 31) (b 20 59375) ?_
    refine yT 4 (some 20) (b 20 59391) hHeld ?_
    refine yT 11 (some 27) (b 20 61439) hHeld ?_
    refine yP 12 (some 28) (b 20 65535) ?_
    refine yP 16 (some 32) (b 20 131071) ?_
    refine yP 17 (some 33) (b 20 262143) ?_
    refine yP 18 (some 34) (b 20 524287) ?_
    refine yZ 19 none (b 20 1048575) fun K hK => ?_
    refine xk ?_
    refine hK.out _ _ ?_
    clear hK K
    refine done_ (done_of HT_.out (by kernel_rfl)) ?_
    try go_wp2
    go_roundg k1
    case measure => have := HK1.out; omega
    case rel => exact ⟨(y334), (wrap64 (x13_1 + 1)), xz, H', ⟨by have := HK1.out; omega⟩, ⟨by (have q_ := HQ21.out; simp only [← hji17m] at q_; exact q_)⟩, ⟨xs HB⟩⟩
   replace H := xH H; obtain ⟨t335, A22, H⟩ := H
   obtain rfl := Option.some.inj H
   obtain ⟨Ao23, co23, eo23⟩ := Kd.R_slice HO_3.out
   subst eo23
   go_wp2_with (refine xg Tryd.func98 (some 37) #[.slice Ao23 x3_1.length co23] ?_; (with_reducible refine (nt_limbs_trim.calls k1 (fun k_ => some k_ = (.slice Ao23 x3_1.length co23 : Value).ownBlock) _ _ x3_1 t335 _ ?side1 A22.out).mono ?_); (case side1 => exact Kd.R_V (Kd.R_tight rfl (HO_3.out))); rintro e w24 ⟨v336, rfl, ho0, hb⟩; refine ⟨_, rfl, ?_⟩; have HO337 := xVm w (fun k_ => (w.heap.size ≤ k_)) ho0 (fun k_ hk_ => Or.elim hk_ (fun hs_ => ((HO_3.out).1 k_ hs_.symm)) (fun hn_ => (Nat.le_trans (below_size (xs HB)) hn_))); replace HO_3 := xRb HO_3 hb; replace HB := xS HB hb; clear hb ho0)
   go_ret
   exact ⟨_, by rfl, HO337.out, xs HB⟩
/-! ### nt_limbs_text: function 78 -/
def nt_limbs_text.l0 : Nat → List Int → List Int → Int → Int → Option (ByteArray)
 | 0, _, _, _, _ => none
 | k + 1, x0, x3, x10, x11 => if x11 < x10 then (if 0 ≤ (wrap64 (Int.tdiv x11 4)) then (if (wrap64 (Int.tdiv x11 4)) < (x0.length : Int) then (if 0 ≤ (wrap64 (8 * (Int.tmod x11 4))) then (if 0 ≤ (wrap64 ((wrap64 ((x3.length : Int) - 1)) - x11)) then (if (wrap64 ((wrap64 ((x3.length : Int) - 1)) - x11)) < (x3.length : Int) then (nt_limbs_text.l0 k x0 (x3.set ((wrap64 ((wrap64 ((x3.length : Int) - 1)) - x11)) : Int).toNat ((shr .u32 (rd x0 (wrap64 (Int.tdiv x11 4))) (wrap64 (8 * (Int.tmod x11 4)))) % 256)) x10 (wrap64 (x11 + 1))) else (none)) else (none)) else (none)) else (none)) else (none)) else ((nt_Normalize.f k (strOfNums x3)).bind fun t343 => (some t343))
def nt_limbs_text.f (k : Nat) (l0 : List Int) : Option (ByteArray) := if 0 ≤ (wrap64 ((l0.length : Int) * 4)) then (if (wrap64 ((l0.length : Int) * 4) : Int).toNat ≤ 281474976710656 then ((some (List.replicate (wrap64 ((l0.length : Int) * 4) : Int).toNat 0 : List Int)).bind fun y338 => (nt_limbs_text.l0 k l0 y338 (y338.length : Int) 0)) else (none)) else (none)
theorem nt_limbs_text.mono_l : ∀ k, (∀ y0 y1 y2 y3, LeO (nt_limbs_text.l0 k y0 y1 y2 y3) (nt_limbs_text.l0 (k + 1) y0 y1 y2 y3))
 | 0 => fun _ _ _ _ r h => by simp [nt_limbs_text.l0] at h
 | k + 1 => by
  have ih0 := nt_limbs_text.mono_l k
  ·intro y0 y1 y2 y3
   unfold nt_limbs_text.l0
   have m0 := @ih0; have m1 := @nt_Normalize.mono; exact xM
theorem nt_limbs_text.mono : ∀ a0 k, LeO (nt_limbs_text.f k a0) (nt_limbs_text.f (k + 1) a0) := by
 intro a0 k
 have ih0 := nt_limbs_text.mono_l k
 unfold nt_limbs_text.f
 have m0 := @ih0; have m1 := @nt_Normalize.mono; exact xM
theorem nt_limbs_text.calls (k : Nat) (A0 : Option Addr) (c0 : Nat) (l0 : List Int) (r : ByteArray) (w : World) (hr0 : Kd.C (Kd.int .u32) w A0 l0.length l0) (hc0 : l0.length ≤ c0) (h : nt_limbs_text.f k l0 = some r) :
  Calls Tryd.prog 78 #[.slice A0 l0.length c0] w fun e w' => e = .returned (.string r) ∧ Below w.heap.size w w' := by
 have HR0 := Aside0.mk hr0
 have HC0 := Aside0.mk hc0
 clear hr0 hc0
 have HB := Aside0.mk (Below.refl w.heap.size w)
 have H := h; clear h
 unfold nt_limbs_text.f at H
 generalize hji2 : (wrap64 ((l0.length : Int) * 4)) = ji2 at H
 have hji2w : (IntKind.i64.wrap ((l0.length : Int) * 4)) = ji2 := (i64_w _).trans hji2
 obtain ⟨c3b0, c3b1, H⟩ := xQt H
 obtain ⟨c4b0, c4b1, H⟩ := xQt H
 obtain ⟨y338, Ny338, H⟩ := xYa H
 have H' := Aside0.mk H
 clear H
 go_enter Tryd.func78, Tryd.ntmps78
 go_wp2_with ((with_reducible refine gate_dst (N := 8) rfl ?_); refine Kd.R_make (Kd.int .u8) _ 5 rfl (N := 8) rfl 103 _ _ rfl ji2 rfl rfl Tryd.underlying103 (.int .u8 0) 1 info5 rfl (by decide) (by omega) 0 (ok := fun _ => True) (okp := fun _ => True) rfl (fun _ hk => hk) trivial (xa) (Nat.le_trans (Nat.mul_le_mul_right _ (xa : ji2.toNat ≤ 281474976710656)) (by omega)) (Below.refl _ _) (Nat.le_refl _) ?_; intro v339 w5 ho6 hb hg_ hnew_; clear hg_ hnew_; (rw [← Ny338.out] at ho6); have HO340 := Aside0.mk (Kd.R_lower ho6 (below_size (xs HB))); replace HB := xS HB hb; clear hb ho6; obtain ⟨Ao7, co7, eo7⟩ := Kd.R_slice HO340.out; subst eo7)
 go_loopg [11] k (fun kq v11 w' => ∃ (x3_1 : List Int) (x11_1 : Int), v11 = .int .i64 x11_1 ∧ Aside0 (nt_limbs_text.l0 kq l0 x3_1 (y338.length : Int) x11_1 = some r) ∧ Aside0 (kq ≤ k) ∧ Aside0 (Kd.R (Kd.int .u8) 5 w' w.heap.size (fun _ => True) (.slice Ao7 y338.length co7) x3_1) ∧ Aside0 (Below w.heap.size w w'))
 case atStart => exact ⟨(y338), (0), xz, H', ⟨Nat.le_refl _⟩, ⟨xr HO340.out⟩, ⟨xs HB⟩⟩
 case round =>
  clear H'
  clear c3b0 c3b1 c4b0 c4b1
  obtain ⟨x3_1, x11_1, rfl, HA, HK1, HO_3, HB⟩ := hrel
  have hl3_1 := (Kd.R_reads' HO_3.out).1
  rw [hl3_1] at HO_3
  (try simp only [hl3_1])
  cases gk with
  | zero => exact absurd HA.out (by simp [nt_limbs_text.l0])
  | succ k1 =>
   have H := HA.out
   clear HA
   simp only [nt_limbs_text.l0] at H
   obtain ⟨c8, H⟩ | ⟨c8, H⟩ := xO H
   ·have c8b0 := decide_eq_true c8
    (try simp only [hl3_1] at c8b0)
    clear c8
    generalize hji9 : (wrap64 (Int.tdiv x11_1 4)) = ji9 at H
    have hji9w : (IntKind.i64.wrap (Int.tdiv x11_1 4)) = ji9 := (i64_w _).trans hji9
    obtain ⟨c10b0, H⟩ := xQd H
    obtain ⟨c11, H⟩ := xQ H
    have c11b0 := decide_eq_true c11
    clear c11
    generalize hji12 : (wrap64 (8 * (Int.tmod x11_1 4))) = ji12 at H
    have hji12w : (IntKind.i64.wrap (8 * (Int.tmod x11_1 4))) = ji12 := (i64_w _).trans hji12
    obtain ⟨c13b0, c13b1, H⟩ := xQt H
    generalize hji14 : (shr .u32 (rd l0 (ji9)) (ji12)) = ji14 at H
    have hji14_ : ((rd l0 (ji9)) / 2 ^ min (ji12).toNat 32) = ji14 := hji14
    have hji14z : (ji12) ≤ 32 → ((rd l0 (ji9)) / 2 ^ (ji12).toNat) = ji14 := shr_small hji14
    generalize hji15 : (wrap64 ((wrap64 ((x3_1.length : Int) - 1)) - x11_1)) = ji15 at H
    have hji15w : (IntKind.i64.wrap ((wrap64 ((x3_1.length : Int) - 1)) - x11_1)) = ji15 := (i64_w _).trans hji15
    obtain ⟨c16b0, H⟩ := xQd H
    obtain ⟨c17, H⟩ := xQ H
    have c17b0 := decide_eq_true c17
    clear c17
    generalize hy342 : (x3_1.set ((ji15) : Int).toNat ((ji14) % 256) : List Int) = y342 at H
    have Ny342 := Aside0.mk hy342.symm
    clear hy342
    have H' := Aside0.mk H
    clear H
    obtain ⟨p341, q341, ad341, e341, hx341_0⟩ := xA (Kd.at_int HR0.out (ji9))
    cases e341
    (try replace hx341_0 := xcl HB hx341_0)
    have p18 : 0 ≤ ((ji15) : Int) := xa
    have q18 : ((ji15) : Int) < ((x3_1.length : Int) : Int) := xa
    obtain ⟨go18, co18, eo18, gb18, gl18, cl18, HG18⟩ := Kd.R_form HO_3.out (by omega)
    cases eo18
    have GB18 := Aside0.mk gb18
    have GG18 := Aside0.mk HG18
    clear gb18 gl18 HG18
    obtain ⟨hx18_0, hf18_0⟩ := Kd.R_celln 0 HO_3.out ((ji15) : Int) p18 q18
    replace p18 := eq_true p18
    replace q18 := eq_true q18
    have HP19 := Kd.R_putg HO_3.out ((ji15) : Int) ((ji14) % 256)
    go_wp2_with (refine xst 5 30 (wr.setCell ⟨go18, ((ji15) : Int).toNat, none⟩ (.int .u8 ((ji14) % 256))) ?_; intro w20 hw; have hg : wr.grownBy w20 (some go18) := (by rw [hw]; exact HP19.2); have hp_ : Kd.R (Kd.int .u8) 5 w20 w.heap.size (fun _ => True) (.slice (some ⟨go18, 0, none⟩) x3_1.length co7) y342 := (by rw [hw, Ny342.out]; exact HP19.1); clear HP19; replace HO_3 := Aside0.mk (hp_); replace HB := Aside0.mk (by rw [hw]; exact below_set (HB.out) GB18.out : Below w.heap.size w w20); clear hg hw hp_)
    (try simp only [← hl3_1])
    go_roundg k1
    case measure => have := HK1.out; omega
    case rel => exact ⟨(y342), (wrap64 (x11_1 + 1)), xz, H', ⟨by have := HK1.out; omega⟩, ⟨by (try simp only [hl3_1]); exact HO_3.out⟩, ⟨xs HB⟩⟩
   have c8b0 := decide_eq_false c8
   (try simp only [hl3_1] at c8b0)
   clear c8
   replace H := xH H; obtain ⟨t343, A21, H⟩ := H
   obtain rfl := Option.some.inj H
   have hcv22 := own_string (P := Tryd.prog) Tryd.underlying103 Tryd.underlying5 Tryd.underlying9 (Kd.own_of_R HO_3.out)
   go_wp2_with (refine xC Tryd.func74 (some 34) (nt_Normalize.calls k1 (strOfNums x3_1) t343 _ A21.out) ?_; rintro w23 hb; replace HO_3 := xRb HO_3 hb; replace HB := xS HB hb; clear hb)
   go_ret
   exact ⟨by rfl, xs HB⟩
/-! ### nt_sign: function 75 -/
def nt_sign.f (a0 : Int) : Option (Int) := if a0 < 0 then (some (-1)) else (if a0 > 0 then (some 1) else (some 0))
theorem nt_sign.calls (a0 : Int) (r : Int) (w : World) (h : nt_sign.f a0 = some r) :
  Calls Tryd.prog 75 #[.int .i64 a0] w fun e w' => e = .returned (.int .i64 r) ∧ Drawn0 w w' := by
 have H := h; clear h
 unfold nt_sign.f at H
 obtain ⟨c2b0, H⟩ | ⟨c2b0, H⟩ := xOd H
 ·obtain rfl := Option.some.inj H
  go_enter Tryd.func75, Tryd.ntmps75
  go_wp2
  go_ret
  exact ⟨xz, xd⟩
 obtain ⟨c3b0, H⟩ | ⟨c3b0, H⟩ := xOd H
 ·obtain rfl := Option.some.inj H
  go_enter Tryd.func75, Tryd.ntmps75
  go_wp2
  go_ret
  exact ⟨xz, xd⟩
 obtain rfl := Option.some.inj H
 go_enter Tryd.func75, Tryd.ntmps75
 go_wp2
 go_ret
 exact ⟨xz, xd⟩
/-! ### nt_compare: function 94 -/
def nt_compare.l0 : Nat → List Int → List Int → Int → Option (Int)
 | 0, _, _, _ => none
 | k + 1, x0, x1, x5 => if x5 ≥ 0 then (if 0 ≤ x5 then (if x5 < (x0.length : Int) then (if x5 < (x1.length : Int) then (if (rd x0 x5) = (rd x1 x5) then (nt_compare.l0 k x0 x1 (wrap64 (x5 - 1))) else (if (rd x0 x5) < (rd x1 x5) then (some (-1)) else (some 1))) else (none)) else (none)) else (none)) else (some 0)
def nt_compare.f (k : Nat) (l0 : List Int) (l1 : List Int) : Option (Int) := if (l0.length : Int) = (l1.length : Int) then (nt_compare.l0 k l0 l1 (wrap64 ((l0.length : Int) - 1))) else ((nt_sign.f (wrap64 ((l0.length : Int) - (l1.length : Int)))).bind fun t344 => (some t344))
theorem nt_compare.mono_l : ∀ k, (∀ y0 y1 y2, LeO (nt_compare.l0 k y0 y1 y2) (nt_compare.l0 (k + 1) y0 y1 y2))
 | 0 => fun _ _ _ r h => by simp [nt_compare.l0] at h
 | k + 1 => by
  have ih0 := nt_compare.mono_l k
  ·intro y0 y1 y2
   unfold nt_compare.l0
   have m0 := @ih0; exact xM
theorem nt_compare.mono : ∀ a0 a1 k, LeO (nt_compare.f k a0 a1) (nt_compare.f (k + 1) a0 a1) := by
 intro a0 a1 k
 have ih0 := nt_compare.mono_l k
 unfold nt_compare.f
 have m0 := @ih0; exact xM
theorem nt_compare.calls (k : Nat) (A0 : Option Addr) (c0 : Nat) (l0 : List Int) (A1 : Option Addr) (c1 : Nat) (l1 : List Int) (r : Int) (w : World) (hr0 : Kd.C (Kd.int .u32) w A0 l0.length l0) (hc0 : l0.length ≤ c0) (hr1 : Kd.C (Kd.int .u32) w A1 l1.length l1) (hc1 : l1.length ≤ c1) (h : nt_compare.f k l0 l1 = some r) :
  Calls Tryd.prog 94 #[.slice A0 l0.length c0, .slice A1 l1.length c1] w fun e w' => e = .returned (.int .i64 r) ∧ Drawn0 w w' := by
 have HR0 := Aside0.mk hr0
 have HC0 := Aside0.mk hc0
 clear hr0 hc0
 have HR1 := Aside0.mk hr1
 have HC1 := Aside0.mk hc1
 clear hr1 hc1
 have H := h; clear h
 unfold nt_compare.f at H
 obtain ⟨c3, H⟩ | ⟨c3, H⟩ := xO H
 ·have c3b0 := beq_iff_eq.mpr c3
  have c3b1 := bne_eq_false_iff_eq.mpr c3
  have c3b2 : (l0.length == l1.length) = true := by (simp at c3 ⊢; omega)
  clear c3
  have H' := Aside0.mk H
  clear H
  go_enter Tryd.func94, Tryd.ntmps94
  go_wp2
  repeat (go_quiet (fail); try go_wp2)
  go_loopg [5] k (fun kq v5 w' => ∃ (x5_1 : Int), v5 = .int .i64 x5_1 ∧ Aside0 (nt_compare.l0 kq l0 l1 x5_1 = some r) ∧ Aside0 (kq ≤ k) ∧ Drawn0 w w')
  case atStart => exact ⟨(wrap64 ((l0.length : Int) - 1)), xz, H', ⟨Nat.le_refl _⟩, xd⟩
  case round =>
   clear H'
   clear c3b0 c3b1 c3b2
   obtain ⟨x5_1, rfl, HA, HK1, ⟨m1, rfl⟩⟩ := hrel
   cases gk with
   | zero => exact absurd HA.out (by simp [nt_compare.l0])
   | succ k1 =>
    have H := HA.out
    clear HA
    simp only [nt_compare.l0] at H
    obtain ⟨c4b0, H⟩ | ⟨c4b0, H⟩ := xOd H
    ·obtain ⟨c5b0, H⟩ := xQd H
     obtain ⟨c6b0, H⟩ := xQd H
     obtain ⟨c7b0, H⟩ := xQd H
     obtain ⟨c8, H⟩ | ⟨c8, H⟩ := xO H
     ·have c8b0 := beq_iff_eq.mpr c8
      have c8b1 := bne_eq_false_iff_eq.mpr c8
      clear c8
      have H' := Aside0.mk H
      clear H
      obtain ⟨p345, q345, ad345, e345, hx345_0⟩ := xA (Kd.at_int HR0.out x5_1)
      cases e345
      obtain ⟨p346, q346, ad346, e346, hx346_0⟩ := xA (Kd.at_int HR1.out x5_1)
      cases e346
      go_wp2
      repeat (go_quiet (fail); try go_wp2)
      go_roundg k1
      case measure => have := HK1.out; omega
      case rel => exact ⟨(wrap64 (x5_1 - 1)), xz, H', ⟨by have := HK1.out; omega⟩, xd⟩
     have c8b0 := beq_eq_false_iff_ne.mpr c8
     have c8b1 := bne_iff_ne.mpr c8
     obtain ⟨c9b0, H⟩ | ⟨c9b0, H⟩ := xOd H
     ·obtain rfl := Option.some.inj H
      obtain ⟨p345, q345, ad345, e345, hx345_0⟩ := xA (Kd.at_int HR0.out x5_1)
      cases e345
      obtain ⟨p346, q346, ad346, e346, hx346_0⟩ := xA (Kd.at_int HR1.out x5_1)
      cases e346
      obtain ⟨p347, q347, ad347, e347, hx347_0⟩ := xA (Kd.at_int HR0.out x5_1)
      obtain rfl : ad345 = ad347 := (by injection e347)
      obtain ⟨p348, q348, ad348, e348, hx348_0⟩ := xA (Kd.at_int HR1.out x5_1)
      obtain rfl : ad346 = ad348 := (by injection e348)
      go_wp2
      repeat (go_quiet (fail); try go_wp2)
      go_ret
      exact ⟨xz, xd⟩
     obtain rfl := Option.some.inj H
     obtain ⟨p345, q345, ad345, e345, hx345_0⟩ := xA (Kd.at_int HR0.out x5_1)
     cases e345
     obtain ⟨p346, q346, ad346, e346, hx346_0⟩ := xA (Kd.at_int HR1.out x5_1)
     cases e346
     obtain ⟨p347, q347, ad347, e347, hx347_0⟩ := xA (Kd.at_int HR0.out x5_1)
     obtain rfl : ad345 = ad347 := (by injection e347)
     obtain ⟨p348, q348, ad348, e348, hx348_0⟩ := xA (Kd.at_int HR1.out x5_1)
     obtain rfl : ad346 = ad348 := (by injection e348)
     go_wp2
     repeat (go_quiet (fail); try go_wp2)
     go_ret
     exact ⟨xz, xd⟩
    obtain rfl := Option.some.inj H
    go_wp2
    repeat (go_quiet (fail); try go_wp2)
    go_ret
    exact ⟨xz, xd⟩
 have c3b0 := beq_eq_false_iff_ne.mpr c3
 have c3b1 := bne_iff_ne.mpr c3
 have c3b2 : (l0.length == l1.length) = false := by (simp at c3 ⊢; omega)
 replace H := xH H; obtain ⟨t344, A10, H⟩ := H
 obtain rfl := Option.some.inj H
 go_enter Tryd.func94, Tryd.ntmps94
 go_wp2_with (go_at_call 75; (with_reducible refine (nt_sign.calls (wrap64 ((l0.length : Int) - (l1.length : Int))) t344 _ A10.out).mono ?_); rintro e w' ⟨rfl, ⟨nd, rfl⟩⟩; (try first | exact ⟨rfl, _, World.drewN_drewN _ _ _⟩ | exact ⟨rfl, _, Eq.trans (World.drewN_drewN _ _ _) (congrArg (World.drewN _) (Nat.add_assoc _ _ _))⟩))
 repeat (go_quiet ((go_at_call 75; (with_reducible refine (nt_sign.calls (wrap64 ((l0.length : Int) - (l1.length : Int))) t344 _ A10.out).mono ?_); rintro e w' ⟨rfl, ⟨nd, rfl⟩⟩; (try first | exact ⟨rfl, _, World.drewN_drewN _ _ _⟩ | exact ⟨rfl, _, Eq.trans (World.drewN_drewN _ _ _) (congrArg (World.drewN _) (Nat.add_assoc _ _ _))⟩))); try go_wp2_with (go_at_call 75; (with_reducible refine (nt_sign.calls (wrap64 ((l0.length : Int) - (l1.length : Int))) t344 _ A10.out).mono ?_); rintro e w' ⟨rfl, ⟨nd, rfl⟩⟩; (try first | exact ⟨rfl, _, World.drewN_drewN _ _ _⟩ | exact ⟨rfl, _, Eq.trans (World.drewN_drewN _ _ _) (congrArg (World.drewN _) (Nat.add_assoc _ _ _))⟩)))
 go_ret
 exact ⟨xz, xd⟩
end Go.Proofs.YtpoogjcgjpkbeaaDoor.XA
