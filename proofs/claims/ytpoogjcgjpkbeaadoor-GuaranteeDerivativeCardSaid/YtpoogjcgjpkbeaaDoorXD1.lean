/- Walks of functions of the program: a plain Lean function for each, and a proof that a call answers as it says. Written by a program (the kit's print with changes, then shortened). -/
import Derived.Test.YtpoogjcgjpkbeaaDoorProg
import Derived.Below
import Derived.Deep.Draws
import Derived.Deep.AppendLies
import Derived.Maps.AppendAt
import Derived.OwnWalk
import Derived.Laws.BytesArg
import Derived.Laws.MakeOwn
import Derived.Laws.OwnMore
import Derived.Deep.OwnRows
import Derived.Tactics
import Derived.Lib.ConvBytes
import Derived.Laws.Slices
import Derived.WalkKit
import Derived.KernelRfl
import Derived.RowKit3
import Derived.Deep.LoopGhost
import Derived.Deep.QuietTactic
import Derived.BigQuiet
import Derived.WideLaws
import Derived.Deep.DeepCutAuto
import Derived.Deep.CutBlock
import Derived.Deep.RegionHeld3
import Derived.Laws.Rows
import Derived.Lib.AppendStr
import Derived.ArgAppend
import Derived.Laws.IdiomCopy
import Derived.OrdersHeld
import Derived.Laws.BitsLemmas
import Derived.RowKit
import Derived.Test.YtpoogjcgjpkbeaaDoorWWords
import Derived.Test.YtpoogjcgjpkbeaaDoorWLast
import Derived.Test.YtpoogjcgjpkbeaaDoorWTab
import Derived.Test.YtpoogjcgjpkbeaaDoorWFour
import Derived.Test.YtpoogjcgjpkbeaaDoorWQPut
import Derived.Test.YtpoogjcgjpkbeaaDoorWApart
import Derived.Test.YtpoogjcgjpkbeaaDoorWArr
import Derived.Test.YtpoogjcgjpkbeaaDoorWZeros
import Derived.Test.YtpoogjcgjpkbeaaDoorWFoot
import Derived.Test.YtpoogjcgjpkbeaaDoorWKept
import Derived.Test.YtpoogjcgjpkbeaaDoorWShare
import Derived.Test.YtpoogjcgjpkbeaaDoorWN
import Derived.Test.YtpoogjcgjpkbeaaDoorWFootNe
import Derived.Test.YtpoogjcgjpkbeaaDoorWAt
import Derived.Test.YtpoogjcgjpkbeaaDoorWEqStruct
import Derived.Test.YtpoogjcgjpkbeaaDoorWRepsOne
import Derived.Test.YtpoogjcgjpkbeaaDoorWInv
import Derived.Test.YtpoogjcgjpkbeaaDoorWInvWords
import Derived.Test.YtpoogjcgjpkbeaaDoorWGuard
import Derived.Test.YtpoogjcgjpkbeaaDoorWNEv
import Derived.Test.YtpoogjcgjpkbeaaDoorWMore
import Derived.Test.YtpoogjcgjpkbeaaDoorWMine
import Derived.Test.YtpoogjcgjpkbeaaDoorWWin
import Derived.Test.YtpoogjcgjpkbeaaDoorWShelf
import Derived.Test.YtpoogjcgjpkbeaaDoorWSq
namespace Go.Proofs.YtpoogjcgjpkbeaaDoor.XC
open Go.RowKit Go.Proofs.YtpoogjcgjpkbeaaDoorW.PrintWords Go.Proofs.YtpoogjcgjpkbeaaDoorW.PrintLast Go.Proofs.YtpoogjcgjpkbeaaDoorW.PrintMore Go.Proofs.YtpoogjcgjpkbeaaDoorW.Sq
attribute [local go_sem] max2_int min2_int max_two min_two max_three min_three max_four min_four   -- for this text's walks alone
set_option linter.unusedVariables false
set_option linter.unusedSimpArgs false
def errW : Option Int → Value
 | none => .nilIface
 | some c => .iface 0 (.int .i64 c)
theorem errW_none : errW none = .nilIface := rfl
theorem errW_some (c : Int) : errW (some c) = .iface 0 (.int .i64 c) := rfl
theorem info5 : (Tryd.prog.info? 5).map (fun i => (i.zero, i.size, i.bytes)) = some (some (.int .u8 0), 1, 1) := by kernel_rfl
theorem info25 : (Tryd.prog.info? 25).map (fun i => (i.zero, i.size, i.bytes)) = some (some (.agg #[(.bool false), (.string ⟨#[]⟩), (.string ⟨#[]⟩)]), 3, 40) := by kernel_rfl
theorem info85 : (Tryd.prog.info? 85).map (fun i => (i.zero, i.size, i.bytes)) = some (some (.int .u32 0), 1, 4) := by kernel_rfl
-- the values' own types
/-! #### struct type 25 -/
structure S25 where
 f0 : Bool
 f1 : ByteArray
 f2 : ByteArray
def z25 : S25 := ⟨false, (⟨#[]⟩ : ByteArray), (⟨#[]⟩ : ByteArray)⟩
def k25 : Kd S25 := Kd.iso (Kd.pair Kd.bool (Kd.pair Kd.string Kd.string)) (fun x : S25 => (x.f0, x.f1, x.f2))
theorem k25_heap : Kd.Heap k25 := Kd.heap_iso _ (Kd.heap_pair Kd.heap_bool (Kd.heap_pair Kd.heap_string Kd.heap_string))
theorem k25_open {w : World} {x : S25} {cs : List Value} (h : k25.K w x cs) : cs = [.bool x.f0, .string x.f1, .string x.f2] := by
 obtain ⟨_, _, rfl, rfl, ⟨_, _, rfl, rfl, rfl⟩⟩ := h
 exact rfl
theorem k25_openM {w : World} {base : Nat} {ok : Nat → Prop} {x : S25} {cs : List Value} (h : k25.M w base ok x cs) : cs = [.bool x.f0, .string x.f1, .string x.f2] := by
 obtain ⟨_, _, rfl, rfl, ⟨_, _, rfl, rfl, rfl⟩⟩ := h
 exact rfl
theorem k25_mk (w : World) (x : S25)  : k25.K w x [.bool x.f0, .string x.f1, .string x.f2] := ⟨[.bool x.f0], [.string x.f1, .string x.f2], rfl, rfl, ⟨[.string x.f1], [.string x.f2], rfl, rfl, rfl⟩⟩
theorem k25_mkM (w : World) (base : Nat) (ok : Nat → Prop) (x : S25)  : k25.M w base ok x [.bool x.f0, .string x.f1, .string x.f2] := ⟨[.bool x.f0], [.string x.f1, .string x.f2], rfl, rfl, ⟨[.string x.f1], [.string x.f2], rfl, rfl, rfl⟩⟩
theorem k25_mkF (W : World) (ok : Nat → Prop) (x : S25) : Kd.FK k25 W ok x [.bool x.f0, .string x.f1, .string x.f2] := fun W2 _ => k25_mk W2 x
def rd_T25 (xs : List S25) (i : Int) : S25 := xs.getD i.toNat z25
theorem at_T25 {w : World} {A : Option Addr} {n : Nat} {xs : List S25} (h : Kd.C k25 w A n xs) (i : Int) (h0 : 0 ≤ i) (h1 : i < n) : ∃ ad , A = some ad ∧ w.cell? (ad.add (i.toNat * 3)) = some (.bool (rd_T25 xs i).f0) ∧ w.cell? ⟨(ad.add (i.toNat * 3)).block, (ad.add (i.toNat * 3)).off + 1, none⟩ = some (.string (rd_T25 xs i).f1) ∧ w.cell? ⟨(ad.add (i.toNat * 3)).block, (ad.add (i.toNat * 3)).off + 2, none⟩ = some (.string (rd_T25 xs i).f2) := by
 obtain ⟨ad, c, e, _, hK, hc0⟩ := Kd.C_get h z25 i h0 h1
 have hc : ∀ j u, c[j]? = some u → w.cell? (ad.add (i.toNat * 3 + j)) = some u := hc0
 obtain rfl := k25_open hK
 exact ⟨ad, e, hc 0 _ rfl, by rw [← add_field _ _ 1 (by omega)]; exact hc 1 _ rfl, by rw [← add_field _ _ 2 (by omega)]; exact hc 2 _ rfl⟩
theorem eqA25 (d : Nat) (w : World) (x0 y0 : Bool) (x1 y1 : ByteArray) (x2 y2 : ByteArray) :
  (Op.equalIn (d + 2) 25 (.agg #[.bool x0, .string x1, .string x2]) (.agg #[.bool y0, .string y1, .string y2])).run Tryd.prog w = .ok (x0 == y0 && (x1.toList == y1.toList && (x2.toList == y2.toList))) w := by
 refine eqA_of Tryd.underlying25 (by kernel_rfl) ?_
 refine eqf_cons (by rfl) (by go_simp; rfl) (by go_simp; rfl) (by go_simp) ?_
 refine eqf_cons (by rfl) (by go_simp; rfl) (by go_simp; rfl) (by go_simp) ?_
 exact eqf_last (by rfl) (by go_simp; rfl) (by go_simp; rfl) (by go_simp)
/-! ### insolvencyref1_Normalize: function 89 -/
def insolvencyref1_Normalize.l0 : Nat → ByteArray → Int → Option (ByteArray)
 | 0, _, _ => none
 | k + 1, x0, x3 => if x3 < (x0.size : Int) then (if 0 ≤ x3 then (if (bt x0 x3) = 0 then (insolvencyref1_Normalize.l0 k x0 (wrap64 (x3 + 1))) else (if x3 ≤ (x0.size : Int) then (some (x0.extract (x3 : Int).toNat x0.size)) else (none))) else (none)) else (if 0 ≤ x3 then (if x3 ≤ (x0.size : Int) then (some (x0.extract (x3 : Int).toNat x0.size)) else (none)) else (none))
def insolvencyref1_Normalize.f (k : Nat) (a0 : ByteArray) : Option (ByteArray) := insolvencyref1_Normalize.l0 k a0 0
theorem insolvencyref1_Normalize.mono_l : ∀ k, (∀ y0 y1, LeO (insolvencyref1_Normalize.l0 k y0 y1) (insolvencyref1_Normalize.l0 (k + 1) y0 y1))
 | 0 => fun _ _ r h => by simp [insolvencyref1_Normalize.l0] at h
 | k + 1 => by
  have ih0 := insolvencyref1_Normalize.mono_l k
  ·intro y0 y1
   unfold insolvencyref1_Normalize.l0
   have m0 := @ih0; exact xM
theorem insolvencyref1_Normalize.mono : ∀ a0 k, LeO (insolvencyref1_Normalize.f k a0) (insolvencyref1_Normalize.f (k + 1) a0) := by
 intro a0 k
 have ih0 := insolvencyref1_Normalize.mono_l k
 unfold insolvencyref1_Normalize.f
 have m0 := @ih0; exact xM
set_option maxHeartbeats 8000000 in
set_option maxRecDepth 100000 in
theorem insolvencyref1_Normalize.calls (k : Nat) (a0 : ByteArray) (r : ByteArray) (w : World) (h : insolvencyref1_Normalize.f k a0 = some r) :
  Calls Tryd.prog 89 #[.string a0] w fun e w' => e = .returned (.string r) ∧ Drawn0 w w' := by
 have H : (insolvencyref1_Normalize.l0 k a0 0) = some r := h
 clear h
 have H' := Aside0.mk H
 clear H
 go_enter Tryd.func89, Tryd.ntmps89
 go_wp2
 go_loopg [3] k (fun kq v3 w' => ∃ (x3_1 : Int), v3 = .int .i64 x3_1 ∧ Aside0 (insolvencyref1_Normalize.l0 kq a0 x3_1 = some r) ∧ Aside0 (kq ≤ k) ∧ Drawn0 w w')
 case atStart => exact ⟨(0), xz, H', ⟨Nat.le_refl _⟩, xd⟩
 case round =>
  clear H'
  obtain ⟨x3_1, rfl, HA, HK1, ⟨m1, rfl⟩⟩ := hrel
  cases gk with
  | zero => exact absurd HA.out (by simp [insolvencyref1_Normalize.l0])
  | succ k1 =>
   have H := HA.out
   clear HA
   simp only [insolvencyref1_Normalize.l0] at H
   by_cases c2 : x3_1 < (a0.size : Int)
   ·rw [if_pos c2] at H
    have c2b0 : decide (x3_1 < (a0.size : Int)) = true := decide_eq_true c2
    clear c2
    by_cases c3 : 0 ≤ x3_1
    rotate_left
    ·rw [if_neg c3] at H
     exact absurd H (by simp)
    rw [if_pos c3] at H
    have c3b0 : decide (0 ≤ x3_1) = true := decide_eq_true c3
    clear c3
    by_cases c5 : (bt a0 x3_1) = 0
    ·rw [if_pos c5] at H
     have c5b0 : ((bt a0 x3_1) == 0) = true := beq_iff_eq.mpr c5
     have c5b1 : ((bt a0 x3_1) != 0) = false := bne_eq_false_iff_eq.mpr c5
     clear c5
     have H' := Aside0.mk H
     clear H
     have p4 : 0 ≤ (x3_1 : Int) := xa
     have q4 : x3_1 < (a0.size : Int) := xa
     have hx4 := bt_at a0 x3_1
     replace p4 := eq_true p4
     replace q4 := eq_true q4
     go_wp2
     (first | go_roundg k1 | (refine Handed.intro k1 ?measure ?_; rotate_left; go_step; (repeat apply Exists.intro); refine ⟨?rel, (by first | rfl | (simp only [add_plain]; rfl))⟩))
     case measure => have := HK1.out; omega
     case rel => exact ⟨(wrap64 (x3_1 + 1)), xz, H', ⟨by have := HK1.out; omega⟩, xd⟩
    ·rw [if_neg c5] at H
     have c5b0 : ((bt a0 x3_1) == 0) = false := beq_eq_false_iff_ne.mpr c5
     have c5b1 : ((bt a0 x3_1) != 0) = true := bne_iff_ne.mpr c5
     have c6b0 := eq_true (xa : 0 ≤ x3_1)
     by_cases c7 : x3_1 ≤ (a0.size : Int)
     rotate_left
     ·rw [if_neg c7] at H
      exact absurd H (by simp)
     rw [if_pos c7] at H
     have c7b0 := eq_true c7
     have c7b1 : decide (x3_1 ≤ (a0.size : Int)) = true := decide_eq_true c7
     clear c7
     obtain rfl := Option.some.inj H
     have p4 : 0 ≤ (x3_1 : Int) := xa
     have q4 : x3_1 < (a0.size : Int) := xa
     have hx4 := bt_at a0 x3_1
     replace p4 := eq_true p4
     replace q4 := eq_true q4
     go_wp2
     go_ret
     exact ⟨xz, xd⟩
   ·rw [if_neg c2] at H
    have c2b0 : decide (x3_1 < (a0.size : Int)) = false := decide_eq_false c2
    clear c2
    by_cases c8 : 0 ≤ x3_1
    rotate_left
    ·rw [if_neg c8] at H
     exact absurd H (by simp)
    rw [if_pos c8] at H
    have c8b0 := eq_true c8
    have c8b1 : decide (0 ≤ x3_1) = true := decide_eq_true c8
    clear c8
    by_cases c9 : x3_1 ≤ (a0.size : Int)
    rotate_left
    ·rw [if_neg c9] at H
     exact absurd H (by simp)
    rw [if_pos c9] at H
    have c9b0 := eq_true c9
    have c9b1 : decide (x3_1 ≤ (a0.size : Int)) = true := decide_eq_true c9
    clear c9
    obtain rfl := Option.some.inj H
    go_wp2
    go_ret
    exact ⟨xz, xd⟩
/-! ### insolvencyref1_limbs: function 67 -/
def insolvencyref1_limbs.l0 : Nat → ByteArray → List Int → Int → Option (List Int)
 | 0, _, _, _ => none
 | k + 1, x0, x3, x4 => if x4 < (x0.size : Int) then (if 0 ≤ (wrap64 (Int.tdiv x4 4)) then (if (wrap64 (Int.tdiv x4 4)) < (x3.length : Int) then (if 0 ≤ (wrap64 ((wrap64 ((x0.size : Int) - 1)) - x4)) then (if (wrap64 ((wrap64 ((x0.size : Int) - 1)) - x4)) < (x0.size : Int) then (if 0 ≤ (IntKind.u64.wrap (wrap64 (8 * (Int.tmod x4 4)))) then (insolvencyref1_limbs.l0 k x0 (x3.set ((wrap64 (Int.tdiv x4 4)) : Int).toNat (Go.bits .or .u32 (rd x3 (wrap64 (Int.tdiv x4 4))) (shl .u32 ((bt x0 (wrap64 ((wrap64 ((x0.size : Int) - 1)) - x4))) % 4294967296) (IntKind.u64.wrap (wrap64 (8 * (Int.tmod x4 4))))))) (wrap64 (x4 + 1))) else (none)) else (none)) else (none)) else (none)) else (none)) else (some x3)
def insolvencyref1_limbs.f (k : Nat) (a0 : ByteArray) : Option (List Int) := (insolvencyref1_Normalize.f k a0).bind fun t101 => (if 0 ≤ (wrap64 (Int.tdiv (wrap64 ((t101.size : Int) + 3)) 4)) then (if (wrap64 (Int.tdiv (wrap64 ((t101.size : Int) + 3)) 4) : Int).toNat ≤ 70368744177664 then (insolvencyref1_limbs.l0 k t101 (List.replicate (wrap64 (Int.tdiv (wrap64 ((t101.size : Int) + 3)) 4) : Int).toNat 0) 0) else (none)) else (none))
theorem insolvencyref1_limbs.mono_l : ∀ k, (∀ y0 y1 y2, LeO (insolvencyref1_limbs.l0 k y0 y1 y2) (insolvencyref1_limbs.l0 (k + 1) y0 y1 y2))
 | 0 => fun _ _ _ r h => by simp [insolvencyref1_limbs.l0] at h
 | k + 1 => by
  have ih0 := insolvencyref1_limbs.mono_l k
  ·intro y0 y1 y2
   unfold insolvencyref1_limbs.l0
   have m0 := @ih0; have m1 := @insolvencyref1_Normalize.mono; exact xM
theorem insolvencyref1_limbs.mono : ∀ a0 k, LeO (insolvencyref1_limbs.f k a0) (insolvencyref1_limbs.f (k + 1) a0) := by
 intro a0 k
 have ih0 := insolvencyref1_limbs.mono_l k
 unfold insolvencyref1_limbs.f
 have m0 := @ih0; have m1 := @insolvencyref1_Normalize.mono; exact xM
def insolvencyref1_limbs.T6 : Bool × List (List Nat × List Nat) := (true, [([], []), ([], []), ([1], [1]), ([], []), ([], []), ([4], [4]), ([3, 5], [3, 5]), ([6], [6]), ([], []), ([], []), ([9], [9]), ([10], [10]), ([], []), ([11, 12], [11, 12]), ([8, 13], [8, 13]), ([14], [14]), ([], []), ([16], [16]), ([17], [17]), ([18], [18]), ([15, 19], [15, 19]), ([7, 20], [7, 20]), ([0, 2, 0, 1, 2, 3, 4, 5, 6, 7, 8, 9, 10, 11, 12, 13, 14, 15, 16, 17, 18, 19, 20, 21], [0, 2]), ([22, 21, 0, 1, 2, 3, 4, 5, 6, 7, 8, 9, 10, 11, 12, 13, 14, 15, 16, 17, 18, 19, 20, 21], [21, 22])])
def insolvencyref1_limbs.B6 : List Nat := [0, 0, 2, 0, 0, 16, 56, 120, 0, 0, 512, 1536, 0, 7680, 16128, 32512, 0, 65536, 196608, 458752, 1048320, 2097144, 4194303, 8388607]
theorem insolvencyref1_limbs.tab6 : rtab .any (opsOf Tryd.f67 6) = insolvencyref1_limbs.T6 := by kernel_rfl
theorem insolvencyref1_limbs.bits6 : waitsOk insolvencyref1_limbs.T6.2 insolvencyref1_limbs.B6 = true := by kernel_rfl
set_option maxHeartbeats 8000000 in
set_option maxRecDepth 100000 in
theorem insolvencyref1_limbs.calls (k : Nat) (a0 : ByteArray) (r : List Int) (w : World) (h : insolvencyref1_limbs.f k a0 = some r) :
  Calls Tryd.prog 67 #[.string a0] w fun e w' => ∃ v0_ : Value, e = .returned (v0_) ∧ Kd.R (Kd.int .u32) 85 w' w.heap.size (fun _ => True) v0_ r ∧ Below w.heap.size w w' := by
 have HB := Aside0.mk (Below.refl w.heap.size w)
 have H : ((insolvencyref1_Normalize.f k a0).bind fun t101 => (if 0 ≤ (wrap64 (Int.tdiv (wrap64 ((t101.size : Int) + 3)) 4)) then (if (wrap64 (Int.tdiv (wrap64 ((t101.size : Int) + 3)) 4) : Int).toNat ≤ 70368744177664 then (insolvencyref1_limbs.l0 k t101 (List.replicate (wrap64 (Int.tdiv (wrap64 ((t101.size : Int) + 3)) 4) : Int).toNat 0) 0) else (none)) else (none))) = some r := h
 clear h
 replace H := xH H; obtain ⟨t101, A2, H⟩ := H
 obtain ⟨ji3, hji3⟩ : ∃ j_ : Int, (wrap64 (Int.tdiv (wrap64 ((t101.size : Int) + 3)) 4)) = j_ := ⟨_, rfl⟩
 replace H : (if 0 ≤ (ji3) then (if (ji3 : Int).toNat ≤ 70368744177664 then (insolvencyref1_limbs.l0 k t101 (List.replicate (ji3 : Int).toNat 0) 0) else (none)) else (none)) = some r := by first | (rw [hji3] at H; exact H) | (simp only [hji3] at H ⊢; exact H)
 (try rw [hji3] at A2)
 have hji3w : (IntKind.i64.wrap (Int.tdiv (wrap64 ((t101.size : Int) + 3)) 4)) = ji3 := (i64_w _).trans hji3
 by_cases c4 : 0 ≤ (ji3)
 rotate_left
 ·rw [if_neg c4] at H
  exact absurd H (by simp)
 rw [if_pos c4] at H
 have c4b0 := eq_true c4
 have c4b1 : decide (0 ≤ (ji3)) = true := decide_eq_true c4
 clear c4
 by_cases c5 : (ji3 : Int).toNat ≤ 70368744177664
 rotate_left
 ·rw [if_neg c5] at H
  exact absurd H (by simp)
 rw [if_pos c5] at H
 have c5b0 := eq_true c5
 have c5b1 : decide ((ji3 : Int).toNat ≤ 70368744177664) = true := decide_eq_true c5
 clear c5
 obtain ⟨y102, hy102⟩ : ∃ y_ : List Int, y_ = (List.replicate (ji3 : Int).toNat 0) := ⟨_, rfl⟩
 replace H : (insolvencyref1_limbs.l0 k t101 y102 0) = some r := by first | (rw [hy102]; with_reducible exact H) | (have H2_ := (Option.bind_some _ _).symm.trans H; rw [hy102]; with_reducible exact H2_) | (have H2_ := (Option.bind_some _ _).symm.trans H; with_reducible exact H2_) | with_reducible exact H | (rw [hy102]; exact H) | exact H
 have Ny102 := Aside0.mk hy102
 clear hy102
 have H' := Aside0.mk H
 clear H
 go_enter Tryd.func67, Tryd.ntmps67
 go_wp2_with (first | (refine xg Tryd.func89 (some 6) #[.string a0] ?_; (with_reducible refine (insolvencyref1_Normalize.calls k a0 t101 _ A2.out).mono ?_); rintro e w' ⟨rfl, ⟨nd, rfl⟩⟩; refine ⟨_, rfl, ?_⟩) | ((with_reducible refine gate_dst (N := 11) rfl ?_); refine Kd.R_make (Kd.int .u32) _ 85 rfl (N := 11) rfl 73 _ _ rfl ji3 rfl rfl Tryd.underlying73 (.int .u32 0) 4 info85 rfl (by decide) (by omega) 0 (ok := fun _ => True) (okp := fun _ => True) rfl (fun _ hk => hk) trivial (xa) (Nat.le_trans (Nat.mul_le_mul_right _ (xa : ji3.toNat ≤ 70368744177664)) (by omega)) (Below.refl _ _) (Nat.le_refl _) ?_; intro v103 w6 ho7 hb hg_ hnew_; clear hg_ hnew_; (first | rw [← Ny102.out] at ho7 | (simp only [Int.reduceToNat] at ho7; rw [← Ny102.out] at ho7)); have HO104 := Aside0.mk (Kd.R_lower ho7 (below_size (xs HB))); replace HB := xS HB hb; clear hb ho7))
 go_loopg [4] k (fun kq v4 w' => ∃ (x3_1 : List Int) (x4_1 : Int), v4 = .int .i64 x4_1 ∧ Aside0 (insolvencyref1_limbs.l0 kq t101 x3_1 x4_1 = some r) ∧ Aside0 (kq ≤ k) ∧ Aside0 (Kd.R (Kd.int .u32) 85 w' w.heap.size (fun _ => True) v103 x3_1) ∧ Aside0 (Below w.heap.size w w'))
 case atStart => exact ⟨(y102), (0), xz, H', ⟨Nat.le_refl _⟩, ⟨xr HO104.out⟩, ⟨xs HB⟩⟩
 case round =>
  clear H'
  try clear p2
  try clear c4
  try clear c4b0
  try clear c4b1
  try clear c5
  try clear c5b0
  try clear c5b1
  try clear c6
  try clear p6
  obtain ⟨x3_1, x4_1, rfl, HA, HK1, HO_3, HB⟩ := hrel
  cases gk with
  | zero => exact absurd HA.out (by simp [insolvencyref1_limbs.l0])
  | succ k1 =>
   have H := HA.out
   clear HA
   simp only [insolvencyref1_limbs.l0] at H
   by_cases c8 : x4_1 < (t101.size : Int)
   ·rw [if_pos c8] at H
    have c8b0 : decide (x4_1 < (t101.size : Int)) = true := decide_eq_true c8
    clear c8
    obtain ⟨ji9, hji9⟩ : ∃ j_ : Int, (wrap64 (Int.tdiv x4_1 4)) = j_ := ⟨_, rfl⟩
    replace H : (if 0 ≤ (ji9) then (if (ji9) < (x3_1.length : Int) then (if 0 ≤ (wrap64 ((wrap64 ((t101.size : Int) - 1)) - x4_1)) then (if (wrap64 ((wrap64 ((t101.size : Int) - 1)) - x4_1)) < (t101.size : Int) then (if 0 ≤ (IntKind.u64.wrap (wrap64 (8 * (Int.tmod x4_1 4)))) then (insolvencyref1_limbs.l0 k1 t101 (x3_1.set ((ji9) : Int).toNat (Go.bits .or .u32 (rd x3_1 (ji9)) (shl .u32 ((bt t101 (wrap64 ((wrap64 ((t101.size : Int) - 1)) - x4_1))) % 4294967296) (IntKind.u64.wrap (wrap64 (8 * (Int.tmod x4_1 4))))))) (wrap64 (x4_1 + 1))) else (none)) else (none)) else (none)) else (none)) else (none)) = some r := by first | (rw [hji9] at H; exact H) | (simp only [hji9] at H ⊢; exact H)
    have hji9w : (IntKind.i64.wrap (Int.tdiv x4_1 4)) = ji9 := (i64_w _).trans hji9
    by_cases c10 : 0 ≤ (ji9)
    rotate_left
    ·rw [if_neg c10] at H
     exact absurd H (by simp)
    rw [if_pos c10] at H
    have c10b0 : decide (0 ≤ (ji9)) = true := decide_eq_true c10
    clear c10
    by_cases c11 : (ji9) < (x3_1.length : Int)
    rotate_left
    ·rw [if_neg c11] at H
     exact absurd H (by simp)
    rw [if_pos c11] at H
    have c11b0 : decide ((ji9) < (x3_1.length : Int)) = true := decide_eq_true c11
    clear c11
    obtain ⟨ji12, hji12⟩ : ∃ j_ : Int, (wrap64 ((wrap64 ((t101.size : Int) - 1)) - x4_1)) = j_ := ⟨_, rfl⟩
    replace H : (if 0 ≤ (ji12) then (if (ji12) < (t101.size : Int) then (if 0 ≤ (IntKind.u64.wrap (wrap64 (8 * (Int.tmod x4_1 4)))) then (insolvencyref1_limbs.l0 k1 t101 (x3_1.set ((ji9) : Int).toNat (Go.bits .or .u32 (rd x3_1 (ji9)) (shl .u32 ((bt t101 (ji12)) % 4294967296) (IntKind.u64.wrap (wrap64 (8 * (Int.tmod x4_1 4))))))) (wrap64 (x4_1 + 1))) else (none)) else (none)) else (none)) = some r := by first | (rw [hji12] at H; exact H) | (simp only [hji12] at H ⊢; exact H)
    have hji12w : (IntKind.i64.wrap ((wrap64 ((t101.size : Int) - 1)) - x4_1)) = ji12 := (i64_w _).trans hji12
    by_cases c13 : 0 ≤ (ji12)
    rotate_left
    ·rw [if_neg c13] at H
     exact absurd H (by simp)
    rw [if_pos c13] at H
    have c13b0 : decide (0 ≤ (ji12)) = true := decide_eq_true c13
    clear c13
    by_cases c14 : (ji12) < (t101.size : Int)
    rotate_left
    ·rw [if_neg c14] at H
     exact absurd H (by simp)
    rw [if_pos c14] at H
    have c14b0 : decide ((ji12) < (t101.size : Int)) = true := decide_eq_true c14
    clear c14
    obtain ⟨ji16, hji16⟩ : ∃ j_ : Int, (IntKind.u64.wrap (wrap64 (8 * (Int.tmod x4_1 4)))) = j_ := ⟨_, rfl⟩
    replace H : (if 0 ≤ (ji16) then (insolvencyref1_limbs.l0 k1 t101 (x3_1.set ((ji9) : Int).toNat (Go.bits .or .u32 (rd x3_1 (ji9)) (shl .u32 ((bt t101 (ji12)) % 4294967296) (ji16)))) (wrap64 (x4_1 + 1))) else (none)) = some r := by first | (rw [hji16] at H; exact H) | (simp only [hji16] at H ⊢; exact H)
    by_cases c17 : 0 ≤ (ji16)
    rotate_left
    ·rw [if_neg c17] at H
     exact absurd H (by simp)
    rw [if_pos c17] at H
    have c17b0 := eq_true c17
    have c17b1 : decide (0 ≤ (ji16)) = true := decide_eq_true c17
    clear c17
    obtain ⟨ji18, hji18⟩ : ∃ j_ : Int, (shl .u32 ((bt t101 (ji12)) % 4294967296) (ji16)) = j_ := ⟨_, rfl⟩
    replace H : (insolvencyref1_limbs.l0 k1 t101 (x3_1.set ((ji9) : Int).toNat (Go.bits .or .u32 (rd x3_1 (ji9)) (ji18))) (wrap64 (x4_1 + 1))) = some r := by first | (rw [hji18] at H; exact H) | (simp only [hji18] at H ⊢; exact H)
    have hji18_ : (IntKind.u32.wrap (((bt t101 (ji12)) % 4294967296) * 2 ^ min (ji16).toNat 32)) = ji18 := hji18
    have hji18m : (((bt t101 (ji12)) % 4294967296) * 2 ^ min (ji16).toNat 32) % 4294967296 = ji18 := (IntKind.wrap_u32 _).symm.trans hji18
    have hji18z : (ji16) ≤ 32 → (IntKind.u32.wrap (((bt t101 (ji12)) % 4294967296) * 2 ^ (ji16).toNat)) = ji18 := shl_small hji18
    obtain ⟨y106, hy106⟩ : ∃ y_ : List Int, y_ = (x3_1.set ((ji9) : Int).toNat (Go.bits .or .u32 (rd x3_1 (ji9)) (ji18))) := ⟨_, rfl⟩
    replace H : (insolvencyref1_limbs.l0 k1 t101 y106 (wrap64 (x4_1 + 1))) = some r := by first | (rw [hy106]; with_reducible exact H) | (have H2_ := (Option.bind_some _ _).symm.trans H; rw [hy106]; with_reducible exact H2_) | (have H2_ := (Option.bind_some _ _).symm.trans H; with_reducible exact H2_) | with_reducible exact H | (rw [hy106]; exact H) | exact H
    have Ny106 := Aside0.mk hy106
    clear hy106
    have H' := Aside0.mk H
    clear H
    try go_wp2
    replace HO_3 := Aside0.mk (Kd.R_drew HO_3.out)
    replace HB := xW HB
    obtain ⟨Ao21, co21, eo21⟩ := Kd.R_slice HO_3.out
    (first | subst eo21 | (injection eo21 with f1_ f2_ f3_; have f4_ := f1_.symm; have f5_ := f3_.symm; clear f1_ f2_ f3_; subst f4_; subst f5_))
    have p105 : 0 ≤ ((ji9) : Int) := xa
    have q105 : (ji9) < (x3_1.length : Int) := xa
    obtain ⟨ad105, e105, hx105_0⟩ := Kd.at_int (Kd.R_reads' HO_3.out).2.2 (ji9) p105 q105
    cases e105
    replace p105 := eq_true p105
    replace q105 := eq_true q105
    have p15 : 0 ≤ ((ji12) : Int) := xa
    have q15 : (ji12) < (t101.size : Int) := xa
    have hx15 := bt_at t101 (ji12)
    replace p15 := eq_true p15
    replace q15 := eq_true q15
    have p19 : 0 ≤ ((ji9) : Int) := xa
    have q19 : ((ji9) : Int) < ((x3_1.length : Int) : Int) := xa
    obtain ⟨go19, co19, eo19, gb19, gl19, cl19, HG19⟩ := Kd.R_form HO_3.out (by omega)
    (first | cases eo19 | (injection eo19 with ea_ en_ ec_; (first | subst ea_ | (injection ea_ with ea_; subst ea_)); subst ec_; clear en_))
    have GB19 := Aside0.mk gb19
    have GG19 := Aside0.mk HG19
    clear gb19 gl19 HG19
    (first | simp only [add_plain] at hx105_0 | skip)
    obtain ⟨hx19_0, hf19_0⟩ := Kd.R_celln 0 HO_3.out ((ji9) : Int) p19 q19
    replace p19 := eq_true p19
    replace q19 := eq_true q19
    have HP22 := Kd.R_putn HO_3.out ((ji9) : Int) (Go.bits .or .u32 (rd x3_1 (ji9)) (ji18))
    rw [← Ny106.out] at HP22
    have HQ22 := Aside0.mk HP22
    clear HP22
    refine start_ (n := 24) (S := fun w' => w'.cell? ⟨go19, ((ji9)).toNat, none⟩ = some (.int .u32 (rd x3_1 (ji9)))) (ds := [23]) #[false, false, false, false, false, false, false, false, false, false, false, false, false, false, false, false, false, false, false, false, false, false, false, false] (by kernel_rfl) rfl rfl (hx105_0) (fun hHeld => ?_); refine with_tabW insolvencyref1_limbs.tab6 insolvencyref1_limbs.bits6 (fun HT_ HW_ => ?_)
    generalize wr.drew = w20 at HO_3 HB GG19 HQ22 hf19_0 hx105_0 hx19_0 hHeld ⊢
    refine xP 0 (some 18) (b 24 1) rfl rfl ?_
    refine xP 1 (some 19) (b 24 3) rfl rfl ?_
    refine xP 2 (some 20) (b 24 7) rfl rfl ?_
    refine xP 3 (some 21) (b 24 15) rfl rfl ?_
    refine xP 4 (some 22) (b 24 31) rfl rfl ?_
    refine xP 5 (some 23) (b 24 63) rfl rfl ?_
    refine xP 6 (some 24) (b 24 127) rfl rfl ?_
    refine xP 8 (some 26) (b 24 383) rfl rfl ?_
    refine xP 9 (some 27) (b 24 895) rfl rfl ?_
    refine xP 10 (some 28) (b 24 1919) rfl rfl ?_
    refine xP 11 (some 29) (b 24 3967) rfl rfl ?_
    refine xP 12 (some 30) (b 24 8063) rfl rfl ?_
    refine xP 13 (some 31) (b 24 16255) rfl rfl ?_
    refine xP 16 (some 34) (b 24 81791) rfl rfl ?_
    refine xP 17 (some 35) (b 24 212863) rfl rfl ?_
    refine xP 18 (some 36) (b 24 475007) rfl rfl ?_
    refine xP 19 (some 37) (b 24 999295) rfl rfl ?_
    refine xT 7 (some 25) (b 24 999423) rfl rfl hHeld ?_
    refine xT 14 (some 32) (b 24 1015807) rfl rfl hHeld ?_
    refine xP 15 (some 33) (b 24 1048575) rfl rfl ?_
    refine xP 20 (some 38) (b 24 2097151) rfl rfl ?_
    refine xP 21 (some 39) (b 24 4194303) rfl rfl ?_
    refine xP 22 (some 40) (b 24 8388607) rfl rfl ?_
    refine xZ 23 none (b 24 16777215) rfl rfl fun K hK => ?_
    refine xk ?_
    refine hK.out _ _ ?_
    clear hK K
    refine done_ (done_of HT_.out (by kernel_rfl)) ?_
    try go_wp2
    (first | go_roundg k1 | (refine Handed.intro k1 ?measure ?_; rotate_left; go_step; (repeat apply Exists.intro); refine ⟨?rel, (by first | rfl | (simp only [add_plain]; rfl))⟩))
    case measure => have := HK1.out; omega
    case rel => exact ⟨(y106), (wrap64 (x4_1 + 1)), xz, H', ⟨by have := HK1.out; omega⟩, ⟨by (with_reducible repeat (first | apply Kd.R_alloc | apply Kd.R_drewN | apply Kd.R_drew)); (first | exact HQ22.out | (have q_ := HQ22.out; simp only [← hji18m] at q_; exact q_))⟩, ⟨xs HB⟩⟩
   ·rw [if_neg c8] at H
    have c8b0 : decide (x4_1 < (t101.size : Int)) = false := decide_eq_false c8
    clear c8
    obtain rfl := Option.some.inj H
    go_wp2
    go_ret
    exact ⟨_, by first | rfl | (simp [errW_none, errW_some] <;> rfl) | (simp only [← hji3]; first | rfl | (simp [errW_none, errW_some] <;> rfl)) | (simp [*, errW_none, errW_some] <;> rfl), by (with_reducible repeat (first | apply Kd.R_alloc | apply Kd.R_drewN | apply Kd.R_drew)); exact HO_3.out, xs HB⟩
/-! ### insolvencyref1_order: function 70 -/
def insolvencyref1_order.l0 : Nat → List Int → List Int → Int → Option (Int)
 | 0, _, _, _ => none
 | k + 1, x0, x1, x5 => if x5 ≥ 0 then (if 0 ≤ x5 then (if x5 < (x0.length : Int) then (if x5 < (x1.length : Int) then (if (rd x0 x5) = (rd x1 x5) then (insolvencyref1_order.l0 k x0 x1 (wrap64 (x5 - 1))) else (if (rd x0 x5) < (rd x1 x5) then (some (-1)) else (some 1))) else (none)) else (none)) else (none)) else (some 0)
def insolvencyref1_order.f (k : Nat) (l0 : List Int) (l1 : List Int) : Option (Int) := if (l0.length : Int) = (l1.length : Int) then (insolvencyref1_order.l0 k l0 l1 (wrap64 ((l0.length : Int) - 1))) else (if (l0.length : Int) < (l1.length : Int) then (some (-1)) else (some 1))
theorem insolvencyref1_order.mono_l : ∀ k, (∀ y0 y1 y2, LeO (insolvencyref1_order.l0 k y0 y1 y2) (insolvencyref1_order.l0 (k + 1) y0 y1 y2))
 | 0 => fun _ _ _ r h => by simp [insolvencyref1_order.l0] at h
 | k + 1 => by
  have ih0 := insolvencyref1_order.mono_l k
  ·intro y0 y1 y2
   unfold insolvencyref1_order.l0
   have m0 := @ih0; exact xM
theorem insolvencyref1_order.mono : ∀ a0 a1 k, LeO (insolvencyref1_order.f k a0 a1) (insolvencyref1_order.f (k + 1) a0 a1) := by
 intro a0 a1 k
 have ih0 := insolvencyref1_order.mono_l k
 unfold insolvencyref1_order.f
 have m0 := @ih0; exact xM
set_option maxHeartbeats 8000000 in
set_option maxRecDepth 100000 in
theorem insolvencyref1_order.calls (k : Nat) (A0 : Option Addr) (c0 : Nat) (l0 : List Int) (A1 : Option Addr) (c1 : Nat) (l1 : List Int) (r : Int) (w : World) (hr0 : Kd.C (Kd.int .u32) w A0 l0.length l0) (hc0 : l0.length ≤ c0) (hr1 : Kd.C (Kd.int .u32) w A1 l1.length l1) (hc1 : l1.length ≤ c1) (h : insolvencyref1_order.f k l0 l1 = some r) :
  Calls Tryd.prog 70 #[.slice A0 l0.length c0, .slice A1 l1.length c1] w fun e w' => e = .returned (.int .i64 r) ∧ Drawn0 w w' := by
 have HR0 := Aside0.mk hr0
 have HC0 := Aside0.mk hc0
 clear hr0 hc0
 have HR1 := Aside0.mk hr1
 have HC1 := Aside0.mk hc1
 clear hr1 hc1
 have H : (if (l0.length : Int) = (l1.length : Int) then (insolvencyref1_order.l0 k l0 l1 (wrap64 ((l0.length : Int) - 1))) else (if (l0.length : Int) < (l1.length : Int) then (some (-1)) else (some 1))) = some r := h
 clear h
 by_cases c3 : (l0.length : Int) = (l1.length : Int)
 ·rw [if_pos c3] at H
  have c3b0 : ((l0.length : Int) == (l1.length : Int)) = true := beq_iff_eq.mpr c3
  have c3b1 : ((l0.length : Int) != (l1.length : Int)) = false := bne_eq_false_iff_eq.mpr c3
  have c3b2 : (l0.length == l1.length) = true := by first | simpa using c3 | (simp at c3 ⊢; omega)
  clear c3
  have H' := Aside0.mk H
  clear H
  go_enter Tryd.func70, Tryd.ntmps70
  go_wp2
  repeat (go_quiet (fail); try go_wp2)
  go_loopg [5] k (fun kq v5 w' => ∃ (x5_1 : Int), v5 = .int .i64 x5_1 ∧ Aside0 (insolvencyref1_order.l0 kq l0 l1 x5_1 = some r) ∧ Aside0 (kq ≤ k) ∧ Drawn0 w w')
  case atStart => exact ⟨(wrap64 ((l0.length : Int) - 1)), xz, H', ⟨Nat.le_refl _⟩, xd⟩
  case round =>
   clear H'
   try clear c1
   try clear p2
   try clear c3
   try clear c3b0
   try clear c3b1
   try clear c3b2
   obtain ⟨x5_1, rfl, HA, HK1, ⟨m1, rfl⟩⟩ := hrel
   cases gk with
   | zero => exact absurd HA.out (by simp [insolvencyref1_order.l0])
   | succ k1 =>
    have H := HA.out
    clear HA
    simp only [insolvencyref1_order.l0] at H
    by_cases c4 : x5_1 ≥ 0
    ·rw [if_pos c4] at H
     have c4b0 : decide (0 ≤ x5_1) = true := decide_eq_true c4
     clear c4
     by_cases c5 : 0 ≤ x5_1
     rotate_left
     ·rw [if_neg c5] at H
      exact absurd H (by simp)
     rw [if_pos c5] at H
     have c5b0 : decide (0 ≤ x5_1) = true := decide_eq_true c5
     clear c5
     by_cases c6 : x5_1 < (l0.length : Int)
     rotate_left
     ·rw [if_neg c6] at H
      exact absurd H (by simp)
     rw [if_pos c6] at H
     have c6b0 : decide (x5_1 < (l0.length : Int)) = true := decide_eq_true c6
     clear c6
     by_cases c7 : x5_1 < (l1.length : Int)
     rotate_left
     ·rw [if_neg c7] at H
      exact absurd H (by simp)
     rw [if_pos c7] at H
     have c7b0 : decide (x5_1 < (l1.length : Int)) = true := decide_eq_true c7
     clear c7
     by_cases c8 : (rd l0 x5_1) = (rd l1 x5_1)
     ·rw [if_pos c8] at H
      have c8b0 : ((rd l0 x5_1) == (rd l1 x5_1)) = true := beq_iff_eq.mpr c8
      have c8b1 : ((rd l0 x5_1) != (rd l1 x5_1)) = false := bne_eq_false_iff_eq.mpr c8
      clear c8
      have H' := Aside0.mk H
      clear H
      have p107 : 0 ≤ (x5_1 : Int) := xa
      have q107 : x5_1 < (l0.length : Int) := xa
      obtain ⟨ad107, e107, hx107_0⟩ := Kd.at_int HR0.out x5_1 p107 q107
      cases e107
      replace p107 := eq_true p107
      replace q107 := eq_true q107
      have p108 : 0 ≤ (x5_1 : Int) := xa
      have q108 : x5_1 < (l1.length : Int) := xa
      obtain ⟨ad108, e108, hx108_0⟩ := Kd.at_int HR1.out x5_1 p108 q108
      cases e108
      replace p108 := eq_true p108
      replace q108 := eq_true q108
      go_wp2
      repeat (go_quiet (fail); try go_wp2)
      (first | go_roundg k1 | (refine Handed.intro k1 ?measure ?_; rotate_left; go_step; (repeat apply Exists.intro); refine ⟨?rel, (by first | rfl | (simp only [add_plain]; rfl))⟩))
      case measure => have := HK1.out; omega
      case rel => exact ⟨(wrap64 (x5_1 - 1)), xz, H', ⟨by have := HK1.out; omega⟩, xd⟩
     ·rw [if_neg c8] at H
      have c8b0 : ((rd l0 x5_1) == (rd l1 x5_1)) = false := beq_eq_false_iff_ne.mpr c8
      have c8b1 : ((rd l0 x5_1) != (rd l1 x5_1)) = true := bne_iff_ne.mpr c8
      by_cases c9 : (rd l0 x5_1) < (rd l1 x5_1)
      ·rw [if_pos c9] at H
       have c9b0 : decide ((rd l0 x5_1) < (rd l1 x5_1)) = true := decide_eq_true c9
       clear c9
       obtain rfl := Option.some.inj H
       have p107 : 0 ≤ (x5_1 : Int) := xa
       have q107 : x5_1 < (l0.length : Int) := xa
       obtain ⟨ad107, e107, hx107_0⟩ := Kd.at_int HR0.out x5_1 p107 q107
       cases e107
       replace p107 := eq_true p107
       replace q107 := eq_true q107
       have p108 : 0 ≤ (x5_1 : Int) := xa
       have q108 : x5_1 < (l1.length : Int) := xa
       obtain ⟨ad108, e108, hx108_0⟩ := Kd.at_int HR1.out x5_1 p108 q108
       cases e108
       replace p108 := eq_true p108
       replace q108 := eq_true q108
       have p109 : 0 ≤ (x5_1 : Int) := xa
       have q109 : x5_1 < (l0.length : Int) := xa
       obtain ⟨ad109, e109, hx109_0⟩ := Kd.at_int HR0.out x5_1 p109 q109
       obtain rfl : ad107 = ad109 := (by injection e109)
       replace p109 := eq_true p109
       replace q109 := eq_true q109
       have p110 : 0 ≤ (x5_1 : Int) := xa
       have q110 : x5_1 < (l1.length : Int) := xa
       obtain ⟨ad110, e110, hx110_0⟩ := Kd.at_int HR1.out x5_1 p110 q110
       obtain rfl : ad108 = ad110 := (by injection e110)
       replace p110 := eq_true p110
       replace q110 := eq_true q110
       go_wp2
       repeat (go_quiet (fail); try go_wp2)
       go_ret
       exact ⟨xz, xd⟩
      ·rw [if_neg c9] at H
       have c9b0 : decide ((rd l0 x5_1) < (rd l1 x5_1)) = false := decide_eq_false c9
       clear c9
       obtain rfl := Option.some.inj H
       have p107 : 0 ≤ (x5_1 : Int) := xa
       have q107 : x5_1 < (l0.length : Int) := xa
       obtain ⟨ad107, e107, hx107_0⟩ := Kd.at_int HR0.out x5_1 p107 q107
       cases e107
       replace p107 := eq_true p107
       replace q107 := eq_true q107
       have p108 : 0 ≤ (x5_1 : Int) := xa
       have q108 : x5_1 < (l1.length : Int) := xa
       obtain ⟨ad108, e108, hx108_0⟩ := Kd.at_int HR1.out x5_1 p108 q108
       cases e108
       replace p108 := eq_true p108
       replace q108 := eq_true q108
       have p109 : 0 ≤ (x5_1 : Int) := xa
       have q109 : x5_1 < (l0.length : Int) := xa
       obtain ⟨ad109, e109, hx109_0⟩ := Kd.at_int HR0.out x5_1 p109 q109
       obtain rfl : ad107 = ad109 := (by injection e109)
       replace p109 := eq_true p109
       replace q109 := eq_true q109
       have p110 : 0 ≤ (x5_1 : Int) := xa
       have q110 : x5_1 < (l1.length : Int) := xa
       obtain ⟨ad110, e110, hx110_0⟩ := Kd.at_int HR1.out x5_1 p110 q110
       obtain rfl : ad108 = ad110 := (by injection e110)
       replace p110 := eq_true p110
       replace q110 := eq_true q110
       go_wp2
       repeat (go_quiet (fail); try go_wp2)
       go_ret
       exact ⟨xz, xd⟩
    ·rw [if_neg c4] at H
     have c4b0 : decide (0 ≤ x5_1) = false := decide_eq_false c4
     clear c4
     obtain rfl := Option.some.inj H
     go_wp2
     repeat (go_quiet (fail); try go_wp2)
     go_ret
     exact ⟨xz, xd⟩
 ·rw [if_neg c3] at H
  have c3b0 : ((l0.length : Int) == (l1.length : Int)) = false := beq_eq_false_iff_ne.mpr c3
  have c3b1 : ((l0.length : Int) != (l1.length : Int)) = true := bne_iff_ne.mpr c3
  have c3b2 : (l0.length == l1.length) = false := by first | simpa using c3 | (simp at c3 ⊢; omega)
  by_cases c10 : (l0.length : Int) < (l1.length : Int)
  ·rw [if_pos c10] at H
   have c10b0 : decide ((l0.length : Int) < (l1.length : Int)) = true := decide_eq_true c10
   have c10b1 : decide (l0.length < l1.length) = true := decide_eq_true (Int.ofNat_lt.mp c10)
   clear c10
   obtain rfl := Option.some.inj H
   go_enter Tryd.func70, Tryd.ntmps70
   go_wp2
   repeat (go_quiet (fail); try go_wp2)
   go_ret
   exact ⟨xz, xd⟩
  ·rw [if_neg c10] at H
   have c10b0 : decide ((l0.length : Int) < (l1.length : Int)) = false := decide_eq_false c10
   have c10b1 : decide (l0.length < l1.length) = false := decide_eq_false (fun h => c10 (Int.ofNat_lt.mpr h))
   clear c10
   obtain rfl := Option.some.inj H
   go_enter Tryd.func70, Tryd.ntmps70
   go_wp2
   repeat (go_quiet (fail); try go_wp2)
   go_ret
   exact ⟨xz, xd⟩
/-! ### insolvencyref1_strip: function 88 -/
def insolvencyref1_strip.l0 : Nat → List Int → Int → Option (List Int)
 | 0, _, _ => none
 | k + 1, x0, x3 => if x3 > 0 then (if 0 ≤ (wrap64 (x3 - 1)) then (if (wrap64 (x3 - 1)) < (x0.length : Int) then (if (rd x0 (wrap64 (x3 - 1))) = 0 then (insolvencyref1_strip.l0 k x0 (wrap64 (x3 - 1))) else (if 0 ≤ x3 then (if x3 ≤ (x0.length : Int) then (some (x0.take (x3 : Int).toNat)) else (none)) else (none))) else (none)) else (none)) else (if 0 ≤ x3 then (if x3 ≤ (x0.length : Int) then (some (x0.take (x3 : Int).toNat)) else (none)) else (none))
def insolvencyref1_strip.f (k : Nat) (l0 : List Int) : Option (List Int) := insolvencyref1_strip.l0 k l0 (l0.length : Int)
theorem insolvencyref1_strip.mono_l : ∀ k, (∀ y0 y1, LeO (insolvencyref1_strip.l0 k y0 y1) (insolvencyref1_strip.l0 (k + 1) y0 y1))
 | 0 => fun _ _ r h => by simp [insolvencyref1_strip.l0] at h
 | k + 1 => by
  have ih0 := insolvencyref1_strip.mono_l k
  ·intro y0 y1
   unfold insolvencyref1_strip.l0
   have m0 := @ih0; exact xM
theorem insolvencyref1_strip.mono : ∀ a0 k, LeO (insolvencyref1_strip.f k a0) (insolvencyref1_strip.f (k + 1) a0) := by
 intro a0 k
 have ih0 := insolvencyref1_strip.mono_l k
 unfold insolvencyref1_strip.f
 have m0 := @ih0; exact xM
set_option maxHeartbeats 8000000 in
set_option maxRecDepth 100000 in
theorem insolvencyref1_strip.calls (k : Nat) (P0_ : Nat → Prop) (A0 : Option Addr) (c0 : Nat) (l0 : List Int) (r : List Int) (w : World) (hs0 : Kd.V (Kd.int .u32) 85 w w.heap.size (fun k_ => P0_ k_) (.slice A0 l0.length c0) l0) (h : insolvencyref1_strip.f k l0 = some r) :
  Calls Tryd.prog 88 #[.slice A0 l0.length c0] w fun e w' => ∃ v0_ : Value, e = .returned (v0_) ∧ Kd.V (Kd.int .u32) 85 w' w.heap.size (fun k_ => (P0_ k_ ∨ w.heap.size ≤ k_)) v0_ r ∧ Below w.heap.size w w' := by
 have HO0 := Aside0.mk (show Kd.V (Kd.int .u32) 85 w w.heap.size (fun k_ => (P0_ k_ ∨ w.heap.size ≤ k_)) (.slice A0 l0.length c0) l0 from Kd.V_mono hs0 (fun k_ hk => .inl hk))
 have HB := Aside0.mk (Below.refl w.heap.size w)
 have H : (insolvencyref1_strip.l0 k l0 (l0.length : Int)) = some r := h
 clear h
 have H' := Aside0.mk H
 clear H
 go_enter Tryd.func88, Tryd.ntmps88
 go_wp2
 go_loopg [3] k (fun kq v3 w' => ∃ (x3_1 : Int), v3 = .int .i64 x3_1 ∧ Aside0 (insolvencyref1_strip.l0 kq l0 x3_1 = some r) ∧ Aside0 (kq ≤ k) ∧ Aside0 (Kd.V (Kd.int .u32) 85 w' w.heap.size (fun k_ => (P0_ k_ ∨ w.heap.size ≤ k_)) (.slice A0 l0.length c0) l0) ∧ Aside0 (Below w.heap.size w w'))
 case atStart => exact ⟨((l0.length : Int)), xz, H', ⟨Nat.le_refl _⟩, ⟨xv HO0.out⟩, ⟨xs HB⟩⟩
 case round =>
  clear H'
  obtain ⟨x3_1, rfl, HA, HK1, HO_0, HB⟩ := hrel
  cases gk with
  | zero => exact absurd HA.out (by simp [insolvencyref1_strip.l0])
  | succ k1 =>
   have H := HA.out
   clear HA
   simp only [insolvencyref1_strip.l0] at H
   by_cases c2 : x3_1 > 0
   ·rw [if_pos c2] at H
    have c2b0 : decide (0 < x3_1) = true := decide_eq_true c2
    clear c2
    obtain ⟨ji3, hji3⟩ : ∃ j_ : Int, (wrap64 (x3_1 - 1)) = j_ := ⟨_, rfl⟩
    replace H : (if 0 ≤ (ji3) then (if (ji3) < (l0.length : Int) then (if (rd l0 (ji3)) = 0 then (insolvencyref1_strip.l0 k1 l0 ji3) else (if 0 ≤ x3_1 then (if x3_1 ≤ (l0.length : Int) then (some (l0.take (x3_1 : Int).toNat)) else (none)) else (none))) else (none)) else (none)) = some r := by first | (rw [hji3] at H; exact H) | (simp only [hji3] at H ⊢; exact H)
    have hji3w : (IntKind.i64.wrap (x3_1 - 1)) = ji3 := (i64_w _).trans hji3
    by_cases c4 : 0 ≤ (ji3)
    rotate_left
    ·rw [if_neg c4] at H
     exact absurd H (by simp)
    rw [if_pos c4] at H
    have c4b0 : decide (0 ≤ (ji3)) = true := decide_eq_true c4
    clear c4
    by_cases c5 : (ji3) < (l0.length : Int)
    rotate_left
    ·rw [if_neg c5] at H
     exact absurd H (by simp)
    rw [if_pos c5] at H
    have c5b0 : decide ((ji3) < (l0.length : Int)) = true := decide_eq_true c5
    clear c5
    by_cases c6 : (rd l0 (ji3)) = 0
    ·rw [if_pos c6] at H
     have c6b0 : ((rd l0 (ji3)) == 0) = true := beq_iff_eq.mpr c6
     have c6b1 : ((rd l0 (ji3)) != 0) = false := bne_eq_false_iff_eq.mpr c6
     clear c6
     have H' := Aside0.mk H
     clear H
     have p111 : 0 ≤ ((ji3) : Int) := xa
     have q111 : (ji3) < (l0.length : Int) := xa
     obtain ⟨ad111, e111, hx111_0⟩ := Kd.at_int (Kd.V_reads' HO_0.out).2.2 (ji3) p111 q111
     cases e111
     replace p111 := eq_true p111
     replace q111 := eq_true q111
     go_wp2
     (first | go_roundg k1 | (refine Handed.intro k1 ?measure ?_; rotate_left; go_step; (repeat apply Exists.intro); refine ⟨?rel, (by first | rfl | (simp only [add_plain]; rfl))⟩))
     case measure => have := HK1.out; omega
     case rel => exact ⟨(ji3), (by first | rfl | (simp; done) | (simp only [← hji3] <;> (first | rfl | simp)) | (simp [*]; done)), H', ⟨by have := HK1.out; omega⟩, ⟨xv HO_0.out⟩, ⟨xs HB⟩⟩
    ·rw [if_neg c6] at H
     have c6b0 : ((rd l0 (ji3)) == 0) = false := beq_eq_false_iff_ne.mpr c6
     have c6b1 : ((rd l0 (ji3)) != 0) = true := bne_iff_ne.mpr c6
     by_cases c7 : 0 ≤ x3_1
     rotate_left
     ·rw [if_neg c7] at H
      exact absurd H (by simp)
     rw [if_pos c7] at H
     have c7b0 := eq_true c7
     have c7b1 : decide (0 ≤ x3_1) = true := decide_eq_true c7
     clear c7
     by_cases c8 : x3_1 ≤ (l0.length : Int)
     rotate_left
     ·rw [if_neg c8] at H
      exact absurd H (by simp)
     rw [if_pos c8] at H
     have c8b0 := eq_true c8
     have c8b1 : decide (x3_1 ≤ (l0.length : Int)) = true := decide_eq_true c8
     clear c8
     obtain ⟨y112, hy112⟩ : ∃ y_ : List Int, y_ = (l0.take (x3_1 : Int).toNat) := ⟨_, rfl⟩
     replace H : (some y112) = some r := by first | (rw [hy112]; with_reducible exact H) | (have H2_ := (Option.bind_some _ _).symm.trans H; rw [hy112]; with_reducible exact H2_) | (have H2_ := (Option.bind_some _ _).symm.trans H; with_reducible exact H2_) | with_reducible exact H | (rw [hy112]; exact H) | exact H
     have Ny112 := Aside0.mk hy112
     clear hy112
     obtain rfl := Option.some.inj H
     have p111 : 0 ≤ ((ji3) : Int) := xa
     have q111 : (ji3) < (l0.length : Int) := xa
     obtain ⟨ad111, e111, hx111_0⟩ := Kd.at_int (Kd.V_reads' HO_0.out).2.2 (ji3) p111 q111
     cases e111
     replace p111 := eq_true p111
     replace q111 := eq_true q111
     have q9 : (x3_1 : Int) ≤ ((l0.length : Int) : Int) := xa
     obtain ⟨i09, hi09, _, hsz9, _⟩ := info_parts info85
     have hroom9 : l0.length ≤ c0 := (Kd.V_reads' HO_0.out).2.1
     have hC9 : Kd.F (Kd.int .u32) _ _ (some ad111) l0.length l0 := (Kd.V_at (base := w.heap.size) HO_0.out).2.2
     have hcut9 := cut_to (P := Tryd.prog) 73 85 .i64 Tryd.underlying73 hi09 (some ad111) l0.length c0 x3_1 (xa) q9 hroom9
     have hr9 := Kd.F_take (m := (x3_1 : Int).toNat) hC9 (by omega)
     have hy9 : y112.length = (x3_1 : Int).toNat := (by rw [Ny112.out, List.length_take]; omega)
     rw [← Ny112.out] at hr9
     rw [← hy9] at hcut9
     have HO116 := Aside0.mk (show Kd.V (Kd.int .u32) 85 _ w.heap.size _ (.slice (some ad111) y112.length c0) y112 from Kd.V_mk (by omega) hr9)
     have HC116 := Aside0.mk (show y112.length ≤ c0 from by omega)
     clear hr9 hC9 hroom9 hi09 hsz9
     have KY9 := Aside0.mk hy9
     clear hy9
     replace q9 := eq_true q9
     go_wp2
     go_ret
     exact ⟨_, by first | rfl | (simp [errW_none, errW_some] <;> rfl) | (simp only [← hji3]; first | rfl | (simp [errW_none, errW_some] <;> rfl)) | (simp [*, errW_none, errW_some] <;> rfl), by (with_reducible repeat (first | apply Kd.V_alloc | apply Kd.V_drewN | apply Kd.V_drew)); exact HO116.out, xs HB⟩
   ·rw [if_neg c2] at H
    have c2b0 : decide (0 < x3_1) = false := decide_eq_false c2
    clear c2
    by_cases c10 : 0 ≤ x3_1
    rotate_left
    ·rw [if_neg c10] at H
     exact absurd H (by simp)
    rw [if_pos c10] at H
    have c10b0 := eq_true c10
    have c10b1 : decide (0 ≤ x3_1) = true := decide_eq_true c10
    clear c10
    by_cases c11 : x3_1 ≤ (l0.length : Int)
    rotate_left
    ·rw [if_neg c11] at H
     exact absurd H (by simp)
    rw [if_pos c11] at H
    have c11b0 := eq_true c11
    have c11b1 : decide (x3_1 ≤ (l0.length : Int)) = true := decide_eq_true c11
    clear c11
    obtain ⟨y117, hy117⟩ : ∃ y_ : List Int, y_ = (l0.take (x3_1 : Int).toNat) := ⟨_, rfl⟩
    replace H : (some y117) = some r := by first | (rw [hy117]; with_reducible exact H) | (have H2_ := (Option.bind_some _ _).symm.trans H; rw [hy117]; with_reducible exact H2_) | (have H2_ := (Option.bind_some _ _).symm.trans H; with_reducible exact H2_) | with_reducible exact H | (rw [hy117]; exact H) | exact H
    have Ny117 := Aside0.mk hy117
    clear hy117
    obtain rfl := Option.some.inj H
    have q12 : (x3_1 : Int) ≤ ((l0.length : Int) : Int) := xa
    obtain ⟨i012, hi012, _, hsz12, _⟩ := info_parts info85
    have hroom12 : l0.length ≤ c0 := (Kd.V_reads' HO_0.out).2.1
    have hC12 : Kd.F (Kd.int .u32) _ _ A0 l0.length l0 := (Kd.V_at (base := w.heap.size) HO_0.out).2.2
    have hcut12 := cut_to (P := Tryd.prog) 73 85 .i64 Tryd.underlying73 hi012 A0 l0.length c0 x3_1 (xa) q12 hroom12
    have hr12 := Kd.F_take (m := (x3_1 : Int).toNat) hC12 (by omega)
    have hy12 : y117.length = (x3_1 : Int).toNat := (by rw [Ny117.out, List.length_take]; omega)
    rw [← Ny117.out] at hr12
    rw [← hy12] at hcut12
    have HO121 := Aside0.mk (show Kd.V (Kd.int .u32) 85 _ w.heap.size _ (.slice A0 y117.length c0) y117 from Kd.V_mk (by omega) hr12)
    have HC121 := Aside0.mk (show y117.length ≤ c0 from by omega)
    clear hr12 hC12 hroom12 hi012 hsz12
    have KY12 := Aside0.mk hy12
    clear hy12
    replace q12 := eq_true q12
    go_wp2
    go_ret
    exact ⟨_, xy, by (with_reducible repeat (first | apply Kd.V_alloc | apply Kd.V_drewN | apply Kd.V_drew)); exact HO121.out, xs HB⟩
/-! ### insolvencyref1_short: function 101 -/
def insolvencyref1_short.l0 : Nat → List Int → Int → List Int → Int → Int → Option (List Int × Int)
 | 0, _, _, _, _, _ => none
 | k + 1, x0, x1, x6, x7, x8 => if x8 ≥ 0 then (if 0 ≤ x8 then (if x8 < (x0.length : Int) then (if (IntKind.u64.wrap (x1)) = 0 then (none) else (if x8 < (x6.length : Int) then (insolvencyref1_short.l0 k x0 x1 (x6.set (x8 : Int).toNat ((IntKind.u64.wrap (Int.tdiv (Go.bits .or .u64 (IntKind.u64.wrap (x7 * 4294967296)) (IntKind.u64.wrap (rd x0 x8))) (IntKind.u64.wrap (x1)))) % 4294967296)) (Int.tmod (Go.bits .or .u64 (IntKind.u64.wrap (x7 * 4294967296)) (IntKind.u64.wrap (rd x0 x8))) (IntKind.u64.wrap (x1))) (wrap64 (x8 - 1))) else (none))) else (none)) else (none)) else ((insolvencyref1_strip.f k x6).bind fun t127 => (some (t127, (x7) % 4294967296)))
def insolvencyref1_short.f (k : Nat) (l0 : List Int) (a1 : Int) : Option (List Int × Int) := if 0 ≤ (l0.length : Int) then (if ((l0.length : Int) : Int).toNat ≤ 70368744177664 then (insolvencyref1_short.l0 k l0 a1 (List.replicate ((l0.length : Int) : Int).toNat 0) 0 (wrap64 ((l0.length : Int) - 1))) else (none)) else (none)
theorem insolvencyref1_short.mono_l : ∀ k, (∀ y0 y1 y2 y3 y4, LeO (insolvencyref1_short.l0 k y0 y1 y2 y3 y4) (insolvencyref1_short.l0 (k + 1) y0 y1 y2 y3 y4))
 | 0 => fun _ _ _ _ _ r h => by simp [insolvencyref1_short.l0] at h
 | k + 1 => by
  have ih0 := insolvencyref1_short.mono_l k
  ·intro y0 y1 y2 y3 y4
   unfold insolvencyref1_short.l0
   have m0 := @ih0; have m1 := @insolvencyref1_strip.mono; exact xM
theorem insolvencyref1_short.mono : ∀ a0 a1 k, LeO (insolvencyref1_short.f k a0 a1) (insolvencyref1_short.f (k + 1) a0 a1) := by
 intro a0 a1 k
 have ih0 := insolvencyref1_short.mono_l k
 unfold insolvencyref1_short.f
 have m0 := @ih0; have m1 := @insolvencyref1_strip.mono; exact xM
set_option maxHeartbeats 8000000 in
set_option maxRecDepth 100000 in
theorem insolvencyref1_short.calls (k : Nat) (A0 : Option Addr) (c0 : Nat) (l0 : List Int) (a1 : Int) (r1 : List Int) (r2 : Int) (w : World) (hr0 : Kd.C (Kd.int .u32) w A0 l0.length l0) (hc0 : l0.length ≤ c0) (h : insolvencyref1_short.f k l0 a1 = some (r1, r2)) :
  Calls Tryd.prog 101 #[.slice A0 l0.length c0, .int .u32 a1] w fun e w' => ∃ v0_ : Value, e = .returned (.tuple #[v0_, .int .u32 r2]) ∧ Kd.V (Kd.int .u32) 85 w' w.heap.size (fun k_ => (w.heap.size ≤ k_)) v0_ r1 ∧ Below w.heap.size w w' := by
 have HR0 := Aside0.mk hr0
 have HC0 := Aside0.mk hc0
 clear hr0 hc0
 have HB := Aside0.mk (Below.refl w.heap.size w)
 have H : (if 0 ≤ (l0.length : Int) then (if ((l0.length : Int) : Int).toNat ≤ 70368744177664 then (insolvencyref1_short.l0 k l0 a1 (List.replicate ((l0.length : Int) : Int).toNat 0) 0 (wrap64 ((l0.length : Int) - 1))) else (none)) else (none)) = some (r1, r2) := h
 clear h
 by_cases c3 : 0 ≤ (l0.length : Int)
 rotate_left
 ·rw [if_neg c3] at H
  exact absurd H (by simp)
 rw [if_pos c3] at H
 have c3b0 := eq_true c3
 have c3b1 : decide (0 ≤ (l0.length : Int)) = true := decide_eq_true c3
 clear c3
 by_cases c4 : ((l0.length : Int) : Int).toNat ≤ 70368744177664
 rotate_left
 ·rw [if_neg c4] at H
  exact absurd H (by simp)
 rw [if_pos c4] at H
 have c4b0 := eq_true c4
 have c4b1 : decide (((l0.length : Int) : Int).toNat ≤ 70368744177664) = true := decide_eq_true c4
 clear c4
 obtain ⟨y122, hy122⟩ : ∃ y_ : List Int, y_ = (List.replicate ((l0.length : Int) : Int).toNat 0) := ⟨_, rfl⟩
 replace H : (insolvencyref1_short.l0 k l0 a1 y122 0 (wrap64 ((l0.length : Int) - 1))) = some (r1, r2) := by first | (rw [hy122]; with_reducible exact H) | (have H2_ := (Option.bind_some _ _).symm.trans H; rw [hy122]; with_reducible exact H2_) | (have H2_ := (Option.bind_some _ _).symm.trans H; with_reducible exact H2_) | with_reducible exact H | (rw [hy122]; exact H) | exact H
 have Ny122 := Aside0.mk hy122
 clear hy122
 have H' := Aside0.mk H
 clear H
 go_enter Tryd.func101, Tryd.ntmps101
 go_wp2_with (first | ((with_reducible refine gate_dst (N := 11) rfl ?_); refine Kd.R_make (Kd.int .u32) _ 85 rfl (N := 11) rfl 73 _ _ rfl (l0.length : Int) rfl rfl Tryd.underlying73 (.int .u32 0) 4 info85 rfl (by decide) (by omega) 0 (ok := fun _ => True) (okp := fun _ => True) rfl (fun _ hk => hk) trivial (xa) (Nat.le_trans (Nat.mul_le_mul_right _ (xa : (l0.length : Int).toNat ≤ 70368744177664)) (by omega)) (Below.refl _ _) (Nat.le_refl _) ?_; intro v123 w5 ho6 hb hg_ hnew_; clear hg_ hnew_; (first | rw [← Ny122.out] at ho6 | (simp only [Int.reduceToNat] at ho6; rw [← Ny122.out] at ho6)); have HO124 := Aside0.mk (Kd.R_lower (Kd.R_newM (M := fun k_ => (w.heap.size ≤ k_)) ho6 (below_size (xs HB)) (fun k_ h_ => h_)) (below_size (xs HB))); replace HB := xS HB hb; clear hb ho6))
 go_loopg [7, 8] k (fun kq v7 v8 w' => ∃ (x6_1 : List Int) (x7_1 : Int) (x8_1 : Int), v7 = .int .u64 x7_1 ∧ v8 = .int .i64 x8_1 ∧ Aside0 (insolvencyref1_short.l0 kq l0 a1 x6_1 x7_1 x8_1 = some (r1, r2)) ∧ Aside0 (kq ≤ k) ∧ Aside0 (Kd.R (Kd.int .u32) 85 w' w.heap.size (fun k_ => (w.heap.size ≤ k_)) v123 x6_1) ∧ Aside0 (Below w.heap.size w w'))
 case atStart => exact ⟨(y122), (0), (wrap64 ((l0.length : Int) - 1)), xz, xz, H', ⟨Nat.le_refl _⟩, ⟨by (with_reducible repeat (first | apply Kd.R_alloc | apply Kd.R_drewN | apply Kd.R_drew)); exact Kd.R_mono HO124.out (fun _ hk => hk.1)⟩, ⟨xs HB⟩⟩
 case round =>
  clear H'
  try clear c1
  try clear p2
  try clear c3
  try clear c3b0
  try clear c3b1
  try clear c4
  try clear c4b0
  try clear c4b1
  try clear p6
  obtain ⟨x6_1, x7_1, x8_1, rfl, rfl, HA, HK1, HO_6, HB⟩ := hrel
  cases gk with
  | zero => exact absurd HA.out (by simp [insolvencyref1_short.l0])
  | succ k1 =>
   have H := HA.out
   clear HA
   simp only [insolvencyref1_short.l0] at H
   by_cases c7 : x8_1 ≥ 0
   ·rw [if_pos c7] at H
    have c7b0 : decide (0 ≤ x8_1) = true := decide_eq_true c7
    clear c7
    by_cases c8 : 0 ≤ x8_1
    rotate_left
    ·rw [if_neg c8] at H
     exact absurd H (by simp)
    rw [if_pos c8] at H
    have c8b0 : decide (0 ≤ x8_1) = true := decide_eq_true c8
    clear c8
    by_cases c9 : x8_1 < (l0.length : Int)
    rotate_left
    ·rw [if_neg c9] at H
     exact absurd H (by simp)
    rw [if_pos c9] at H
    have c9b0 : decide (x8_1 < (l0.length : Int)) = true := decide_eq_true c9
    clear c9
    by_cases c10 : (IntKind.u64.wrap (a1)) = 0
    ·rw [if_pos c10] at H
     exact absurd H (by simp)
    ·rw [if_neg c10] at H
     have c10b0 : ((IntKind.u64.wrap (a1)) == 0) = false := beq_eq_false_iff_ne.mpr c10
     have c10b1 : ((IntKind.u64.wrap (a1)) != 0) = true := bne_iff_ne.mpr c10
     by_cases c11 : x8_1 < (x6_1.length : Int)
     rotate_left
     ·rw [if_neg c11] at H
      exact absurd H (by simp)
     rw [if_pos c11] at H
     have c11b0 : decide (x8_1 < (x6_1.length : Int)) = true := decide_eq_true c11
     clear c11
     obtain ⟨y126, hy126⟩ : ∃ y_ : List Int, y_ = (x6_1.set (x8_1 : Int).toNat ((IntKind.u64.wrap (Int.tdiv (Go.bits .or .u64 (IntKind.u64.wrap (x7_1 * 4294967296)) (IntKind.u64.wrap (rd l0 x8_1))) (IntKind.u64.wrap (a1)))) % 4294967296)) := ⟨_, rfl⟩
     replace H : (insolvencyref1_short.l0 k1 l0 a1 y126 (Int.tmod (Go.bits .or .u64 (IntKind.u64.wrap (x7_1 * 4294967296)) (IntKind.u64.wrap (rd l0 x8_1))) (IntKind.u64.wrap (a1))) (wrap64 (x8_1 - 1))) = some (r1, r2) := by first | (rw [hy126]; with_reducible exact H) | (have H2_ := (Option.bind_some _ _).symm.trans H; rw [hy126]; with_reducible exact H2_) | (have H2_ := (Option.bind_some _ _).symm.trans H; with_reducible exact H2_) | with_reducible exact H | (rw [hy126]; exact H) | exact H
     have Ny126 := Aside0.mk hy126
     clear hy126
     have H' := Aside0.mk H
     clear H
     have p125 : 0 ≤ (x8_1 : Int) := xa
     have q125 : x8_1 < (l0.length : Int) := xa
     obtain ⟨ad125, e125, hx125_0⟩ := Kd.at_int HR0.out x8_1 p125 q125
     cases e125
     (try replace hx125_0 := (HB.out.cell (World.block_lt_of_cell? w _ hx125_0)).trans hx125_0)
     replace p125 := eq_true p125
     replace q125 := eq_true q125
     have p12 : 0 ≤ (x8_1 : Int) := xa
     have q12 : (x8_1 : Int) < ((x6_1.length : Int) : Int) := xa
     obtain ⟨go12, co12, eo12, gb12, gl12, cl12, HG12⟩ := Kd.R_form HO_6.out (by omega)
     (first | cases eo12 | (injection eo12 with ea_ en_ ec_; (first | subst ea_ | (injection ea_ with ea_; subst ea_)); subst ec_; clear en_))
     have GB12 := Aside0.mk gb12
     have GG12 := Aside0.mk HG12
     clear gb12 gl12 HG12
     obtain ⟨hx12_0, hf12_0⟩ := Kd.R_celln 0 HO_6.out (x8_1 : Int) p12 q12
     replace p12 := eq_true p12
     replace q12 := eq_true q12
     have HP13 := Kd.R_putg HO_6.out (x8_1 : Int) ((IntKind.u64.wrap (Int.tdiv (Go.bits .or .u64 (IntKind.u64.wrap (x7_1 * 4294967296)) (IntKind.u64.wrap (rd l0 x8_1))) (IntKind.u64.wrap (a1)))) % 4294967296)
     go_wp2_with (first | ((with_reducible refine gate_store (t := 85) (p := 34) rfl ?_); refine store_event (t := 85) (p := 34) (v := ?vo_w14) (w1 := (wr.setCell ⟨go12, (x8_1 : Int).toNat, none⟩ (.int .u32 ((IntKind.u64.wrap (Int.tdiv (Go.bits .or .u64 (IntKind.u64.wrap (x7_1 * 4294967296)) (IntKind.u64.wrap (rd l0 x8_1))) (IntKind.u64.wrap (a1)))) % 4294967296)))) ?hg ?ho ?hn ?hr ?_; (case ho => rfl); (case hg => rfl); (case hn => rfl); (case hr => first | (go_simp; done) | (go_simp; rfl)); intro w14 hw; have hg : wr.grownBy w14 (some go12) := (by rw [hw]; exact HP13.2); have hp_ : Kd.R (Kd.int .u32) 85 w14 w.heap.size (fun k_ => (w.heap.size ≤ k_)) (.slice (some ⟨go12, 0, none⟩) x6_1.length co12) y126 := (by rw [hw, Ny126.out]; exact HP13.1); clear HP13; replace HO_6 := Aside0.mk (hp_); replace HB := Aside0.mk ((by rw [hw]; exact below_set (HB.out) GB12.out : Below w.heap.size w w14)); clear hg hw hp_))
     (first | go_roundg k1 | (refine Handed.intro k1 ?measure ?_; rotate_left; go_step; (repeat apply Exists.intro); refine ⟨?rel, (by first | rfl | (simp only [add_plain]; rfl))⟩))
     case measure => have := HK1.out; omega
     case rel => exact ⟨(y126), (Int.tmod (Go.bits .or .u64 (IntKind.u64.wrap (x7_1 * 4294967296)) (IntKind.u64.wrap (rd l0 x8_1))) (IntKind.u64.wrap (a1))), (wrap64 (x8_1 - 1)), xz, xz, H', ⟨by have := HK1.out; omega⟩, ⟨xr HO_6.out⟩, ⟨xs HB⟩⟩
   ·rw [if_neg c7] at H
    have c7b0 : decide (0 ≤ x8_1) = false := decide_eq_false c7
    clear c7
    replace H := xH H; obtain ⟨t127, A15, H⟩ := H
    simp only [Option.some.injEq, Prod.mk.injEq] at H
    obtain ⟨rfl, rfl⟩ := H
    obtain ⟨Ao16, co16, eo16⟩ := Kd.R_slice HO_6.out
    subst eo16
    go_wp2_with (first | (refine xg Tryd.func88 (some 40) #[.slice Ao16 x6_1.length co16] ?_; (with_reducible refine (insolvencyref1_strip.calls k1 (fun k_ => some k_ = (.slice Ao16 x6_1.length co16 : Value).ownBlock) _ _ x6_1 t127 _ ?side1 A15.out).mono ?_); (case side1 => exact Kd.R_V (Kd.R_tight rfl (HO_6.out))); rintro e w17 ⟨v128, rfl, ho0, hb⟩; refine ⟨_, rfl, ?_⟩; have HO129 := Aside0.mk (Kd.V_lower (Kd.V_mono (ok' := fun k_ => (w.heap.size ≤ k_)) ho0 (fun k_ hk_ => Or.elim hk_ (fun hs_ => ((HO_6.out).1 k_ hs_.symm)) (fun hn_ => (Nat.le_trans (below_size (xs HB)) hn_)))) (below_size (xs HB))); replace HO_6 := Aside0.mk (Kd.R_below (xr HO_6.out) hb); replace HB := xS HB hb; clear hb ho0))
    go_ret2
    exact ⟨_, xy, by (with_reducible repeat (first | apply Kd.V_alloc | apply Kd.V_drewN | apply Kd.V_drew)); exact HO129.out, xs HB⟩
-- NOT PRINTED: function 114 (insolvencyref1_shifted)
-- NOT PRINTED: function 102 (insolvencyref1_long)
/-! ### insolvencyref1_divide: function 91 -/
def insolvencyref1_divide.f (k : Nat) (l0 : List Int) (l1 : List Int) : Option (List Int × List Int) := (insolvencyref1_order.f k l0 l1).bind fun t130 => (if t130 < 0 then (some (([] : List Int), l0)) else (if (l1.length : Int) = 1 then (if 0 < (l1.length : Int) then ((insolvencyref1_short.f k l0 (rd l1 0)).bind fun bt132 => ((insolvencyref1_strip.f k (([bt132.2] : List Int))).bind fun t139 => (some (bt132.1, t139)))) else (none)) else (none)))
theorem insolvencyref1_divide.mono : ∀ a0 a1 k, LeO (insolvencyref1_divide.f k a0 a1) (insolvencyref1_divide.f (k + 1) a0 a1) := by
 intro a0 a1 k
 unfold insolvencyref1_divide.f
 have m0 := @insolvencyref1_order.mono; have m1 := @insolvencyref1_short.mono; have m2 := @insolvencyref1_strip.mono; exact xM
set_option maxHeartbeats 8000000 in
set_option maxRecDepth 100000 in
theorem insolvencyref1_divide.calls (k : Nat) (P0_ : Nat → Prop) (A0 : Option Addr) (c0 : Nat) (l0 : List Int) (A1 : Option Addr) (c1 : Nat) (l1 : List Int) (r1 : List Int) (r2 : List Int) (w : World) (hs0 : Kd.V (Kd.int .u32) 85 w w.heap.size (fun k_ => P0_ k_) (.slice A0 l0.length c0) l0) (hr1 : Kd.C (Kd.int .u32) w A1 l1.length l1) (hc1 : l1.length ≤ c1) (h : insolvencyref1_divide.f k l0 l1 = some (r1, r2)) :
  Calls Tryd.prog 91 #[.slice A0 l0.length c0, .slice A1 l1.length c1] w fun e w' => ∃ v0_ v1_ : Value, e = .returned (.tuple #[v0_, v1_]) ∧ Kd.V (Kd.int .u32) 85 w' w.heap.size (fun k_ => (P0_ k_ ∨ w.heap.size ≤ k_)) v0_ r1 ∧ Kd.V (Kd.int .u32) 85 w' w.heap.size (fun k_ => (P0_ k_ ∨ w.heap.size ≤ k_)) v1_ r2 ∧ Below w.heap.size w w' := by
 have HO0 := Aside0.mk (show Kd.V (Kd.int .u32) 85 w w.heap.size (fun k_ => (P0_ k_ ∨ w.heap.size ≤ k_)) (.slice A0 l0.length c0) l0 from Kd.V_mono hs0 (fun k_ hk => .inl hk))
 have HR1 := Aside0.mk hr1
 have HC1 := Aside0.mk hc1
 clear hr1 hc1
 have HB := Aside0.mk (Below.refl w.heap.size w)
 have H : ((insolvencyref1_order.f k l0 l1).bind fun t130 => (if t130 < 0 then (some (([] : List Int), l0)) else (if (l1.length : Int) = 1 then (if 0 < (l1.length : Int) then ((insolvencyref1_short.f k l0 (rd l1 0)).bind fun bt132 => ((insolvencyref1_strip.f k (([bt132.2] : List Int))).bind fun t139 => (some (bt132.1, t139)))) else (none)) else (none)))) = some (r1, r2) := h
 clear h
 replace H := xH H; obtain ⟨t130, A3, H⟩ := H
 by_cases c4 : t130 < 0
 ·rw [if_pos c4] at H
  have c4b0 : decide (t130 < 0) = true := decide_eq_true c4
  clear c4
  simp only [Option.some.injEq, Prod.mk.injEq] at H
  obtain ⟨rfl, rfl⟩ := H
  go_enter Tryd.func91, Tryd.ntmps91
  go_wp2_with (first | (refine xg Tryd.func70 (some 10) #[.slice A0 l0.length c0, .slice A1 l1.length c1] ?_; (with_reducible refine (insolvencyref1_order.calls k _ _ l0 _ _ l1 t130 _ (xf (Kd.V_reads' HO0.out).2.2) (Kd.V_reads' HO0.out).2.1 (xf HR1.out) HC1.out A3.out).mono ?_); rintro e w' ⟨rfl, ⟨nd, rfl⟩⟩; refine ⟨_, rfl, ?_⟩))
  go_ret2
  exact ⟨_, _, xy, Kd.V_nil _ _ _ _ _, by (with_reducible repeat (first | apply Kd.V_alloc | apply Kd.V_drewN | apply Kd.V_drew)); exact HO0.out, xs HB⟩
 ·rw [if_neg c4] at H
  have c4b0 : decide (t130 < 0) = false := decide_eq_false c4
  clear c4
  by_cases c5 : (l1.length : Int) = 1
  rotate_left
  ·rw [if_neg c5] at H
   exact absurd H (by simp)
  rw [if_pos c5] at H
  have c5b0 : ((l1.length : Int) == 1) = true := beq_iff_eq.mpr c5
  have c5b1 : ((l1.length : Int) != 1) = false := bne_eq_false_iff_eq.mpr c5
  clear c5
  by_cases c6 : 0 < (l1.length : Int)
  rotate_left
  ·rw [if_neg c6] at H
   exact absurd H (by simp)
  rw [if_pos c6] at H
  have c6b0 : decide (0 < (l1.length : Int)) = true := decide_eq_true c6
  have c6b1 : decide (0 < l1.length) = true := decide_eq_true (by omega)
  clear c6
  replace H := xH H; obtain ⟨⟨t132, t135⟩, A7, H⟩ := H
  dsimp only at H
  obtain ⟨y136, hy136⟩ : ∃ y_ : List Int, y_ = (([t135] : List Int)) := ⟨_, rfl⟩
  replace H : ((insolvencyref1_strip.f k y136).bind fun t139 => (some (t132, t139))) = some (r1, r2) := by first | (rw [hy136]; with_reducible exact H) | (have H2_ := (Option.bind_some _ _).symm.trans H; rw [hy136]; with_reducible exact H2_) | (have H2_ := (Option.bind_some _ _).symm.trans H; with_reducible exact H2_) | with_reducible exact H | (rw [hy136]; exact H) | exact H
  have Ny136 := Aside0.mk hy136
  clear hy136
  replace H := xH H; obtain ⟨t139, A8, H⟩ := H
  simp only [Option.some.injEq, Prod.mk.injEq] at H
  obtain ⟨rfl, rfl⟩ := H
  go_enter Tryd.func91, Tryd.ntmps91
  go_wp2_with (first | (refine xg Tryd.func70 (some 10) #[.slice A0 l0.length c0, .slice A1 l1.length c1] ?_; (with_reducible refine (insolvencyref1_order.calls k _ _ l0 _ _ l1 t130 _ (xf (Kd.V_reads' HO0.out).2.2) (Kd.V_reads' HO0.out).2.1 (xf HR1.out) HC1.out A3.out).mono ?_); rintro e w' ⟨rfl, ⟨nd, rfl⟩⟩; refine ⟨_, rfl, ?_⟩; have p131 : 0 ≤ (0 : Int) := (by omega); have q131 : 0 < (l1.length : Int) := xa; obtain ⟨ad131, e131, hx131_0⟩ := Kd.at_int HR1.out 0 p131 q131; cases e131; have qi131 : (0 < l1.length) = True := eq_true (by omega); (try rw [show ((0 : Int)).toNat = 0 from rfl] at hx131_0); (try rw [Addr.add_zero'] at hx131_0); replace p131 := eq_true p131; replace q131 := eq_true q131) | (refine xg Tryd.func101 (some 21) #[.slice A0 l0.length c0, .int .u32 (rd l1 0)] ?_; (with_reducible refine (insolvencyref1_short.calls k _ _ l0 (rd l1 0) t132 t135 _ (xf (Kd.V_reads' HO0.out).2.2) (Kd.V_reads' HO0.out).2.1 A7.out).mono ?_); rintro e w9 ⟨v133, rfl, ho0, hb⟩; refine ⟨_, rfl, ?_⟩; replace HO0 := Aside0.mk (Kd.V_below (xv HO0.out) hb); have HO134 := Aside0.mk (Kd.V_lower (Kd.V_mono (ok' := fun k_ => (P0_ k_ ∨ w.heap.size ≤ k_)) ho0 (fun k_ hk_ => (.inr (Nat.le_trans (below_size (xs HB)) hk_)))) (below_size (xs HB))); replace HB := xS HB hb; clear hb ho0) | ((with_reducible refine gate_dst (N := 26) rfl ?_); refine Kd.R_lit (Kd.int .u32) _ 85 ?hg (N := 26) ?hd (xs := ([t135] : List Int)) (inner := [.int .u32 t135]) (ok := fun _ => True) (okp := fun _ => True) ?hr ?hp (fun _ hk => hk) trivial (Below.refl _ _) (Nat.le_refl _) (by simp) ?_; (case hd => rfl); (case hg => rfl); (case hr => first | (go_simp; done) | (go_simp; rfl)); (case hp => exact (Reps.one (show Kd.M (Kd.int .u32) _ _ _ t135 [.int .u32 t135] from rfl) (Reps.none _ _))); intro v137 w10 ho11 hb hg_ hnew_; clear hg_ hnew_; (first | rw [← Ny136.out] at ho11 | (simp only [Int.reduceToNat] at ho11; rw [← Ny136.out] at ho11)); replace HO0 := Aside0.mk (Kd.V_elder' (xv HO0.out) (Kd.R_base ho11) hb); replace HO134 := Aside0.mk (Kd.V_elder' (xv HO134.out) (Kd.R_base ho11) hb); have HO138 := Aside0.mk (Kd.R_lower (Kd.R_newM (M := fun k_ => (w.heap.size ≤ k_)) ho11 (below_size (xs HB)) (fun k_ h_ => h_)) (below_size (xs HB))); replace HB := xS HB hb; clear hb ho11; obtain ⟨Ao12, co12, eo12⟩ := Kd.R_slice HO138.out; subst eo12) | (refine xg Tryd.func88 (some 27) #[.slice Ao12 y136.length co12] ?_; (with_reducible refine (insolvencyref1_strip.calls k (fun k_ => some k_ = (.slice Ao12 y136.length co12 : Value).ownBlock) _ _ y136 t139 _ ?side1 A8.out).mono ?_); (case side1 => exact Kd.R_V (Kd.R_tight rfl (HO138.out))); rintro e w13 ⟨v140, rfl, ho0, hb⟩; refine ⟨_, rfl, ?_⟩; replace HO0 := Aside0.mk (Kd.V_below (xv HO0.out) hb); replace HO134 := Aside0.mk (Kd.V_below (xv HO134.out) hb); have HO141 := Aside0.mk (Kd.V_lower (Kd.V_mono (ok' := fun k_ => (P0_ k_ ∨ w.heap.size ≤ k_)) ho0 (fun k_ hk_ => Or.elim hk_ (fun hs_ => (.inr (((HO138.out).1 k_ hs_.symm).1))) (fun hn_ => (.inr (Nat.le_trans (below_size (xs HB)) hn_))))) (below_size (xs HB))); replace HO138 := Aside0.mk (Kd.R_below (xr HO138.out) hb); replace HB := xS HB hb; clear hb ho0))
  go_ret2
  exact ⟨_, _, xy, by (with_reducible repeat (first | apply Kd.V_alloc | apply Kd.V_drewN | apply Kd.V_drew)); exact Kd.V_mono HO134.out (fun _ hk => hk.1), by (with_reducible repeat (first | apply Kd.V_alloc | apply Kd.V_drewN | apply Kd.V_drew)); exact HO141.out, xs HB⟩
/-! ### insolvencyref1_common: function 90 -/
def insolvencyref1_common.l0 : Nat → List Int → List Int → Option (List Int)
 | 0, _, _ => none
 | k + 1, x0, x1 => if (x1.length : Int) > 0 then ((insolvencyref1_divide.f k x0 x1).bind fun bt142 => (insolvencyref1_common.l0 k x1 bt142.2)) else (some x0)
def insolvencyref1_common.f (k : Nat) (l0 : List Int) (l1 : List Int) : Option (List Int) := insolvencyref1_common.l0 k l0 l1
theorem insolvencyref1_common.mono_l : ∀ k, (∀ y0 y1, LeO (insolvencyref1_common.l0 k y0 y1) (insolvencyref1_common.l0 (k + 1) y0 y1))
 | 0 => fun _ _ r h => by simp [insolvencyref1_common.l0] at h
 | k + 1 => by
  have ih0 := insolvencyref1_common.mono_l k
  ·intro y0 y1
   unfold insolvencyref1_common.l0
   have m0 := @ih0; have m1 := @insolvencyref1_divide.mono; exact xM
theorem insolvencyref1_common.mono : ∀ a0 a1 k, LeO (insolvencyref1_common.f k a0 a1) (insolvencyref1_common.f (k + 1) a0 a1) := by
 intro a0 a1 k
 have ih0 := insolvencyref1_common.mono_l k
 unfold insolvencyref1_common.f
 have m0 := @ih0; have m1 := @insolvencyref1_divide.mono; exact xM
set_option maxHeartbeats 8000000 in
set_option maxRecDepth 100000 in
theorem insolvencyref1_common.calls (k : Nat) (P0_ : Nat → Prop) (A0 : Option Addr) (c0 : Nat) (l0 : List Int) (P1_ : Nat → Prop) (A1 : Option Addr) (c1 : Nat) (l1 : List Int) (r : List Int) (w : World) (hs0 : Kd.V (Kd.int .u32) 85 w w.heap.size (fun k_ => P0_ k_) (.slice A0 l0.length c0) l0) (hs1 : Kd.V (Kd.int .u32) 85 w w.heap.size (fun k_ => P1_ k_) (.slice A1 l1.length c1) l1) (h : insolvencyref1_common.f k l0 l1 = some r) :
  Calls Tryd.prog 90 #[.slice A0 l0.length c0, .slice A1 l1.length c1] w fun e w' => ∃ v0_ : Value, e = .returned (v0_) ∧ Kd.V (Kd.int .u32) 85 w' w.heap.size (fun k_ => ((P0_ k_ ∨ P1_ k_) ∨ w.heap.size ≤ k_)) v0_ r ∧ Below w.heap.size w w' := by
 have HO0 := Aside0.mk (show Kd.V (Kd.int .u32) 85 w w.heap.size (fun k_ => ((P0_ k_ ∨ P1_ k_) ∨ w.heap.size ≤ k_)) (.slice A0 l0.length c0) l0 from Kd.V_mono hs0 (fun k_ hk => .inl (.inl hk)))
 have HO1 := Aside0.mk (show Kd.V (Kd.int .u32) 85 w w.heap.size (fun k_ => ((P0_ k_ ∨ P1_ k_) ∨ w.heap.size ≤ k_)) (.slice A1 l1.length c1) l1 from Kd.V_mono hs1 (fun k_ hk => .inl (.inr hk)))
 have HB := Aside0.mk (Below.refl w.heap.size w)
 have H : (insolvencyref1_common.l0 k l0 l1) = some r := h
 clear h
 have H' := Aside0.mk H
 clear H
 go_enter Tryd.func90, Tryd.ntmps90
 go_wp2
 go_loopg [0, 1] k (fun kq v0 v1 w' => ∃ (x0_1 : List Int) (x1_1 : List Int), Aside0 (insolvencyref1_common.l0 kq x0_1 x1_1 = some r) ∧ Aside0 (kq ≤ k) ∧ Aside0 (Kd.V (Kd.int .u32) 85 w' w.heap.size (fun k_ => ((P0_ k_ ∨ P1_ k_) ∨ w.heap.size ≤ k_)) v0 x0_1) ∧ Aside0 (Kd.V (Kd.int .u32) 85 w' w.heap.size (fun k_ => ((P0_ k_ ∨ P1_ k_) ∨ w.heap.size ≤ k_)) v1 x1_1) ∧ Aside0 (Below w.heap.size w w'))
 case atStart => exact ⟨(l0), (l1), H', ⟨Nat.le_refl _⟩, ⟨xv HO0.out⟩, ⟨xv HO1.out⟩, ⟨xs HB⟩⟩
 case round =>
  clear H'
  try clear c1
  try clear p2
  obtain ⟨x0_1, x1_1, HA, HK1, HO_0, HO_1, HB⟩ := hrel
  cases gk with
  | zero => exact absurd HA.out (by simp [insolvencyref1_common.l0])
  | succ k1 =>
   have H := HA.out
   clear HA
   simp only [insolvencyref1_common.l0] at H
   by_cases c3 : (x1_1.length : Int) > 0
   ·rw [if_pos c3] at H
    have c3b0 : decide (0 < (x1_1.length : Int)) = true := decide_eq_true c3
    have c3b1 : decide (0 < x1_1.length) = true := decide_eq_true (by omega)
    clear c3
    replace H := xH H; obtain ⟨⟨t142, t145⟩, A4, H⟩ := H
    dsimp only at H
    have H' := Aside0.mk H
    clear H
    obtain ⟨Ao5, co5, eo5⟩ := Kd.V_slice HO_1.out
    subst eo5
    obtain ⟨Ao6, co6, eo6⟩ := Kd.V_slice HO_0.out
    subst eo6
    go_wp2_with (first | (refine xg Tryd.func91 (some 13) #[.slice Ao6 x0_1.length co6, .slice Ao5 x1_1.length co5] ?_; (with_reducible refine (insolvencyref1_divide.calls k1 (fun k_ => ((P0_ k_ ∨ P1_ k_) ∨ w.heap.size ≤ k_)) _ _ x0_1 _ _ x1_1 t142 t145 _ HO_0.out (xf (Kd.V_reads' HO_1.out).2.2) (Kd.V_reads' HO_1.out).2.1 A4.out).mono ?_); rintro e w7 ⟨v143, v146, rfl, ho0, ho1, hb⟩; refine ⟨_, rfl, ?_⟩; replace HO_0 := Aside0.mk (Kd.V_below (xv HO_0.out) hb); replace HO_1 := Aside0.mk (Kd.V_below (xv HO_1.out) hb); have HO144 := Aside0.mk (Kd.V_lower (Kd.V_mono (ok' := fun k_ => ((P0_ k_ ∨ P1_ k_) ∨ w.heap.size ≤ k_)) ho0 (fun k_ hk_ => Or.elim hk_ (fun hs_ => hs_) (fun hn_ => (.inr (Nat.le_trans (below_size (xs HB)) hn_))))) (below_size (xs HB))); have HO147 := Aside0.mk (Kd.V_lower (Kd.V_mono (ok' := fun k_ => ((P0_ k_ ∨ P1_ k_) ∨ w.heap.size ≤ k_)) ho1 (fun k_ hk_ => Or.elim hk_ (fun hs_ => hs_) (fun hn_ => (.inr (Nat.le_trans (below_size (xs HB)) hn_))))) (below_size (xs HB))); replace HB := xS HB hb; clear hb ho0 ho1))
    (first | go_roundg k1 | (refine Handed.intro k1 ?measure ?_; rotate_left; go_step; (repeat apply Exists.intro); refine ⟨?rel, (by first | rfl | (simp only [add_plain]; rfl))⟩))
    case measure => have := HK1.out; omega
    case rel => exact ⟨(x1_1), (t145), H', ⟨by have := HK1.out; omega⟩, ⟨xv HO_1.out⟩, ⟨xv HO147.out⟩, ⟨xs HB⟩⟩
   ·rw [if_neg c3] at H
    have c3b0 : decide (0 < (x1_1.length : Int)) = false := decide_eq_false c3
    have c3b1 : decide (0 < x1_1.length) = false := decide_eq_false (by omega)
    clear c3
    obtain rfl := Option.some.inj H
    obtain ⟨Ao8, co8, eo8⟩ := Kd.V_slice HO_1.out
    subst eo8
    go_wp2
    go_ret
    exact ⟨_, xy, by (with_reducible repeat (first | apply Kd.V_alloc | apply Kd.V_drewN | apply Kd.V_drew)); exact HO_0.out, xs HB⟩
/-! ### insolvencyref1_text: function 92 -/
def insolvencyref1_text.l0 : Nat → List Int → List Int → Int → Option (ByteArray)
 | 0, _, _, _ => none
 | k + 1, x0, x3, x4 => if x4 ≥ 0 then (if 0 ≤ x4 then (if x4 < (x0.length : Int) then ((some (([((rd x0 x4) / 16777216) % 256, ((rd x0 x4) / 65536) % 256, ((rd x0 x4) / 256) % 256, (rd x0 x4) % 256] : List Int) : List Int)).bind fun y155 => (if x3.length + y155.length < 140737488355328 then (insolvencyref1_text.l0 k x0 (x3 ++ y155) (wrap64 (x4 - 1))) else (none))) else (none)) else (none)) else ((insolvencyref1_Normalize.f k (strOfNums x3)).bind fun t161 => (some t161))
def insolvencyref1_text.f (k : Nat) (l0 : List Int) : Option (ByteArray) := (insolvencyref1_strip.f k l0).bind fun t148 => (if 0 ≤ (wrap64 (4 * (t148.length : Int))) then (if (wrap64 (4 * (t148.length : Int)) : Int).toNat ≤ 281474976710656 then (insolvencyref1_text.l0 k t148 (List.replicate 0 0) (wrap64 ((t148.length : Int) - 1))) else (none)) else (none))
theorem insolvencyref1_text.mono_l : ∀ k, (∀ y0 y1 y2, LeO (insolvencyref1_text.l0 k y0 y1 y2) (insolvencyref1_text.l0 (k + 1) y0 y1 y2))
 | 0 => fun _ _ _ r h => by simp [insolvencyref1_text.l0] at h
 | k + 1 => by
  have ih0 := insolvencyref1_text.mono_l k
  ·intro y0 y1 y2
   unfold insolvencyref1_text.l0
   have m0 := @ih0; have m1 := @insolvencyref1_Normalize.mono; have m2 := @insolvencyref1_strip.mono; exact xM
theorem insolvencyref1_text.mono : ∀ a0 k, LeO (insolvencyref1_text.f k a0) (insolvencyref1_text.f (k + 1) a0) := by
 intro a0 k
 have ih0 := insolvencyref1_text.mono_l k
 unfold insolvencyref1_text.f
 have m0 := @ih0; have m1 := @insolvencyref1_Normalize.mono; have m2 := @insolvencyref1_strip.mono; exact xM
set_option maxHeartbeats 8000000 in
set_option maxRecDepth 100000 in
theorem insolvencyref1_text.calls (k : Nat) (A0 : Option Addr) (c0 : Nat) (l0 : List Int) (r : ByteArray) (w : World) (hr0 : Kd.C (Kd.int .u32) w A0 l0.length l0) (hc0 : l0.length ≤ c0) (h : insolvencyref1_text.f k l0 = some r) :
  Calls Tryd.prog 92 #[.slice A0 l0.length c0] w fun e w' => e = .returned (.string r) ∧ Below w.heap.size w w' := by
 have HR0 := Aside0.mk hr0
 have HC0 := Aside0.mk hc0
 clear hr0 hc0
 have HB := Aside0.mk (Below.refl w.heap.size w)
 have H : ((insolvencyref1_strip.f k l0).bind fun t148 => (if 0 ≤ (wrap64 (4 * (t148.length : Int))) then (if (wrap64 (4 * (t148.length : Int)) : Int).toNat ≤ 281474976710656 then (insolvencyref1_text.l0 k t148 (List.replicate 0 0) (wrap64 ((t148.length : Int) - 1))) else (none)) else (none))) = some r := h
 clear h
 replace H := xH H; obtain ⟨t148, A2, H⟩ := H
 obtain ⟨ji3, hji3⟩ : ∃ j_ : Int, (wrap64 (4 * (t148.length : Int))) = j_ := ⟨_, rfl⟩
 replace H : (if 0 ≤ (ji3) then (if (ji3 : Int).toNat ≤ 281474976710656 then (insolvencyref1_text.l0 k t148 (List.replicate 0 0) (wrap64 ((t148.length : Int) - 1))) else (none)) else (none)) = some r := by first | (rw [hji3] at H; exact H) | (simp only [hji3] at H ⊢; exact H)
 (try rw [hji3] at A2)
 have hji3w : (IntKind.i64.wrap (4 * (t148.length : Int))) = ji3 := (i64_w _).trans hji3
 by_cases c4 : 0 ≤ (ji3)
 rotate_left
 ·rw [if_neg c4] at H
  exact absurd H (by simp)
 rw [if_pos c4] at H
 have c4b0 := eq_true c4
 have c4b1 : decide (0 ≤ (ji3)) = true := decide_eq_true c4
 clear c4
 by_cases c5 : (ji3 : Int).toNat ≤ 281474976710656
 rotate_left
 ·rw [if_neg c5] at H
  exact absurd H (by simp)
 rw [if_pos c5] at H
 have c5b0 := eq_true c5
 have c5b1 : decide ((ji3 : Int).toNat ≤ 281474976710656) = true := decide_eq_true c5
 clear c5
 obtain ⟨y151, hy151⟩ : ∃ y_ : List Int, y_ = (List.replicate 0 0) := ⟨_, rfl⟩
 replace H : (insolvencyref1_text.l0 k t148 y151 (wrap64 ((t148.length : Int) - 1))) = some r := by first | (rw [hy151]; with_reducible exact H) | (have H2_ := (Option.bind_some _ _).symm.trans H; rw [hy151]; with_reducible exact H2_) | (have H2_ := (Option.bind_some _ _).symm.trans H; with_reducible exact H2_) | with_reducible exact H | (rw [hy151]; exact H) | exact H
 have Ny151 := Aside0.mk hy151
 clear hy151
 have H' := Aside0.mk H
 clear H
 go_enter Tryd.func92, Tryd.ntmps92
 go_wp2_with (first | (refine xg Tryd.func88 (some 7) #[.slice A0 l0.length c0] ?_; (with_reducible refine (insolvencyref1_strip.calls k (fun k_ => k_ < w.heap.size) _ _ l0 t148 _ ?side1 A2.out).mono ?_); (case side1 => exact Kd.V_mk HC0.out (Kd.F_below (Kd.C_F (Kd.heap_int .u32) HR0.out) (xs HB))); rintro e w6 ⟨v149, rfl, ho0, hb⟩; refine ⟨_, rfl, ?_⟩; have HO150 := Aside0.mk (Kd.V_lower (Kd.V_mono (ok' := fun k_ => True) ho0 (fun k_ hk_ => trivial)) (below_size (xs HB))); replace HB := xS HB hb; clear hb ho0; obtain ⟨Ao7, co7, eo7⟩ := Kd.V_slice HO150.out; subst eo7) | ((with_reducible refine gate_dst (N := 11) rfl ?_); refine Kd.R_make0 (Kd.int .u8) _ 5 rfl (N := 11) rfl 103 _ _ rfl ji3 rfl rfl Tryd.underlying103 (.int .u8 0) 1 info5 rfl (by decide) (by omega) 0 (ok := fun _ => True) (okp := fun _ => True) rfl (fun _ hk => hk) trivial (xa) (Nat.le_trans (Nat.mul_le_mul_right _ (xa : ji3.toNat ≤ 281474976710656)) (by omega)) (Below.refl _ _) (Nat.le_refl _) ?_; intro v152 w8 ho9 hb hg_ hnew_; clear hg_ hnew_; (first | rw [← Ny151.out] at ho9 | (simp only [Int.reduceToNat] at ho9; rw [← Ny151.out] at ho9)); replace HO150 := Aside0.mk (Kd.V_elder' (xv HO150.out) (Kd.R_base ho9) hb); have HO153 := Aside0.mk (Kd.R_lower ho9 (below_size (xs HB))); replace HB := xS HB hb; clear hb ho9))
 go_loopg [3, 4] k (fun kq v3 v4 w' => ∃ (x3_1 : List Int) (x4_1 : Int), v4 = .int .i64 x4_1 ∧ Aside0 (insolvencyref1_text.l0 kq t148 x3_1 x4_1 = some r) ∧ Aside0 (kq ≤ k) ∧ Aside0 (Kd.V (Kd.int .u32) 85 w' w.heap.size (fun k_ => some k_ ≠ (v3 : Value).ownBlock) (.slice Ao7 t148.length co7) t148) ∧ Aside0 (Kd.R (Kd.int .u8) 5 w' w.heap.size (fun _ => True) v3 x3_1) ∧ Aside0 (Below w.heap.size w w'))
 case atStart => exact ⟨(y151), (wrap64 ((t148.length : Int) - 1)), xz, H', ⟨Nat.le_refl _⟩, ⟨by (with_reducible repeat (first | apply Kd.V_alloc | apply Kd.V_drewN | apply Kd.V_drew)); exact Kd.V_mono HO150.out (fun _ hk => hk.2)⟩, ⟨xr HO153.out⟩, ⟨xs HB⟩⟩
 case round =>
  clear H'
  try clear p2
  try clear c4
  try clear c4b0
  try clear c4b1
  try clear c5
  try clear c5b0
  try clear c5b1
  try clear p6
  try clear c8
  try clear c9
  obtain ⟨x3_1, x4_1, rfl, HA, HK1, HO_0, HO_3, HB⟩ := hrel
  cases gk with
  | zero => exact absurd HA.out (by simp [insolvencyref1_text.l0])
  | succ k1 =>
   have H := HA.out
   clear HA
   simp only [insolvencyref1_text.l0] at H
   by_cases c10 : x4_1 ≥ 0
   ·rw [if_pos c10] at H
    have c10b0 : decide (0 ≤ x4_1) = true := decide_eq_true c10
    clear c10
    by_cases c11 : 0 ≤ x4_1
    rotate_left
    ·rw [if_neg c11] at H
     exact absurd H (by simp)
    rw [if_pos c11] at H
    have c11b0 : decide (0 ≤ x4_1) = true := decide_eq_true c11
    clear c11
    by_cases c12 : x4_1 < (t148.length : Int)
    rotate_left
    ·rw [if_neg c12] at H
     exact absurd H (by simp)
    rw [if_pos c12] at H
    have c12b0 : decide (x4_1 < (t148.length : Int)) = true := decide_eq_true c12
    clear c12
    obtain ⟨y155, hy155⟩ : ∃ y_ : List Int, y_ = (([((rd t148 x4_1) / 16777216) % 256, ((rd t148 x4_1) / 65536) % 256, ((rd t148 x4_1) / 256) % 256, (rd t148 x4_1) % 256] : List Int)) := ⟨_, rfl⟩
    replace H : (if x3_1.length + y155.length < 140737488355328 then (insolvencyref1_text.l0 k1 t148 (x3_1 ++ y155) (wrap64 (x4_1 - 1))) else (none)) = some r := by first | (rw [hy155]; with_reducible exact H) | (have H2_ := (Option.bind_some _ _).symm.trans H; rw [hy155]; with_reducible exact H2_) | (have H2_ := (Option.bind_some _ _).symm.trans H; with_reducible exact H2_) | with_reducible exact H | (rw [hy155]; exact H) | exact H
    have Ny155 := Aside0.mk hy155
    clear hy155
    by_cases c13 : x3_1.length + y155.length < 140737488355328
    rotate_left
    ·rw [if_neg c13] at H
     exact absurd H (by simp)
    rw [if_pos c13] at H
    have LMc13 := Aside0.mk c13
    clear c13
    obtain ⟨y158, hy158⟩ : ∃ y_ : List Int, y_ = (x3_1 ++ y155) := ⟨_, rfl⟩
    replace H : (insolvencyref1_text.l0 k1 t148 y158 (wrap64 (x4_1 - 1))) = some r := by first | (rw [hy158]; with_reducible exact H) | (have H2_ := (Option.bind_some _ _).symm.trans H; rw [hy158]; with_reducible exact H2_) | (have H2_ := (Option.bind_some _ _).symm.trans H; with_reducible exact H2_) | with_reducible exact H | (rw [hy158]; exact H) | exact H
    have Ny158 := Aside0.mk hy158
    clear hy158
    have H' := Aside0.mk H
    clear H
    have p154 : 0 ≤ (x4_1 : Int) := xa
    have q154 : x4_1 < (t148.length : Int) := xa
    obtain ⟨ad154, e154, hx154_0⟩ := Kd.at_int (Kd.V_reads' HO_0.out).2.2 x4_1 p154 q154
    cases e154
    replace p154 := eq_true p154
    replace q154 := eq_true q154
    go_wp2_with (first | ((with_reducible refine gate_dst (N := 35) rfl ?_); refine Kd.R_lit (Kd.int .u8) _ 5 ?hg (N := 35) ?hd (xs := ([((rd t148 x4_1) / 16777216) % 256, ((rd t148 x4_1) / 65536) % 256, ((rd t148 x4_1) / 256) % 256, (rd t148 x4_1) % 256] : List Int)) (inner := [.int .u8 (((rd t148 x4_1) / 16777216) % 256), .int .u8 (((rd t148 x4_1) / 65536) % 256), .int .u8 (((rd t148 x4_1) / 256) % 256), .int .u8 ((rd t148 x4_1) % 256)]) (ok := fun _ => True) (okp := fun _ => True) ?hr ?hp (fun _ hk => hk) trivial (Below.refl _ _) (Nat.le_refl _) (by simp) ?_; (case hd => rfl); (case hg => rfl); (case hr => first | (go_simp; done) | (go_simp; rfl)); (case hp => exact (Reps.one (show Kd.M (Kd.int .u8) _ _ _ (((rd t148 x4_1) / 16777216) % 256) [.int .u8 (((rd t148 x4_1) / 16777216) % 256)] from rfl) (Reps.one (show Kd.M (Kd.int .u8) _ _ _ (((rd t148 x4_1) / 65536) % 256) [.int .u8 (((rd t148 x4_1) / 65536) % 256)] from rfl) (Reps.one (show Kd.M (Kd.int .u8) _ _ _ (((rd t148 x4_1) / 256) % 256) [.int .u8 (((rd t148 x4_1) / 256) % 256)] from rfl) (Reps.one (show Kd.M (Kd.int .u8) _ _ _ ((rd t148 x4_1) % 256) [.int .u8 ((rd t148 x4_1) % 256)] from rfl) (Reps.none _ _)))))); intro v156 w14 ho15 hb hg_ hnew_; clear hg_ hnew_; (first | rw [← Ny155.out] at ho15 | (simp only [Int.reduceToNat] at ho15; rw [← Ny155.out] at ho15)); replace HO_0 := Aside0.mk (Kd.V_elder' (xv HO_0.out) (Kd.R_base ho15) hb); have HO157 := Aside0.mk (Kd.R_lower (Kd.R_new' ho15 (Kd.R_lt (xr HO_3.out))) (below_size (xs HB))); replace HO_3 := Aside0.mk (Kd.R_elder' (xr HO_3.out) (Kd.R_base ho15) hb); replace HB := xS HB hb; clear hb ho15; obtain ⟨Ao17, co17, eo17⟩ := Kd.R_slice HO157.out; subst eo17) | ((with_reducible refine gate_builtin (b := .append) (xs := #[.tmp 23, .tmp 35]) rfl ?_); at_builtin; refine Kd.R_append_rows (Kd.int .u8) (w0 := w) w.heap.size rfl (.tmp 23) (.tmp 35) 103 5 (.int .u8 0) 1 rfl Tryd.underlying103 info5 rfl (by decide) (by omega) u3 x3_1 y155 _ _ _ (fun k_ => some k_ ≠ (.slice Ao17 y155.length co17 : Value).ownBlock) (fun _ => False) rfl rfl ?aO ?aR (fun _ _ h => h) (fun _ h => h.elim) ?aF ?aB ?aS ?aL ?_; (case aR => repeat (first | exact (Kd.R_reads' HO157.out).2.2 | (with_reducible refine Kd.C_alloc ?_ _) | (with_reducible refine Kd.C_drewN ?_ _) | (with_reducible refine Kd.C_drew ?_))); (case aB => exact (xs HB)); (case aF => exact (fun k_ hk => Kd.fresh' (Kd.R_lt (xr HO157.out)) k_ hk)); (case aO => exact (by (with_reducible repeat (first | apply Kd.R_alloc | apply Kd.R_drewN | apply Kd.R_drew)); exact Kd.R_mono HO_3.out (fun _ hk => hk.2))); (case aS => exact (below_size (xs HB))); (case aL => have := LMc13.out; omega); intro v159 w16 ho hb hg hat; rw [← Ny158.out] at ho; replace HO_0 := Aside0.mk (Kd.V_afterv (ok := (fun k_ => some k_ ≠ (.slice Ao17 y155.length co17 : Value).ownBlock)) (by (with_reducible repeat (first | apply Kd.V_alloc | apply Kd.V_drewN | apply Kd.V_drew)); exact Kd.V_mono HO_0.out (fun _ hk => by first | exact ⟨hk.2, hk.1⟩ | (simp only [ob_map] at hk ⊢; first | exact ⟨hk.2, hk.1⟩ | grind) | grind)) hg hat); replace HO157 := Aside0.mk (Kd.R_after (ok := (fun _ => True)) (xr HO157.out) hg hat); replace HB := Aside0.mk (hb); have HO160 := Aside0.mk (ho); clear HO_3 ho hb hg hat))
    (first | go_roundg k1 | (refine Handed.intro k1 ?measure ?_; rotate_left; go_step; (repeat apply Exists.intro); refine ⟨?rel, (by first | rfl | (simp only [add_plain]; rfl))⟩))
    case measure => have := HK1.out; omega
    case rel => exact ⟨(y158), (wrap64 (x4_1 - 1)), xz, H', ⟨by have := HK1.out; omega⟩, ⟨by (with_reducible repeat (first | apply Kd.V_alloc | apply Kd.V_drewN | apply Kd.V_drew)); exact Kd.V_mono HO_0.out (fun _ hk => hk.2)⟩, ⟨by (with_reducible repeat (first | apply Kd.R_alloc | apply Kd.R_drewN | apply Kd.R_drew)); exact Kd.R_mono HO160.out (fun _ hk => trivial)⟩, ⟨xs HB⟩⟩
   ·rw [if_neg c10] at H
    have c10b0 : decide (0 ≤ x4_1) = false := decide_eq_false c10
    clear c10
    replace H := xH H; obtain ⟨t161, A18, H⟩ := H
    obtain rfl := Option.some.inj H
    have hcv19 := own_string (P := Tryd.prog) Tryd.underlying103 Tryd.underlying5 Tryd.underlying9 (Kd.own_of_R HO_3.out)
    go_wp2_with (first | (refine xg Tryd.func89 (some 39) #[.string (strOfNums x3_1)] ?_; (with_reducible refine (insolvencyref1_Normalize.calls k1 (strOfNums x3_1) t161 _ A18.out).mono ?_); rintro e w' ⟨rfl, ⟨nd, rfl⟩⟩; refine ⟨_, rfl, ?_⟩))
    go_ret
    exact ⟨by first | rfl | (simp [errW_none, errW_some] <;> rfl) | (simp only [← hji3]; first | rfl | (simp [errW_none, errW_some] <;> rfl)) | (simp [*, errW_none, errW_some] <;> rfl), xs HB⟩
/-! ### insolvencyref1_reduced: function 68 -/
def insolvencyref1_reduced.f (k : Nat) (a0 : Bool) (l1 : List Int) (l2 : List Int) : Option (Bool × ByteArray × ByteArray) := if (l1.length : Int) = 0 then (some (false, (⟨#[]⟩ : ByteArray), (⟨#[]⟩ : ByteArray))) else ((insolvencyref1_common.f k l1 l2).bind fun t163 => (if (t163.length : Int) > 1 then ((insolvencyref1_divide.f k l1 t163).bind fun bt166 => ((insolvencyref1_divide.f k l2 t163).bind fun bt172 => ((insolvencyref1_text.f k bt166.1).bind fun t178 => (if (bt172.1.length : Int) > 1 then ((insolvencyref1_text.f k bt172.1).bind fun t180 => (some (a0, t178, t180))) else (if 0 < (bt172.1.length : Int) then (if (rd bt172.1 0) > 1 then ((insolvencyref1_text.f k bt172.1).bind fun t182 => (some (a0, t178, t182))) else (some (a0, t178, (⟨#[]⟩ : ByteArray)))) else (none)))))) else (if 0 < (t163.length : Int) then (if (rd t163 0) > 1 then ((insolvencyref1_divide.f k l1 t163).bind fun bt184 => ((insolvencyref1_divide.f k l2 t163).bind fun bt190 => ((insolvencyref1_text.f k bt184.1).bind fun t196 => (if (bt190.1.length : Int) > 1 then ((insolvencyref1_text.f k bt190.1).bind fun t198 => (some (a0, t196, t198))) else (if 0 < (bt190.1.length : Int) then (if (rd bt190.1 0) > 1 then ((insolvencyref1_text.f k bt190.1).bind fun t200 => (some (a0, t196, t200))) else (some (a0, t196, (⟨#[]⟩ : ByteArray)))) else (none)))))) else ((insolvencyref1_text.f k l1).bind fun t201 => (if (l2.length : Int) > 1 then ((insolvencyref1_text.f k l2).bind fun t203 => (some (a0, t201, t203))) else (if 0 < (l2.length : Int) then (if (rd l2 0) > 1 then ((insolvencyref1_text.f k l2).bind fun t205 => (some (a0, t201, t205))) else (some (a0, t201, (⟨#[]⟩ : ByteArray)))) else (none))))) else (none))))
theorem insolvencyref1_reduced.mono : ∀ a0 a1 a2 k, LeO (insolvencyref1_reduced.f k a0 a1 a2) (insolvencyref1_reduced.f (k + 1) a0 a1 a2) := by
 intro a0 a1 a2 k
 unfold insolvencyref1_reduced.f
 have m0 := @insolvencyref1_common.mono; have m1 := @insolvencyref1_divide.mono; have m2 := @insolvencyref1_text.mono; exact xM
set_option maxHeartbeats 8000000 in
set_option maxRecDepth 100000 in
theorem insolvencyref1_reduced.calls (k : Nat) (a0 : Bool) (A1 : Option Addr) (c1 : Nat) (l1 : List Int) (A2 : Option Addr) (c2 : Nat) (l2 : List Int) (r1 : Bool) (r2 : ByteArray) (r3 : ByteArray) (w : World) (hr1 : Kd.C (Kd.int .u32) w A1 l1.length l1) (hc1 : l1.length ≤ c1) (hr2 : Kd.C (Kd.int .u32) w A2 l2.length l2) (hc2 : l2.length ≤ c2) (h : insolvencyref1_reduced.f k a0 l1 l2 = some (r1, r2, r3)) :
  Calls Tryd.prog 68 #[.bool a0, .slice A1 l1.length c1, .slice A2 l2.length c2] w fun e w' => e = .returned (.agg #[.bool r1, .string r2, .string r3]) ∧ Below w.heap.size w w' := by
 have hu25 := Tryd.underlying25
 have HR1 := Aside0.mk hr1
 have HC1 := Aside0.mk hc1
 clear hr1 hc1
 have HR2 := Aside0.mk hr2
 have HC2 := Aside0.mk hc2
 clear hr2 hc2
 have HB := Aside0.mk (Below.refl w.heap.size w)
 have H : (if (l1.length : Int) = 0 then (some (false, (⟨#[]⟩ : ByteArray), (⟨#[]⟩ : ByteArray))) else ((insolvencyref1_common.f k l1 l2).bind fun t163 => (if (t163.length : Int) > 1 then ((insolvencyref1_divide.f k l1 t163).bind fun bt166 => ((insolvencyref1_divide.f k l2 t163).bind fun bt172 => ((insolvencyref1_text.f k bt166.1).bind fun t178 => (if (bt172.1.length : Int) > 1 then ((insolvencyref1_text.f k bt172.1).bind fun t180 => (some (a0, t178, t180))) else (if 0 < (bt172.1.length : Int) then (if (rd bt172.1 0) > 1 then ((insolvencyref1_text.f k bt172.1).bind fun t182 => (some (a0, t178, t182))) else (some (a0, t178, (⟨#[]⟩ : ByteArray)))) else (none)))))) else (if 0 < (t163.length : Int) then (if (rd t163 0) > 1 then ((insolvencyref1_divide.f k l1 t163).bind fun bt184 => ((insolvencyref1_divide.f k l2 t163).bind fun bt190 => ((insolvencyref1_text.f k bt184.1).bind fun t196 => (if (bt190.1.length : Int) > 1 then ((insolvencyref1_text.f k bt190.1).bind fun t198 => (some (a0, t196, t198))) else (if 0 < (bt190.1.length : Int) then (if (rd bt190.1 0) > 1 then ((insolvencyref1_text.f k bt190.1).bind fun t200 => (some (a0, t196, t200))) else (some (a0, t196, (⟨#[]⟩ : ByteArray)))) else (none)))))) else ((insolvencyref1_text.f k l1).bind fun t201 => (if (l2.length : Int) > 1 then ((insolvencyref1_text.f k l2).bind fun t203 => (some (a0, t201, t203))) else (if 0 < (l2.length : Int) then (if (rd l2 0) > 1 then ((insolvencyref1_text.f k l2).bind fun t205 => (some (a0, t201, t205))) else (some (a0, t201, (⟨#[]⟩ : ByteArray)))) else (none))))) else (none))))) = some (r1, r2, r3) := h
 clear h
 by_cases c4 : (l1.length : Int) = 0
 ·rw [if_pos c4] at H
  have c4b0 : ((l1.length : Int) == 0) = true := beq_iff_eq.mpr c4
  have c4b1 : ((l1.length : Int) != 0) = false := bne_eq_false_iff_eq.mpr c4
  clear c4
  simp only [Option.some.injEq, Prod.mk.injEq] at H
  obtain ⟨rfl, rfl, rfl⟩ := H
  go_enter Tryd.func68, Tryd.ntmps68
  go_wp2_with (first | (refine xE (N := 6) #[.bool false, .string (⟨#[]⟩ : ByteArray), .string (⟨#[]⟩ : ByteArray)] 25 rfl ?_; intro gb162 hg w5 hbox hb; have BK162 := Aside0.mk (hbox); have GW162 := (xG HB hg); have GE162 := (xG HB hg); replace HB := xS HB hb; clear hb hbox hg; obtain ⟨hcz6_0, hcz6_1, hcz6_2, hfz6_0, hfz6_1, hfz6_2⟩ := x6 BK162))
  refine bodyPost_ret (results_cell_row rfl _ _ gb162 25 #[.bool false, .string (⟨#[]⟩ : ByteArray), .string (⟨#[]⟩ : ByteArray)] (0, 0) _ rfl (xp BK162) Tryd.underlying25 rfl (by kernel_rfl)) rfl ?_
  exact ⟨xy, xs HB⟩
 ·rw [if_neg c4] at H
  have c4b0 : ((l1.length : Int) == 0) = false := beq_eq_false_iff_ne.mpr c4
  have c4b1 : ((l1.length : Int) != 0) = true := bne_iff_ne.mpr c4
  have c4b2 : ¬ (l1 = []) := fun h_ => c4 (by rw [h_]; rfl)
  replace H := xH H; obtain ⟨t163, A7, H⟩ := H
  by_cases c8 : (t163.length : Int) > 1
  ·rw [if_pos c8] at H
   have c8b0 : decide (1 < (t163.length : Int)) = true := decide_eq_true c8
   have c8b1 : decide (1 < t163.length) = true := decide_eq_true (by omega)
   clear c8
   replace H := xH H; obtain ⟨⟨t166, t169⟩, A9, H⟩ := H
   dsimp only at H
   replace H := xH H; obtain ⟨⟨t172, t175⟩, A10, H⟩ := H
   dsimp only at H
   replace H := xH H; obtain ⟨t178, A11, H⟩ := H
   by_cases c12 : (t172.length : Int) > 1
   ·rw [if_pos c12] at H
    have c12b0 : decide (1 < (t172.length : Int)) = true := decide_eq_true c12
    have c12b1 : decide (1 < t172.length) = true := decide_eq_true (by omega)
    clear c12
    replace H := xH H; obtain ⟨t180, A13, H⟩ := H
    simp only [Option.some.injEq, Prod.mk.injEq] at H
    obtain ⟨rfl, rfl, rfl⟩ := H
    go_enter Tryd.func68, Tryd.ntmps68
    go_wp2_with (first | (refine xE (N := 6) #[.bool false, .string (⟨#[]⟩ : ByteArray), .string (⟨#[]⟩ : ByteArray)] 25 rfl ?_; intro gb162 hg w14 hbox hb; have BK162 := Aside0.mk (hbox); have GW162 := (xG HB hg); have GE162 := (xG HB hg); replace HB := xS HB hb; clear hb hbox hg) | (refine xg Tryd.func90 (some 15) #[.slice A1 l1.length c1, .slice A2 l2.length c2] ?_; (with_reducible refine (insolvencyref1_common.calls k (fun k_ => k_ < w.heap.size) _ _ l1 (fun k_ => k_ < w.heap.size) _ _ l2 t163 _ ?side1 ?side2 A7.out).mono ?_); (case side1 => exact Kd.V_mk HC1.out (Kd.F_below (Kd.C_F (Kd.heap_int .u32) HR1.out) (xs HB))); (case side2 => exact Kd.V_mk HC2.out (Kd.F_below (Kd.C_F (Kd.heap_int .u32) HR2.out) (xs HB))); rintro e w15 ⟨v164, rfl, ho0, hb⟩; refine ⟨_, rfl, ?_⟩; have HO165 := Aside0.mk (Kd.V_lower (Kd.V_mono (ok' := fun k_ => k_ ≠ gb162) ho0 (fun k_ hk_ => Or.elim hk_ (fun hs_ => Or.elim hs_ (fun hs_ => fun e_ => Nat.not_le.2 hs_ (by rw [e_]; exact GW162.out)) (fun hs_ => fun e_ => Nat.not_le.2 hs_ (by rw [e_]; exact GW162.out))) (fun hn_ => (Kd.freshB (g := gb162) (o := .cells #[.bool false, .string (⟨#[]⟩ : ByteArray), .string (⟨#[]⟩ : ByteArray)] 25 (0, 0)) (xb BK162) k_ hn_)))) (below_size (xs HB))); replace BK162 := xB BK162 hb; replace HB := xS HB hb; clear hb ho0; obtain ⟨Ao16, co16, eo16⟩ := Kd.V_slice HO165.out; subst eo16) | (refine xg Tryd.func91 (some 28) #[.slice A1 l1.length c1, .slice Ao16 t163.length co16] ?_; (with_reducible refine (insolvencyref1_divide.calls k (fun k_ => k_ < w.heap.size) _ _ l1 _ _ t163 t166 t169 _ ?side1 ?side2 ?side3 A9.out).mono ?_); (case side1 => exact Kd.V_mk HC1.out (Kd.F_below (Kd.C_F (Kd.heap_int .u32) HR1.out) (xs HB))); (case side2 => repeat (first | exact (Kd.V_reads' HO165.out).2.2 | (with_reducible refine Kd.C_alloc ?_ _) | (with_reducible refine Kd.C_drewN ?_ _) | (with_reducible refine Kd.C_drew ?_))); (case side3 => exact (Kd.V_reads' HO165.out).2.1); rintro e w17 ⟨v167, v170, rfl, ho0, ho1, hb⟩; refine ⟨_, rfl, ?_⟩; replace HO165 := Aside0.mk (Kd.V_below (xv HO165.out) hb); have HO168 := Aside0.mk (Kd.V_lower (Kd.V_mono (ok' := fun k_ => k_ ≠ gb162) ho0 (fun k_ hk_ => Or.elim hk_ (fun hs_ => fun e_ => Nat.not_le.2 hs_ (by rw [e_]; exact GW162.out)) (fun hn_ => (Kd.freshB (g := gb162) (o := .cells #[.bool false, .string (⟨#[]⟩ : ByteArray), .string (⟨#[]⟩ : ByteArray)] 25 (0, 0)) (xb BK162) k_ hn_)))) (below_size (xs HB))); have HO171 := Aside0.mk (Kd.V_lower (Kd.V_mono (ok' := fun k_ => k_ ≠ gb162) ho1 (fun k_ hk_ => Or.elim hk_ (fun hs_ => fun e_ => Nat.not_le.2 hs_ (by rw [e_]; exact GW162.out)) (fun hn_ => (Kd.freshB (g := gb162) (o := .cells #[.bool false, .string (⟨#[]⟩ : ByteArray), .string (⟨#[]⟩ : ByteArray)] 25 (0, 0)) (xb BK162) k_ hn_)))) (below_size (xs HB))); replace BK162 := xB BK162 hb; replace HB := xS HB hb; clear hb ho0 ho1) | (refine xg Tryd.func91 (some 34) #[.slice A2 l2.length c2, .slice Ao16 t163.length co16] ?_; (with_reducible refine (insolvencyref1_divide.calls k (fun k_ => k_ < w.heap.size) _ _ l2 _ _ t163 t172 t175 _ ?side1 ?side2 ?side3 A10.out).mono ?_); (case side1 => exact Kd.V_mk HC2.out (Kd.F_below (Kd.C_F (Kd.heap_int .u32) HR2.out) (xs HB))); (case side2 => repeat (first | exact (Kd.V_reads' HO165.out).2.2 | (with_reducible refine Kd.C_alloc ?_ _) | (with_reducible refine Kd.C_drewN ?_ _) | (with_reducible refine Kd.C_drew ?_))); (case side3 => exact (Kd.V_reads' HO165.out).2.1); rintro e w18 ⟨v173, v176, rfl, ho0, ho1, hb⟩; refine ⟨_, rfl, ?_⟩; replace HO165 := Aside0.mk (Kd.V_below (xv HO165.out) hb); replace HO168 := Aside0.mk (Kd.V_below (xv HO168.out) hb); replace HO171 := Aside0.mk (Kd.V_below (xv HO171.out) hb); have HO174 := Aside0.mk (Kd.V_lower (Kd.V_mono (ok' := fun k_ => k_ ≠ gb162) ho0 (fun k_ hk_ => Or.elim hk_ (fun hs_ => fun e_ => Nat.not_le.2 hs_ (by rw [e_]; exact GW162.out)) (fun hn_ => (Kd.freshB (g := gb162) (o := .cells #[.bool false, .string (⟨#[]⟩ : ByteArray), .string (⟨#[]⟩ : ByteArray)] 25 (0, 0)) (xb BK162) k_ hn_)))) (below_size (xs HB))); have HO177 := Aside0.mk (Kd.V_lower (Kd.V_mono (ok' := fun k_ => k_ ≠ gb162) ho1 (fun k_ hk_ => Or.elim hk_ (fun hs_ => fun e_ => Nat.not_le.2 hs_ (by rw [e_]; exact GW162.out)) (fun hn_ => (Kd.freshB (g := gb162) (o := .cells #[.bool false, .string (⟨#[]⟩ : ByteArray), .string (⟨#[]⟩ : ByteArray)] 25 (0, 0)) (xb BK162) k_ hn_)))) (below_size (xs HB))); replace BK162 := xB BK162 hb; replace HB := xS HB hb; clear hb ho0 ho1; obtain ⟨Ao19, co19, eo19⟩ := Kd.V_slice HO168.out; subst eo19) | (refine xg Tryd.func92 (some 39) #[.slice Ao19 t166.length co19] ?_; (with_reducible refine (insolvencyref1_text.calls k _ _ t166 t178 _ (xf (Kd.V_reads' HO168.out).2.2) (Kd.V_reads' HO168.out).2.1 A11.out).mono ?_); rintro e w20 ⟨rfl, hb⟩; refine ⟨_, rfl, ?_⟩; replace HO165 := Aside0.mk (Kd.V_below (xv HO165.out) hb); replace HO168 := Aside0.mk (Kd.V_below (xv HO168.out) hb); replace HO171 := Aside0.mk (Kd.V_below (xv HO171.out) hb); replace HO174 := Aside0.mk (Kd.V_below (xv HO174.out) hb); replace HO177 := Aside0.mk (Kd.V_below (xv HO177.out) hb); replace BK162 := xB BK162 hb; replace HB := xS HB hb; clear hb) | (refine xE (N := 8) #[.bool false, .string (⟨#[]⟩ : ByteArray), .string (⟨#[]⟩ : ByteArray)] 25 rfl ?_; intro gb179 hg w21 hbox hb; replace HO165 := Aside0.mk (Kd.V_below (Kd.V_elderB (xv HO165.out) gb179 (Nat.le_of_eq hg.symm)) hb); replace HO168 := Aside0.mk (Kd.V_below (Kd.V_elderB (xv HO168.out) gb179 (Nat.le_of_eq hg.symm)) hb); replace HO171 := Aside0.mk (Kd.V_below (Kd.V_elderB (xv HO171.out) gb179 (Nat.le_of_eq hg.symm)) hb); replace HO174 := Aside0.mk (Kd.V_below (Kd.V_elderB (xv HO174.out) gb179 (Nat.le_of_eq hg.symm)) hb); replace HO177 := Aside0.mk (Kd.V_below (Kd.V_elderB (xv HO177.out) gb179 (Nat.le_of_eq hg.symm)) hb); have BK179 := Aside0.mk (hbox); have GW179 := (xG HB hg); have GE179 := (xG HB hg); replace HB := xS HB hb; have NB162_179 := xL BK162 hg; have NB179_162 := xR BK162 hg; replace BK162 := xB BK162 hb; clear hb hbox hg; have hnb22 := NB179_162.out; have hnc22 := NB162_179.out; obtain ⟨hcz23_0, hcz23_1, hcz23_2, hfz23_0, hfz23_1, hfz23_2⟩ := x6 BK179; obtain ⟨Ao24, co24, eo24⟩ := Kd.V_slice HO174.out; subst eo24) | (refine xg Tryd.func92 (some 51) #[.slice Ao24 t172.length co24] ?_; (with_reducible refine (insolvencyref1_text.calls k _ _ t172 t180 _ ?side1 ?side2 A13.out).mono ?_); (case side1 => refine (Kd.V_reads' (e := 85) (base := w.heap.size) (ok := fun k_ => (k_ ≠ gb162 ∧ k_ ≠ gb179)) (n := t172.length) (c := co24) ?_).2.2; exact (by (with_reducible repeat (first | apply Kd.V_alloc | apply Kd.V_drewN | apply Kd.V_drew)); exact (Kd.V_mono (Kd.V_far (p := ⟨gb179, 2, none⟩) (Kd.V_far (p := ⟨gb179, 1, none⟩) (Kd.V_far (p := ⟨gb179, 0, none⟩) (Kd.V_mono HO174.out (fun k_ hk => (⟨hk, hk.2⟩ : _ ∧ k_ ≠ gb179))) (fun _ hk => hk.2) (.bool a0)) (fun _ hk => hk.2) (.string t178)) (fun _ hk => hk.2) (.string (⟨#[]⟩ : ByteArray))) (fun _ h_ => h_.1)))); (case side2 => exact (Kd.V_reads' HO174.out).2.1); rintro e w25 ⟨rfl, hb⟩; refine ⟨_, rfl, ?_⟩; replace HO165 := Aside0.mk (Kd.V_below (by (with_reducible repeat (first | apply Kd.V_alloc | apply Kd.V_drewN | apply Kd.V_drew)); exact (Kd.V_mono (Kd.V_far (p := ⟨gb179, 2, none⟩) (Kd.V_far (p := ⟨gb179, 1, none⟩) (Kd.V_far (p := ⟨gb179, 0, none⟩) (Kd.V_mono HO165.out (fun k_ hk => (⟨hk, hk.2⟩ : _ ∧ k_ ≠ gb179))) (fun _ hk => hk.2) (.bool a0)) (fun _ hk => hk.2) (.string t178)) (fun _ hk => hk.2) (.string (⟨#[]⟩ : ByteArray))) (fun _ h_ => h_.1))) hb); replace HO168 := Aside0.mk (Kd.V_below (by (with_reducible repeat (first | apply Kd.V_alloc | apply Kd.V_drewN | apply Kd.V_drew)); exact (Kd.V_mono (Kd.V_far (p := ⟨gb179, 2, none⟩) (Kd.V_far (p := ⟨gb179, 1, none⟩) (Kd.V_far (p := ⟨gb179, 0, none⟩) (Kd.V_mono HO168.out (fun k_ hk => (⟨hk, hk.2⟩ : _ ∧ k_ ≠ gb179))) (fun _ hk => hk.2) (.bool a0)) (fun _ hk => hk.2) (.string t178)) (fun _ hk => hk.2) (.string (⟨#[]⟩ : ByteArray))) (fun _ h_ => h_.1))) hb); replace HO171 := Aside0.mk (Kd.V_below (by (with_reducible repeat (first | apply Kd.V_alloc | apply Kd.V_drewN | apply Kd.V_drew)); exact (Kd.V_mono (Kd.V_far (p := ⟨gb179, 2, none⟩) (Kd.V_far (p := ⟨gb179, 1, none⟩) (Kd.V_far (p := ⟨gb179, 0, none⟩) (Kd.V_mono HO171.out (fun k_ hk => (⟨hk, hk.2⟩ : _ ∧ k_ ≠ gb179))) (fun _ hk => hk.2) (.bool a0)) (fun _ hk => hk.2) (.string t178)) (fun _ hk => hk.2) (.string (⟨#[]⟩ : ByteArray))) (fun _ h_ => h_.1))) hb); replace HO174 := Aside0.mk (Kd.V_below (by (with_reducible repeat (first | apply Kd.V_alloc | apply Kd.V_drewN | apply Kd.V_drew)); exact (Kd.V_mono (Kd.V_far (p := ⟨gb179, 2, none⟩) (Kd.V_far (p := ⟨gb179, 1, none⟩) (Kd.V_far (p := ⟨gb179, 0, none⟩) (Kd.V_mono HO174.out (fun k_ hk => (⟨hk, hk.2⟩ : _ ∧ k_ ≠ gb179))) (fun _ hk => hk.2) (.bool a0)) (fun _ hk => hk.2) (.string t178)) (fun _ hk => hk.2) (.string (⟨#[]⟩ : ByteArray))) (fun _ h_ => h_.1))) hb); replace HO177 := Aside0.mk (Kd.V_below (by (with_reducible repeat (first | apply Kd.V_alloc | apply Kd.V_drewN | apply Kd.V_drew)); exact (Kd.V_mono (Kd.V_far (p := ⟨gb179, 2, none⟩) (Kd.V_far (p := ⟨gb179, 1, none⟩) (Kd.V_far (p := ⟨gb179, 0, none⟩) (Kd.V_mono HO177.out (fun k_ hk => (⟨hk, hk.2⟩ : _ ∧ k_ ≠ gb179))) (fun _ hk => hk.2) (.bool a0)) (fun _ hk => hk.2) (.string t178)) (fun _ hk => hk.2) (.string (⟨#[]⟩ : ByteArray))) (fun _ h_ => h_.1))) hb); replace BK162 := xB BK162 hb; replace BK179 := Aside0.mk (blk_below (g := gb179) (o := .cells #[.bool a0, .string t178, .string (⟨#[]⟩ : ByteArray)] 25 (0, 0)) (xp BK179) hb); replace HB := xS HB hb; clear hb; obtain ⟨hcz26_0, hcz26_1, hcz26_2, hfz26_0, hfz26_1, hfz26_2⟩ := x6 BK179; obtain ⟨hcz27_0, hcz27_1, hcz27_2, hfz27_0, hfz27_1, hfz27_2⟩ := x6 BK162))
    (try have eA10_ := Option.some.inj (A9.out.symm.trans A10.out))
    (try have eA13_ := Option.some.inj (A11.out.symm.trans A13.out))
    refine bodyPost_ret (results_cell_row rfl _ _ gb162 25 #[.bool a0, .string t178, .string t180] (0, 0) _ rfl (xp BK162) Tryd.underlying25 rfl (by kernel_rfl)) rfl ?_
    exact ⟨xy, xs HB⟩
   ·rw [if_neg c12] at H
    have c12b0 : decide (1 < (t172.length : Int)) = false := decide_eq_false c12
    have c12b1 : decide (1 < t172.length) = false := decide_eq_false (by omega)
    clear c12
    by_cases c28 : 0 < (t172.length : Int)
    rotate_left
    ·rw [if_neg c28] at H
     exact absurd H (by simp)
    rw [if_pos c28] at H
    have c28b0 : decide (0 < (t172.length : Int)) = true := decide_eq_true c28
    have c28b1 : decide (0 < t172.length) = true := decide_eq_true (by omega)
    clear c28
    by_cases c29 : (rd t172 0) > 1
    ·rw [if_pos c29] at H
     have c29b0 : decide (1 < (rd t172 0)) = true := decide_eq_true c29
     clear c29
     replace H := xH H; obtain ⟨t182, A30, H⟩ := H
     simp only [Option.some.injEq, Prod.mk.injEq] at H
     obtain ⟨rfl, rfl, rfl⟩ := H
     go_enter Tryd.func68, Tryd.ntmps68
     go_wp2_with (first | (refine xE (N := 6) #[.bool false, .string (⟨#[]⟩ : ByteArray), .string (⟨#[]⟩ : ByteArray)] 25 rfl ?_; intro gb162 hg w31 hbox hb; have BK162 := Aside0.mk (hbox); have GW162 := (xG HB hg); have GE162 := (xG HB hg); replace HB := xS HB hb; clear hb hbox hg) | (refine xg Tryd.func90 (some 15) #[.slice A1 l1.length c1, .slice A2 l2.length c2] ?_; (with_reducible refine (insolvencyref1_common.calls k (fun k_ => k_ < w.heap.size) _ _ l1 (fun k_ => k_ < w.heap.size) _ _ l2 t163 _ ?side1 ?side2 A7.out).mono ?_); (case side1 => exact Kd.V_mk HC1.out (Kd.F_below (Kd.C_F (Kd.heap_int .u32) HR1.out) (xs HB))); (case side2 => exact Kd.V_mk HC2.out (Kd.F_below (Kd.C_F (Kd.heap_int .u32) HR2.out) (xs HB))); rintro e w32 ⟨v164, rfl, ho0, hb⟩; refine ⟨_, rfl, ?_⟩; have HO165 := Aside0.mk (Kd.V_lower (Kd.V_mono (ok' := fun k_ => k_ ≠ gb162) ho0 (fun k_ hk_ => Or.elim hk_ (fun hs_ => Or.elim hs_ (fun hs_ => fun e_ => Nat.not_le.2 hs_ (by rw [e_]; exact GW162.out)) (fun hs_ => fun e_ => Nat.not_le.2 hs_ (by rw [e_]; exact GW162.out))) (fun hn_ => (Kd.freshB (g := gb162) (o := .cells #[.bool false, .string (⟨#[]⟩ : ByteArray), .string (⟨#[]⟩ : ByteArray)] 25 (0, 0)) (xb BK162) k_ hn_)))) (below_size (xs HB))); replace BK162 := xB BK162 hb; replace HB := xS HB hb; clear hb ho0; obtain ⟨Ao33, co33, eo33⟩ := Kd.V_slice HO165.out; subst eo33) | (refine xg Tryd.func91 (some 28) #[.slice A1 l1.length c1, .slice Ao33 t163.length co33] ?_; (with_reducible refine (insolvencyref1_divide.calls k (fun k_ => k_ < w.heap.size) _ _ l1 _ _ t163 t166 t169 _ ?side1 ?side2 ?side3 A9.out).mono ?_); (case side1 => exact Kd.V_mk HC1.out (Kd.F_below (Kd.C_F (Kd.heap_int .u32) HR1.out) (xs HB))); (case side2 => repeat (first | exact (Kd.V_reads' HO165.out).2.2 | (with_reducible refine Kd.C_alloc ?_ _) | (with_reducible refine Kd.C_drewN ?_ _) | (with_reducible refine Kd.C_drew ?_))); (case side3 => exact (Kd.V_reads' HO165.out).2.1); rintro e w34 ⟨v167, v170, rfl, ho0, ho1, hb⟩; refine ⟨_, rfl, ?_⟩; replace HO165 := Aside0.mk (Kd.V_below (xv HO165.out) hb); have HO168 := Aside0.mk (Kd.V_lower (Kd.V_mono (ok' := fun k_ => k_ ≠ gb162) ho0 (fun k_ hk_ => Or.elim hk_ (fun hs_ => fun e_ => Nat.not_le.2 hs_ (by rw [e_]; exact GW162.out)) (fun hn_ => (Kd.freshB (g := gb162) (o := .cells #[.bool false, .string (⟨#[]⟩ : ByteArray), .string (⟨#[]⟩ : ByteArray)] 25 (0, 0)) (xb BK162) k_ hn_)))) (below_size (xs HB))); have HO171 := Aside0.mk (Kd.V_lower (Kd.V_mono (ok' := fun k_ => k_ ≠ gb162) ho1 (fun k_ hk_ => Or.elim hk_ (fun hs_ => fun e_ => Nat.not_le.2 hs_ (by rw [e_]; exact GW162.out)) (fun hn_ => (Kd.freshB (g := gb162) (o := .cells #[.bool false, .string (⟨#[]⟩ : ByteArray), .string (⟨#[]⟩ : ByteArray)] 25 (0, 0)) (xb BK162) k_ hn_)))) (below_size (xs HB))); replace BK162 := xB BK162 hb; replace HB := xS HB hb; clear hb ho0 ho1) | (refine xg Tryd.func91 (some 34) #[.slice A2 l2.length c2, .slice Ao33 t163.length co33] ?_; (with_reducible refine (insolvencyref1_divide.calls k (fun k_ => k_ < w.heap.size) _ _ l2 _ _ t163 t172 t175 _ ?side1 ?side2 ?side3 A10.out).mono ?_); (case side1 => exact Kd.V_mk HC2.out (Kd.F_below (Kd.C_F (Kd.heap_int .u32) HR2.out) (xs HB))); (case side2 => repeat (first | exact (Kd.V_reads' HO165.out).2.2 | (with_reducible refine Kd.C_alloc ?_ _) | (with_reducible refine Kd.C_drewN ?_ _) | (with_reducible refine Kd.C_drew ?_))); (case side3 => exact (Kd.V_reads' HO165.out).2.1); rintro e w35 ⟨v173, v176, rfl, ho0, ho1, hb⟩; refine ⟨_, rfl, ?_⟩; replace HO165 := Aside0.mk (Kd.V_below (xv HO165.out) hb); replace HO168 := Aside0.mk (Kd.V_below (xv HO168.out) hb); replace HO171 := Aside0.mk (Kd.V_below (xv HO171.out) hb); have HO174 := Aside0.mk (Kd.V_lower (Kd.V_mono (ok' := fun k_ => k_ ≠ gb162) ho0 (fun k_ hk_ => Or.elim hk_ (fun hs_ => fun e_ => Nat.not_le.2 hs_ (by rw [e_]; exact GW162.out)) (fun hn_ => (Kd.freshB (g := gb162) (o := .cells #[.bool false, .string (⟨#[]⟩ : ByteArray), .string (⟨#[]⟩ : ByteArray)] 25 (0, 0)) (xb BK162) k_ hn_)))) (below_size (xs HB))); have HO177 := Aside0.mk (Kd.V_lower (Kd.V_mono (ok' := fun k_ => k_ ≠ gb162) ho1 (fun k_ hk_ => Or.elim hk_ (fun hs_ => fun e_ => Nat.not_le.2 hs_ (by rw [e_]; exact GW162.out)) (fun hn_ => (Kd.freshB (g := gb162) (o := .cells #[.bool false, .string (⟨#[]⟩ : ByteArray), .string (⟨#[]⟩ : ByteArray)] 25 (0, 0)) (xb BK162) k_ hn_)))) (below_size (xs HB))); replace BK162 := xB BK162 hb; replace HB := xS HB hb; clear hb ho0 ho1; obtain ⟨Ao36, co36, eo36⟩ := Kd.V_slice HO168.out; subst eo36) | (refine xg Tryd.func92 (some 39) #[.slice Ao36 t166.length co36] ?_; (with_reducible refine (insolvencyref1_text.calls k _ _ t166 t178 _ (xf (Kd.V_reads' HO168.out).2.2) (Kd.V_reads' HO168.out).2.1 A11.out).mono ?_); rintro e w37 ⟨rfl, hb⟩; refine ⟨_, rfl, ?_⟩; replace HO165 := Aside0.mk (Kd.V_below (xv HO165.out) hb); replace HO168 := Aside0.mk (Kd.V_below (xv HO168.out) hb); replace HO171 := Aside0.mk (Kd.V_below (xv HO171.out) hb); replace HO174 := Aside0.mk (Kd.V_below (xv HO174.out) hb); replace HO177 := Aside0.mk (Kd.V_below (xv HO177.out) hb); replace BK162 := xB BK162 hb; replace HB := xS HB hb; clear hb) | (refine xE (N := 8) #[.bool false, .string (⟨#[]⟩ : ByteArray), .string (⟨#[]⟩ : ByteArray)] 25 rfl ?_; intro gb179 hg w38 hbox hb; replace HO165 := Aside0.mk (Kd.V_below (Kd.V_elderB (xv HO165.out) gb179 (Nat.le_of_eq hg.symm)) hb); replace HO168 := Aside0.mk (Kd.V_below (Kd.V_elderB (xv HO168.out) gb179 (Nat.le_of_eq hg.symm)) hb); replace HO171 := Aside0.mk (Kd.V_below (Kd.V_elderB (xv HO171.out) gb179 (Nat.le_of_eq hg.symm)) hb); replace HO174 := Aside0.mk (Kd.V_below (Kd.V_elderB (xv HO174.out) gb179 (Nat.le_of_eq hg.symm)) hb); replace HO177 := Aside0.mk (Kd.V_below (Kd.V_elderB (xv HO177.out) gb179 (Nat.le_of_eq hg.symm)) hb); have BK179 := Aside0.mk (hbox); have GW179 := (xG HB hg); have GE179 := (xG HB hg); replace HB := xS HB hb; have NB162_179 := xL BK162 hg; have NB179_162 := xR BK162 hg; replace BK162 := xB BK162 hb; clear hb hbox hg; have hnb39 := NB179_162.out; have hnc39 := NB162_179.out; obtain ⟨hcz40_0, hcz40_1, hcz40_2, hfz40_0, hfz40_1, hfz40_2⟩ := x6 BK179; obtain ⟨Ao41, co41, eo41⟩ := Kd.V_slice HO174.out; subst eo41; have p181 : 0 ≤ (0 : Int) := (by omega); have q181 : 0 < (t172.length : Int) := xa; obtain ⟨ad181, e181, hx181_0⟩ := Kd.at_int (Kd.V_reads' HO174.out).2.2 0 p181 q181; cases e181; have qi181 : (0 < t172.length) = True := eq_true (by omega); (try rw [show ((0 : Int)).toNat = 0 from rfl] at hx181_0); (try rw [Addr.add_zero'] at hx181_0); have hn181_0 : ad181.block ≠ gb179 := Kd.V_blk HO174.out p181 q181 (fun _ hk => by first | exact hk | exact hk.2 | exact hk.1 | grind); have hn181_1 : ad181.block ≠ gb179 := Kd.V_blk HO174.out p181 q181 (fun _ hk => by first | exact hk | exact hk.2 | exact hk.1 | grind); have hn181_2 : ad181.block ≠ gb179 := Kd.V_blk HO174.out p181 q181 (fun _ hk => by first | exact hk | exact hk.2 | exact hk.1 | grind); replace hx181_0 := (cell_far (p := ⟨gb179, 0, none⟩) (by first | (rw [add_block]; exact hn181_0) | (show (Addr.add _ _).block ≠ _; rw [add_block]; exact hn181_0) | exact hn181_0) (.bool a0)).trans hx181_0; replace hx181_0 := (cell_far (p := ⟨gb179, 1, none⟩) (by first | (rw [add_block]; exact hn181_1) | (show (Addr.add _ _).block ≠ _; rw [add_block]; exact hn181_1) | exact hn181_1) (.string t178)).trans hx181_0; replace hx181_0 := (cell_far (p := ⟨gb179, 2, none⟩) (by first | (rw [add_block]; exact hn181_2) | (show (Addr.add _ _).block ≠ _; rw [add_block]; exact hn181_2) | exact hn181_2) (.string (⟨#[]⟩ : ByteArray))).trans hx181_0; clear hn181_0 hn181_1 hn181_2; replace p181 := eq_true p181; replace q181 := eq_true q181) | (refine xg Tryd.func92 (some 51) #[.slice (some ad181) t172.length co41] ?_; (with_reducible refine (insolvencyref1_text.calls k _ _ t172 t182 _ ?side1 ?side2 A30.out).mono ?_); (case side1 => refine (Kd.V_reads' (e := 85) (base := w.heap.size) (ok := fun k_ => (k_ ≠ gb162 ∧ k_ ≠ gb179)) (n := t172.length) (c := co41) ?_).2.2; exact (by (with_reducible repeat (first | apply Kd.V_alloc | apply Kd.V_drewN | apply Kd.V_drew)); exact (Kd.V_mono (Kd.V_far (p := ⟨gb179, 2, none⟩) (Kd.V_far (p := ⟨gb179, 1, none⟩) (Kd.V_far (p := ⟨gb179, 0, none⟩) (Kd.V_mono HO174.out (fun k_ hk => (⟨hk, hk.2⟩ : _ ∧ k_ ≠ gb179))) (fun _ hk => hk.2) (.bool a0)) (fun _ hk => hk.2) (.string t178)) (fun _ hk => hk.2) (.string (⟨#[]⟩ : ByteArray))) (fun _ h_ => h_.1)))); (case side2 => exact (Kd.V_reads' HO174.out).2.1); rintro e w42 ⟨rfl, hb⟩; refine ⟨_, rfl, ?_⟩; replace HO165 := Aside0.mk (Kd.V_below (by (with_reducible repeat (first | apply Kd.V_alloc | apply Kd.V_drewN | apply Kd.V_drew)); exact (Kd.V_mono (Kd.V_far (p := ⟨gb179, 2, none⟩) (Kd.V_far (p := ⟨gb179, 1, none⟩) (Kd.V_far (p := ⟨gb179, 0, none⟩) (Kd.V_mono HO165.out (fun k_ hk => (⟨hk, hk.2⟩ : _ ∧ k_ ≠ gb179))) (fun _ hk => hk.2) (.bool a0)) (fun _ hk => hk.2) (.string t178)) (fun _ hk => hk.2) (.string (⟨#[]⟩ : ByteArray))) (fun _ h_ => h_.1))) hb); replace HO168 := Aside0.mk (Kd.V_below (by (with_reducible repeat (first | apply Kd.V_alloc | apply Kd.V_drewN | apply Kd.V_drew)); exact (Kd.V_mono (Kd.V_far (p := ⟨gb179, 2, none⟩) (Kd.V_far (p := ⟨gb179, 1, none⟩) (Kd.V_far (p := ⟨gb179, 0, none⟩) (Kd.V_mono HO168.out (fun k_ hk => (⟨hk, hk.2⟩ : _ ∧ k_ ≠ gb179))) (fun _ hk => hk.2) (.bool a0)) (fun _ hk => hk.2) (.string t178)) (fun _ hk => hk.2) (.string (⟨#[]⟩ : ByteArray))) (fun _ h_ => h_.1))) hb); replace HO171 := Aside0.mk (Kd.V_below (by (with_reducible repeat (first | apply Kd.V_alloc | apply Kd.V_drewN | apply Kd.V_drew)); exact (Kd.V_mono (Kd.V_far (p := ⟨gb179, 2, none⟩) (Kd.V_far (p := ⟨gb179, 1, none⟩) (Kd.V_far (p := ⟨gb179, 0, none⟩) (Kd.V_mono HO171.out (fun k_ hk => (⟨hk, hk.2⟩ : _ ∧ k_ ≠ gb179))) (fun _ hk => hk.2) (.bool a0)) (fun _ hk => hk.2) (.string t178)) (fun _ hk => hk.2) (.string (⟨#[]⟩ : ByteArray))) (fun _ h_ => h_.1))) hb); replace HO174 := Aside0.mk (Kd.V_below (by (with_reducible repeat (first | apply Kd.V_alloc | apply Kd.V_drewN | apply Kd.V_drew)); exact (Kd.V_mono (Kd.V_far (p := ⟨gb179, 2, none⟩) (Kd.V_far (p := ⟨gb179, 1, none⟩) (Kd.V_far (p := ⟨gb179, 0, none⟩) (Kd.V_mono HO174.out (fun k_ hk => (⟨hk, hk.2⟩ : _ ∧ k_ ≠ gb179))) (fun _ hk => hk.2) (.bool a0)) (fun _ hk => hk.2) (.string t178)) (fun _ hk => hk.2) (.string (⟨#[]⟩ : ByteArray))) (fun _ h_ => h_.1))) hb); replace HO177 := Aside0.mk (Kd.V_below (by (with_reducible repeat (first | apply Kd.V_alloc | apply Kd.V_drewN | apply Kd.V_drew)); exact (Kd.V_mono (Kd.V_far (p := ⟨gb179, 2, none⟩) (Kd.V_far (p := ⟨gb179, 1, none⟩) (Kd.V_far (p := ⟨gb179, 0, none⟩) (Kd.V_mono HO177.out (fun k_ hk => (⟨hk, hk.2⟩ : _ ∧ k_ ≠ gb179))) (fun _ hk => hk.2) (.bool a0)) (fun _ hk => hk.2) (.string t178)) (fun _ hk => hk.2) (.string (⟨#[]⟩ : ByteArray))) (fun _ h_ => h_.1))) hb); replace BK162 := xB BK162 hb; replace BK179 := Aside0.mk (blk_below (g := gb179) (o := .cells #[.bool a0, .string t178, .string (⟨#[]⟩ : ByteArray)] 25 (0, 0)) (xp BK179) hb); replace HB := xS HB hb; clear hb; obtain ⟨hcz43_0, hcz43_1, hcz43_2, hfz43_0, hfz43_1, hfz43_2⟩ := x6 BK179; obtain ⟨hcz44_0, hcz44_1, hcz44_2, hfz44_0, hfz44_1, hfz44_2⟩ := x6 BK162))
     (try have eA10_ := Option.some.inj (A9.out.symm.trans A10.out))
     (try have eA30_ := Option.some.inj (A11.out.symm.trans A30.out))
     refine bodyPost_ret (results_cell_row rfl _ _ gb162 25 #[.bool a0, .string t178, .string t182] (0, 0) _ rfl (xp BK162) Tryd.underlying25 rfl (by kernel_rfl)) rfl ?_
     exact ⟨xy, xs HB⟩
    ·rw [if_neg c29] at H
     have c29b0 : decide (1 < (rd t172 0)) = false := decide_eq_false c29
     clear c29
     simp only [Option.some.injEq, Prod.mk.injEq] at H
     obtain ⟨rfl, rfl, rfl⟩ := H
     go_enter Tryd.func68, Tryd.ntmps68
     go_wp2_with (first | (refine xE (N := 6) #[.bool false, .string (⟨#[]⟩ : ByteArray), .string (⟨#[]⟩ : ByteArray)] 25 rfl ?_; intro gb162 hg w45 hbox hb; have BK162 := Aside0.mk (hbox); have GW162 := (xG HB hg); have GE162 := (xG HB hg); replace HB := xS HB hb; clear hb hbox hg) | (refine xg Tryd.func90 (some 15) #[.slice A1 l1.length c1, .slice A2 l2.length c2] ?_; (with_reducible refine (insolvencyref1_common.calls k (fun k_ => k_ < w.heap.size) _ _ l1 (fun k_ => k_ < w.heap.size) _ _ l2 t163 _ ?side1 ?side2 A7.out).mono ?_); (case side1 => exact Kd.V_mk HC1.out (Kd.F_below (Kd.C_F (Kd.heap_int .u32) HR1.out) (xs HB))); (case side2 => exact Kd.V_mk HC2.out (Kd.F_below (Kd.C_F (Kd.heap_int .u32) HR2.out) (xs HB))); rintro e w46 ⟨v164, rfl, ho0, hb⟩; refine ⟨_, rfl, ?_⟩; have HO165 := Aside0.mk (Kd.V_lower (Kd.V_mono (ok' := fun k_ => k_ ≠ gb162) ho0 (fun k_ hk_ => Or.elim hk_ (fun hs_ => Or.elim hs_ (fun hs_ => fun e_ => Nat.not_le.2 hs_ (by rw [e_]; exact GW162.out)) (fun hs_ => fun e_ => Nat.not_le.2 hs_ (by rw [e_]; exact GW162.out))) (fun hn_ => (Kd.freshB (g := gb162) (o := .cells #[.bool false, .string (⟨#[]⟩ : ByteArray), .string (⟨#[]⟩ : ByteArray)] 25 (0, 0)) (xb BK162) k_ hn_)))) (below_size (xs HB))); replace BK162 := xB BK162 hb; replace HB := xS HB hb; clear hb ho0; obtain ⟨Ao47, co47, eo47⟩ := Kd.V_slice HO165.out; subst eo47) | (refine xg Tryd.func91 (some 28) #[.slice A1 l1.length c1, .slice Ao47 t163.length co47] ?_; (with_reducible refine (insolvencyref1_divide.calls k (fun k_ => k_ < w.heap.size) _ _ l1 _ _ t163 t166 t169 _ ?side1 ?side2 ?side3 A9.out).mono ?_); (case side1 => exact Kd.V_mk HC1.out (Kd.F_below (Kd.C_F (Kd.heap_int .u32) HR1.out) (xs HB))); (case side2 => repeat (first | exact (Kd.V_reads' HO165.out).2.2 | (with_reducible refine Kd.C_alloc ?_ _) | (with_reducible refine Kd.C_drewN ?_ _) | (with_reducible refine Kd.C_drew ?_))); (case side3 => exact (Kd.V_reads' HO165.out).2.1); rintro e w48 ⟨v167, v170, rfl, ho0, ho1, hb⟩; refine ⟨_, rfl, ?_⟩; replace HO165 := Aside0.mk (Kd.V_below (xv HO165.out) hb); have HO168 := Aside0.mk (Kd.V_lower (Kd.V_mono (ok' := fun k_ => k_ ≠ gb162) ho0 (fun k_ hk_ => Or.elim hk_ (fun hs_ => fun e_ => Nat.not_le.2 hs_ (by rw [e_]; exact GW162.out)) (fun hn_ => (Kd.freshB (g := gb162) (o := .cells #[.bool false, .string (⟨#[]⟩ : ByteArray), .string (⟨#[]⟩ : ByteArray)] 25 (0, 0)) (xb BK162) k_ hn_)))) (below_size (xs HB))); have HO171 := Aside0.mk (Kd.V_lower (Kd.V_mono (ok' := fun k_ => k_ ≠ gb162) ho1 (fun k_ hk_ => Or.elim hk_ (fun hs_ => fun e_ => Nat.not_le.2 hs_ (by rw [e_]; exact GW162.out)) (fun hn_ => (Kd.freshB (g := gb162) (o := .cells #[.bool false, .string (⟨#[]⟩ : ByteArray), .string (⟨#[]⟩ : ByteArray)] 25 (0, 0)) (xb BK162) k_ hn_)))) (below_size (xs HB))); replace BK162 := xB BK162 hb; replace HB := xS HB hb; clear hb ho0 ho1) | (refine xg Tryd.func91 (some 34) #[.slice A2 l2.length c2, .slice Ao47 t163.length co47] ?_; (with_reducible refine (insolvencyref1_divide.calls k (fun k_ => k_ < w.heap.size) _ _ l2 _ _ t163 t172 t175 _ ?side1 ?side2 ?side3 A10.out).mono ?_); (case side1 => exact Kd.V_mk HC2.out (Kd.F_below (Kd.C_F (Kd.heap_int .u32) HR2.out) (xs HB))); (case side2 => repeat (first | exact (Kd.V_reads' HO165.out).2.2 | (with_reducible refine Kd.C_alloc ?_ _) | (with_reducible refine Kd.C_drewN ?_ _) | (with_reducible refine Kd.C_drew ?_))); (case side3 => exact (Kd.V_reads' HO165.out).2.1); rintro e w49 ⟨v173, v176, rfl, ho0, ho1, hb⟩; refine ⟨_, rfl, ?_⟩; replace HO165 := Aside0.mk (Kd.V_below (xv HO165.out) hb); replace HO168 := Aside0.mk (Kd.V_below (xv HO168.out) hb); replace HO171 := Aside0.mk (Kd.V_below (xv HO171.out) hb); have HO174 := Aside0.mk (Kd.V_lower (Kd.V_mono (ok' := fun k_ => k_ ≠ gb162) ho0 (fun k_ hk_ => Or.elim hk_ (fun hs_ => fun e_ => Nat.not_le.2 hs_ (by rw [e_]; exact GW162.out)) (fun hn_ => (Kd.freshB (g := gb162) (o := .cells #[.bool false, .string (⟨#[]⟩ : ByteArray), .string (⟨#[]⟩ : ByteArray)] 25 (0, 0)) (xb BK162) k_ hn_)))) (below_size (xs HB))); have HO177 := Aside0.mk (Kd.V_lower (Kd.V_mono (ok' := fun k_ => k_ ≠ gb162) ho1 (fun k_ hk_ => Or.elim hk_ (fun hs_ => fun e_ => Nat.not_le.2 hs_ (by rw [e_]; exact GW162.out)) (fun hn_ => (Kd.freshB (g := gb162) (o := .cells #[.bool false, .string (⟨#[]⟩ : ByteArray), .string (⟨#[]⟩ : ByteArray)] 25 (0, 0)) (xb BK162) k_ hn_)))) (below_size (xs HB))); replace BK162 := xB BK162 hb; replace HB := xS HB hb; clear hb ho0 ho1; obtain ⟨Ao50, co50, eo50⟩ := Kd.V_slice HO168.out; subst eo50) | (refine xg Tryd.func92 (some 39) #[.slice Ao50 t166.length co50] ?_; (with_reducible refine (insolvencyref1_text.calls k _ _ t166 t178 _ (xf (Kd.V_reads' HO168.out).2.2) (Kd.V_reads' HO168.out).2.1 A11.out).mono ?_); rintro e w51 ⟨rfl, hb⟩; refine ⟨_, rfl, ?_⟩; replace HO165 := Aside0.mk (Kd.V_below (xv HO165.out) hb); replace HO168 := Aside0.mk (Kd.V_below (xv HO168.out) hb); replace HO171 := Aside0.mk (Kd.V_below (xv HO171.out) hb); replace HO174 := Aside0.mk (Kd.V_below (xv HO174.out) hb); replace HO177 := Aside0.mk (Kd.V_below (xv HO177.out) hb); replace BK162 := xB BK162 hb; replace HB := xS HB hb; clear hb) | (refine xE (N := 8) #[.bool false, .string (⟨#[]⟩ : ByteArray), .string (⟨#[]⟩ : ByteArray)] 25 rfl ?_; intro gb179 hg w52 hbox hb; replace HO165 := Aside0.mk (Kd.V_below (Kd.V_elderB (xv HO165.out) gb179 (Nat.le_of_eq hg.symm)) hb); replace HO168 := Aside0.mk (Kd.V_below (Kd.V_elderB (xv HO168.out) gb179 (Nat.le_of_eq hg.symm)) hb); replace HO171 := Aside0.mk (Kd.V_below (Kd.V_elderB (xv HO171.out) gb179 (Nat.le_of_eq hg.symm)) hb); replace HO174 := Aside0.mk (Kd.V_below (Kd.V_elderB (xv HO174.out) gb179 (Nat.le_of_eq hg.symm)) hb); replace HO177 := Aside0.mk (Kd.V_below (Kd.V_elderB (xv HO177.out) gb179 (Nat.le_of_eq hg.symm)) hb); have BK179 := Aside0.mk (hbox); have GW179 := (xG HB hg); have GE179 := (xG HB hg); replace HB := xS HB hb; have NB162_179 := xL BK162 hg; have NB179_162 := xR BK162 hg; replace BK162 := xB BK162 hb; clear hb hbox hg; have hnb53 := NB179_162.out; have hnc53 := NB162_179.out; obtain ⟨hcz54_0, hcz54_1, hcz54_2, hfz54_0, hfz54_1, hfz54_2⟩ := x6 BK179; obtain ⟨Ao55, co55, eo55⟩ := Kd.V_slice HO174.out; subst eo55; have p181 : 0 ≤ (0 : Int) := (by omega); have q181 : 0 < (t172.length : Int) := xa; obtain ⟨ad181, e181, hx181_0⟩ := Kd.at_int (Kd.V_reads' HO174.out).2.2 0 p181 q181; cases e181; have qi181 : (0 < t172.length) = True := eq_true (by omega); (try rw [show ((0 : Int)).toNat = 0 from rfl] at hx181_0); (try rw [Addr.add_zero'] at hx181_0); have hn181_0 : ad181.block ≠ gb179 := Kd.V_blk HO174.out p181 q181 (fun _ hk => by first | exact hk | exact hk.2 | exact hk.1 | grind); have hn181_1 : ad181.block ≠ gb179 := Kd.V_blk HO174.out p181 q181 (fun _ hk => by first | exact hk | exact hk.2 | exact hk.1 | grind); have hn181_2 : ad181.block ≠ gb179 := Kd.V_blk HO174.out p181 q181 (fun _ hk => by first | exact hk | exact hk.2 | exact hk.1 | grind); replace hx181_0 := (cell_far (p := ⟨gb179, 0, none⟩) (by first | (rw [add_block]; exact hn181_0) | (show (Addr.add _ _).block ≠ _; rw [add_block]; exact hn181_0) | exact hn181_0) (.bool a0)).trans hx181_0; replace hx181_0 := (cell_far (p := ⟨gb179, 1, none⟩) (by first | (rw [add_block]; exact hn181_1) | (show (Addr.add _ _).block ≠ _; rw [add_block]; exact hn181_1) | exact hn181_1) (.string t178)).trans hx181_0; replace hx181_0 := (cell_far (p := ⟨gb179, 2, none⟩) (by first | (rw [add_block]; exact hn181_2) | (show (Addr.add _ _).block ≠ _; rw [add_block]; exact hn181_2) | exact hn181_2) (.string (⟨#[]⟩ : ByteArray))).trans hx181_0; clear hn181_0 hn181_1 hn181_2; replace p181 := eq_true p181; replace q181 := eq_true q181; obtain ⟨hcz56_0, hcz56_1, hcz56_2, hfz56_0, hfz56_1, hfz56_2⟩ := x6 BK162))
     (try have eA10_ := Option.some.inj (A9.out.symm.trans A10.out))
     refine bodyPost_ret (results_cell_row rfl _ _ gb162 25 #[.bool a0, .string t178, .string (⟨#[]⟩ : ByteArray)] (0, 0) _ rfl (xp BK162) Tryd.underlying25 rfl (by kernel_rfl)) rfl ?_
     exact ⟨xy, xs HB⟩
  ·rw [if_neg c8] at H
   have c8b0 : decide (1 < (t163.length : Int)) = false := decide_eq_false c8
   have c8b1 : decide (1 < t163.length) = false := decide_eq_false (by omega)
   clear c8
   by_cases c57 : 0 < (t163.length : Int)
   rotate_left
   ·rw [if_neg c57] at H
    exact absurd H (by simp)
   rw [if_pos c57] at H
   have c57b0 : decide (0 < (t163.length : Int)) = true := decide_eq_true c57
   have c57b1 : decide (0 < t163.length) = true := decide_eq_true (by omega)
   clear c57
   by_cases c58 : (rd t163 0) > 1
   ·rw [if_pos c58] at H
    have c58b0 : decide (1 < (rd t163 0)) = true := decide_eq_true c58
    clear c58
    replace H := xH H; obtain ⟨⟨t184, t187⟩, A59, H⟩ := H
    dsimp only at H
    replace H := xH H; obtain ⟨⟨t190, t193⟩, A60, H⟩ := H
    dsimp only at H
    replace H := xH H; obtain ⟨t196, A61, H⟩ := H
    by_cases c62 : (t190.length : Int) > 1
    ·rw [if_pos c62] at H
     have c62b0 : decide (1 < (t190.length : Int)) = true := decide_eq_true c62
     have c62b1 : decide (1 < t190.length) = true := decide_eq_true (by omega)
     clear c62
     replace H := xH H; obtain ⟨t198, A63, H⟩ := H
     simp only [Option.some.injEq, Prod.mk.injEq] at H
     obtain ⟨rfl, rfl, rfl⟩ := H
     go_enter Tryd.func68, Tryd.ntmps68
     go_wp2_with (first | (refine xE (N := 6) #[.bool false, .string (⟨#[]⟩ : ByteArray), .string (⟨#[]⟩ : ByteArray)] 25 rfl ?_; intro gb162 hg w64 hbox hb; have BK162 := Aside0.mk (hbox); have GW162 := (xG HB hg); have GE162 := (xG HB hg); replace HB := xS HB hb; clear hb hbox hg) | (refine xg Tryd.func90 (some 15) #[.slice A1 l1.length c1, .slice A2 l2.length c2] ?_; (with_reducible refine (insolvencyref1_common.calls k (fun k_ => k_ < w.heap.size) _ _ l1 (fun k_ => k_ < w.heap.size) _ _ l2 t163 _ ?side1 ?side2 A7.out).mono ?_); (case side1 => exact Kd.V_mk HC1.out (Kd.F_below (Kd.C_F (Kd.heap_int .u32) HR1.out) (xs HB))); (case side2 => exact Kd.V_mk HC2.out (Kd.F_below (Kd.C_F (Kd.heap_int .u32) HR2.out) (xs HB))); rintro e w65 ⟨v164, rfl, ho0, hb⟩; refine ⟨_, rfl, ?_⟩; have HO165 := Aside0.mk (Kd.V_lower (Kd.V_mono (ok' := fun k_ => k_ ≠ gb162) ho0 (fun k_ hk_ => Or.elim hk_ (fun hs_ => Or.elim hs_ (fun hs_ => fun e_ => Nat.not_le.2 hs_ (by rw [e_]; exact GW162.out)) (fun hs_ => fun e_ => Nat.not_le.2 hs_ (by rw [e_]; exact GW162.out))) (fun hn_ => (Kd.freshB (g := gb162) (o := .cells #[.bool false, .string (⟨#[]⟩ : ByteArray), .string (⟨#[]⟩ : ByteArray)] 25 (0, 0)) (xb BK162) k_ hn_)))) (below_size (xs HB))); replace BK162 := xB BK162 hb; replace HB := xS HB hb; clear hb ho0; obtain ⟨Ao66, co66, eo66⟩ := Kd.V_slice HO165.out; subst eo66; have p183 : 0 ≤ (0 : Int) := (by omega); have q183 : 0 < (t163.length : Int) := xa; obtain ⟨ad183, e183, hx183_0⟩ := Kd.at_int (Kd.V_reads' HO165.out).2.2 0 p183 q183; cases e183; have qi183 : (0 < t163.length) = True := eq_true (by omega); (try rw [show ((0 : Int)).toNat = 0 from rfl] at hx183_0); (try rw [Addr.add_zero'] at hx183_0); replace p183 := eq_true p183; replace q183 := eq_true q183) | (refine xg Tryd.func91 (some 28) #[.slice A1 l1.length c1, .slice (some ad183) t163.length co66] ?_; (with_reducible refine (insolvencyref1_divide.calls k (fun k_ => k_ < w.heap.size) _ _ l1 _ _ t163 t184 t187 _ ?side1 ?side2 ?side3 A59.out).mono ?_); (case side1 => exact Kd.V_mk HC1.out (Kd.F_below (Kd.C_F (Kd.heap_int .u32) HR1.out) (xs HB))); (case side2 => repeat (first | exact (Kd.V_reads' HO165.out).2.2 | (with_reducible refine Kd.C_alloc ?_ _) | (with_reducible refine Kd.C_drewN ?_ _) | (with_reducible refine Kd.C_drew ?_))); (case side3 => exact (Kd.V_reads' HO165.out).2.1); rintro e w67 ⟨v185, v188, rfl, ho0, ho1, hb⟩; refine ⟨_, rfl, ?_⟩; replace HO165 := Aside0.mk (Kd.V_below (xv HO165.out) hb); have HO186 := Aside0.mk (Kd.V_lower (Kd.V_mono (ok' := fun k_ => k_ ≠ gb162) ho0 (fun k_ hk_ => Or.elim hk_ (fun hs_ => fun e_ => Nat.not_le.2 hs_ (by rw [e_]; exact GW162.out)) (fun hn_ => (Kd.freshB (g := gb162) (o := .cells #[.bool false, .string (⟨#[]⟩ : ByteArray), .string (⟨#[]⟩ : ByteArray)] 25 (0, 0)) (xb BK162) k_ hn_)))) (below_size (xs HB))); have HO189 := Aside0.mk (Kd.V_lower (Kd.V_mono (ok' := fun k_ => k_ ≠ gb162) ho1 (fun k_ hk_ => Or.elim hk_ (fun hs_ => fun e_ => Nat.not_le.2 hs_ (by rw [e_]; exact GW162.out)) (fun hn_ => (Kd.freshB (g := gb162) (o := .cells #[.bool false, .string (⟨#[]⟩ : ByteArray), .string (⟨#[]⟩ : ByteArray)] 25 (0, 0)) (xb BK162) k_ hn_)))) (below_size (xs HB))); replace BK162 := xB BK162 hb; replace HB := xS HB hb; clear hb ho0 ho1) | (refine xg Tryd.func91 (some 34) #[.slice A2 l2.length c2, .slice (some ad183) t163.length co66] ?_; (with_reducible refine (insolvencyref1_divide.calls k (fun k_ => k_ < w.heap.size) _ _ l2 _ _ t163 t190 t193 _ ?side1 ?side2 ?side3 A60.out).mono ?_); (case side1 => exact Kd.V_mk HC2.out (Kd.F_below (Kd.C_F (Kd.heap_int .u32) HR2.out) (xs HB))); (case side2 => repeat (first | exact (Kd.V_reads' HO165.out).2.2 | (with_reducible refine Kd.C_alloc ?_ _) | (with_reducible refine Kd.C_drewN ?_ _) | (with_reducible refine Kd.C_drew ?_))); (case side3 => exact (Kd.V_reads' HO165.out).2.1); rintro e w68 ⟨v191, v194, rfl, ho0, ho1, hb⟩; refine ⟨_, rfl, ?_⟩; replace HO165 := Aside0.mk (Kd.V_below (xv HO165.out) hb); replace HO186 := Aside0.mk (Kd.V_below (xv HO186.out) hb); replace HO189 := Aside0.mk (Kd.V_below (xv HO189.out) hb); have HO192 := Aside0.mk (Kd.V_lower (Kd.V_mono (ok' := fun k_ => k_ ≠ gb162) ho0 (fun k_ hk_ => Or.elim hk_ (fun hs_ => fun e_ => Nat.not_le.2 hs_ (by rw [e_]; exact GW162.out)) (fun hn_ => (Kd.freshB (g := gb162) (o := .cells #[.bool false, .string (⟨#[]⟩ : ByteArray), .string (⟨#[]⟩ : ByteArray)] 25 (0, 0)) (xb BK162) k_ hn_)))) (below_size (xs HB))); have HO195 := Aside0.mk (Kd.V_lower (Kd.V_mono (ok' := fun k_ => k_ ≠ gb162) ho1 (fun k_ hk_ => Or.elim hk_ (fun hs_ => fun e_ => Nat.not_le.2 hs_ (by rw [e_]; exact GW162.out)) (fun hn_ => (Kd.freshB (g := gb162) (o := .cells #[.bool false, .string (⟨#[]⟩ : ByteArray), .string (⟨#[]⟩ : ByteArray)] 25 (0, 0)) (xb BK162) k_ hn_)))) (below_size (xs HB))); replace BK162 := xB BK162 hb; replace HB := xS HB hb; clear hb ho0 ho1; obtain ⟨Ao69, co69, eo69⟩ := Kd.V_slice HO186.out; subst eo69) | (refine xg Tryd.func92 (some 39) #[.slice Ao69 t184.length co69] ?_; (with_reducible refine (insolvencyref1_text.calls k _ _ t184 t196 _ (xf (Kd.V_reads' HO186.out).2.2) (Kd.V_reads' HO186.out).2.1 A61.out).mono ?_); rintro e w70 ⟨rfl, hb⟩; refine ⟨_, rfl, ?_⟩; replace HO165 := Aside0.mk (Kd.V_below (xv HO165.out) hb); replace HO186 := Aside0.mk (Kd.V_below (xv HO186.out) hb); replace HO189 := Aside0.mk (Kd.V_below (xv HO189.out) hb); replace HO192 := Aside0.mk (Kd.V_below (xv HO192.out) hb); replace HO195 := Aside0.mk (Kd.V_below (xv HO195.out) hb); replace BK162 := xB BK162 hb; replace HB := xS HB hb; clear hb) | (refine xE (N := 8) #[.bool false, .string (⟨#[]⟩ : ByteArray), .string (⟨#[]⟩ : ByteArray)] 25 rfl ?_; intro gb197 hg w71 hbox hb; replace HO165 := Aside0.mk (Kd.V_below (Kd.V_elderB (xv HO165.out) gb197 (Nat.le_of_eq hg.symm)) hb); replace HO186 := Aside0.mk (Kd.V_below (Kd.V_elderB (xv HO186.out) gb197 (Nat.le_of_eq hg.symm)) hb); replace HO189 := Aside0.mk (Kd.V_below (Kd.V_elderB (xv HO189.out) gb197 (Nat.le_of_eq hg.symm)) hb); replace HO192 := Aside0.mk (Kd.V_below (Kd.V_elderB (xv HO192.out) gb197 (Nat.le_of_eq hg.symm)) hb); replace HO195 := Aside0.mk (Kd.V_below (Kd.V_elderB (xv HO195.out) gb197 (Nat.le_of_eq hg.symm)) hb); have BK197 := Aside0.mk (hbox); have GW197 := (xG HB hg); have GE197 := (xG HB hg); replace HB := xS HB hb; have NB162_197 := xL BK162 hg; have NB197_162 := xR BK162 hg; replace BK162 := xB BK162 hb; clear hb hbox hg; have hnb72 := NB197_162.out; have hnc72 := NB162_197.out; obtain ⟨hcz73_0, hcz73_1, hcz73_2, hfz73_0, hfz73_1, hfz73_2⟩ := x6 BK197; obtain ⟨Ao74, co74, eo74⟩ := Kd.V_slice HO192.out; subst eo74) | (refine xg Tryd.func92 (some 51) #[.slice Ao74 t190.length co74] ?_; (with_reducible refine (insolvencyref1_text.calls k _ _ t190 t198 _ ?side1 ?side2 A63.out).mono ?_); (case side1 => refine (Kd.V_reads' (e := 85) (base := w.heap.size) (ok := fun k_ => (k_ ≠ gb162 ∧ k_ ≠ gb197)) (n := t190.length) (c := co74) ?_).2.2; exact (by (with_reducible repeat (first | apply Kd.V_alloc | apply Kd.V_drewN | apply Kd.V_drew)); exact (Kd.V_mono (Kd.V_far (p := ⟨gb197, 2, none⟩) (Kd.V_far (p := ⟨gb197, 1, none⟩) (Kd.V_far (p := ⟨gb197, 0, none⟩) (Kd.V_mono HO192.out (fun k_ hk => (⟨hk, hk.2⟩ : _ ∧ k_ ≠ gb197))) (fun _ hk => hk.2) (.bool a0)) (fun _ hk => hk.2) (.string t196)) (fun _ hk => hk.2) (.string (⟨#[]⟩ : ByteArray))) (fun _ h_ => h_.1)))); (case side2 => exact (Kd.V_reads' HO192.out).2.1); rintro e w75 ⟨rfl, hb⟩; refine ⟨_, rfl, ?_⟩; replace HO165 := Aside0.mk (Kd.V_below (by (with_reducible repeat (first | apply Kd.V_alloc | apply Kd.V_drewN | apply Kd.V_drew)); exact (Kd.V_mono (Kd.V_far (p := ⟨gb197, 2, none⟩) (Kd.V_far (p := ⟨gb197, 1, none⟩) (Kd.V_far (p := ⟨gb197, 0, none⟩) (Kd.V_mono HO165.out (fun k_ hk => (⟨hk, hk.2⟩ : _ ∧ k_ ≠ gb197))) (fun _ hk => hk.2) (.bool a0)) (fun _ hk => hk.2) (.string t196)) (fun _ hk => hk.2) (.string (⟨#[]⟩ : ByteArray))) (fun _ h_ => h_.1))) hb); replace HO186 := Aside0.mk (Kd.V_below (by (with_reducible repeat (first | apply Kd.V_alloc | apply Kd.V_drewN | apply Kd.V_drew)); exact (Kd.V_mono (Kd.V_far (p := ⟨gb197, 2, none⟩) (Kd.V_far (p := ⟨gb197, 1, none⟩) (Kd.V_far (p := ⟨gb197, 0, none⟩) (Kd.V_mono HO186.out (fun k_ hk => (⟨hk, hk.2⟩ : _ ∧ k_ ≠ gb197))) (fun _ hk => hk.2) (.bool a0)) (fun _ hk => hk.2) (.string t196)) (fun _ hk => hk.2) (.string (⟨#[]⟩ : ByteArray))) (fun _ h_ => h_.1))) hb); replace HO189 := Aside0.mk (Kd.V_below (by (with_reducible repeat (first | apply Kd.V_alloc | apply Kd.V_drewN | apply Kd.V_drew)); exact (Kd.V_mono (Kd.V_far (p := ⟨gb197, 2, none⟩) (Kd.V_far (p := ⟨gb197, 1, none⟩) (Kd.V_far (p := ⟨gb197, 0, none⟩) (Kd.V_mono HO189.out (fun k_ hk => (⟨hk, hk.2⟩ : _ ∧ k_ ≠ gb197))) (fun _ hk => hk.2) (.bool a0)) (fun _ hk => hk.2) (.string t196)) (fun _ hk => hk.2) (.string (⟨#[]⟩ : ByteArray))) (fun _ h_ => h_.1))) hb); replace HO192 := Aside0.mk (Kd.V_below (by (with_reducible repeat (first | apply Kd.V_alloc | apply Kd.V_drewN | apply Kd.V_drew)); exact (Kd.V_mono (Kd.V_far (p := ⟨gb197, 2, none⟩) (Kd.V_far (p := ⟨gb197, 1, none⟩) (Kd.V_far (p := ⟨gb197, 0, none⟩) (Kd.V_mono HO192.out (fun k_ hk => (⟨hk, hk.2⟩ : _ ∧ k_ ≠ gb197))) (fun _ hk => hk.2) (.bool a0)) (fun _ hk => hk.2) (.string t196)) (fun _ hk => hk.2) (.string (⟨#[]⟩ : ByteArray))) (fun _ h_ => h_.1))) hb); replace HO195 := Aside0.mk (Kd.V_below (by (with_reducible repeat (first | apply Kd.V_alloc | apply Kd.V_drewN | apply Kd.V_drew)); exact (Kd.V_mono (Kd.V_far (p := ⟨gb197, 2, none⟩) (Kd.V_far (p := ⟨gb197, 1, none⟩) (Kd.V_far (p := ⟨gb197, 0, none⟩) (Kd.V_mono HO195.out (fun k_ hk => (⟨hk, hk.2⟩ : _ ∧ k_ ≠ gb197))) (fun _ hk => hk.2) (.bool a0)) (fun _ hk => hk.2) (.string t196)) (fun _ hk => hk.2) (.string (⟨#[]⟩ : ByteArray))) (fun _ h_ => h_.1))) hb); replace BK162 := xB BK162 hb; replace BK197 := Aside0.mk (blk_below (g := gb197) (o := .cells #[.bool a0, .string t196, .string (⟨#[]⟩ : ByteArray)] 25 (0, 0)) (xp BK197) hb); replace HB := xS HB hb; clear hb; obtain ⟨hcz76_0, hcz76_1, hcz76_2, hfz76_0, hfz76_1, hfz76_2⟩ := x6 BK197; obtain ⟨hcz77_0, hcz77_1, hcz77_2, hfz77_0, hfz77_1, hfz77_2⟩ := x6 BK162))
     (try have eA60_ := Option.some.inj (A59.out.symm.trans A60.out))
     (try have eA63_ := Option.some.inj (A61.out.symm.trans A63.out))
     refine bodyPost_ret (results_cell_row rfl _ _ gb162 25 #[.bool a0, .string t196, .string t198] (0, 0) _ rfl (xp BK162) Tryd.underlying25 rfl (by kernel_rfl)) rfl ?_
     exact ⟨xy, xs HB⟩
    ·rw [if_neg c62] at H
     have c62b0 : decide (1 < (t190.length : Int)) = false := decide_eq_false c62
     have c62b1 : decide (1 < t190.length) = false := decide_eq_false (by omega)
     clear c62
     by_cases c78 : 0 < (t190.length : Int)
     rotate_left
     ·rw [if_neg c78] at H
      exact absurd H (by simp)
     rw [if_pos c78] at H
     have c78b0 : decide (0 < (t190.length : Int)) = true := decide_eq_true c78
     have c78b1 : decide (0 < t190.length) = true := decide_eq_true (by omega)
     clear c78
     by_cases c79 : (rd t190 0) > 1
     ·rw [if_pos c79] at H
      have c79b0 : decide (1 < (rd t190 0)) = true := decide_eq_true c79
      clear c79
      replace H := xH H; obtain ⟨t200, A80, H⟩ := H
      simp only [Option.some.injEq, Prod.mk.injEq] at H
      obtain ⟨rfl, rfl, rfl⟩ := H
      go_enter Tryd.func68, Tryd.ntmps68
      go_wp2_with (first | (refine xE (N := 6) #[.bool false, .string (⟨#[]⟩ : ByteArray), .string (⟨#[]⟩ : ByteArray)] 25 rfl ?_; intro gb162 hg w81 hbox hb; have BK162 := Aside0.mk (hbox); have GW162 := (xG HB hg); have GE162 := (xG HB hg); replace HB := xS HB hb; clear hb hbox hg) | (refine xg Tryd.func90 (some 15) #[.slice A1 l1.length c1, .slice A2 l2.length c2] ?_; (with_reducible refine (insolvencyref1_common.calls k (fun k_ => k_ < w.heap.size) _ _ l1 (fun k_ => k_ < w.heap.size) _ _ l2 t163 _ ?side1 ?side2 A7.out).mono ?_); (case side1 => exact Kd.V_mk HC1.out (Kd.F_below (Kd.C_F (Kd.heap_int .u32) HR1.out) (xs HB))); (case side2 => exact Kd.V_mk HC2.out (Kd.F_below (Kd.C_F (Kd.heap_int .u32) HR2.out) (xs HB))); rintro e w82 ⟨v164, rfl, ho0, hb⟩; refine ⟨_, rfl, ?_⟩; have HO165 := Aside0.mk (Kd.V_lower (Kd.V_mono (ok' := fun k_ => k_ ≠ gb162) ho0 (fun k_ hk_ => Or.elim hk_ (fun hs_ => Or.elim hs_ (fun hs_ => fun e_ => Nat.not_le.2 hs_ (by rw [e_]; exact GW162.out)) (fun hs_ => fun e_ => Nat.not_le.2 hs_ (by rw [e_]; exact GW162.out))) (fun hn_ => (Kd.freshB (g := gb162) (o := .cells #[.bool false, .string (⟨#[]⟩ : ByteArray), .string (⟨#[]⟩ : ByteArray)] 25 (0, 0)) (xb BK162) k_ hn_)))) (below_size (xs HB))); replace BK162 := xB BK162 hb; replace HB := xS HB hb; clear hb ho0; obtain ⟨Ao83, co83, eo83⟩ := Kd.V_slice HO165.out; subst eo83; have p183 : 0 ≤ (0 : Int) := (by omega); have q183 : 0 < (t163.length : Int) := xa; obtain ⟨ad183, e183, hx183_0⟩ := Kd.at_int (Kd.V_reads' HO165.out).2.2 0 p183 q183; cases e183; have qi183 : (0 < t163.length) = True := eq_true (by omega); (try rw [show ((0 : Int)).toNat = 0 from rfl] at hx183_0); (try rw [Addr.add_zero'] at hx183_0); replace p183 := eq_true p183; replace q183 := eq_true q183) | (refine xg Tryd.func91 (some 28) #[.slice A1 l1.length c1, .slice (some ad183) t163.length co83] ?_; (with_reducible refine (insolvencyref1_divide.calls k (fun k_ => k_ < w.heap.size) _ _ l1 _ _ t163 t184 t187 _ ?side1 ?side2 ?side3 A59.out).mono ?_); (case side1 => exact Kd.V_mk HC1.out (Kd.F_below (Kd.C_F (Kd.heap_int .u32) HR1.out) (xs HB))); (case side2 => repeat (first | exact (Kd.V_reads' HO165.out).2.2 | (with_reducible refine Kd.C_alloc ?_ _) | (with_reducible refine Kd.C_drewN ?_ _) | (with_reducible refine Kd.C_drew ?_))); (case side3 => exact (Kd.V_reads' HO165.out).2.1); rintro e w84 ⟨v185, v188, rfl, ho0, ho1, hb⟩; refine ⟨_, rfl, ?_⟩; replace HO165 := Aside0.mk (Kd.V_below (xv HO165.out) hb); have HO186 := Aside0.mk (Kd.V_lower (Kd.V_mono (ok' := fun k_ => k_ ≠ gb162) ho0 (fun k_ hk_ => Or.elim hk_ (fun hs_ => fun e_ => Nat.not_le.2 hs_ (by rw [e_]; exact GW162.out)) (fun hn_ => (Kd.freshB (g := gb162) (o := .cells #[.bool false, .string (⟨#[]⟩ : ByteArray), .string (⟨#[]⟩ : ByteArray)] 25 (0, 0)) (xb BK162) k_ hn_)))) (below_size (xs HB))); have HO189 := Aside0.mk (Kd.V_lower (Kd.V_mono (ok' := fun k_ => k_ ≠ gb162) ho1 (fun k_ hk_ => Or.elim hk_ (fun hs_ => fun e_ => Nat.not_le.2 hs_ (by rw [e_]; exact GW162.out)) (fun hn_ => (Kd.freshB (g := gb162) (o := .cells #[.bool false, .string (⟨#[]⟩ : ByteArray), .string (⟨#[]⟩ : ByteArray)] 25 (0, 0)) (xb BK162) k_ hn_)))) (below_size (xs HB))); replace BK162 := xB BK162 hb; replace HB := xS HB hb; clear hb ho0 ho1) | (refine xg Tryd.func91 (some 34) #[.slice A2 l2.length c2, .slice (some ad183) t163.length co83] ?_; (with_reducible refine (insolvencyref1_divide.calls k (fun k_ => k_ < w.heap.size) _ _ l2 _ _ t163 t190 t193 _ ?side1 ?side2 ?side3 A60.out).mono ?_); (case side1 => exact Kd.V_mk HC2.out (Kd.F_below (Kd.C_F (Kd.heap_int .u32) HR2.out) (xs HB))); (case side2 => repeat (first | exact (Kd.V_reads' HO165.out).2.2 | (with_reducible refine Kd.C_alloc ?_ _) | (with_reducible refine Kd.C_drewN ?_ _) | (with_reducible refine Kd.C_drew ?_))); (case side3 => exact (Kd.V_reads' HO165.out).2.1); rintro e w85 ⟨v191, v194, rfl, ho0, ho1, hb⟩; refine ⟨_, rfl, ?_⟩; replace HO165 := Aside0.mk (Kd.V_below (xv HO165.out) hb); replace HO186 := Aside0.mk (Kd.V_below (xv HO186.out) hb); replace HO189 := Aside0.mk (Kd.V_below (xv HO189.out) hb); have HO192 := Aside0.mk (Kd.V_lower (Kd.V_mono (ok' := fun k_ => k_ ≠ gb162) ho0 (fun k_ hk_ => Or.elim hk_ (fun hs_ => fun e_ => Nat.not_le.2 hs_ (by rw [e_]; exact GW162.out)) (fun hn_ => (Kd.freshB (g := gb162) (o := .cells #[.bool false, .string (⟨#[]⟩ : ByteArray), .string (⟨#[]⟩ : ByteArray)] 25 (0, 0)) (xb BK162) k_ hn_)))) (below_size (xs HB))); have HO195 := Aside0.mk (Kd.V_lower (Kd.V_mono (ok' := fun k_ => k_ ≠ gb162) ho1 (fun k_ hk_ => Or.elim hk_ (fun hs_ => fun e_ => Nat.not_le.2 hs_ (by rw [e_]; exact GW162.out)) (fun hn_ => (Kd.freshB (g := gb162) (o := .cells #[.bool false, .string (⟨#[]⟩ : ByteArray), .string (⟨#[]⟩ : ByteArray)] 25 (0, 0)) (xb BK162) k_ hn_)))) (below_size (xs HB))); replace BK162 := xB BK162 hb; replace HB := xS HB hb; clear hb ho0 ho1; obtain ⟨Ao86, co86, eo86⟩ := Kd.V_slice HO186.out; subst eo86) | (refine xg Tryd.func92 (some 39) #[.slice Ao86 t184.length co86] ?_; (with_reducible refine (insolvencyref1_text.calls k _ _ t184 t196 _ (xf (Kd.V_reads' HO186.out).2.2) (Kd.V_reads' HO186.out).2.1 A61.out).mono ?_); rintro e w87 ⟨rfl, hb⟩; refine ⟨_, rfl, ?_⟩; replace HO165 := Aside0.mk (Kd.V_below (xv HO165.out) hb); replace HO186 := Aside0.mk (Kd.V_below (xv HO186.out) hb); replace HO189 := Aside0.mk (Kd.V_below (xv HO189.out) hb); replace HO192 := Aside0.mk (Kd.V_below (xv HO192.out) hb); replace HO195 := Aside0.mk (Kd.V_below (xv HO195.out) hb); replace BK162 := xB BK162 hb; replace HB := xS HB hb; clear hb) | (refine xE (N := 8) #[.bool false, .string (⟨#[]⟩ : ByteArray), .string (⟨#[]⟩ : ByteArray)] 25 rfl ?_; intro gb197 hg w88 hbox hb; replace HO165 := Aside0.mk (Kd.V_below (Kd.V_elderB (xv HO165.out) gb197 (Nat.le_of_eq hg.symm)) hb); replace HO186 := Aside0.mk (Kd.V_below (Kd.V_elderB (xv HO186.out) gb197 (Nat.le_of_eq hg.symm)) hb); replace HO189 := Aside0.mk (Kd.V_below (Kd.V_elderB (xv HO189.out) gb197 (Nat.le_of_eq hg.symm)) hb); replace HO192 := Aside0.mk (Kd.V_below (Kd.V_elderB (xv HO192.out) gb197 (Nat.le_of_eq hg.symm)) hb); replace HO195 := Aside0.mk (Kd.V_below (Kd.V_elderB (xv HO195.out) gb197 (Nat.le_of_eq hg.symm)) hb); have BK197 := Aside0.mk (hbox); have GW197 := (xG HB hg); have GE197 := (xG HB hg); replace HB := xS HB hb; have NB162_197 := xL BK162 hg; have NB197_162 := xR BK162 hg; replace BK162 := xB BK162 hb; clear hb hbox hg; have hnb89 := NB197_162.out; have hnc89 := NB162_197.out; obtain ⟨hcz90_0, hcz90_1, hcz90_2, hfz90_0, hfz90_1, hfz90_2⟩ := x6 BK197; obtain ⟨Ao91, co91, eo91⟩ := Kd.V_slice HO192.out; subst eo91; have p199 : 0 ≤ (0 : Int) := (by omega); have q199 : 0 < (t190.length : Int) := xa; obtain ⟨ad199, e199, hx199_0⟩ := Kd.at_int (Kd.V_reads' HO192.out).2.2 0 p199 q199; cases e199; have qi199 : (0 < t190.length) = True := eq_true (by omega); (try rw [show ((0 : Int)).toNat = 0 from rfl] at hx199_0); (try rw [Addr.add_zero'] at hx199_0); have hn199_0 : ad199.block ≠ gb197 := Kd.V_blk HO192.out p199 q199 (fun _ hk => by first | exact hk | exact hk.2 | exact hk.1 | grind); have hn199_1 : ad199.block ≠ gb197 := Kd.V_blk HO192.out p199 q199 (fun _ hk => by first | exact hk | exact hk.2 | exact hk.1 | grind); have hn199_2 : ad199.block ≠ gb197 := Kd.V_blk HO192.out p199 q199 (fun _ hk => by first | exact hk | exact hk.2 | exact hk.1 | grind); replace hx199_0 := (cell_far (p := ⟨gb197, 0, none⟩) (by first | (rw [add_block]; exact hn199_0) | (show (Addr.add _ _).block ≠ _; rw [add_block]; exact hn199_0) | exact hn199_0) (.bool a0)).trans hx199_0; replace hx199_0 := (cell_far (p := ⟨gb197, 1, none⟩) (by first | (rw [add_block]; exact hn199_1) | (show (Addr.add _ _).block ≠ _; rw [add_block]; exact hn199_1) | exact hn199_1) (.string t196)).trans hx199_0; replace hx199_0 := (cell_far (p := ⟨gb197, 2, none⟩) (by first | (rw [add_block]; exact hn199_2) | (show (Addr.add _ _).block ≠ _; rw [add_block]; exact hn199_2) | exact hn199_2) (.string (⟨#[]⟩ : ByteArray))).trans hx199_0; clear hn199_0 hn199_1 hn199_2; replace p199 := eq_true p199; replace q199 := eq_true q199) | (refine xg Tryd.func92 (some 51) #[.slice (some ad199) t190.length co91] ?_; (with_reducible refine (insolvencyref1_text.calls k _ _ t190 t200 _ ?side1 ?side2 A80.out).mono ?_); (case side1 => refine (Kd.V_reads' (e := 85) (base := w.heap.size) (ok := fun k_ => (k_ ≠ gb162 ∧ k_ ≠ gb197)) (n := t190.length) (c := co91) ?_).2.2; exact (by (with_reducible repeat (first | apply Kd.V_alloc | apply Kd.V_drewN | apply Kd.V_drew)); exact (Kd.V_mono (Kd.V_far (p := ⟨gb197, 2, none⟩) (Kd.V_far (p := ⟨gb197, 1, none⟩) (Kd.V_far (p := ⟨gb197, 0, none⟩) (Kd.V_mono HO192.out (fun k_ hk => (⟨hk, hk.2⟩ : _ ∧ k_ ≠ gb197))) (fun _ hk => hk.2) (.bool a0)) (fun _ hk => hk.2) (.string t196)) (fun _ hk => hk.2) (.string (⟨#[]⟩ : ByteArray))) (fun _ h_ => h_.1)))); (case side2 => exact (Kd.V_reads' HO192.out).2.1); rintro e w92 ⟨rfl, hb⟩; refine ⟨_, rfl, ?_⟩; replace HO165 := Aside0.mk (Kd.V_below (by (with_reducible repeat (first | apply Kd.V_alloc | apply Kd.V_drewN | apply Kd.V_drew)); exact (Kd.V_mono (Kd.V_far (p := ⟨gb197, 2, none⟩) (Kd.V_far (p := ⟨gb197, 1, none⟩) (Kd.V_far (p := ⟨gb197, 0, none⟩) (Kd.V_mono HO165.out (fun k_ hk => (⟨hk, hk.2⟩ : _ ∧ k_ ≠ gb197))) (fun _ hk => hk.2) (.bool a0)) (fun _ hk => hk.2) (.string t196)) (fun _ hk => hk.2) (.string (⟨#[]⟩ : ByteArray))) (fun _ h_ => h_.1))) hb); replace HO186 := Aside0.mk (Kd.V_below (by (with_reducible repeat (first | apply Kd.V_alloc | apply Kd.V_drewN | apply Kd.V_drew)); exact (Kd.V_mono (Kd.V_far (p := ⟨gb197, 2, none⟩) (Kd.V_far (p := ⟨gb197, 1, none⟩) (Kd.V_far (p := ⟨gb197, 0, none⟩) (Kd.V_mono HO186.out (fun k_ hk => (⟨hk, hk.2⟩ : _ ∧ k_ ≠ gb197))) (fun _ hk => hk.2) (.bool a0)) (fun _ hk => hk.2) (.string t196)) (fun _ hk => hk.2) (.string (⟨#[]⟩ : ByteArray))) (fun _ h_ => h_.1))) hb); replace HO189 := Aside0.mk (Kd.V_below (by (with_reducible repeat (first | apply Kd.V_alloc | apply Kd.V_drewN | apply Kd.V_drew)); exact (Kd.V_mono (Kd.V_far (p := ⟨gb197, 2, none⟩) (Kd.V_far (p := ⟨gb197, 1, none⟩) (Kd.V_far (p := ⟨gb197, 0, none⟩) (Kd.V_mono HO189.out (fun k_ hk => (⟨hk, hk.2⟩ : _ ∧ k_ ≠ gb197))) (fun _ hk => hk.2) (.bool a0)) (fun _ hk => hk.2) (.string t196)) (fun _ hk => hk.2) (.string (⟨#[]⟩ : ByteArray))) (fun _ h_ => h_.1))) hb); replace HO192 := Aside0.mk (Kd.V_below (by (with_reducible repeat (first | apply Kd.V_alloc | apply Kd.V_drewN | apply Kd.V_drew)); exact (Kd.V_mono (Kd.V_far (p := ⟨gb197, 2, none⟩) (Kd.V_far (p := ⟨gb197, 1, none⟩) (Kd.V_far (p := ⟨gb197, 0, none⟩) (Kd.V_mono HO192.out (fun k_ hk => (⟨hk, hk.2⟩ : _ ∧ k_ ≠ gb197))) (fun _ hk => hk.2) (.bool a0)) (fun _ hk => hk.2) (.string t196)) (fun _ hk => hk.2) (.string (⟨#[]⟩ : ByteArray))) (fun _ h_ => h_.1))) hb); replace HO195 := Aside0.mk (Kd.V_below (by (with_reducible repeat (first | apply Kd.V_alloc | apply Kd.V_drewN | apply Kd.V_drew)); exact (Kd.V_mono (Kd.V_far (p := ⟨gb197, 2, none⟩) (Kd.V_far (p := ⟨gb197, 1, none⟩) (Kd.V_far (p := ⟨gb197, 0, none⟩) (Kd.V_mono HO195.out (fun k_ hk => (⟨hk, hk.2⟩ : _ ∧ k_ ≠ gb197))) (fun _ hk => hk.2) (.bool a0)) (fun _ hk => hk.2) (.string t196)) (fun _ hk => hk.2) (.string (⟨#[]⟩ : ByteArray))) (fun _ h_ => h_.1))) hb); replace BK162 := xB BK162 hb; replace BK197 := Aside0.mk (blk_below (g := gb197) (o := .cells #[.bool a0, .string t196, .string (⟨#[]⟩ : ByteArray)] 25 (0, 0)) (xp BK197) hb); replace HB := xS HB hb; clear hb; obtain ⟨hcz93_0, hcz93_1, hcz93_2, hfz93_0, hfz93_1, hfz93_2⟩ := x6 BK197; obtain ⟨hcz94_0, hcz94_1, hcz94_2, hfz94_0, hfz94_1, hfz94_2⟩ := x6 BK162))
      (try have eA60_ := Option.some.inj (A59.out.symm.trans A60.out))
      (try have eA80_ := Option.some.inj (A61.out.symm.trans A80.out))
      refine bodyPost_ret (results_cell_row rfl _ _ gb162 25 #[.bool a0, .string t196, .string t200] (0, 0) _ rfl (xp BK162) Tryd.underlying25 rfl (by kernel_rfl)) rfl ?_
      exact ⟨xy, xs HB⟩
     ·rw [if_neg c79] at H
      have c79b0 : decide (1 < (rd t190 0)) = false := decide_eq_false c79
      clear c79
      simp only [Option.some.injEq, Prod.mk.injEq] at H
      obtain ⟨rfl, rfl, rfl⟩ := H
      go_enter Tryd.func68, Tryd.ntmps68
      go_wp2_with (first | (refine xE (N := 6) #[.bool false, .string (⟨#[]⟩ : ByteArray), .string (⟨#[]⟩ : ByteArray)] 25 rfl ?_; intro gb162 hg w95 hbox hb; have BK162 := Aside0.mk (hbox); have GW162 := (xG HB hg); have GE162 := (xG HB hg); replace HB := xS HB hb; clear hb hbox hg) | (refine xg Tryd.func90 (some 15) #[.slice A1 l1.length c1, .slice A2 l2.length c2] ?_; (with_reducible refine (insolvencyref1_common.calls k (fun k_ => k_ < w.heap.size) _ _ l1 (fun k_ => k_ < w.heap.size) _ _ l2 t163 _ ?side1 ?side2 A7.out).mono ?_); (case side1 => exact Kd.V_mk HC1.out (Kd.F_below (Kd.C_F (Kd.heap_int .u32) HR1.out) (xs HB))); (case side2 => exact Kd.V_mk HC2.out (Kd.F_below (Kd.C_F (Kd.heap_int .u32) HR2.out) (xs HB))); rintro e w96 ⟨v164, rfl, ho0, hb⟩; refine ⟨_, rfl, ?_⟩; have HO165 := Aside0.mk (Kd.V_lower (Kd.V_mono (ok' := fun k_ => k_ ≠ gb162) ho0 (fun k_ hk_ => Or.elim hk_ (fun hs_ => Or.elim hs_ (fun hs_ => fun e_ => Nat.not_le.2 hs_ (by rw [e_]; exact GW162.out)) (fun hs_ => fun e_ => Nat.not_le.2 hs_ (by rw [e_]; exact GW162.out))) (fun hn_ => (Kd.freshB (g := gb162) (o := .cells #[.bool false, .string (⟨#[]⟩ : ByteArray), .string (⟨#[]⟩ : ByteArray)] 25 (0, 0)) (xb BK162) k_ hn_)))) (below_size (xs HB))); replace BK162 := xB BK162 hb; replace HB := xS HB hb; clear hb ho0; obtain ⟨Ao97, co97, eo97⟩ := Kd.V_slice HO165.out; subst eo97; have p183 : 0 ≤ (0 : Int) := (by omega); have q183 : 0 < (t163.length : Int) := xa; obtain ⟨ad183, e183, hx183_0⟩ := Kd.at_int (Kd.V_reads' HO165.out).2.2 0 p183 q183; cases e183; have qi183 : (0 < t163.length) = True := eq_true (by omega); (try rw [show ((0 : Int)).toNat = 0 from rfl] at hx183_0); (try rw [Addr.add_zero'] at hx183_0); replace p183 := eq_true p183; replace q183 := eq_true q183) | (refine xg Tryd.func91 (some 28) #[.slice A1 l1.length c1, .slice (some ad183) t163.length co97] ?_; (with_reducible refine (insolvencyref1_divide.calls k (fun k_ => k_ < w.heap.size) _ _ l1 _ _ t163 t184 t187 _ ?side1 ?side2 ?side3 A59.out).mono ?_); (case side1 => exact Kd.V_mk HC1.out (Kd.F_below (Kd.C_F (Kd.heap_int .u32) HR1.out) (xs HB))); (case side2 => repeat (first | exact (Kd.V_reads' HO165.out).2.2 | (with_reducible refine Kd.C_alloc ?_ _) | (with_reducible refine Kd.C_drewN ?_ _) | (with_reducible refine Kd.C_drew ?_))); (case side3 => exact (Kd.V_reads' HO165.out).2.1); rintro e w98 ⟨v185, v188, rfl, ho0, ho1, hb⟩; refine ⟨_, rfl, ?_⟩; replace HO165 := Aside0.mk (Kd.V_below (xv HO165.out) hb); have HO186 := Aside0.mk (Kd.V_lower (Kd.V_mono (ok' := fun k_ => k_ ≠ gb162) ho0 (fun k_ hk_ => Or.elim hk_ (fun hs_ => fun e_ => Nat.not_le.2 hs_ (by rw [e_]; exact GW162.out)) (fun hn_ => (Kd.freshB (g := gb162) (o := .cells #[.bool false, .string (⟨#[]⟩ : ByteArray), .string (⟨#[]⟩ : ByteArray)] 25 (0, 0)) (xb BK162) k_ hn_)))) (below_size (xs HB))); have HO189 := Aside0.mk (Kd.V_lower (Kd.V_mono (ok' := fun k_ => k_ ≠ gb162) ho1 (fun k_ hk_ => Or.elim hk_ (fun hs_ => fun e_ => Nat.not_le.2 hs_ (by rw [e_]; exact GW162.out)) (fun hn_ => (Kd.freshB (g := gb162) (o := .cells #[.bool false, .string (⟨#[]⟩ : ByteArray), .string (⟨#[]⟩ : ByteArray)] 25 (0, 0)) (xb BK162) k_ hn_)))) (below_size (xs HB))); replace BK162 := xB BK162 hb; replace HB := xS HB hb; clear hb ho0 ho1) | (refine xg Tryd.func91 (some 34) #[.slice A2 l2.length c2, .slice (some ad183) t163.length co97] ?_; (with_reducible refine (insolvencyref1_divide.calls k (fun k_ => k_ < w.heap.size) _ _ l2 _ _ t163 t190 t193 _ ?side1 ?side2 ?side3 A60.out).mono ?_); (case side1 => exact Kd.V_mk HC2.out (Kd.F_below (Kd.C_F (Kd.heap_int .u32) HR2.out) (xs HB))); (case side2 => repeat (first | exact (Kd.V_reads' HO165.out).2.2 | (with_reducible refine Kd.C_alloc ?_ _) | (with_reducible refine Kd.C_drewN ?_ _) | (with_reducible refine Kd.C_drew ?_))); (case side3 => exact (Kd.V_reads' HO165.out).2.1); rintro e w99 ⟨v191, v194, rfl, ho0, ho1, hb⟩; refine ⟨_, rfl, ?_⟩; replace HO165 := Aside0.mk (Kd.V_below (xv HO165.out) hb); replace HO186 := Aside0.mk (Kd.V_below (xv HO186.out) hb); replace HO189 := Aside0.mk (Kd.V_below (xv HO189.out) hb); have HO192 := Aside0.mk (Kd.V_lower (Kd.V_mono (ok' := fun k_ => k_ ≠ gb162) ho0 (fun k_ hk_ => Or.elim hk_ (fun hs_ => fun e_ => Nat.not_le.2 hs_ (by rw [e_]; exact GW162.out)) (fun hn_ => (Kd.freshB (g := gb162) (o := .cells #[.bool false, .string (⟨#[]⟩ : ByteArray), .string (⟨#[]⟩ : ByteArray)] 25 (0, 0)) (xb BK162) k_ hn_)))) (below_size (xs HB))); have HO195 := Aside0.mk (Kd.V_lower (Kd.V_mono (ok' := fun k_ => k_ ≠ gb162) ho1 (fun k_ hk_ => Or.elim hk_ (fun hs_ => fun e_ => Nat.not_le.2 hs_ (by rw [e_]; exact GW162.out)) (fun hn_ => (Kd.freshB (g := gb162) (o := .cells #[.bool false, .string (⟨#[]⟩ : ByteArray), .string (⟨#[]⟩ : ByteArray)] 25 (0, 0)) (xb BK162) k_ hn_)))) (below_size (xs HB))); replace BK162 := xB BK162 hb; replace HB := xS HB hb; clear hb ho0 ho1; obtain ⟨Ao100, co100, eo100⟩ := Kd.V_slice HO186.out; subst eo100) | (refine xg Tryd.func92 (some 39) #[.slice Ao100 t184.length co100] ?_; (with_reducible refine (insolvencyref1_text.calls k _ _ t184 t196 _ (xf (Kd.V_reads' HO186.out).2.2) (Kd.V_reads' HO186.out).2.1 A61.out).mono ?_); rintro e w101 ⟨rfl, hb⟩; refine ⟨_, rfl, ?_⟩; replace HO165 := Aside0.mk (Kd.V_below (xv HO165.out) hb); replace HO186 := Aside0.mk (Kd.V_below (xv HO186.out) hb); replace HO189 := Aside0.mk (Kd.V_below (xv HO189.out) hb); replace HO192 := Aside0.mk (Kd.V_below (xv HO192.out) hb); replace HO195 := Aside0.mk (Kd.V_below (xv HO195.out) hb); replace BK162 := xB BK162 hb; replace HB := xS HB hb; clear hb) | (refine xE (N := 8) #[.bool false, .string (⟨#[]⟩ : ByteArray), .string (⟨#[]⟩ : ByteArray)] 25 rfl ?_; intro gb197 hg w102 hbox hb; replace HO165 := Aside0.mk (Kd.V_below (Kd.V_elderB (xv HO165.out) gb197 (Nat.le_of_eq hg.symm)) hb); replace HO186 := Aside0.mk (Kd.V_below (Kd.V_elderB (xv HO186.out) gb197 (Nat.le_of_eq hg.symm)) hb); replace HO189 := Aside0.mk (Kd.V_below (Kd.V_elderB (xv HO189.out) gb197 (Nat.le_of_eq hg.symm)) hb); replace HO192 := Aside0.mk (Kd.V_below (Kd.V_elderB (xv HO192.out) gb197 (Nat.le_of_eq hg.symm)) hb); replace HO195 := Aside0.mk (Kd.V_below (Kd.V_elderB (xv HO195.out) gb197 (Nat.le_of_eq hg.symm)) hb); have BK197 := Aside0.mk (hbox); have GW197 := (xG HB hg); have GE197 := (xG HB hg); replace HB := xS HB hb; have NB162_197 := xL BK162 hg; have NB197_162 := xR BK162 hg; replace BK162 := xB BK162 hb; clear hb hbox hg; have hnb103 := NB197_162.out; have hnc103 := NB162_197.out; obtain ⟨hcz104_0, hcz104_1, hcz104_2, hfz104_0, hfz104_1, hfz104_2⟩ := x6 BK197; obtain ⟨Ao105, co105, eo105⟩ := Kd.V_slice HO192.out; subst eo105; have p199 : 0 ≤ (0 : Int) := (by omega); have q199 : 0 < (t190.length : Int) := xa; obtain ⟨ad199, e199, hx199_0⟩ := Kd.at_int (Kd.V_reads' HO192.out).2.2 0 p199 q199; cases e199; have qi199 : (0 < t190.length) = True := eq_true (by omega); (try rw [show ((0 : Int)).toNat = 0 from rfl] at hx199_0); (try rw [Addr.add_zero'] at hx199_0); have hn199_0 : ad199.block ≠ gb197 := Kd.V_blk HO192.out p199 q199 (fun _ hk => by first | exact hk | exact hk.2 | exact hk.1 | grind); have hn199_1 : ad199.block ≠ gb197 := Kd.V_blk HO192.out p199 q199 (fun _ hk => by first | exact hk | exact hk.2 | exact hk.1 | grind); have hn199_2 : ad199.block ≠ gb197 := Kd.V_blk HO192.out p199 q199 (fun _ hk => by first | exact hk | exact hk.2 | exact hk.1 | grind); replace hx199_0 := (cell_far (p := ⟨gb197, 0, none⟩) (by first | (rw [add_block]; exact hn199_0) | (show (Addr.add _ _).block ≠ _; rw [add_block]; exact hn199_0) | exact hn199_0) (.bool a0)).trans hx199_0; replace hx199_0 := (cell_far (p := ⟨gb197, 1, none⟩) (by first | (rw [add_block]; exact hn199_1) | (show (Addr.add _ _).block ≠ _; rw [add_block]; exact hn199_1) | exact hn199_1) (.string t196)).trans hx199_0; replace hx199_0 := (cell_far (p := ⟨gb197, 2, none⟩) (by first | (rw [add_block]; exact hn199_2) | (show (Addr.add _ _).block ≠ _; rw [add_block]; exact hn199_2) | exact hn199_2) (.string (⟨#[]⟩ : ByteArray))).trans hx199_0; clear hn199_0 hn199_1 hn199_2; replace p199 := eq_true p199; replace q199 := eq_true q199; obtain ⟨hcz106_0, hcz106_1, hcz106_2, hfz106_0, hfz106_1, hfz106_2⟩ := x6 BK162))
      (try have eA60_ := Option.some.inj (A59.out.symm.trans A60.out))
      refine bodyPost_ret (results_cell_row rfl _ _ gb162 25 #[.bool a0, .string t196, .string (⟨#[]⟩ : ByteArray)] (0, 0) _ rfl (xp BK162) Tryd.underlying25 rfl (by kernel_rfl)) rfl ?_
      exact ⟨xy, xs HB⟩
   ·rw [if_neg c58] at H
    have c58b0 : decide (1 < (rd t163 0)) = false := decide_eq_false c58
    clear c58
    replace H := xH H; obtain ⟨t201, A107, H⟩ := H
    by_cases c108 : (l2.length : Int) > 1
    ·rw [if_pos c108] at H
     have c108b0 : decide (1 < (l2.length : Int)) = true := decide_eq_true c108
     have c108b1 : decide (1 < l2.length) = true := decide_eq_true (by omega)
     clear c108
     replace H := xH H; obtain ⟨t203, A109, H⟩ := H
     simp only [Option.some.injEq, Prod.mk.injEq] at H
     obtain ⟨rfl, rfl, rfl⟩ := H
     go_enter Tryd.func68, Tryd.ntmps68
     go_wp2_with (first | (refine xE (N := 6) #[.bool false, .string (⟨#[]⟩ : ByteArray), .string (⟨#[]⟩ : ByteArray)] 25 rfl ?_; intro gb162 hg w110 hbox hb; have BK162 := Aside0.mk (hbox); have GW162 := (xG HB hg); have GE162 := (xG HB hg); replace HB := xS HB hb; clear hb hbox hg) | (refine xg Tryd.func90 (some 15) #[.slice A1 l1.length c1, .slice A2 l2.length c2] ?_; (with_reducible refine (insolvencyref1_common.calls k (fun k_ => k_ < w.heap.size) _ _ l1 (fun k_ => k_ < w.heap.size) _ _ l2 t163 _ ?side1 ?side2 A7.out).mono ?_); (case side1 => exact Kd.V_mk HC1.out (Kd.F_below (Kd.C_F (Kd.heap_int .u32) HR1.out) (xs HB))); (case side2 => exact Kd.V_mk HC2.out (Kd.F_below (Kd.C_F (Kd.heap_int .u32) HR2.out) (xs HB))); rintro e w111 ⟨v164, rfl, ho0, hb⟩; refine ⟨_, rfl, ?_⟩; have HO165 := Aside0.mk (Kd.V_lower (Kd.V_mono (ok' := fun k_ => k_ ≠ gb162) ho0 (fun k_ hk_ => Or.elim hk_ (fun hs_ => Or.elim hs_ (fun hs_ => fun e_ => Nat.not_le.2 hs_ (by rw [e_]; exact GW162.out)) (fun hs_ => fun e_ => Nat.not_le.2 hs_ (by rw [e_]; exact GW162.out))) (fun hn_ => (Kd.freshB (g := gb162) (o := .cells #[.bool false, .string (⟨#[]⟩ : ByteArray), .string (⟨#[]⟩ : ByteArray)] 25 (0, 0)) (xb BK162) k_ hn_)))) (below_size (xs HB))); replace BK162 := xB BK162 hb; replace HB := xS HB hb; clear hb ho0; obtain ⟨Ao112, co112, eo112⟩ := Kd.V_slice HO165.out; subst eo112; have p183 : 0 ≤ (0 : Int) := (by omega); have q183 : 0 < (t163.length : Int) := xa; obtain ⟨ad183, e183, hx183_0⟩ := Kd.at_int (Kd.V_reads' HO165.out).2.2 0 p183 q183; cases e183; have qi183 : (0 < t163.length) = True := eq_true (by omega); (try rw [show ((0 : Int)).toNat = 0 from rfl] at hx183_0); (try rw [Addr.add_zero'] at hx183_0); replace p183 := eq_true p183; replace q183 := eq_true q183) | (refine xg Tryd.func92 (some 39) #[.slice A1 l1.length c1] ?_; (with_reducible refine (insolvencyref1_text.calls k _ _ l1 t201 _ (xf (Kd.C_below HR1.out HB.out)) HC1.out A107.out).mono ?_); rintro e w113 ⟨rfl, hb⟩; refine ⟨_, rfl, ?_⟩; replace HO165 := Aside0.mk (Kd.V_below (xv HO165.out) hb); replace BK162 := xB BK162 hb; replace HB := xS HB hb; clear hb) | (refine xE (N := 8) #[.bool false, .string (⟨#[]⟩ : ByteArray), .string (⟨#[]⟩ : ByteArray)] 25 rfl ?_; intro gb202 hg w114 hbox hb; replace HO165 := Aside0.mk (Kd.V_below (Kd.V_elderB (xv HO165.out) gb202 (Nat.le_of_eq hg.symm)) hb); have BK202 := Aside0.mk (hbox); have GW202 := (xG HB hg); have GE202 := (xG HB hg); replace HB := xS HB hb; have NB162_202 := xL BK162 hg; have NB202_162 := xR BK162 hg; replace BK162 := xB BK162 hb; clear hb hbox hg; have hnb115 := NB202_162.out; have hnc115 := NB162_202.out; obtain ⟨hcz116_0, hcz116_1, hcz116_2, hfz116_0, hfz116_1, hfz116_2⟩ := x6 BK202) | (refine xg Tryd.func92 (some 51) #[.slice A2 l2.length c2] ?_; (with_reducible refine (insolvencyref1_text.calls k _ _ l2 t203 _ ?side1 ?side2 A109.out).mono ?_); (case side1 => exact Kd.C_below HR2.out (xs HB)); (case side2 => exact HC2.out); rintro e w117 ⟨rfl, hb⟩; refine ⟨_, rfl, ?_⟩; replace HO165 := Aside0.mk (Kd.V_below (by (with_reducible repeat (first | apply Kd.V_alloc | apply Kd.V_drewN | apply Kd.V_drew)); exact (Kd.V_mono (Kd.V_far (p := ⟨gb202, 2, none⟩) (Kd.V_far (p := ⟨gb202, 1, none⟩) (Kd.V_far (p := ⟨gb202, 0, none⟩) (Kd.V_mono HO165.out (fun k_ hk => (⟨hk, hk.2⟩ : _ ∧ k_ ≠ gb202))) (fun _ hk => hk.2) (.bool a0)) (fun _ hk => hk.2) (.string t201)) (fun _ hk => hk.2) (.string (⟨#[]⟩ : ByteArray))) (fun _ h_ => h_.1))) hb); replace BK162 := xB BK162 hb; replace BK202 := Aside0.mk (blk_below (g := gb202) (o := .cells #[.bool a0, .string t201, .string (⟨#[]⟩ : ByteArray)] 25 (0, 0)) (xp BK202) hb); replace HB := xS HB hb; clear hb; obtain ⟨hcz118_0, hcz118_1, hcz118_2, hfz118_0, hfz118_1, hfz118_2⟩ := x6 BK202; obtain ⟨hcz119_0, hcz119_1, hcz119_2, hfz119_0, hfz119_1, hfz119_2⟩ := x6 BK162))
     (try have eA109_ := Option.some.inj (A107.out.symm.trans A109.out))
     refine bodyPost_ret (results_cell_row rfl _ _ gb162 25 #[.bool a0, .string t201, .string t203] (0, 0) _ rfl (xp BK162) Tryd.underlying25 rfl (by kernel_rfl)) rfl ?_
     exact ⟨xy, xs HB⟩
    ·rw [if_neg c108] at H
     have c108b0 : decide (1 < (l2.length : Int)) = false := decide_eq_false c108
     have c108b1 : decide (1 < l2.length) = false := decide_eq_false (by omega)
     clear c108
     by_cases c120 : 0 < (l2.length : Int)
     rotate_left
     ·rw [if_neg c120] at H
      exact absurd H (by simp)
     rw [if_pos c120] at H
     have c120b0 : decide (0 < (l2.length : Int)) = true := decide_eq_true c120
     have c120b1 : decide (0 < l2.length) = true := decide_eq_true (by omega)
     clear c120
     by_cases c121 : (rd l2 0) > 1
     ·rw [if_pos c121] at H
      have c121b0 : decide (1 < (rd l2 0)) = true := decide_eq_true c121
      clear c121
      replace H := xH H; obtain ⟨t205, A122, H⟩ := H
      simp only [Option.some.injEq, Prod.mk.injEq] at H
      obtain ⟨rfl, rfl, rfl⟩ := H
      go_enter Tryd.func68, Tryd.ntmps68
      go_wp2_with (first | (refine xE (N := 6) #[.bool false, .string (⟨#[]⟩ : ByteArray), .string (⟨#[]⟩ : ByteArray)] 25 rfl ?_; intro gb162 hg w123 hbox hb; have BK162 := Aside0.mk (hbox); have GW162 := (xG HB hg); have GE162 := (xG HB hg); replace HB := xS HB hb; clear hb hbox hg) | (refine xg Tryd.func90 (some 15) #[.slice A1 l1.length c1, .slice A2 l2.length c2] ?_; (with_reducible refine (insolvencyref1_common.calls k (fun k_ => k_ < w.heap.size) _ _ l1 (fun k_ => k_ < w.heap.size) _ _ l2 t163 _ ?side1 ?side2 A7.out).mono ?_); (case side1 => exact Kd.V_mk HC1.out (Kd.F_below (Kd.C_F (Kd.heap_int .u32) HR1.out) (xs HB))); (case side2 => exact Kd.V_mk HC2.out (Kd.F_below (Kd.C_F (Kd.heap_int .u32) HR2.out) (xs HB))); rintro e w124 ⟨v164, rfl, ho0, hb⟩; refine ⟨_, rfl, ?_⟩; have HO165 := Aside0.mk (Kd.V_lower (Kd.V_mono (ok' := fun k_ => k_ ≠ gb162) ho0 (fun k_ hk_ => Or.elim hk_ (fun hs_ => Or.elim hs_ (fun hs_ => fun e_ => Nat.not_le.2 hs_ (by rw [e_]; exact GW162.out)) (fun hs_ => fun e_ => Nat.not_le.2 hs_ (by rw [e_]; exact GW162.out))) (fun hn_ => (Kd.freshB (g := gb162) (o := .cells #[.bool false, .string (⟨#[]⟩ : ByteArray), .string (⟨#[]⟩ : ByteArray)] 25 (0, 0)) (xb BK162) k_ hn_)))) (below_size (xs HB))); replace BK162 := xB BK162 hb; replace HB := xS HB hb; clear hb ho0; obtain ⟨Ao125, co125, eo125⟩ := Kd.V_slice HO165.out; subst eo125; have p183 : 0 ≤ (0 : Int) := (by omega); have q183 : 0 < (t163.length : Int) := xa; obtain ⟨ad183, e183, hx183_0⟩ := Kd.at_int (Kd.V_reads' HO165.out).2.2 0 p183 q183; cases e183; have qi183 : (0 < t163.length) = True := eq_true (by omega); (try rw [show ((0 : Int)).toNat = 0 from rfl] at hx183_0); (try rw [Addr.add_zero'] at hx183_0); replace p183 := eq_true p183; replace q183 := eq_true q183) | (refine xg Tryd.func92 (some 39) #[.slice A1 l1.length c1] ?_; (with_reducible refine (insolvencyref1_text.calls k _ _ l1 t201 _ (xf (Kd.C_below HR1.out HB.out)) HC1.out A107.out).mono ?_); rintro e w126 ⟨rfl, hb⟩; refine ⟨_, rfl, ?_⟩; replace HO165 := Aside0.mk (Kd.V_below (xv HO165.out) hb); replace BK162 := xB BK162 hb; replace HB := xS HB hb; clear hb) | (refine xE (N := 8) #[.bool false, .string (⟨#[]⟩ : ByteArray), .string (⟨#[]⟩ : ByteArray)] 25 rfl ?_; intro gb202 hg w127 hbox hb; replace HO165 := Aside0.mk (Kd.V_below (Kd.V_elderB (xv HO165.out) gb202 (Nat.le_of_eq hg.symm)) hb); have BK202 := Aside0.mk (hbox); have GW202 := (xG HB hg); have GE202 := (xG HB hg); replace HB := xS HB hb; have NB162_202 := xL BK162 hg; have NB202_162 := xR BK162 hg; replace BK162 := xB BK162 hb; clear hb hbox hg; have hnb128 := NB202_162.out; have hnc128 := NB162_202.out; obtain ⟨hcz129_0, hcz129_1, hcz129_2, hfz129_0, hfz129_1, hfz129_2⟩ := x6 BK202; have p204 : 0 ≤ (0 : Int) := (by omega); have q204 : 0 < (l2.length : Int) := xa; obtain ⟨ad204, e204, hx204_0⟩ := Kd.at_int HR2.out 0 p204 q204; cases e204; have qi204 : (0 < l2.length) = True := eq_true (by omega); (try rw [show ((0 : Int)).toNat = 0 from rfl] at hx204_0); (try rw [Addr.add_zero'] at hx204_0); have hn204_0 : ad204.block ≠ gb202 := Nat.ne_of_lt (Nat.lt_of_lt_of_le (by have := World.block_lt_of_cell? _ _ hx204_0; first | rwa [add_block] at this | exact this) GW202.out); have hn204_1 : ad204.block ≠ gb202 := Nat.ne_of_lt (Nat.lt_of_lt_of_le (by have := World.block_lt_of_cell? _ _ hx204_0; first | rwa [add_block] at this | exact this) GW202.out); have hn204_2 : ad204.block ≠ gb202 := Nat.ne_of_lt (Nat.lt_of_lt_of_le (by have := World.block_lt_of_cell? _ _ hx204_0; first | rwa [add_block] at this | exact this) GW202.out); replace hx204_0 := (HB.out.cell (World.block_lt_of_cell? w _ hx204_0)).trans hx204_0; replace hx204_0 := (cell_far (p := ⟨gb202, 0, none⟩) (by first | (rw [add_block]; exact hn204_0) | (show (Addr.add _ _).block ≠ _; rw [add_block]; exact hn204_0) | exact hn204_0) (.bool a0)).trans hx204_0; replace hx204_0 := (cell_far (p := ⟨gb202, 1, none⟩) (by first | (rw [add_block]; exact hn204_1) | (show (Addr.add _ _).block ≠ _; rw [add_block]; exact hn204_1) | exact hn204_1) (.string t201)).trans hx204_0; replace hx204_0 := (cell_far (p := ⟨gb202, 2, none⟩) (by first | (rw [add_block]; exact hn204_2) | (show (Addr.add _ _).block ≠ _; rw [add_block]; exact hn204_2) | exact hn204_2) (.string (⟨#[]⟩ : ByteArray))).trans hx204_0; clear hn204_0 hn204_1 hn204_2; replace p204 := eq_true p204; replace q204 := eq_true q204) | (refine xg Tryd.func92 (some 51) #[.slice (some ad204) l2.length c2] ?_; (with_reducible refine (insolvencyref1_text.calls k _ _ l2 t205 _ ?side1 ?side2 A122.out).mono ?_); (case side1 => exact Kd.C_below HR2.out (xs HB)); (case side2 => exact HC2.out); rintro e w130 ⟨rfl, hb⟩; refine ⟨_, rfl, ?_⟩; replace HO165 := Aside0.mk (Kd.V_below (by (with_reducible repeat (first | apply Kd.V_alloc | apply Kd.V_drewN | apply Kd.V_drew)); exact (Kd.V_mono (Kd.V_far (p := ⟨gb202, 2, none⟩) (Kd.V_far (p := ⟨gb202, 1, none⟩) (Kd.V_far (p := ⟨gb202, 0, none⟩) (Kd.V_mono HO165.out (fun k_ hk => (⟨hk, hk.2⟩ : _ ∧ k_ ≠ gb202))) (fun _ hk => hk.2) (.bool a0)) (fun _ hk => hk.2) (.string t201)) (fun _ hk => hk.2) (.string (⟨#[]⟩ : ByteArray))) (fun _ h_ => h_.1))) hb); replace BK162 := xB BK162 hb; replace BK202 := Aside0.mk (blk_below (g := gb202) (o := .cells #[.bool a0, .string t201, .string (⟨#[]⟩ : ByteArray)] 25 (0, 0)) (xp BK202) hb); replace HB := xS HB hb; clear hb; obtain ⟨hcz131_0, hcz131_1, hcz131_2, hfz131_0, hfz131_1, hfz131_2⟩ := x6 BK202; obtain ⟨hcz132_0, hcz132_1, hcz132_2, hfz132_0, hfz132_1, hfz132_2⟩ := x6 BK162))
      (try have eA122_ := Option.some.inj (A107.out.symm.trans A122.out))
      refine bodyPost_ret (results_cell_row rfl _ _ gb162 25 #[.bool a0, .string t201, .string t205] (0, 0) _ rfl (xp BK162) Tryd.underlying25 rfl (by kernel_rfl)) rfl ?_
      exact ⟨xy, xs HB⟩
     ·rw [if_neg c121] at H
      have c121b0 : decide (1 < (rd l2 0)) = false := decide_eq_false c121
      clear c121
      simp only [Option.some.injEq, Prod.mk.injEq] at H
      obtain ⟨rfl, rfl, rfl⟩ := H
      go_enter Tryd.func68, Tryd.ntmps68
      go_wp2_with (first | (refine xE (N := 6) #[.bool false, .string (⟨#[]⟩ : ByteArray), .string (⟨#[]⟩ : ByteArray)] 25 rfl ?_; intro gb162 hg w133 hbox hb; have BK162 := Aside0.mk (hbox); have GW162 := (xG HB hg); have GE162 := (xG HB hg); replace HB := xS HB hb; clear hb hbox hg) | (refine xg Tryd.func90 (some 15) #[.slice A1 l1.length c1, .slice A2 l2.length c2] ?_; (with_reducible refine (insolvencyref1_common.calls k (fun k_ => k_ < w.heap.size) _ _ l1 (fun k_ => k_ < w.heap.size) _ _ l2 t163 _ ?side1 ?side2 A7.out).mono ?_); (case side1 => exact Kd.V_mk HC1.out (Kd.F_below (Kd.C_F (Kd.heap_int .u32) HR1.out) (xs HB))); (case side2 => exact Kd.V_mk HC2.out (Kd.F_below (Kd.C_F (Kd.heap_int .u32) HR2.out) (xs HB))); rintro e w134 ⟨v164, rfl, ho0, hb⟩; refine ⟨_, rfl, ?_⟩; have HO165 := Aside0.mk (Kd.V_lower (Kd.V_mono (ok' := fun k_ => k_ ≠ gb162) ho0 (fun k_ hk_ => Or.elim hk_ (fun hs_ => Or.elim hs_ (fun hs_ => fun e_ => Nat.not_le.2 hs_ (by rw [e_]; exact GW162.out)) (fun hs_ => fun e_ => Nat.not_le.2 hs_ (by rw [e_]; exact GW162.out))) (fun hn_ => (Kd.freshB (g := gb162) (o := .cells #[.bool false, .string (⟨#[]⟩ : ByteArray), .string (⟨#[]⟩ : ByteArray)] 25 (0, 0)) (xb BK162) k_ hn_)))) (below_size (xs HB))); replace BK162 := xB BK162 hb; replace HB := xS HB hb; clear hb ho0; obtain ⟨Ao135, co135, eo135⟩ := Kd.V_slice HO165.out; subst eo135; have p183 : 0 ≤ (0 : Int) := (by omega); have q183 : 0 < (t163.length : Int) := xa; obtain ⟨ad183, e183, hx183_0⟩ := Kd.at_int (Kd.V_reads' HO165.out).2.2 0 p183 q183; cases e183; have qi183 : (0 < t163.length) = True := eq_true (by omega); (try rw [show ((0 : Int)).toNat = 0 from rfl] at hx183_0); (try rw [Addr.add_zero'] at hx183_0); replace p183 := eq_true p183; replace q183 := eq_true q183) | (refine xg Tryd.func92 (some 39) #[.slice A1 l1.length c1] ?_; (with_reducible refine (insolvencyref1_text.calls k _ _ l1 t201 _ (xf (Kd.C_below HR1.out HB.out)) HC1.out A107.out).mono ?_); rintro e w136 ⟨rfl, hb⟩; refine ⟨_, rfl, ?_⟩; replace HO165 := Aside0.mk (Kd.V_below (xv HO165.out) hb); replace BK162 := xB BK162 hb; replace HB := xS HB hb; clear hb) | (refine xE (N := 8) #[.bool false, .string (⟨#[]⟩ : ByteArray), .string (⟨#[]⟩ : ByteArray)] 25 rfl ?_; intro gb202 hg w137 hbox hb; replace HO165 := Aside0.mk (Kd.V_below (Kd.V_elderB (xv HO165.out) gb202 (Nat.le_of_eq hg.symm)) hb); have BK202 := Aside0.mk (hbox); have GW202 := (xG HB hg); have GE202 := (xG HB hg); replace HB := xS HB hb; have NB162_202 := xL BK162 hg; have NB202_162 := xR BK162 hg; replace BK162 := xB BK162 hb; clear hb hbox hg; have hnb138 := NB202_162.out; have hnc138 := NB162_202.out; obtain ⟨hcz139_0, hcz139_1, hcz139_2, hfz139_0, hfz139_1, hfz139_2⟩ := x6 BK202; have p204 : 0 ≤ (0 : Int) := (by omega); have q204 : 0 < (l2.length : Int) := xa; obtain ⟨ad204, e204, hx204_0⟩ := Kd.at_int HR2.out 0 p204 q204; cases e204; have qi204 : (0 < l2.length) = True := eq_true (by omega); (try rw [show ((0 : Int)).toNat = 0 from rfl] at hx204_0); (try rw [Addr.add_zero'] at hx204_0); have hn204_0 : ad204.block ≠ gb202 := Nat.ne_of_lt (Nat.lt_of_lt_of_le (by have := World.block_lt_of_cell? _ _ hx204_0; first | rwa [add_block] at this | exact this) GW202.out); have hn204_1 : ad204.block ≠ gb202 := Nat.ne_of_lt (Nat.lt_of_lt_of_le (by have := World.block_lt_of_cell? _ _ hx204_0; first | rwa [add_block] at this | exact this) GW202.out); have hn204_2 : ad204.block ≠ gb202 := Nat.ne_of_lt (Nat.lt_of_lt_of_le (by have := World.block_lt_of_cell? _ _ hx204_0; first | rwa [add_block] at this | exact this) GW202.out); replace hx204_0 := (HB.out.cell (World.block_lt_of_cell? w _ hx204_0)).trans hx204_0; replace hx204_0 := (cell_far (p := ⟨gb202, 0, none⟩) (by first | (rw [add_block]; exact hn204_0) | (show (Addr.add _ _).block ≠ _; rw [add_block]; exact hn204_0) | exact hn204_0) (.bool a0)).trans hx204_0; replace hx204_0 := (cell_far (p := ⟨gb202, 1, none⟩) (by first | (rw [add_block]; exact hn204_1) | (show (Addr.add _ _).block ≠ _; rw [add_block]; exact hn204_1) | exact hn204_1) (.string t201)).trans hx204_0; replace hx204_0 := (cell_far (p := ⟨gb202, 2, none⟩) (by first | (rw [add_block]; exact hn204_2) | (show (Addr.add _ _).block ≠ _; rw [add_block]; exact hn204_2) | exact hn204_2) (.string (⟨#[]⟩ : ByteArray))).trans hx204_0; clear hn204_0 hn204_1 hn204_2; replace p204 := eq_true p204; replace q204 := eq_true q204; obtain ⟨hcz140_0, hcz140_1, hcz140_2, hfz140_0, hfz140_1, hfz140_2⟩ := x6 BK162))
      refine bodyPost_ret (results_cell_row rfl _ _ gb162 25 #[.bool a0, .string t201, .string (⟨#[]⟩ : ByteArray)] (0, 0) _ rfl (xp BK162) Tryd.underlying25 rfl (by kernel_rfl)) rfl ?_
      exact ⟨xy, xs HB⟩
/-! ### insolvencyref1_Make: function 80 -/
def insolvencyref1_Make.f (k : Nat) (a0 : Bool) (a1 : ByteArray) (a2 : ByteArray) : Option (Bool × ByteArray × ByteArray × Bool) := (insolvencyref1_limbs.f k a2).bind fun t207 => (if (t207.length : Int) = 0 then (some (false, (⟨#[]⟩ : ByteArray), (⟨#[]⟩ : ByteArray), false)) else ((insolvencyref1_limbs.f k a1).bind fun t210 => ((insolvencyref1_reduced.f k a0 t210 t207).bind fun bt213 => (some (bt213.1, bt213.2.1, bt213.2.2, true)))))
theorem insolvencyref1_Make.mono : ∀ a0 a1 a2 k, LeO (insolvencyref1_Make.f k a0 a1 a2) (insolvencyref1_Make.f (k + 1) a0 a1 a2) := by
 intro a0 a1 a2 k
 unfold insolvencyref1_Make.f
 have m0 := @insolvencyref1_limbs.mono; have m1 := @insolvencyref1_reduced.mono; exact xM
set_option maxHeartbeats 8000000 in
set_option maxRecDepth 100000 in
theorem insolvencyref1_Make.calls (k : Nat) (a0 : Bool) (a1 : ByteArray) (a2 : ByteArray) (r1 : Bool) (r2 : ByteArray) (r3 : ByteArray) (r4 : Bool) (w : World) (h : insolvencyref1_Make.f k a0 a1 a2 = some (r1, r2, r3, r4)) :
  Calls Tryd.prog 80 #[.bool a0, .string a1, .string a2] w fun e w' => e = .returned (.tuple #[.agg #[.bool r1, .string r2, .string r3], .bool r4]) ∧ Below w.heap.size w w' := by
 have hu25 := Tryd.underlying25
 have HB := Aside0.mk (Below.refl w.heap.size w)
 have H : ((insolvencyref1_limbs.f k a2).bind fun t207 => (if (t207.length : Int) = 0 then (some (false, (⟨#[]⟩ : ByteArray), (⟨#[]⟩ : ByteArray), false)) else ((insolvencyref1_limbs.f k a1).bind fun t210 => ((insolvencyref1_reduced.f k a0 t210 t207).bind fun bt213 => (some (bt213.1, bt213.2.1, bt213.2.2, true)))))) = some (r1, r2, r3, r4) := h
 clear h
 replace H := xH H; obtain ⟨t207, A4, H⟩ := H
 by_cases c5 : (t207.length : Int) = 0
 ·rw [if_pos c5] at H
  have c5b0 : ((t207.length : Int) == 0) = true := beq_iff_eq.mpr c5
  have c5b1 : ((t207.length : Int) != 0) = false := bne_eq_false_iff_eq.mpr c5
  clear c5
  simp only [Option.some.injEq, Prod.mk.injEq] at H
  obtain ⟨rfl, rfl, rfl, rfl⟩ := H
  go_enter Tryd.func80, Tryd.ntmps80
  go_wp2_with (first | (refine xE (N := 6) #[.bool false, .string (⟨#[]⟩ : ByteArray), .string (⟨#[]⟩ : ByteArray)] 25 rfl ?_; intro gb206 hg w6 hbox hb; have BK206 := Aside0.mk (hbox); have GW206 := (xG HB hg); have GE206 := (xG HB hg); replace HB := xS HB hb; clear hb hbox hg) | (refine xg Tryd.func67 (some 10) #[.string a2] ?_; (with_reducible refine (insolvencyref1_limbs.calls k a2 t207 _ A4.out).mono ?_); rintro e w7 ⟨v208, rfl, ho0, hb⟩; refine ⟨_, rfl, ?_⟩; have HO209 := Aside0.mk (Kd.R_lower ho0 (below_size (xs HB))); replace BK206 := xB BK206 hb; replace HB := xS HB hb; clear hb ho0; obtain ⟨Ao8, co8, eo8⟩ := Kd.R_slice HO209.out; subst eo8; obtain ⟨hcz9_0, hcz9_1, hcz9_2, hfz9_0, hfz9_1, hfz9_2⟩ := x6 BK206))
  refine bodyPost_ret (results_ct rfl _ _ gb206 25 #[.bool false, .string (⟨#[]⟩ : ByteArray), .string (⟨#[]⟩ : ByteArray)] (0, 0) _ rfl (xp BK206) Tryd.underlying25 rfl (by kernel_rfl)) rfl ?_
  exact ⟨xy, xs HB⟩
 ·rw [if_neg c5] at H
  have c5b0 : ((t207.length : Int) == 0) = false := beq_eq_false_iff_ne.mpr c5
  have c5b1 : ((t207.length : Int) != 0) = true := bne_iff_ne.mpr c5
  have c5b2 : ¬ (t207 = []) := fun h_ => c5 (by rw [h_]; rfl)
  replace H := xH H; obtain ⟨t210, A10, H⟩ := H
  replace H := xH H; obtain ⟨⟨t213, t214, t215⟩, A11, H⟩ := H
  dsimp only at H
  simp only [Option.some.injEq, Prod.mk.injEq] at H
  obtain ⟨rfl, rfl, rfl, rfl⟩ := H
  go_enter Tryd.func80, Tryd.ntmps80
  go_wp2_with (first | (refine xE (N := 6) #[.bool false, .string (⟨#[]⟩ : ByteArray), .string (⟨#[]⟩ : ByteArray)] 25 rfl ?_; intro gb206 hg w12 hbox hb; have BK206 := Aside0.mk (hbox); have GW206 := (xG HB hg); have GE206 := (xG HB hg); replace HB := xS HB hb; clear hb hbox hg) | (refine xg Tryd.func67 (some 10) #[.string a2] ?_; (with_reducible refine (insolvencyref1_limbs.calls k a2 t207 _ A4.out).mono ?_); rintro e w13 ⟨v208, rfl, ho0, hb⟩; refine ⟨_, rfl, ?_⟩; have HO209 := Aside0.mk (Kd.R_lower ho0 (below_size (xs HB))); replace BK206 := xB BK206 hb; replace HB := xS HB hb; clear hb ho0; obtain ⟨Ao14, co14, eo14⟩ := Kd.R_slice HO209.out; subst eo14) | (refine xg Tryd.func67 (some 17) #[.string a1] ?_; (with_reducible refine (insolvencyref1_limbs.calls k a1 t210 _ A10.out).mono ?_); rintro e w15 ⟨v211, rfl, ho0, hb⟩; refine ⟨_, rfl, ?_⟩; have HO212 := Aside0.mk (Kd.R_lower (Kd.R_new' ho0 (Kd.R_lt (xr HO209.out))) (below_size (xs HB))); replace HO209 := Aside0.mk (Kd.R_elder' (xr HO209.out) (Kd.R_base ho0) hb); replace BK206 := xB BK206 hb; replace HB := xS HB hb; clear hb ho0; obtain ⟨Ao16, co16, eo16⟩ := Kd.R_slice HO212.out; subst eo16) | (refine xg Tryd.func68 (some 19) #[.bool a0, .slice Ao16 t210.length co16, .slice Ao14 t207.length co14] ?_; (with_reducible refine (insolvencyref1_reduced.calls k a0 _ _ t210 _ _ t207 t213 t214 t215 _ ?side1 ?side2 ?side3 ?side4 A11.out).mono ?_); (case side1 => repeat (first | exact (Kd.R_reads' HO212.out).2.2 | (with_reducible refine Kd.C_alloc ?_ _) | (with_reducible refine Kd.C_drewN ?_ _) | (with_reducible refine Kd.C_drew ?_))); (case side2 => exact (Kd.R_reads' HO212.out).2.1); (case side3 => repeat (first | exact (Kd.R_reads' HO209.out).2.2 | (with_reducible refine Kd.C_alloc ?_ _) | (with_reducible refine Kd.C_drewN ?_ _) | (with_reducible refine Kd.C_drew ?_))); (case side4 => exact (Kd.R_reads' HO209.out).2.1); rintro e w17 ⟨rfl, hb⟩; refine ⟨_, rfl, ?_⟩; replace HO209 := Aside0.mk (Kd.R_below (xr HO209.out) hb); replace HO212 := Aside0.mk (Kd.R_below (xr HO212.out) hb); replace BK206 := xB BK206 hb; replace HB := xS HB hb; clear hb; obtain ⟨hcz18_0, hcz18_1, hcz18_2, hfz18_0, hfz18_1, hfz18_2⟩ := x6 BK206))
  (try have eA10_ := Option.some.inj (A4.out.symm.trans A10.out))
  refine bodyPost_ret (results_ct rfl _ _ gb206 25 #[.bool t213, .string t214, .string t215] (0, 0) _ rfl (xp BK206) Tryd.underlying25 rfl (by kernel_rfl)) rfl ?_
  exact ⟨xy, xs HB⟩
/-! ### insolvencyref1_FromUint: function 81 -/
def insolvencyref1_FromUint.f (k : Nat) (a0 : Int) : Option (ByteArray) := (insolvencyref1_text.f k (([(a0) % 4294967296, (a0 / 4294967296) % 4294967296] : List Int))).bind fun t219 => (some t219)
theorem insolvencyref1_FromUint.mono : ∀ a0 k, LeO (insolvencyref1_FromUint.f k a0) (insolvencyref1_FromUint.f (k + 1) a0) := by
 intro a0 k
 unfold insolvencyref1_FromUint.f
 have m0 := @insolvencyref1_text.mono; exact xM
set_option maxHeartbeats 8000000 in
set_option maxRecDepth 100000 in
theorem insolvencyref1_FromUint.calls (k : Nat) (a0 : Int) (r : ByteArray) (w : World) (h : insolvencyref1_FromUint.f k a0 = some r) :
  Calls Tryd.prog 81 #[.int .u64 a0] w fun e w' => e = .returned (.string r) ∧ Below w.heap.size w w' := by
 have HB := Aside0.mk (Below.refl w.heap.size w)
 have H : ((insolvencyref1_text.f k (([(a0) % 4294967296, (a0 / 4294967296) % 4294967296] : List Int))).bind fun t219 => (some t219)) = some r := h
 clear h
 obtain ⟨y216, hy216⟩ : ∃ y_ : List Int, y_ = (([(a0) % 4294967296, (a0 / 4294967296) % 4294967296] : List Int)) := ⟨_, rfl⟩
 replace H : ((insolvencyref1_text.f k y216).bind fun t219 => (some t219)) = some r := by first | (rw [hy216]; with_reducible exact H) | (have H2_ := (Option.bind_some _ _).symm.trans H; rw [hy216]; with_reducible exact H2_) | (have H2_ := (Option.bind_some _ _).symm.trans H; with_reducible exact H2_) | with_reducible exact H | (rw [hy216]; exact H) | exact H
 have Ny216 := Aside0.mk hy216
 clear hy216
 replace H := xH H; obtain ⟨t219, A2, H⟩ := H
 obtain rfl := Option.some.inj H
 go_enter Tryd.func81, Tryd.ntmps81
 go_wp2_with (first | ((with_reducible refine gate_dst (N := 8) rfl ?_); refine Kd.R_lit (Kd.int .u32) _ 85 ?hg (N := 8) ?hd (xs := ([(a0) % 4294967296, (a0 / 4294967296) % 4294967296] : List Int)) (inner := [.int .u32 ((a0) % 4294967296), .int .u32 ((a0 / 4294967296) % 4294967296)]) (ok := fun _ => True) (okp := fun _ => True) ?hr ?hp (fun _ hk => hk) trivial (Below.refl _ _) (Nat.le_refl _) (by simp) ?_; (case hd => rfl); (case hg => rfl); (case hr => first | (go_simp; done) | (go_simp; rfl)); (case hp => exact (Reps.one (show Kd.M (Kd.int .u32) _ _ _ ((a0) % 4294967296) [.int .u32 ((a0) % 4294967296)] from rfl) (Reps.one (show Kd.M (Kd.int .u32) _ _ _ ((a0 / 4294967296) % 4294967296) [.int .u32 ((a0 / 4294967296) % 4294967296)] from rfl) (Reps.none _ _)))); intro v217 w3 ho4 hb hg_ hnew_; clear hg_ hnew_; (first | rw [← Ny216.out] at ho4 | (simp only [Int.reduceToNat] at ho4; rw [← Ny216.out] at ho4)); have HO218 := Aside0.mk (Kd.R_lower ho4 (below_size (xs HB))); replace HB := xS HB hb; clear hb ho4; obtain ⟨Ao5, co5, eo5⟩ := Kd.R_slice HO218.out; subst eo5) | (refine xg Tryd.func92 (some 9) #[.slice Ao5 y216.length co5] ?_; (with_reducible refine (insolvencyref1_text.calls k _ _ y216 t219 _ ?side1 ?side2 A2.out).mono ?_); (case side1 => repeat (first | exact (Kd.R_reads' HO218.out).2.2 | (with_reducible refine Kd.C_alloc ?_ _) | (with_reducible refine Kd.C_drewN ?_ _) | (with_reducible refine Kd.C_drew ?_))); (case side2 => exact (Kd.R_reads' HO218.out).2.1); rintro e w6 ⟨rfl, hb⟩; refine ⟨_, rfl, ?_⟩; replace HO218 := Aside0.mk (Kd.R_below (xr HO218.out) hb); replace HB := xS HB hb; clear hb))
 go_ret
 exact ⟨xy, xs HB⟩
/-! ### insolvencyref1_size: function 82 -/
def insolvencyref1_size.f (a0 : Int) : Option (Int) := if a0 < 0 then (some (IntKind.u64.wrap ((IntKind.u64.wrap (wrap64 (-(wrap64 (a0 + 1))))) + 1))) else (some (IntKind.u64.wrap (a0)))
set_option maxHeartbeats 8000000 in
set_option maxRecDepth 100000 in
theorem insolvencyref1_size.calls (a0 : Int) (r : Int) (w : World) (h : insolvencyref1_size.f a0 = some r) :
  Calls Tryd.prog 82 #[.int .i64 a0] w fun e w' => e = .returned (.int .u64 r) ∧ Drawn0 w w' := by
 have H : (if a0 < 0 then (some (IntKind.u64.wrap ((IntKind.u64.wrap (wrap64 (-(wrap64 (a0 + 1))))) + 1))) else (some (IntKind.u64.wrap (a0)))) = some r := h
 clear h
 by_cases c2 : a0 < 0
 ·rw [if_pos c2] at H
  have c2b0 : decide (a0 < 0) = true := decide_eq_true c2
  clear c2
  obtain rfl := Option.some.inj H
  go_enter Tryd.func82, Tryd.ntmps82
  go_wp2
  go_ret
  exact ⟨xz, xd⟩
 ·rw [if_neg c2] at H
  have c2b0 : decide (a0 < 0) = false := decide_eq_false c2
  clear c2
  obtain rfl := Option.some.inj H
  go_enter Tryd.func82, Tryd.ntmps82
  go_wp2
  go_ret
  exact ⟨xz, xd⟩
end Go.Proofs.YtpoogjcgjpkbeaaDoor.XC
