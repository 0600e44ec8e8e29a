/- Walks of functions of the program: a plain Lean function for each, and a proof that a call answers as it says. Written by a program (the kit's print with changes, then shortened). -/
import Derived.Test.YtpoogjcgjpkbeaaDoorXA3
namespace Go.Proofs.YtpoogjcgjpkbeaaDoor.XA
open Go.RowKit Go.Proofs.YtpoogjcgjpkbeaaDoorW.PrintWords Go.Proofs.YtpoogjcgjpkbeaaDoorW.PrintLast Go.Proofs.YtpoogjcgjpkbeaaDoorW.PrintMore Go.Proofs.YtpoogjcgjpkbeaaDoorW.Sq Go.Proofs.YtpoogjcgjpkbeaaDoorW.Sr Go.Proofs.YtpoogjcgjpkbeaaDoorW.Ss
attribute [local go_sem] max2_int min2_int max_two min_two max_three min_three max_four min_four   -- for this text's walks alone
set_option linter.unusedVariables false
set_option linter.unusedSimpArgs false
set_option maxHeartbeats 8000000
set_option maxRecDepth 100000
open Go.RowKit Go.Proofs.YtpoogjcgjpkbeaaDoorW.PrintWords Go.Proofs.YtpoogjcgjpkbeaaDoorW.PrintLast Go.Proofs.YtpoogjcgjpkbeaaDoorW.PrintMore Go.Proofs.YtpoogjcgjpkbeaaDoorW.Sq Go.Proofs.YtpoogjcgjpkbeaaDoorW.Sr
/-! ### iq_Greatest: function 31 -/
def iq_Greatest.l0 : Nat → Int → Int → Int → List (S54) → Bool → ByteArray → ByteArray → Int → Option (Bool × ByteArray × ByteArray × Int)
 | 0, _, _, _, _, _, _, _, _ => none
 | k + 1, x4, x1291000, x1291001, x1291002, x1298000, x1298001, x1298002, x1298003 => if x4 < (x1291002.length : Int) then (if 0 ≤ x4 then ((ir_Max.f k x1298000 x1298001 x1298002 ((rd_T54 x1291002 x4).f0.f0) ((rd_T54 x1291002 x4).f0.f1) ((rd_T54 x1291002 x4).f0.f2)).bind fun bt1299 => (iq_Greatest.l0 k (wrap64 (x4 + 1)) x1291000 x1291001 x1291002 bt1299.1 bt1299.2.1 bt1299.2.2 (mn x1298003 ((rd_T54 x1291002 x4).f1)))) else (none)) else (some (x1298000, x1298001, x1298002, x1298003))
def iq_Greatest.f (k : Nat) (a0_0 : Int) (a0_1 : Int) (l0_2 : List (S54)) : Option (Bool × ByteArray × ByteArray × Int) := if (l0_2.length : Int) = 0 then (some (false, (⟨#[]⟩ : ByteArray), (⟨#[]⟩ : ByteArray), 0)) else (if 0 < (l0_2.length : Int) then ((ir_Fix.f k ((rd_T54 l0_2 0).f0.f0) ((rd_T54 l0_2 0).f0.f1) ((rd_T54 l0_2 0).f0.f2)).bind fun bt1293 => (iq_Greatest.l0 k 0 a0_0 a0_1 l0_2 bt1293.1 bt1293.2.1 bt1293.2.2 ((rd_T54 l0_2 0).f1))) else (none))
theorem iq_Greatest.mono_l : ∀ k, (∀ y0 y1 y2 y3 y4 y5 y6 y7, LeO (iq_Greatest.l0 k y0 y1 y2 y3 y4 y5 y6 y7) (iq_Greatest.l0 (k + 1) y0 y1 y2 y3 y4 y5 y6 y7))
 | 0 => fun _ _ _ _ _ _ _ _ r h => by simp [iq_Greatest.l0] at h
 | k + 1 => by
  have ih0 := iq_Greatest.mono_l k
  ·intro y0 y1 y2 y3 y4 y5 y6 y7
   unfold iq_Greatest.l0
   have m0 := @ih0; have m1 := @ir_Fix.mono; have m2 := @ir_Max.mono; exact xM
theorem iq_Greatest.mono : ∀ a0 a1 a2 k, LeO (iq_Greatest.f k a0 a1 a2) (iq_Greatest.f (k + 1) a0 a1 a2) := by
 intro a0 a1 a2 k
 have ih0 := iq_Greatest.mono_l k
 unfold iq_Greatest.f
 have m0 := @ih0; have m1 := @ir_Fix.mono; have m2 := @ir_Max.mono; exact xM
def iq_Greatest.T3 : Bool × List (List Nat × List Nat) := (true, [([], []), ([0], [0]), ([1], [1]), ([2], [2]), ([3], [3]), ([4], [4]), ([], []), ([6], [6]), ([7], [7]), ([8], [8]), ([9], [9]), ([5, 10], [5, 10]), ([], []), ([12, 11, 5, 0, 1, 2, 3, 4, 5, 6, 7, 8, 9, 10, 11, 12], [11, 12])])
def iq_Greatest.B3 : List Nat := [0, 1, 3, 7, 15, 31, 0, 64, 192, 448, 960, 2047, 0, 8191]
theorem iq_Greatest.tab3 : rtab .any (opsOf Tryd.f31 3) = iq_Greatest.T3 := by kernel_rfl
theorem iq_Greatest.bits3 : waitsOk iq_Greatest.T3.2 iq_Greatest.B3 = true := by kernel_rfl
def iq_Greatest.T7 : Bool × List (List Nat × List Nat) := (true, [([], []), ([0], [0]), ([], []), ([2], [2]), ([], []), ([3, 4], [3, 4]), ([5], [5]), ([6], [6]), ([1, 7], [1, 7]), ([0, 1, 2, 3, 4, 5, 6, 7, 8], []), ([9, 8, 8, 0, 1, 2, 3, 4, 5, 6, 7, 8], [8, 9])])
def iq_Greatest.B7 : List Nat := [0, 1, 0, 4, 0, 28, 60, 124, 255, 511, 1023]
theorem iq_Greatest.tab7 : rtab .any (opsOf Tryd.f31 7) = iq_Greatest.T7 := by kernel_rfl
theorem iq_Greatest.bits7 : waitsOk iq_Greatest.T7.2 iq_Greatest.B7 = true := by kernel_rfl
def iq_Greatest.T8 : Bool × List (List Nat × List Nat) := (true, [([], []), ([0], [0]), ([], []), ([2], [2]), ([], []), ([3, 4], [3, 4]), ([5], [5]), ([6], [6]), ([1, 7], [1, 7]), ([0, 1, 2, 3, 4, 5, 6, 7, 8], []), ([9, 8, 0, 1, 2, 3, 4, 5, 6, 7, 8], [8, 9])])
def iq_Greatest.B8 : List Nat := [0, 1, 0, 4, 0, 28, 60, 124, 255, 511, 1023]
theorem iq_Greatest.tab8 : rtab .any (opsOf Tryd.f31 8) = iq_Greatest.T8 := by kernel_rfl
theorem iq_Greatest.bits8 : waitsOk iq_Greatest.T8.2 iq_Greatest.B8 = true := by kernel_rfl
theorem iq_Greatest.calls (k : Nat) (a0_0 : Int) (a0_1 : Int) (A0_2 : Option Addr) (c0_2 : Nat) (l0_2 : List (S54)) (r1 : Bool) (r2 : ByteArray) (r3 : ByteArray) (r4 : Int) (w : World) (hr0_2 : Kd.C k54 w A0_2 l0_2.length l0_2) (hc0_2 : l0_2.length ≤ c0_2) (h : iq_Greatest.f k a0_0 a0_1 l0_2 = some (r1, r2, r3, r4)) :
  Calls Tryd.prog 31 #[.agg #[.int .i64 a0_0, .int .i64 a0_1, .slice A0_2 l0_2.length c0_2]] w fun e w' => e = .returned (.agg #[.bool r1, .string r2, .string r3, .int .i64 r4]) ∧ Below w.heap.size w w' := by
 have hu50 := Tryd.underlying50
 have hu54 := Tryd.underlying54
 have hu25 := Tryd.underlying25
 have HR0_2 := Aside0.mk hr0_2
 have HC0_2 := Aside0.mk hc0_2
 clear hr0_2 hc0_2
 have HB := Aside0.mk (Below.refl w.heap.size w)
 have H := h; clear h
 unfold iq_Greatest.f at H
 obtain ⟨c2, H⟩ | ⟨c2, H⟩ := xO H
 ·have c2b0 := beq_iff_eq.mpr c2
  have c2b1 := bne_eq_false_iff_eq.mpr c2
  clear c2
  simp only [Option.some.injEq, Prod.mk.injEq] at H
  obtain ⟨rfl, rfl, rfl, rfl⟩ := H
  go_enter Tryd.func31, Tryd.ntmps31
  go_wp2_with (first | (refine xF (N := 1) #[.int .i64 a0_0, .int .i64 a0_1, .slice A0_2 l0_2.length c0_2] 50 HB ?_; clear HB; intro gb1290 hg w3 hb BK1290 GW1290 HB; clear hb hg) | (refine xF (N := 2) #[.bool false, .string (⟨#[]⟩ : ByteArray), .string (⟨#[]⟩ : ByteArray), .int .i64 0] 54 HB ?_; clear HB; intro gb1291 hg w4 hb BK1291 GW1291 HB; have NB1290_1291 := xL BK1290 hg; have NB1291_1290 := xR BK1290 hg; replace BK1290 := xB BK1290 hb; clear hb hg; have hnb5 := NB1290_1291.out; have hnc5 := NB1291_1290.out; obtain ⟨hcz6_0, hcz6_1, hcz6_2, hfz6_0, hfz6_1, hfz6_2⟩ := x6 BK1290; have hcz7_0 : w4.cell? ⟨gb1291, 0, none⟩ = some (.bool false) := (blk_cell BK1291.out 0).trans rfl; have hcz7_1 : w4.cell? ⟨gb1291, 1, none⟩ = some (.string (⟨#[]⟩ : ByteArray)) := (blk_cell BK1291.out 1).trans rfl; have hcz7_2 : w4.cell? ⟨gb1291, 2, none⟩ = some (.string (⟨#[]⟩ : ByteArray)) := (blk_cell BK1291.out 2).trans rfl; have hcz7_3 : w4.cell? ⟨gb1291, 3, none⟩ = some (.int .i64 0) := (blk_cell BK1291.out 3).trans rfl; have hfz7_0 := blk_frozen BK1291.out 0; have hfz7_1 := blk_frozen BK1291.out 1; have hfz7_2 := blk_frozen BK1291.out 2; have hfz7_3 := blk_frozen BK1291.out 3))
  refine bodyPost_ret (results_cell_row rfl _ _ gb1291 54 #[.bool false, .string (⟨#[]⟩ : ByteArray), .string (⟨#[]⟩ : ByteArray), .int .i64 0] (0, 0) _ rfl (xp BK1291) Tryd.underlying54 rfl (by kernel_rfl)) rfl ?_
  exact ⟨xy, xs HB⟩
 have c2b0 := beq_eq_false_iff_ne.mpr c2
 have c2b1 := bne_iff_ne.mpr c2
 have c2b2 : ¬ (l0_2 = []) := fun h_ => c2 (by rw [h_]; rfl)
 obtain ⟨c8, H⟩ := xQ H
 have c8b0 := decide_eq_true c8
 have c8b1 : decide (0 < l0_2.length) = true := decide_eq_true (by omega)
 clear c8
 replace H := xH H; obtain ⟨⟨t1293, t1294, t1295⟩, A9, H⟩ := H
 dsimp only at H
 have H' := Aside0.mk H
 clear H
 go_enter Tryd.func31, Tryd.ntmps31
 try go_wp2_with (first | (refine xF (N := 1) #[.int .i64 a0_0, .int .i64 a0_1, .slice A0_2 l0_2.length c0_2] 50 HB ?_; clear HB; intro gb1290 hg w10 hb BK1290 GW1290 HB; clear hb hg) | (refine xF (N := 2) #[.bool false, .string (⟨#[]⟩ : ByteArray), .string (⟨#[]⟩ : ByteArray), .int .i64 0] 54 HB ?_; clear HB; intro gb1291 hg w11 hb BK1291 GW1291 HB; have NB1290_1291 := xL BK1290 hg; have NB1291_1290 := xR BK1290 hg; replace BK1290 := xB BK1290 hb; clear hb hg; have hnb12 := NB1290_1291.out; have hnc12 := NB1291_1290.out; obtain ⟨hcz13_0, hcz13_1, hcz13_2, hfz13_0, hfz13_1, hfz13_2⟩ := x6 BK1290))
 replace BK1290 := xD BK1290
 replace BK1291 := xD BK1291
 replace HB := xW HB
 have p1292 : 0 ≤ (0 : Int) := (by omega)
 have q1292 : 0 < (l0_2.length : Int) := xa
 obtain ⟨ad1292, e1292, hx1292_0, hx1292_1, hx1292_2, hx1292_3⟩ := at_T54 HR0_2.out 0 p1292 q1292
 have hw1292_3 := hx1292_3
 (try rw [show (0 : Int).toNat = 0 from rfl] at hw1292_3)
 (try rw [show 0 * 4 = 0 from rfl] at hw1292_3)
 (try rw [Addr.add_zero'] at hw1292_3)
 have hw1292_2 := hx1292_2
 (try rw [show (0 : Int).toNat = 0 from rfl] at hw1292_2)
 (try rw [show 0 * 4 = 0 from rfl] at hw1292_2)
 (try rw [Addr.add_zero'] at hw1292_2)
 have hw1292_1 := hx1292_1
 (try rw [show (0 : Int).toNat = 0 from rfl] at hw1292_1)
 (try rw [show 0 * 4 = 0 from rfl] at hw1292_1)
 (try rw [Addr.add_zero'] at hw1292_1)
 have hw1292_0 := hx1292_0
 (try rw [show (0 : Int).toNat = 0 from rfl] at hw1292_0)
 (try rw [show 0 * 4 = 0 from rfl] at hw1292_0)
 (try rw [Addr.add_zero'] at hw1292_0)
 cases e1292
 have qi1292 : (0 < l0_2.length) = True := eq_true (by omega)
 (try rw [show (0 : Int).toNat = 0 from rfl] at hx1292_0)
 (try rw [show 0 * 4 = 0 from rfl] at hx1292_0)
 (try rw [Addr.add_zero'] at hx1292_0)
 (try rw [show (0 : Int).toNat = 0 from rfl] at hx1292_1)
 (try rw [show 0 * 4 = 0 from rfl] at hx1292_1)
 (try rw [Addr.add_zero'] at hx1292_1)
 (try rw [show (0 : Int).toNat = 0 from rfl] at hx1292_2)
 (try rw [show 0 * 4 = 0 from rfl] at hx1292_2)
 (try rw [Addr.add_zero'] at hx1292_2)
 (try rw [show (0 : Int).toNat = 0 from rfl] at hx1292_3)
 (try rw [show 0 * 4 = 0 from rfl] at hx1292_3)
 (try rw [Addr.add_zero'] at hx1292_3)
 (try replace hx1292_0 := xcl HB hx1292_0)
 (try replace hx1292_1 := xcl HB hx1292_1)
 (try replace hx1292_2 := xcl HB hx1292_2)
 (try replace hx1292_3 := xcl HB hx1292_3)
 replace p1292 := eq_true p1292
 replace q1292 := eq_true q1292
 have p1296 : 0 ≤ (0 : Int) := (by omega)
 have q1296 : 0 < (l0_2.length : Int) := xa
 obtain ⟨ad1296, e1296, hx1296_0, hx1296_1, hx1296_2, hx1296_3⟩ := at_T54 HR0_2.out 0 p1296 q1296
 have hw1296_3 := hx1296_3
 (try rw [show (0 : Int).toNat = 0 from rfl] at hw1296_3)
 (try rw [show 0 * 4 = 0 from rfl] at hw1296_3)
 (try rw [Addr.add_zero'] at hw1296_3)
 have hw1296_2 := hx1296_2
 (try rw [show (0 : Int).toNat = 0 from rfl] at hw1296_2)
 (try rw [show 0 * 4 = 0 from rfl] at hw1296_2)
 (try rw [Addr.add_zero'] at hw1296_2)
 have hw1296_1 := hx1296_1
 (try rw [show (0 : Int).toNat = 0 from rfl] at hw1296_1)
 (try rw [show 0 * 4 = 0 from rfl] at hw1296_1)
 (try rw [Addr.add_zero'] at hw1296_1)
 have hw1296_0 := hx1296_0
 (try rw [show (0 : Int).toNat = 0 from rfl] at hw1296_0)
 (try rw [show 0 * 4 = 0 from rfl] at hw1296_0)
 (try rw [Addr.add_zero'] at hw1296_0)
 obtain rfl : ad1292 = ad1296 := (by injection e1296)
 have qi1296 : (0 < l0_2.length) = True := eq_true (by omega)
 (try rw [show (0 : Int).toNat = 0 from rfl] at hx1296_0)
 (try rw [show 0 * 4 = 0 from rfl] at hx1296_0)
 (try rw [Addr.add_zero'] at hx1296_0)
 (try rw [show (0 : Int).toNat = 0 from rfl] at hx1296_1)
 (try rw [show 0 * 4 = 0 from rfl] at hx1296_1)
 (try rw [Addr.add_zero'] at hx1296_1)
 (try rw [show (0 : Int).toNat = 0 from rfl] at hx1296_2)
 (try rw [show 0 * 4 = 0 from rfl] at hx1296_2)
 (try rw [Addr.add_zero'] at hx1296_2)
 (try rw [show (0 : Int).toNat = 0 from rfl] at hx1296_3)
 (try rw [show 0 * 4 = 0 from rfl] at hx1296_3)
 (try rw [Addr.add_zero'] at hx1296_3)
 (try replace hx1296_0 := xcl HB hx1296_0)
 (try replace hx1296_1 := xcl HB hx1296_1)
 (try replace hx1296_2 := xcl HB hx1296_2)
 (try replace hx1296_3 := xcl HB hx1296_3)
 replace p1296 := eq_true p1296
 replace q1296 := eq_true q1296
 refine start_ (n := 14) (S := fun w' => w'.cell? ⟨gb1290, 0, none⟩ = some (.int .i64 a0_0) ∧ w'.cell? ⟨gb1290, 1, none⟩ = some (.int .i64 a0_1) ∧ w'.cell? ⟨gb1290, 2, none⟩ = some (.slice (some ad1292) l0_2.length c0_2) ∧ w'.cell? ad1292 = some (.bool ((rd_T54 l0_2 0).f0.f0)) ∧ w'.cell? ⟨ad1292.block, ad1292.off + 1, none⟩ = some (.string ((rd_T54 l0_2 0).f0.f1)) ∧ w'.cell? ⟨ad1292.block, ad1292.off + 2, none⟩ = some (.string ((rd_T54 l0_2 0).f0.f2)) ∧ w'.cell? ⟨ad1292.block, ad1292.off + 3, none⟩ = some (.int .i64 ((rd_T54 l0_2 0).f1)) ∧ w'.cell? ad1292 = some (.bool ((rd_T54 l0_2 0).f0.f0)) ∧ w'.cell? ⟨ad1292.block, ad1292.off + 1, none⟩ = some (.string ((rd_T54 l0_2 0).f0.f1)) ∧ w'.cell? ⟨ad1292.block, ad1292.off + 2, none⟩ = some (.string ((rd_T54 l0_2 0).f0.f2)) ∧ w'.cell? ⟨ad1292.block, ad1292.off + 3, none⟩ = some (.int .i64 ((rd_T54 l0_2 0).f1))) (ds := []) (b 14 0) (by kernel_rfl) rfl rfl ⟨(blk_cell BK1290.out 0).trans rfl, (blk_cell BK1290.out 1).trans rfl, (blk_cell BK1290.out 2).trans rfl, ((HB.out.cell (World.block_lt_of_cell? w _ hw1292_0)).trans hw1292_0), ((HB.out.cell (World.block_lt_of_cell? w _ hw1292_1)).trans hw1292_1), ((HB.out.cell (World.block_lt_of_cell? w _ hw1292_2)).trans hw1292_2), ((HB.out.cell (World.block_lt_of_cell? w _ hw1292_3)).trans hw1292_3), ((HB.out.cell (World.block_lt_of_cell? w _ hw1296_0)).trans hw1296_0), ((HB.out.cell (World.block_lt_of_cell? w _ hw1296_1)).trans hw1296_1), ((HB.out.cell (World.block_lt_of_cell? w _ hw1296_2)).trans hw1296_2), ((HB.out.cell (World.block_lt_of_cell? w _ hw1296_3)).trans hw1296_3)⟩ (fun hHeld => ?_); refine with_tabW iq_Greatest.tab3 iq_Greatest.bits3 (fun HT_ HW_ => ?_)
 generalize w11.drew = w14 at BK1290 BK1291 HB hx1292_0 hx1292_1 hx1292_2 hx1292_3 hx1296_0 hx1296_1 hx1296_2 hx1296_3 hHeld ⊢
 refine yP 0 (some 10) (b 14 1) ?_
 refine yP 6 (some 16) (b 14 65) ?_
 refine yT 1 (some 11) (b 14 67) hHeld ?_
 refine yP 2 (some 12) (b 14 71) ?_
 refine yP 3 (some 13) (b 14 79) ?_
 refine yT 4 (some 14) (b 14 95) hHeld ?_
 refine yT 7 (some 17) (b 14 223) hHeld ?_
 refine yP 8 (some 18) (b 14 479) ?_
 refine yP 9 (some 19) (b 14 991) ?_
 refine yT 10 (some 20) (b 14 2015) hHeld ?_
 refine join_ (σ := Nat) 1 #[true, true, true, true, true, true, true, true, true, true, true, true, true, false] (fun s_ => [(15, .agg #[.bool t1293, .string t1294, .string t1295]), (3, .pointer (some ⟨s_, 0, none⟩)), (21, .agg #[.bool t1293, .string t1294, .string t1295, .int .i64 ((rd_T54 l0_2 0).f1)])]) (fun s_ w' => (w'.cell? ⟨gb1290, 0, none⟩ = some (.int .i64 a0_0) ∧ w'.cell? ⟨gb1290, 1, none⟩ = some (.int .i64 a0_1) ∧ w'.cell? ⟨gb1290, 2, none⟩ = some (.slice (some ad1292) l0_2.length c0_2) ∧ w'.cell? ad1292 = some (.bool ((rd_T54 l0_2 0).f0.f0)) ∧ w'.cell? ⟨ad1292.block, ad1292.off + 1, none⟩ = some (.string ((rd_T54 l0_2 0).f0.f1)) ∧ w'.cell? ⟨ad1292.block, ad1292.off + 2, none⟩ = some (.string ((rd_T54 l0_2 0).f0.f2)) ∧ w'.cell? ⟨ad1292.block, ad1292.off + 3, none⟩ = some (.int .i64 ((rd_T54 l0_2 0).f1)) ∧ w'.cell? ad1292 = some (.bool ((rd_T54 l0_2 0).f0.f0)) ∧ w'.cell? ⟨ad1292.block, ad1292.off + 1, none⟩ = some (.string ((rd_T54 l0_2 0).f0.f1)) ∧ w'.cell? ⟨ad1292.block, ad1292.off + 2, none⟩ = some (.string ((rd_T54 l0_2 0).f0.f2)) ∧ w'.cell? ⟨ad1292.block, ad1292.off + 3, none⟩ = some (.int .i64 ((rd_T54 l0_2 0).f1))) ∧ (w'.heap[gb1290]? = some (.cells #[.int .i64 a0_0, .int .i64 a0_1, .slice (some ad1292) l0_2.length c0_2] 50 (0, 0))) ∧ (w'.heap[gb1291]? = some (.cells #[.bool false, .string (⟨#[]⟩ : ByteArray), .string (⟨#[]⟩ : ByteArray), .int .i64 0] 54 (0, 0))) ∧ (w'.heap[s_]? = some (.cells #[.bool false, .string (⟨#[]⟩ : ByteArray), .string (⟨#[]⟩ : ByteArray), .int .i64 0] 54 (0, 0))) ∧ (w.heap.size ≤ s_) ∧ (w.heap.size ≤ s_) ∧ (gb1290 ≠ s_) ∧ (s_ ≠ gb1290) ∧ (gb1291 ≠ s_) ∧ (s_ ≠ gb1291) ∧ (Below w.heap.size w w')) ?_ ?_
 rotate_left
 ·intro hCont
  refine two_ (i := 5) (j := 12) (Ni := some 15) (Nj := some 3) #[true, true, true, true, true, true, true, true, true, true, true, false, false, false] #[true, true, true, true, true, false, true, true, true, true, true, false, true, false] rfl rfl rfl rfl (two_of HT_.out (by kernel_rfl)) (by decide) (by decide) (fun K hK => ?_) (fun K hK => ?_)
  ·skip
   refine xc Tryd.func57 (ir_Fix.calls k ((rd_T54 l0_2 0).f0.f0) ((rd_T54 l0_2 0).f0.f1) ((rd_T54 l0_2 0).f0.f2) t1293 t1294 t1295 _ A9.out) ?_
   rintro w15 hb
   replace BK1290 := xB BK1290 hb
   replace BK1291 := xB BK1291 hb
   replace HB := xS HB hb
   clear hb
   refine hK.out _ _ ⟨(blk_cell BK1290.out 0).trans rfl, (blk_cell BK1290.out 1).trans rfl, (blk_cell BK1290.out 2).trans rfl, ((HB.out.cell (World.block_lt_of_cell? w _ hw1292_0)).trans hw1292_0), ((HB.out.cell (World.block_lt_of_cell? w _ hw1292_1)).trans hw1292_1), ((HB.out.cell (World.block_lt_of_cell? w _ hw1292_2)).trans hw1292_2), ((HB.out.cell (World.block_lt_of_cell? w _ hw1292_3)).trans hw1292_3), ((HB.out.cell (World.block_lt_of_cell? w _ hw1296_0)).trans hw1296_0), ((HB.out.cell (World.block_lt_of_cell? w _ hw1296_1)).trans hw1296_1), ((HB.out.cell (World.block_lt_of_cell? w _ hw1296_2)).trans hw1296_2), ((HB.out.cell (World.block_lt_of_cell? w _ hw1296_3)).trans hw1296_3)⟩ (fun hHeld => ?_)
   clear hK K
   refine xN 15 ?_
   refine yP 11 (some 21) (b 14 4095) ?_
   refine yO 12 (some 3) (b 14 8191) fun K hK => ?_
   refine box_step ?hg (N := 3) ?hd (cs := #[.bool false, .string (⟨#[]⟩ : ByteArray), .string (⟨#[]⟩ : ByteArray), .int .i64 0]) (t := 54) ?hr ?_; (case hd => rfl); (case hg => rfl); (case hr => (go_simp; done))
   intro gb1297 hg w16 hbox hb
   have BK1297 := Aside0.mk (hbox)
   have GW1297 := (xG HB hg)
   have GE1297 := (xG HB hg)
   replace HB := xS HB hb
   have NB1290_1297 := xL BK1290 hg
   have NB1297_1290 := xR BK1290 hg
   replace BK1290 := xB BK1290 hb
   have NB1291_1297 := xL BK1291 hg
   have NB1297_1291 := xR BK1291 hg
   replace BK1291 := xB BK1291 hb
   clear hb hbox hg
   refine hK.out _ _ ⟨(blk_cell BK1290.out 0).trans rfl, (blk_cell BK1290.out 1).trans rfl, (blk_cell BK1290.out 2).trans rfl, ((HB.out.cell (World.block_lt_of_cell? w _ hw1292_0)).trans hw1292_0), ((HB.out.cell (World.block_lt_of_cell? w _ hw1292_1)).trans hw1292_1), ((HB.out.cell (World.block_lt_of_cell? w _ hw1292_2)).trans hw1292_2), ((HB.out.cell (World.block_lt_of_cell? w _ hw1292_3)).trans hw1292_3), ((HB.out.cell (World.block_lt_of_cell? w _ hw1296_0)).trans hw1296_0), ((HB.out.cell (World.block_lt_of_cell? w _ hw1296_1)).trans hw1296_1), ((HB.out.cell (World.block_lt_of_cell? w _ hw1296_2)).trans hw1296_2), ((HB.out.cell (World.block_lt_of_cell? w _ hw1296_3)).trans hw1296_3)⟩ (fun hHeld => ?_)
   clear hK K
   refine xN 3 ?_
   exact norm_ (by simp only [putAll, Act.put, List.setIfInBounds_toArray, List.set_cons_zero, List.set_cons_succ]) (hCont (gb1297) _ ⟨hHeld, (xb BK1290), (xb BK1291), (xb BK1297), GW1297.out, GE1297.out, NB1290_1297.out, NB1297_1290.out, NB1291_1297.out, NB1297_1291.out, (xs HB)⟩)
  ·skip
   refine box_step ?hg (N := 3) ?hd (cs := #[.bool false, .string (⟨#[]⟩ : ByteArray), .string (⟨#[]⟩ : ByteArray), .int .i64 0]) (t := 54) ?hr ?_; (case hd => rfl); (case hg => rfl); (case hr => (go_simp; done))
   intro gb1297 hg w15 hbox hb
   have BK1297 := Aside0.mk (hbox)
   have GW1297 := (xG HB hg)
   have GE1297 := (xG HB hg)
   replace HB := xS HB hb
   have NB1290_1297 := xL BK1290 hg
   have NB1297_1290 := xR BK1290 hg
   replace BK1290 := xB BK1290 hb
   have NB1291_1297 := xL BK1291 hg
   have NB1297_1291 := xR BK1291 hg
   replace BK1291 := xB BK1291 hb
   clear hb hbox hg
   refine hK.out _ _ ⟨(blk_cell BK1290.out 0).trans rfl, (blk_cell BK1290.out 1).trans rfl, (blk_cell BK1290.out 2).trans rfl, ((HB.out.cell (World.block_lt_of_cell? w _ hw1292_0)).trans hw1292_0), ((HB.out.cell (World.block_lt_of_cell? w _ hw1292_1)).trans hw1292_1), ((HB.out.cell (World.block_lt_of_cell? w _ hw1292_2)).trans hw1292_2), ((HB.out.cell (World.block_lt_of_cell? w _ hw1292_3)).trans hw1292_3), ((HB.out.cell (World.block_lt_of_cell? w _ hw1296_0)).trans hw1296_0), ((HB.out.cell (World.block_lt_of_cell? w _ hw1296_1)).trans hw1296_1), ((HB.out.cell (World.block_lt_of_cell? w _ hw1296_2)).trans hw1296_2), ((HB.out.cell (World.block_lt_of_cell? w _ hw1296_3)).trans hw1296_3)⟩ (fun hHeld => ?_)
   clear hK K
   refine xN 3 ?_
   refine yO 5 (some 15) (b 14 6143) fun K hK => ?_
   refine xc Tryd.func57 (ir_Fix.calls k ((rd_T54 l0_2 0).f0.f0) ((rd_T54 l0_2 0).f0.f1) ((rd_T54 l0_2 0).f0.f2) t1293 t1294 t1295 _ A9.out) ?_
   rintro w16 hb
   replace BK1290 := xB BK1290 hb
   replace BK1291 := xB BK1291 hb
   replace BK1297 := xB BK1297 hb
   replace HB := xS HB hb
   clear hb
   refine hK.out _ _ ⟨(blk_cell BK1290.out 0).trans rfl, (blk_cell BK1290.out 1).trans rfl, (blk_cell BK1290.out 2).trans rfl, ((HB.out.cell (World.block_lt_of_cell? w _ hw1292_0)).trans hw1292_0), ((HB.out.cell (World.block_lt_of_cell? w _ hw1292_1)).trans hw1292_1), ((HB.out.cell (World.block_lt_of_cell? w _ hw1292_2)).trans hw1292_2), ((HB.out.cell (World.block_lt_of_cell? w _ hw1292_3)).trans hw1292_3), ((HB.out.cell (World.block_lt_of_cell? w _ hw1296_0)).trans hw1296_0), ((HB.out.cell (World.block_lt_of_cell? w _ hw1296_1)).trans hw1296_1), ((HB.out.cell (World.block_lt_of_cell? w _ hw1296_2)).trans hw1296_2), ((HB.out.cell (World.block_lt_of_cell? w _ hw1296_3)).trans hw1296_3)⟩ (fun hHeld => ?_)
   clear hK K
   refine xN 15 ?_
   refine yP 11 (some 21) (b 14 8191) ?_
   exact norm_ (by simp only [putAll, Act.put, List.setIfInBounds_toArray, List.set_cons_zero, List.set_cons_succ]) (hCont (gb1297) _ ⟨hHeld, (xb BK1290), (xb BK1291), (xb BK1297), GW1297.out, GE1297.out, NB1290_1297.out, NB1297_1290.out, NB1291_1297.out, NB1297_1291.out, (xs HB)⟩)
 rintro gb1297 w17 ⟨hS_, h0_, h1_, h2_, h3_, h4_, h5_, h6_, h7_, h8_, h9_⟩
 have n0_ : Aside0 (w17.heap[gb1290]? = some (.cells #[.int .i64 a0_0, .int .i64 a0_1, .slice (some ad1292) l0_2.length c0_2] 50 (0, 0))) := ⟨h0_⟩
 have n1_ : Aside0 (w17.heap[gb1291]? = some (.cells #[.bool false, .string (⟨#[]⟩ : ByteArray), .string (⟨#[]⟩ : ByteArray), .int .i64 0] 54 (0, 0))) := ⟨h1_⟩
 have n2_ : Aside0 (w17.heap[gb1297]? = some (.cells #[.bool false, .string (⟨#[]⟩ : ByteArray), .string (⟨#[]⟩ : ByteArray), .int .i64 0] 54 (0, 0))) := ⟨h2_⟩
 have n3_ : Aside0 (w.heap.size ≤ gb1297) := ⟨h3_⟩
 have n4_ : Aside0 (w.heap.size ≤ gb1297) := ⟨h4_⟩
 have n5_ : Aside0 (gb1290 ≠ gb1297) := ⟨h5_⟩
 have n6_ : Aside0 (gb1297 ≠ gb1290) := ⟨h6_⟩
 have n7_ : Aside0 (gb1291 ≠ gb1297) := ⟨h7_⟩
 have n8_ : Aside0 (gb1297 ≠ gb1291) := ⟨h8_⟩
 have n9_ : Aside0 (Below w.heap.size w w17) := ⟨h9_⟩
 clear BK1290
 clear BK1291
 clear HB
 clear h0_ h1_ h2_ h3_ h4_ h5_ h6_ h7_ h8_ h9_
 have BK1290 := n0_
 have BK1291 := n1_
 have BK1297 := n2_
 have GW1297 := n3_
 have GE1297 := n4_
 have NB1290_1297 := n5_
 have NB1297_1290 := n6_
 have NB1291_1297 := n7_
 have NB1297_1291 := n8_
 have HB := n9_
 clear n0_ n1_ n2_ n3_ n4_ n5_ n6_ n7_ n8_ n9_
 have hHeld : w17.cell? ⟨gb1290, 0, none⟩ = some (.int .i64 a0_0) ∧ w17.cell? ⟨gb1290, 1, none⟩ = some (.int .i64 a0_1) ∧ w17.cell? ⟨gb1290, 2, none⟩ = some (.slice (some ad1292) l0_2.length c0_2) ∧ w17.cell? ad1292 = some (.bool ((rd_T54 l0_2 0).f0.f0)) ∧ w17.cell? ⟨ad1292.block, ad1292.off + 1, none⟩ = some (.string ((rd_T54 l0_2 0).f0.f1)) ∧ w17.cell? ⟨ad1292.block, ad1292.off + 2, none⟩ = some (.string ((rd_T54 l0_2 0).f0.f2)) ∧ w17.cell? ⟨ad1292.block, ad1292.off + 3, none⟩ = some (.int .i64 ((rd_T54 l0_2 0).f1)) ∧ w17.cell? ad1292 = some (.bool ((rd_T54 l0_2 0).f0.f0)) ∧ w17.cell? ⟨ad1292.block, ad1292.off + 1, none⟩ = some (.string ((rd_T54 l0_2 0).f0.f1)) ∧ w17.cell? ⟨ad1292.block, ad1292.off + 2, none⟩ = some (.string ((rd_T54 l0_2 0).f0.f2)) ∧ w17.cell? ⟨ad1292.block, ad1292.off + 3, none⟩ = some (.int .i64 ((rd_T54 l0_2 0).f1)) := hS_
 refine norm_ (a' := ?_) ?_ ?_
 rotate_left
 ·simp only [putAll, Act.put, List.setIfInBounds_toArray, List.set_cons_zero, List.set_cons_succ]
  rfl
 refine yO 13 none (b 14 16383) fun K hK => ?_
 have hs18 : w17.cell? ⟨gb1297, 0, none⟩ = some (.bool false) := (blk_cell BK1297.out 0).trans rfl
 have hfs18 := blk_frozen BK1297.out 0
 have hns18_0 := NB1290_1297.out
 have hns18_1 := NB1291_1297.out
 have hms18_0 := NB1297_1290.out
 have hms18_1 := NB1297_1291.out
 have hs19 : w17.cell? ⟨gb1297, 1, none⟩ = some (.string (⟨#[]⟩ : ByteArray)) := (blk_cell BK1297.out 1).trans rfl
 have hfs19 := blk_frozen BK1297.out 1
 have hns19_0 := NB1290_1297.out
 have hns19_1 := NB1291_1297.out
 have hms19_0 := NB1297_1290.out
 have hms19_1 := NB1297_1291.out
 have hs20 : w17.cell? ⟨gb1297, 2, none⟩ = some (.string (⟨#[]⟩ : ByteArray)) := (blk_cell BK1297.out 2).trans rfl
 have hfs20 := blk_frozen BK1297.out 2
 have hns20_0 := NB1290_1297.out
 have hns20_1 := NB1291_1297.out
 have hms20_0 := NB1297_1290.out
 have hms20_1 := NB1297_1291.out
 have hs21 : w17.cell? ⟨gb1297, 3, none⟩ = some (.int .i64 0) := (blk_cell BK1297.out 3).trans rfl
 have hfs21 := blk_frozen BK1297.out 3
 have hns21_0 := NB1290_1297.out
 have hns21_1 := NB1291_1297.out
 have hms21_0 := NB1297_1290.out
 have hms21_1 := NB1297_1291.out
 refine xk ?_
 refine hK.out _ _ ⟨((cell_far (p := ⟨gb1297, _, none⟩) NB1290_1297.out _).trans ((cell_far (p := ⟨gb1297, _, none⟩) NB1290_1297.out _).trans ((cell_far (p := ⟨gb1297, _, none⟩) NB1290_1297.out _).trans ((cell_far (p := ⟨gb1297, _, none⟩) NB1290_1297.out _).trans (hHeld.1))))), ((cell_far (p := ⟨gb1297, _, none⟩) NB1290_1297.out _).trans ((cell_far (p := ⟨gb1297, _, none⟩) NB1290_1297.out _).trans ((cell_far (p := ⟨gb1297, _, none⟩) NB1290_1297.out _).trans ((cell_far (p := ⟨gb1297, _, none⟩) NB1290_1297.out _).trans (hHeld.2.1))))), ((cell_far (p := ⟨gb1297, _, none⟩) NB1290_1297.out _).trans ((cell_far (p := ⟨gb1297, _, none⟩) NB1290_1297.out _).trans ((cell_far (p := ⟨gb1297, _, none⟩) NB1290_1297.out _).trans ((cell_far (p := ⟨gb1297, _, none⟩) NB1290_1297.out _).trans (hHeld.2.2.1))))), ((cell_far (p := ⟨gb1297, _, none⟩) (by exact Nat.ne_of_lt (Nat.lt_of_lt_of_le (by have := World.block_lt_of_cell? _ _ hw1292_0; exact this) GW1297.out)) _).trans ((cell_far (p := ⟨gb1297, _, none⟩) (by exact Nat.ne_of_lt (Nat.lt_of_lt_of_le (by have := World.block_lt_of_cell? _ _ hw1292_0; exact this) GW1297.out)) _).trans ((cell_far (p := ⟨gb1297, _, none⟩) (by exact Nat.ne_of_lt (Nat.lt_of_lt_of_le (by have := World.block_lt_of_cell? _ _ hw1292_0; exact this) GW1297.out)) _).trans ((cell_far (p := ⟨gb1297, _, none⟩) (by exact Nat.ne_of_lt (Nat.lt_of_lt_of_le (by have := World.block_lt_of_cell? _ _ hw1292_0; exact this) GW1297.out)) _).trans (hHeld.2.2.2.1))))), ((cell_far (p := ⟨gb1297, _, none⟩) (by exact Nat.ne_of_lt (Nat.lt_of_lt_of_le (by have := World.block_lt_of_cell? _ _ hw1292_1; exact this) GW1297.out)) _).trans ((cell_far (p := ⟨gb1297, _, none⟩) (by exact Nat.ne_of_lt (Nat.lt_of_lt_of_le (by have := World.block_lt_of_cell? _ _ hw1292_1; exact this) GW1297.out)) _).trans ((cell_far (p := ⟨gb1297, _, none⟩) (by exact Nat.ne_of_lt (Nat.lt_of_lt_of_le (by have := World.block_lt_of_cell? _ _ hw1292_1; exact this) GW1297.out)) _).trans ((cell_far (p := ⟨gb1297, _, none⟩) (by exact Nat.ne_of_lt (Nat.lt_of_lt_of_le (by have := World.block_lt_of_cell? _ _ hw1292_1; exact this) GW1297.out)) _).trans (hHeld.2.2.2.2.1))))), ((cell_far (p := ⟨gb1297, _, none⟩) (by exact Nat.ne_of_lt (Nat.lt_of_lt_of_le (by have := World.block_lt_of_cell? _ _ hw1292_2; exact this) GW1297.out)) _).trans ((cell_far (p := ⟨gb1297, _, none⟩) (by exact Nat.ne_of_lt (Nat.lt_of_lt_of_le (by have := World.block_lt_of_cell? _ _ hw1292_2; exact this) GW1297.out)) _).trans ((cell_far (p := ⟨gb1297, _, none⟩) (by exact Nat.ne_of_lt (Nat.lt_of_lt_of_le (by have := World.block_lt_of_cell? _ _ hw1292_2; exact this) GW1297.out)) _).trans ((cell_far (p := ⟨gb1297, _, none⟩) (by exact Nat.ne_of_lt (Nat.lt_of_lt_of_le (by have := World.block_lt_of_cell? _ _ hw1292_2; exact this) GW1297.out)) _).trans (hHeld.2.2.2.2.2.1))))), ((cell_far (p := ⟨gb1297, _, none⟩) (by exact Nat.ne_of_lt (Nat.lt_of_lt_of_le (by have := World.block_lt_of_cell? _ _ hw1292_3; exact this) GW1297.out)) _).trans ((cell_far (p := ⟨gb1297, _, none⟩) (by exact Nat.ne_of_lt (Nat.lt_of_lt_of_le (by have := World.block_lt_of_cell? _ _ hw1292_3; exact this) GW1297.out)) _).trans ((cell_far (p := ⟨gb1297, _, none⟩) (by exact Nat.ne_of_lt (Nat.lt_of_lt_of_le (by have := World.block_lt_of_cell? _ _ hw1292_3; exact this) GW1297.out)) _).trans ((cell_far (p := ⟨gb1297, _, none⟩) (by exact Nat.ne_of_lt (Nat.lt_of_lt_of_le (by have := World.block_lt_of_cell? _ _ hw1292_3; exact this) GW1297.out)) _).trans (hHeld.2.2.2.2.2.2.1))))), ((cell_far (p := ⟨gb1297, _, none⟩) (by exact Nat.ne_of_lt (Nat.lt_of_lt_of_le (by have := World.block_lt_of_cell? _ _ hw1296_0; exact this) GW1297.out)) _).trans ((cell_far (p := ⟨gb1297, _, none⟩) (by exact Nat.ne_of_lt (Nat.lt_of_lt_of_le (by have := World.block_lt_of_cell? _ _ hw1296_0; exact this) GW1297.out)) _).trans ((cell_far (p := ⟨gb1297, _, none⟩) (by exact Nat.ne_of_lt (Nat.lt_of_lt_of_le (by have := World.block_lt_of_cell? _ _ hw1296_0; exact this) GW1297.out)) _).trans ((cell_far (p := ⟨gb1297, _, none⟩) (by exact Nat.ne_of_lt (Nat.lt_of_lt_of_le (by have := World.block_lt_of_cell? _ _ hw1296_0; exact this) GW1297.out)) _).trans (hHeld.2.2.2.2.2.2.2.1))))), ((cell_far (p := ⟨gb1297, _, none⟩) (by exact Nat.ne_of_lt (Nat.lt_of_lt_of_le (by have := World.block_lt_of_cell? _ _ hw1296_1; exact this) GW1297.out)) _).trans ((cell_far (p := ⟨gb1297, _, none⟩) (by exact Nat.ne_of_lt (Nat.lt_of_lt_of_le (by have := World.block_lt_of_cell? _ _ hw1296_1; exact this) GW1297.out)) _).trans ((cell_far (p := ⟨gb1297, _, none⟩) (by exact Nat.ne_of_lt (Nat.lt_of_lt_of_le (by have := World.block_lt_of_cell? _ _ hw1296_1; exact this) GW1297.out)) _).trans ((cell_far (p := ⟨gb1297, _, none⟩) (by exact Nat.ne_of_lt (Nat.lt_of_lt_of_le (by have := World.block_lt_of_cell? _ _ hw1296_1; exact this) GW1297.out)) _).trans (hHeld.2.2.2.2.2.2.2.2.1))))), ((cell_far (p := ⟨gb1297, _, none⟩) (by exact Nat.ne_of_lt (Nat.lt_of_lt_of_le (by have := World.block_lt_of_cell? _ _ hw1296_2; exact this) GW1297.out)) _).trans ((cell_far (p := ⟨gb1297, _, none⟩) (by exact Nat.ne_of_lt (Nat.lt_of_lt_of_le (by have := World.block_lt_of_cell? _ _ hw1296_2; exact this) GW1297.out)) _).trans ((cell_far (p := ⟨gb1297, _, none⟩) (by exact Nat.ne_of_lt (Nat.lt_of_lt_of_le (by have := World.block_lt_of_cell? _ _ hw1296_2; exact this) GW1297.out)) _).trans ((cell_far (p := ⟨gb1297, _, none⟩) (by exact Nat.ne_of_lt (Nat.lt_of_lt_of_le (by have := World.block_lt_of_cell? _ _ hw1296_2; exact this) GW1297.out)) _).trans (hHeld.2.2.2.2.2.2.2.2.2.1))))), ((cell_far (p := ⟨gb1297, _, none⟩) (by exact Nat.ne_of_lt (Nat.lt_of_lt_of_le (by have := World.block_lt_of_cell? _ _ hw1296_3; exact this) GW1297.out)) _).trans ((cell_far (p := ⟨gb1297, _, none⟩) (by exact Nat.ne_of_lt (Nat.lt_of_lt_of_le (by have := World.block_lt_of_cell? _ _ hw1296_3; exact this) GW1297.out)) _).trans ((cell_far (p := ⟨gb1297, _, none⟩) (by exact Nat.ne_of_lt (Nat.lt_of_lt_of_le (by have := World.block_lt_of_cell? _ _ hw1296_3; exact this) GW1297.out)) _).trans ((cell_far (p := ⟨gb1297, _, none⟩) (by exact Nat.ne_of_lt (Nat.lt_of_lt_of_le (by have := World.block_lt_of_cell? _ _ hw1296_3; exact this) GW1297.out)) _).trans (hHeld.2.2.2.2.2.2.2.2.2.2)))))⟩ (fun hHeld => ?_)
 clear hK K
 refine done_ (done_of HT_.out (by kernel_rfl)) ?_
 try go_wp2
 go_loopg [4] k (fun kq v4 w' => ∃ (x4_1 : Int) (x1298000_1 : Bool) (x1298001_1 : ByteArray) (x1298002_1 : ByteArray) (x1298003_1 : Int), v4 = .int .i64 x4_1 ∧ Aside0 (iq_Greatest.l0 kq x4_1 a0_0 a0_1 l0_2 x1298000_1 x1298001_1 x1298002_1 x1298003_1 = some (r1, r2, r3, r4)) ∧ Aside0 (kq ≤ k) ∧ Aside0 (w'.heap[gb1290]? = some (.cells #[.int .i64 a0_0, .int .i64 a0_1, (.slice (some ad1292) l0_2.length c0_2)] 50 (0, 0))) ∧ Aside0 (w'.heap[gb1291]? = some (.cells #[.bool false, .string (⟨#[]⟩ : ByteArray), .string (⟨#[]⟩ : ByteArray), .int .i64 0] 54 (0, 0))) ∧ Aside0 (w'.heap[gb1297]? = some (.cells #[.bool x1298000_1, .string x1298001_1, .string x1298002_1, .int .i64 x1298003_1] 54 (0, 0))) ∧ Aside0 (Below w.heap.size w w'))
 case atStart => exact ⟨(0), (t1293), (t1294), (t1295), ((rd_T54 l0_2 0).f1), xz, H', ⟨Nat.le_refl _⟩, ⟨xb BK1290⟩, ⟨xb BK1291⟩, ⟨by refine blk_put (cs := #[.bool t1293, .string t1294, .string t1295, .int .i64 0]) ?_ 3 _ (by rfl); refine blk_put (cs := #[.bool t1293, .string t1294, .string (⟨#[]⟩ : ByteArray), .int .i64 0]) ?_ 2 _ (by rfl); refine blk_put (cs := #[.bool t1293, .string (⟨#[]⟩ : ByteArray), .string (⟨#[]⟩ : ByteArray), .int .i64 0]) ?_ 1 _ (by rfl); refine blk_put (cs := #[.bool false, .string (⟨#[]⟩ : ByteArray), .string (⟨#[]⟩ : ByteArray), .int .i64 0]) ?_ 0 _ (by rfl); exact BK1297.out⟩, ⟨xs HB⟩⟩
 case round =>
  clear H'
  try clear c2b0; try clear c2b1; try clear c2b2; try clear c8b0; try clear c8b1; try clear hcz13_0; try clear hcz13_1; try clear hcz13_2; try clear hcz6_0; try clear hcz6_1; try clear hcz6_2; try clear hcz7_0; try clear hcz7_1; try clear hcz7_2; try clear hcz7_3; try clear hfz13_0; try clear hfz13_1; try clear hfz13_2; try clear hfz6_0; try clear hfz6_1; try clear hfz6_2; try clear hfz7_0; try clear hfz7_1; try clear hfz7_2; try clear hfz7_3; try clear hx1292_0; try clear hx1292_1; try clear hx1292_2; try clear hx1292_3; try clear hx1296_0; try clear hx1296_1; try clear hx1296_2; try clear hx1296_3; try clear p1292; try clear p1296; try clear q1292; try clear q1296
  obtain ⟨x4_1, x1298000_1, x1298001_1, x1298002_1, x1298003_1, rfl, HA, HK1, BK1290, BK1291, BK1297, HB⟩ := hrel
  cases gk with
  | zero => exact absurd HA.out (by simp [iq_Greatest.l0])
  | succ k1 =>
   have H := HA.out
   clear HA
   simp only [iq_Greatest.l0] at H
   obtain ⟨c22b0, H⟩ | ⟨c22b0, H⟩ := xOd H
   ·obtain ⟨c23b0, H⟩ := xQd H
    replace H := xH H; obtain ⟨⟨t1299, t1300, t1301⟩, A24, H⟩ := H
    dsimp only at H
    generalize hji25 : ((mn x1298003_1 ((rd_T54 l0_2 x4_1).f1)) : Int) = ji25 at H
    have hji25_ : (if ((rd_T54 l0_2 x4_1).f1) < x1298003_1 then ((rd_T54 l0_2 x4_1).f1) else x1298003_1) = ji25 := hji25
    have H' := Aside0.mk H
    clear H
    have hnb26 := NB1290_1291.out
    have hnc26 := NB1291_1290.out
    have hnb27 := NB1290_1297.out
    have hnc27 := NB1297_1290.out
    obtain ⟨hcz28_0, hcz28_1, hcz28_2, hfz28_0, hfz28_1, hfz28_2⟩ := x6 BK1290
    try go_wp2
    replace BK1290 := xD BK1290
    replace BK1291 := xD BK1291
    replace BK1297 := xD BK1297
    replace HB := xW HB
    obtain ⟨p1298, q1298, ad1298, e1298, hx1298_0, hx1298_1, hx1298_2, hx1298_3⟩ := xA (at_T54 HR0_2.out x4_1)
    have hw1298_3 := hx1298_3
    have hw1298_2 := hx1298_2
    have hw1298_1 := hx1298_1
    have hw1298_0 := hx1298_0
    obtain rfl : ad1292 = ad1298 := (by injection e1298)
    (try replace hx1298_0 := xcl HB hx1298_0)
    (try replace hx1298_1 := xcl HB hx1298_1)
    (try replace hx1298_2 := xcl HB hx1298_2)
    (try replace hx1298_3 := xcl HB hx1298_3)
    refine start_ (n := 11) (S := fun w' => w'.cell? ⟨gb1297, 0, none⟩ = some (.bool x1298000_1) ∧ w'.cell? ⟨gb1297, 1, none⟩ = some (.string x1298001_1) ∧ w'.cell? ⟨gb1297, 2, none⟩ = some (.string x1298002_1) ∧ w'.cell? ⟨gb1297, 3, none⟩ = some (.int .i64 x1298003_1) ∧ w'.cell? ⟨gb1290, 0, none⟩ = some (.int .i64 a0_0) ∧ w'.cell? ⟨gb1290, 1, none⟩ = some (.int .i64 a0_1) ∧ w'.cell? ⟨gb1290, 2, none⟩ = some (.slice (some ad1292) l0_2.length c0_2) ∧ w'.cell? (ad1292.add ((x4_1).toNat * 4)) = some (.bool ((rd_T54 l0_2 x4_1).f0.f0)) ∧ w'.cell? ⟨(ad1292.add ((x4_1).toNat * 4)).block, (ad1292.add ((x4_1).toNat * 4)).off + 1, none⟩ = some (.string ((rd_T54 l0_2 x4_1).f0.f1)) ∧ w'.cell? ⟨(ad1292.add ((x4_1).toNat * 4)).block, (ad1292.add ((x4_1).toNat * 4)).off + 2, none⟩ = some (.string ((rd_T54 l0_2 x4_1).f0.f2)) ∧ w'.cell? ⟨(ad1292.add ((x4_1).toNat * 4)).block, (ad1292.add ((x4_1).toNat * 4)).off + 3, none⟩ = some (.int .i64 ((rd_T54 l0_2 x4_1).f1))) (ds := [10]) (b 11 0) (by kernel_rfl) rfl rfl ⟨(blk_cell BK1297.out 0).trans rfl, (blk_cell BK1297.out 1).trans rfl, (blk_cell BK1297.out 2).trans rfl, (blk_cell BK1297.out 3).trans rfl, (blk_cell BK1290.out 0).trans rfl, (blk_cell BK1290.out 1).trans rfl, (blk_cell BK1290.out 2).trans rfl, ((HB.out.cell (World.block_lt_of_cell? w _ hw1298_0)).trans hw1298_0), ((HB.out.cell (World.block_lt_of_cell? w _ hw1298_1)).trans hw1298_1), ((HB.out.cell (World.block_lt_of_cell? w _ hw1298_2)).trans hw1298_2), ((HB.out.cell (World.block_lt_of_cell? w _ hw1298_3)).trans hw1298_3)⟩ (fun hHeld => ?_); refine with_tabW iq_Greatest.tab7 iq_Greatest.bits7 (fun HT_ HW_ => ?_)
    generalize wr.drew = w29 at BK1290 BK1291 BK1297 HB hx1298_0 hx1298_1 hx1298_2 hx1298_3 hHeld ⊢
    refine yP 0 (some 29) (b 11 1) ?_
    refine yP 2 (some 31) (b 11 5) ?_
    refine yP 4 (some 33) (b 11 21) ?_
    refine yT 1 (some 30) (b 11 23) hHeld ?_
    refine yT 3 (some 32) (b 11 31) hHeld ?_
    refine yP 5 (some 34) (b 11 63) ?_
    refine yP 6 (some 35) (b 11 127) ?_
    refine yT 7 (some 36) (b 11 255) hHeld ?_
    refine yO 8 (some 37) (b 11 511) fun K hK => ?_
    refine xc Tryd.func58 (ir_Max.calls k1 x1298000_1 x1298001_1 x1298002_1 ((rd_T54 l0_2 x4_1).f0.f0) ((rd_T54 l0_2 x4_1).f0.f1) ((rd_T54 l0_2 x4_1).f0.f2) t1299 t1300 t1301 _ A24.out) ?_
    rintro w30 hb
    replace BK1290 := xB BK1290 hb
    replace BK1291 := xB BK1291 hb
    replace BK1297 := xB BK1297 hb
    replace HB := xS HB hb
    clear hb
    refine hK.out _ _ ⟨(blk_cell BK1297.out 0).trans rfl, (blk_cell BK1297.out 1).trans rfl, (blk_cell BK1297.out 2).trans rfl, (blk_cell BK1297.out 3).trans rfl, (blk_cell BK1290.out 0).trans rfl, (blk_cell BK1290.out 1).trans rfl, (blk_cell BK1290.out 2).trans rfl, ((HB.out.cell (World.block_lt_of_cell? w _ hw1298_0)).trans hw1298_0), ((HB.out.cell (World.block_lt_of_cell? w _ hw1298_1)).trans hw1298_1), ((HB.out.cell (World.block_lt_of_cell? w _ hw1298_2)).trans hw1298_2), ((HB.out.cell (World.block_lt_of_cell? w _ hw1298_3)).trans hw1298_3)⟩ (fun hHeld => ?_)
    clear hK K
    refine xN 37 ?_
    refine yP 9 (some 38) (b 11 1023) ?_
    refine yZ 10 none (b 11 2047) fun K hK => ?_
    have hs31 : w30.cell? ⟨gb1297, 0, none⟩ = some (.bool x1298000_1) := (blk_cell BK1297.out 0).trans rfl
    have hfs31 := blk_frozen BK1297.out 0
    have hns31_0 := NB1290_1297.out
    have hns31_1 := NB1291_1297.out
    have hms31_0 := NB1297_1290.out
    have hms31_1 := NB1297_1291.out
    have hs32 : w30.cell? ⟨gb1297, 1, none⟩ = some (.string x1298001_1) := (blk_cell BK1297.out 1).trans rfl
    have hfs32 := blk_frozen BK1297.out 1
    have hns32_0 := NB1290_1297.out
    have hns32_1 := NB1291_1297.out
    have hms32_0 := NB1297_1290.out
    have hms32_1 := NB1297_1291.out
    have hs33 : w30.cell? ⟨gb1297, 2, none⟩ = some (.string x1298002_1) := (blk_cell BK1297.out 2).trans rfl
    have hfs33 := blk_frozen BK1297.out 2
    have hns33_0 := NB1290_1297.out
    have hns33_1 := NB1291_1297.out
    have hms33_0 := NB1297_1290.out
    have hms33_1 := NB1297_1291.out
    refine xk ?_
    refine hK.out _ _ ?_
    clear hK K
    refine done_ (done_of HT_.out (by kernel_rfl)) ?_
    try go_wp2
    have n0_ : Aside0 ((((w30.setCell ⟨gb1297, 0, none⟩ (.bool t1299)).setCell ⟨gb1297, 1, none⟩ (.string t1300)).setCell ⟨gb1297, 2, none⟩ (.string t1301)).heap[gb1290]? = some (.cells #[.int .i64 a0_0, .int .i64 a0_1, .slice (some ad1292) l0_2.length c0_2] 50 (0, 0))) := ⟨xb BK1290⟩
    have n1_ : Aside0 ((((w30.setCell ⟨gb1297, 0, none⟩ (.bool t1299)).setCell ⟨gb1297, 1, none⟩ (.string t1300)).setCell ⟨gb1297, 2, none⟩ (.string t1301)).heap[gb1291]? = some (.cells #[.bool false, .string (⟨#[]⟩ : ByteArray), .string (⟨#[]⟩ : ByteArray), .int .i64 0] 54 (0, 0))) := ⟨xb BK1291⟩
    have n2_ : Aside0 ((((w30.setCell ⟨gb1297, 0, none⟩ (.bool t1299)).setCell ⟨gb1297, 1, none⟩ (.string t1300)).setCell ⟨gb1297, 2, none⟩ (.string t1301)).heap[gb1297]? = some (.cells #[.bool t1299, .string t1300, .string t1301, .int .i64 x1298003_1] 54 (0, 0))) := ⟨xp BK1297⟩
    have n3_ : Aside0 (Below w.heap.size w (((w30.setCell ⟨gb1297, 0, none⟩ (.bool t1299)).setCell ⟨gb1297, 1, none⟩ (.string t1300)).setCell ⟨gb1297, 2, none⟩ (.string t1301))) := ⟨xs HB⟩
    clear BK1290 BK1291 BK1297 HB
    generalize (((w30.setCell ⟨gb1297, 0, none⟩ (.bool t1299)).setCell ⟨gb1297, 1, none⟩ (.string t1300)).setCell ⟨gb1297, 2, none⟩ (.string t1301)) = w34 at n0_ n1_ n2_ n3_ ⊢
    have BK1290 := n0_
    have BK1291 := n1_
    have BK1297 := n2_
    have HB := n3_
    clear n0_ n1_ n2_ n3_
    replace BK1290 := xD BK1290
    replace BK1291 := xD BK1291
    replace BK1297 := xD BK1297
    replace HB := xW HB
    obtain ⟨p1302, q1302, ad1302, e1302, hx1302_0, hx1302_1, hx1302_2, hx1302_3⟩ := xA (at_T54 HR0_2.out x4_1)
    have hw1302_3 := hx1302_3
    have hw1302_2 := hx1302_2
    have hw1302_1 := hx1302_1
    have hw1302_0 := hx1302_0
    obtain rfl : ad1292 = ad1302 := (by injection e1302)
    (try replace hx1302_0 := xcl HB hx1302_0)
    (try replace hx1302_1 := xcl HB hx1302_1)
    (try replace hx1302_2 := xcl HB hx1302_2)
    (try replace hx1302_3 := xcl HB hx1302_3)
    refine start_ (n := 11) (S := fun w' => w'.cell? ⟨gb1297, 0, none⟩ = some (.bool t1299) ∧ w'.cell? ⟨gb1297, 1, none⟩ = some (.string t1300) ∧ w'.cell? ⟨gb1297, 2, none⟩ = some (.string t1301) ∧ w'.cell? ⟨gb1297, 3, none⟩ = some (.int .i64 x1298003_1) ∧ w'.cell? ⟨gb1290, 0, none⟩ = some (.int .i64 a0_0) ∧ w'.cell? ⟨gb1290, 1, none⟩ = some (.int .i64 a0_1) ∧ w'.cell? ⟨gb1290, 2, none⟩ = some (.slice (some ad1292) l0_2.length c0_2) ∧ w'.cell? (ad1292.add ((x4_1).toNat * 4)) = some (.bool ((rd_T54 l0_2 x4_1).f0.f0)) ∧ w'.cell? ⟨(ad1292.add ((x4_1).toNat * 4)).block, (ad1292.add ((x4_1).toNat * 4)).off + 1, none⟩ = some (.string ((rd_T54 l0_2 x4_1).f0.f1)) ∧ w'.cell? ⟨(ad1292.add ((x4_1).toNat * 4)).block, (ad1292.add ((x4_1).toNat * 4)).off + 2, none⟩ = some (.string ((rd_T54 l0_2 x4_1).f0.f2)) ∧ w'.cell? ⟨(ad1292.add ((x4_1).toNat * 4)).block, (ad1292.add ((x4_1).toNat * 4)).off + 3, none⟩ = some (.int .i64 ((rd_T54 l0_2 x4_1).f1))) (ds := [10]) (b 11 0) (by kernel_rfl) rfl rfl ⟨(blk_cell BK1297.out 0).trans rfl, (blk_cell BK1297.out 1).trans rfl, (blk_cell BK1297.out 2).trans rfl, (blk_cell BK1297.out 3).trans rfl, (blk_cell BK1290.out 0).trans rfl, (blk_cell BK1290.out 1).trans rfl, (blk_cell BK1290.out 2).trans rfl, ((HB.out.cell (World.block_lt_of_cell? w _ hw1302_0)).trans hw1302_0), ((HB.out.cell (World.block_lt_of_cell? w _ hw1302_1)).trans hw1302_1), ((HB.out.cell (World.block_lt_of_cell? w _ hw1302_2)).trans hw1302_2), ((HB.out.cell (World.block_lt_of_cell? w _ hw1302_3)).trans hw1302_3)⟩ (fun hHeld => ?_); refine with_tabW iq_Greatest.tab8 iq_Greatest.bits8 (fun HT_ HW_ => ?_)
    generalize w34.drew = w35 at BK1290 BK1291 BK1297 HB hx1302_0 hx1302_1 hx1302_2 hx1302_3 hHeld ⊢
    refine yP 0 (some 39) (b 11 1) ?_
    refine yP 2 (some 41) (b 11 5) ?_
    refine yP 4 (some 43) (b 11 21) ?_
    refine yT 1 (some 40) (b 11 23) hHeld ?_
    refine yT 3 (some 42) (b 11 31) hHeld ?_
    refine yP 5 (some 44) (b 11 63) ?_
    refine yP 6 (some 45) (b 11 127) ?_
    refine yT 7 (some 46) (b 11 255) hHeld ?_
    refine yP 8 (some 47) (b 11 511) ?_
    refine yP 9 (some 48) (b 11 1023) ?_
    refine yZ 10 none (b 11 2047) fun K hK => ?_
    have hs36 : w35.cell? ⟨gb1297, 3, none⟩ = some (.int .i64 x1298003_1) := (blk_cell BK1297.out 3).trans rfl
    have hfs36 := blk_frozen BK1297.out 3
    have hns36_0 := NB1290_1297.out
    have hns36_1 := NB1291_1297.out
    have hms36_0 := NB1297_1290.out
    have hms36_1 := NB1297_1291.out
    refine xk ?_
    refine hK.out _ _ ?_
    clear hK K
    refine done_ (done_of HT_.out (by kernel_rfl)) ?_
    try go_wp2
    go_roundg k1
    case measure => have := HK1.out; omega
    case rel => exact ⟨(wrap64 (x4_1 + 1)), (t1299), (t1300), (t1301), (ji25), xz, H', ⟨by have := HK1.out; omega⟩, ⟨xb BK1290⟩, ⟨xb BK1291⟩, ⟨by refine blk_put (cs := #[.bool t1299, .string t1300, .string t1301, .int .i64 x1298003_1]) ?_ 3 _ (by rfl); exact BK1297.out⟩, ⟨xs HB⟩⟩
   simp only [Option.some.injEq, Prod.mk.injEq] at H
   obtain ⟨rfl, rfl, rfl, rfl⟩ := H
   have hnb37 := NB1290_1291.out
   have hnc37 := NB1291_1290.out
   have hnb38 := NB1290_1297.out
   have hnc38 := NB1297_1290.out
   obtain ⟨hcz39_0, hcz39_1, hcz39_2, hfz39_0, hfz39_1, hfz39_2⟩ := x6 BK1290
   have hnb40 := NB1297_1291.out
   have hnc40 := NB1291_1297.out
   have hcz41_0 : wr.cell? ⟨gb1297, 0, none⟩ = some (.bool x1298000_1) := (blk_cell BK1297.out 0).trans rfl
   have hcz41_1 : wr.cell? ⟨gb1297, 1, none⟩ = some (.string x1298001_1) := (blk_cell BK1297.out 1).trans rfl
   have hcz41_2 : wr.cell? ⟨gb1297, 2, none⟩ = some (.string x1298002_1) := (blk_cell BK1297.out 2).trans rfl
   have hcz41_3 : wr.cell? ⟨gb1297, 3, none⟩ = some (.int .i64 x1298003_1) := (blk_cell BK1297.out 3).trans rfl
   have hfz41_0 := blk_frozen BK1297.out 0
   have hfz41_1 := blk_frozen BK1297.out 1
   have hfz41_2 := blk_frozen BK1297.out 2
   have hfz41_3 := blk_frozen BK1297.out 3
   have hcz42_0 : wr.cell? ⟨gb1291, 0, none⟩ = some (.bool false) := (blk_cell BK1291.out 0).trans rfl
   have hcz42_1 : wr.cell? ⟨gb1291, 1, none⟩ = some (.string (⟨#[]⟩ : ByteArray)) := (blk_cell BK1291.out 1).trans rfl
   have hcz42_2 : wr.cell? ⟨gb1291, 2, none⟩ = some (.string (⟨#[]⟩ : ByteArray)) := (blk_cell BK1291.out 2).trans rfl
   have hcz42_3 : wr.cell? ⟨gb1291, 3, none⟩ = some (.int .i64 0) := (blk_cell BK1291.out 3).trans rfl
   have hfz42_0 := blk_frozen BK1291.out 0
   have hfz42_1 := blk_frozen BK1291.out 1
   have hfz42_2 := blk_frozen BK1291.out 2
   have hfz42_3 := blk_frozen BK1291.out 3
   go_wp2
   refine bodyPost_ret (results_cell_row rfl _ _ gb1291 54 #[.bool x1298000_1, .string x1298001_1, .string x1298002_1, .int .i64 x1298003_1] (0, 0) _ rfl (xp BK1291) Tryd.underlying54 rfl (by kernel_rfl)) rfl ?_
   exact ⟨xy, xs HB⟩
/-! ### dp_Certain: function 32 -/
def dp_Certain.l0 : Nat → List (S54) → Int → Int → Int → Int → List (S54) → Bool → ByteArray → ByteArray → Option (Bool × ByteArray × ByteArray)
 | 0, _, _, _, _, _, _, _, _, _ => none
 | k + 1, x7, x8, x9, x1304000, x1304001, x1304002, x1306000, x1306001, x1306002 => if x9 < x8 then (if 0 ≤ x9 then (if x9 < (x7.length : Int) then (if 0 < (x1304002.length : Int) then (if ((rd_T54 x7 x9).f1) = ((rd_T54 x1304002 0).f1) then (if x9 = 0 then ((dp_clean.f k ((rd_T54 x7 x9).f0.f0) ((rd_T54 x7 x9).f0.f1) ((rd_T54 x7 x9).f0.f2)).bind fun bt1309 => (dp_Certain.l0 k x7 x8 (wrap64 (x9 + 1)) x1304000 x1304001 x1304002 bt1309.1 bt1309.2.1 bt1309.2.2)) else ((rt_Min.f k x1306000 x1306001 x1306002 ((rd_T54 x7 x9).f0.f0) ((rd_T54 x7 x9).f0.f1) ((rd_T54 x7 x9).f0.f2)).bind fun bt1312 => (dp_Certain.l0 k x7 x8 (wrap64 (x9 + 1)) x1304000 x1304001 x1304002 bt1312.1 bt1312.2.1 bt1312.2.2))) else (some (false, (⟨#[]⟩ : ByteArray), (⟨#[]⟩ : ByteArray)))) else (none)) else (none)) else (none)) else (some (x1306000, x1306001, x1306002))
def dp_Certain.f (k : Nat) (a0_0 : Int) (a0_1 : Int) (l0_2 : List (S54)) : Option (Bool × ByteArray × ByteArray) := dp_Certain.l0 k l0_2 (l0_2.length : Int) 0 a0_0 a0_1 l0_2 false (⟨#[]⟩ : ByteArray) (⟨#[]⟩ : ByteArray)
theorem dp_Certain.mono_l : ∀ k, (∀ y0 y1 y2 y3 y4 y5 y6 y7 y8, LeO (dp_Certain.l0 k y0 y1 y2 y3 y4 y5 y6 y7 y8) (dp_Certain.l0 (k + 1) y0 y1 y2 y3 y4 y5 y6 y7 y8))
 | 0 => fun _ _ _ _ _ _ _ _ _ r h => by simp [dp_Certain.l0] at h
 | k + 1 => by
  have ih0 := dp_Certain.mono_l k
  ·intro y0 y1 y2 y3 y4 y5 y6 y7 y8
   unfold dp_Certain.l0
   have m0 := @ih0; have m1 := @dp_clean.mono; have m2 := @rt_Min.mono; exact xM
theorem dp_Certain.mono : ∀ a0 a1 a2 k, LeO (dp_Certain.f k a0 a1 a2) (dp_Certain.f (k + 1) a0 a1 a2) := by
 intro a0 a1 a2 k
 have ih0 := dp_Certain.mono_l k
 unfold dp_Certain.f
 have m0 := @ih0; have m1 := @dp_clean.mono; have m2 := @rt_Min.mono; exact xM
theorem dp_Certain.calls (k : Nat) (a0_0 : Int) (a0_1 : Int) (A0_2 : Option Addr) (c0_2 : Nat) (l0_2 : List (S54)) (r1 : Bool) (r2 : ByteArray) (r3 : ByteArray) (w : World) (hr0_2 : Kd.C k54 w A0_2 l0_2.length l0_2) (hc0_2 : l0_2.length ≤ c0_2) (h : dp_Certain.f k a0_0 a0_1 l0_2 = some (r1, r2, r3)) :
  Calls Tryd.prog 32 #[.agg #[.int .i64 a0_0, .int .i64 a0_1, .slice A0_2 l0_2.length c0_2]] w fun e w' => e = .returned (.agg #[.bool r1, .string r2, .string r3]) ∧ Below w.heap.size w w' := by
 have hu50 := Tryd.underlying50
 have hu25 := Tryd.underlying25
 have hu54 := Tryd.underlying54
 have HR0_2 := Aside0.mk hr0_2
 have HC0_2 := Aside0.mk hc0_2
 clear hr0_2 hc0_2
 have HB := Aside0.mk (Below.refl w.heap.size w)
 have H := h; clear h
 unfold dp_Certain.f at H
 have H' := Aside0.mk H
 clear H
 go_enter Tryd.func32, Tryd.ntmps32
 go_wp2_with (first | (refine xF (N := 1) #[.int .i64 a0_0, .int .i64 a0_1, .slice A0_2 l0_2.length c0_2] 50 HB ?_; clear HB; intro gb1303 hg w2 hb BK1303 GW1303 HB; clear hb hg) | (refine xF (N := 2) #[.bool false, .string (⟨#[]⟩ : ByteArray), .string (⟨#[]⟩ : ByteArray)] 25 HB ?_; clear HB; intro gb1304 hg w3 hb BK1304 GW1304 HB; have NB1303_1304 := xL BK1303 hg; have NB1304_1303 := xR BK1303 hg; replace BK1303 := xB BK1303 hb; clear hb hg) | (refine xF (N := 3) #[.bool false, .string (⟨#[]⟩ : ByteArray), .string (⟨#[]⟩ : ByteArray)] 25 HB ?_; clear HB; intro gb1305 hg w4 hb BK1305 GW1305 HB; have NB1303_1305 := xL BK1303 hg; have NB1305_1303 := xR BK1303 hg; replace BK1303 := xB BK1303 hb; have NB1304_1305 := xL BK1304 hg; have NB1305_1304 := xR BK1304 hg; replace BK1304 := xB BK1304 hb; clear hb hg; have hnb5 := NB1303_1304.out; have hnc5 := NB1304_1303.out; have hnb6 := NB1303_1305.out; have hnc6 := NB1305_1303.out; obtain ⟨hcz7_0, hcz7_1, hcz7_2, hfz7_0, hfz7_1, hfz7_2⟩ := x6 BK1303))
 repeat (go_quiet (first | ((with_reducible refine gate_dst (N := 1) rfl ?_); refine box_event ?hg (N := 1) ?hd (cs := #[.int .i64 a0_0, .int .i64 a0_1, .slice A0_2 l0_2.length c0_2]) (t := 50) ?hr ?_; (case hd => rfl); (case hg => rfl); (case hr => first | (go_simp; done) | (go_simp; rfl)); intro gb1303 hg w2 hbox hb; have n0_ := xS HB hb; have n1_ := Aside0.mk (hbox); have n2_ := (xG HB hg); have n3_ := (xG HB hg); clear HB; have HB := n0_; have BK1303 := n1_; have GW1303 := n2_; have GE1303 := n3_; clear n0_ n1_ n2_ n3_; clear hb hbox hg) | ((with_reducible refine gate_dst (N := 2) rfl ?_); refine box_event ?hg (N := 2) ?hd (cs := #[.bool false, .string (⟨#[]⟩ : ByteArray), .string (⟨#[]⟩ : ByteArray)]) (t := 25) ?hr ?_; (case hd => rfl); (case hg => rfl); (case hr => first | (go_simp; done) | (go_simp; rfl)); intro gb1304 hg w3 hbox hb; have n0_ := xB BK1303 hb; have n1_ := xS HB hb; have n2_ := Aside0.mk (hbox); have n3_ := (xG HB hg); have n4_ := (xG HB hg); have n5_ := xL BK1303 hg; have n6_ := xR BK1303 hg; clear BK1303; clear HB; have BK1303 := n0_; have HB := n1_; have BK1304 := n2_; have GW1304 := n3_; have GE1304 := n4_; have NB1303_1304 := n5_; have NB1304_1303 := n6_; clear n0_ n1_ n2_ n3_ n4_ n5_ n6_; clear hb hbox hg) | ((with_reducible refine gate_dst (N := 3) rfl ?_); refine box_event ?hg (N := 3) ?hd (cs := #[.bool false, .string (⟨#[]⟩ : ByteArray), .string (⟨#[]⟩ : ByteArray)]) (t := 25) ?hr ?_; (case hd => rfl); (case hg => rfl); (case hr => first | (go_simp; done) | (go_simp; rfl)); intro gb1305 hg w4 hbox hb; have n0_ := xB BK1303 hb; have n1_ := xB BK1304 hb; have n2_ := xS HB hb; have n3_ := Aside0.mk (hbox); have n4_ := (xG HB hg); have n5_ := (xG HB hg); have n6_ := xL BK1303 hg; have n7_ := xR BK1303 hg; have n8_ := xL BK1304 hg; have n9_ := xR BK1304 hg; clear BK1303; clear BK1304; clear HB; have BK1303 := n0_; have BK1304 := n1_; have HB := n2_; have BK1305 := n3_; have GW1305 := n4_; have GE1305 := n5_; have NB1303_1305 := n6_; have NB1305_1303 := n7_; have NB1304_1305 := n8_; have NB1305_1304 := n9_; clear n0_ n1_ n2_ n3_ n4_ n5_ n6_ n7_ n8_ n9_; clear hb hbox hg; have hnb5 := NB1303_1304.out; have hnc5 := NB1304_1303.out; have hnb6 := NB1303_1305.out; have hnc6 := NB1305_1303.out; have hcz7_0 : w4.cell? ⟨gb1303, 0, none⟩ = some (.int .i64 a0_0) := (blk_cell BK1303.out 0).trans rfl; have hcz7_1 : w4.cell? ⟨gb1303, 1, none⟩ = some (.int .i64 a0_1) := (blk_cell BK1303.out 1).trans rfl; have hcz7_2 : w4.cell? ⟨gb1303, 2, none⟩ = some (.slice A0_2 l0_2.length c0_2) := (blk_cell BK1303.out 2).trans rfl; have hfz7_0 := blk_frozen BK1303.out 0; have hfz7_1 := blk_frozen BK1303.out 1; have hfz7_2 := blk_frozen BK1303.out 2)); try go_wp2_with (first | (refine xF (N := 1) #[.int .i64 a0_0, .int .i64 a0_1, .slice A0_2 l0_2.length c0_2] 50 HB ?_; clear HB; intro gb1303 hg w2 hb BK1303 GW1303 HB; clear hb hg) | (refine xF (N := 2) #[.bool false, .string (⟨#[]⟩ : ByteArray), .string (⟨#[]⟩ : ByteArray)] 25 HB ?_; clear HB; intro gb1304 hg w3 hb BK1304 GW1304 HB; have NB1303_1304 := xL BK1303 hg; have NB1304_1303 := xR BK1303 hg; replace BK1303 := xB BK1303 hb; clear hb hg) | (refine xF (N := 3) #[.bool false, .string (⟨#[]⟩ : ByteArray), .string (⟨#[]⟩ : ByteArray)] 25 HB ?_; clear HB; intro gb1305 hg w4 hb BK1305 GW1305 HB; have NB1303_1305 := xL BK1303 hg; have NB1305_1303 := xR BK1303 hg; replace BK1303 := xB BK1303 hb; have NB1304_1305 := xL BK1304 hg; have NB1305_1304 := xR BK1304 hg; replace BK1304 := xB BK1304 hb; clear hb hg; have hnb5 := NB1303_1304.out; have hnc5 := NB1304_1303.out; have hnb6 := NB1303_1305.out; have hnc6 := NB1305_1303.out; obtain ⟨hcz7_0, hcz7_1, hcz7_2, hfz7_0, hfz7_1, hfz7_2⟩ := x6 BK1303)))
 go_loopg [9] k (fun kq v9 w' => ∃ (x9_1 : Int) (x1305000_1 : Bool) (x1305001_1 : ByteArray) (x1305002_1 : ByteArray) (x1306000_1 : Bool) (x1306001_1 : ByteArray) (x1306002_1 : ByteArray), v9 = .int .i64 x9_1 ∧ Aside0 (dp_Certain.l0 kq l0_2 (l0_2.length : Int) x9_1 a0_0 a0_1 l0_2 x1306000_1 x1306001_1 x1306002_1 = some (r1, r2, r3)) ∧ Aside0 (kq ≤ k) ∧ Aside0 (w'.heap[gb1303]? = some (.cells #[.int .i64 a0_0, .int .i64 a0_1, (.slice A0_2 l0_2.length c0_2)] 50 (0, 0))) ∧ Aside0 (w'.heap[gb1304]? = some (.cells #[.bool x1305000_1, .string x1305001_1, .string x1305002_1] 25 (0, 0))) ∧ Aside0 (w'.heap[gb1305]? = some (.cells #[.bool x1306000_1, .string x1306001_1, .string x1306002_1] 25 (0, 0))) ∧ Aside0 (Below w.heap.size w w'))
 case atStart => exact ⟨(0), (false), (⟨#[]⟩ : ByteArray), (⟨#[]⟩ : ByteArray), (false), (⟨#[]⟩ : ByteArray), (⟨#[]⟩ : ByteArray), xz, H', ⟨Nat.le_refl _⟩, ⟨xb BK1303⟩, ⟨xb BK1304⟩, ⟨xb BK1305⟩, ⟨xs HB⟩⟩
 case round =>
  clear H'
  clear hcz7_0 hcz7_1 hcz7_2 hfz7_0 hfz7_1 hfz7_2
  obtain ⟨x9_1, x1305000_1, x1305001_1, x1305002_1, x1306000_1, x1306001_1, x1306002_1, rfl, HA, HK1, BK1303, BK1304, BK1305, HB⟩ := hrel
  cases gk with
  | zero => exact absurd HA.out (by simp [dp_Certain.l0])
  | succ k1 =>
   have H := HA.out
   clear HA
   simp only [dp_Certain.l0] at H
   obtain ⟨c8b0, H⟩ | ⟨c8b0, H⟩ := xOd H
   ·obtain ⟨c9b0, H⟩ := xQd H
    obtain ⟨c10b0, H⟩ := xQd H
    obtain ⟨c11, H⟩ := xQ H
    have c11b0 := decide_eq_true c11
    have c11b1 : decide (0 < l0_2.length) = true := decide_eq_true (by omega)
    clear c11
    obtain ⟨c12, H⟩ | ⟨c12, H⟩ := xO H
    ·have c12b0 := beq_iff_eq.mpr c12
     have c12b1 := bne_eq_false_iff_eq.mpr c12
     clear c12
     obtain ⟨c13, H⟩ | ⟨c13, H⟩ := xO H
     ·have c13b0 := beq_iff_eq.mpr c13
      have c13b1 := bne_eq_false_iff_eq.mpr c13
      clear c13
      replace H := xH H; obtain ⟨⟨t1309, t1310, t1311⟩, A14, H⟩ := H
      dsimp only at H
      have H' := Aside0.mk H
      clear H
      obtain ⟨p1306, q1306, ad1306, e1306, hx1306_0, hx1306_1, hx1306_2, hx1306_3⟩ := xA (at_T54 HR0_2.out x9_1)
      cases e1306
      (try replace hx1306_0 := xcl HB hx1306_0)
      (try replace hx1306_1 := xcl HB hx1306_1)
      (try replace hx1306_2 := xcl HB hx1306_2)
      (try replace hx1306_3 := xcl HB hx1306_3)
      go_wp2_with (refine xF (N := 5) #[.bool false, .string (⟨#[]⟩ : ByteArray), .string (⟨#[]⟩ : ByteArray), .int .i64 0] 54 HB ?_; clear HB; intro gb1307 hg w15 hb BK1307 GW1307 HB; have NB1303_1307 := xL BK1303 hg; have NB1307_1303 := xR BK1303 hg; replace BK1303 := xB BK1303 hb; have NB1304_1307 := xL BK1304 hg; have NB1307_1304 := xR BK1304 hg; replace BK1304 := xB BK1304 hb; have NB1305_1307 := xL BK1305 hg; have NB1307_1305 := xR BK1305 hg; replace BK1305 := xB BK1305 hb; clear hb hg; have hnb16 := NB1307_1303.out; have hnc16 := NB1303_1307.out; have hnb17 := NB1307_1304.out; have hnc17 := NB1304_1307.out; have hnb18 := NB1307_1305.out; have hnc18 := NB1305_1307.out; have hcz19_0 : w15.cell? ⟨gb1307, 0, none⟩ = some (.bool false) := (blk_cell BK1307.out 0).trans rfl; have hcz19_1 : w15.cell? ⟨gb1307, 1, none⟩ = some (.string (⟨#[]⟩ : ByteArray)) := (blk_cell BK1307.out 1).trans rfl; have hcz19_2 : w15.cell? ⟨gb1307, 2, none⟩ = some (.string (⟨#[]⟩ : ByteArray)) := (blk_cell BK1307.out 2).trans rfl; have hcz19_3 : w15.cell? ⟨gb1307, 3, none⟩ = some (.int .i64 0) := (blk_cell BK1307.out 3).trans rfl; have hfz19_0 := blk_frozen BK1307.out 0; have hfz19_1 := blk_frozen BK1307.out 1; have hfz19_2 := blk_frozen BK1307.out 2; have hfz19_3 := blk_frozen BK1307.out 3; have hnb20 := NB1303_1304.out; have hnc20 := NB1304_1303.out; have hnb21 := NB1303_1305.out; have hnc21 := NB1305_1303.out; obtain ⟨hcz22_0, hcz22_1, hcz22_2, hfz22_0, hfz22_1, hfz22_2⟩ := x6 BK1303; have p1308 : 0 ≤ (0 : Int) := (by omega); have q1308 : 0 < (l0_2.length : Int) := xa; obtain ⟨ad1308, e1308, hx1308_0, hx1308_1, hx1308_2, hx1308_3⟩ := at_T54 HR0_2.out 0 p1308 q1308; obtain rfl : ad1306 = ad1308 := (by injection e1308); have qi1308 : (0 < l0_2.length) = True := eq_true (by omega); (try rw [show (0 : Int).toNat = 0 from rfl] at hx1308_0); (try rw [show 0 * 4 = 0 from rfl] at hx1308_0); (try rw [Addr.add_zero'] at hx1308_0); (try rw [show (0 : Int).toNat = 0 from rfl] at hx1308_1); (try rw [show 0 * 4 = 0 from rfl] at hx1308_1); (try rw [Addr.add_zero'] at hx1308_1); (try rw [show (0 : Int).toNat = 0 from rfl] at hx1308_2); (try rw [show 0 * 4 = 0 from rfl] at hx1308_2); (try rw [Addr.add_zero'] at hx1308_2); (try rw [show (0 : Int).toNat = 0 from rfl] at hx1308_3); (try rw [show 0 * 4 = 0 from rfl] at hx1308_3); (try rw [Addr.add_zero'] at hx1308_3); have hn1308_0 : ad1306.block ≠ gb1307 := Nat.ne_of_lt (Nat.lt_of_lt_of_le (by have := World.block_lt_of_cell? _ _ hx1308_0; exact this) GW1307.out); have hn1308_1 : ad1306.block ≠ gb1307 := Nat.ne_of_lt (Nat.lt_of_lt_of_le (by have := World.block_lt_of_cell? _ _ hx1308_0; exact this) GW1307.out); have hn1308_2 : ad1306.block ≠ gb1307 := Nat.ne_of_lt (Nat.lt_of_lt_of_le (by have := World.block_lt_of_cell? _ _ hx1308_0; exact this) GW1307.out); have hn1308_3 : ad1306.block ≠ gb1307 := Nat.ne_of_lt (Nat.lt_of_lt_of_le (by have := World.block_lt_of_cell? _ _ hx1308_0; exact this) GW1307.out); replace hx1308_0 := (HB.out.cell (World.block_lt_of_cell? w _ hx1308_0)).trans hx1308_0; replace hx1308_1 := (HB.out.cell (World.block_lt_of_cell? w _ hx1308_1)).trans hx1308_1; replace hx1308_2 := (HB.out.cell (World.block_lt_of_cell? w _ hx1308_2)).trans hx1308_2; replace hx1308_3 := (HB.out.cell (World.block_lt_of_cell? w _ hx1308_3)).trans hx1308_3; replace hx1308_0 := (cell_far (p := ⟨gb1307, 0, none⟩) (by exact hn1308_0) (.bool ((rd_T54 l0_2 x9_1).f0.f0))).trans hx1308_0; replace hx1308_1 := (cell_far (p := ⟨gb1307, 0, none⟩) (by exact hn1308_0) (.bool ((rd_T54 l0_2 x9_1).f0.f0))).trans hx1308_1; replace hx1308_2 := (cell_far (p := ⟨gb1307, 0, none⟩) (by exact hn1308_0) (.bool ((rd_T54 l0_2 x9_1).f0.f0))).trans hx1308_2; replace hx1308_3 := (cell_far (p := ⟨gb1307, 0, none⟩) (by exact hn1308_0) (.bool ((rd_T54 l0_2 x9_1).f0.f0))).trans hx1308_3; replace hx1308_0 := (cell_far (p := ⟨gb1307, 1, none⟩) (by exact hn1308_1) (.string ((rd_T54 l0_2 x9_1).f0.f1))).trans hx1308_0; replace hx1308_1 := (cell_far (p := ⟨gb1307, 1, none⟩) (by exact hn1308_1) (.string ((rd_T54 l0_2 x9_1).f0.f1))).trans hx1308_1; replace hx1308_2 := (cell_far (p := ⟨gb1307, 1, none⟩) (by exact hn1308_1) (.string ((rd_T54 l0_2 x9_1).f0.f1))).trans hx1308_2; replace hx1308_3 := (cell_far (p := ⟨gb1307, 1, none⟩) (by exact hn1308_1) (.string ((rd_T54 l0_2 x9_1).f0.f1))).trans hx1308_3; replace hx1308_0 := (cell_far (p := ⟨gb1307, 2, none⟩) (by exact hn1308_2) (.string ((rd_T54 l0_2 x9_1).f0.f2))).trans hx1308_0; replace hx1308_1 := (cell_far (p := ⟨gb1307, 2, none⟩) (by exact hn1308_2) (.string ((rd_T54 l0_2 x9_1).f0.f2))).trans hx1308_1; replace hx1308_2 := (cell_far (p := ⟨gb1307, 2, none⟩) (by exact hn1308_2) (.string ((rd_T54 l0_2 x9_1).f0.f2))).trans hx1308_2; replace hx1308_3 := (cell_far (p := ⟨gb1307, 2, none⟩) (by exact hn1308_2) (.string ((rd_T54 l0_2 x9_1).f0.f2))).trans hx1308_3; replace hx1308_0 := (cell_far (p := ⟨gb1307, 3, none⟩) (by exact hn1308_3) (.int .i64 ((rd_T54 l0_2 x9_1).f1))).trans hx1308_0; replace hx1308_1 := (cell_far (p := ⟨gb1307, 3, none⟩) (by exact hn1308_3) (.int .i64 ((rd_T54 l0_2 x9_1).f1))).trans hx1308_1; replace hx1308_2 := (cell_far (p := ⟨gb1307, 3, none⟩) (by exact hn1308_3) (.int .i64 ((rd_T54 l0_2 x9_1).f1))).trans hx1308_2; replace hx1308_3 := (cell_far (p := ⟨gb1307, 3, none⟩) (by exact hn1308_3) (.int .i64 ((rd_T54 l0_2 x9_1).f1))).trans hx1308_3; (try have hy1308_0 := fun (n_ : Nat) => (show (((((w15.drewN n_).setCell ⟨gb1307, 0, none⟩ (.bool ((rd_T54 l0_2 x9_1).f0.f0))).setCell ⟨gb1307, 1, none⟩ (.string ((rd_T54 l0_2 x9_1).f0.f1))).setCell ⟨gb1307, 2, none⟩ (.string ((rd_T54 l0_2 x9_1).f0.f2))).setCell ⟨gb1307, 3, none⟩ (.int .i64 ((rd_T54 l0_2 x9_1).f1))).cell? _ = some _ from hx1308_0)); (try have hy1308_1 := fun (n_ : Nat) => (show (((((w15.drewN n_).setCell ⟨gb1307, 0, none⟩ (.bool ((rd_T54 l0_2 x9_1).f0.f0))).setCell ⟨gb1307, 1, none⟩ (.string ((rd_T54 l0_2 x9_1).f0.f1))).setCell ⟨gb1307, 2, none⟩ (.string ((rd_T54 l0_2 x9_1).f0.f2))).setCell ⟨gb1307, 3, none⟩ (.int .i64 ((rd_T54 l0_2 x9_1).f1))).cell? _ = some _ from hx1308_1)); (try have hy1308_2 := fun (n_ : Nat) => (show (((((w15.drewN n_).setCell ⟨gb1307, 0, none⟩ (.bool ((rd_T54 l0_2 x9_1).f0.f0))).setCell ⟨gb1307, 1, none⟩ (.string ((rd_T54 l0_2 x9_1).f0.f1))).setCell ⟨gb1307, 2, none⟩ (.string ((rd_T54 l0_2 x9_1).f0.f2))).setCell ⟨gb1307, 3, none⟩ (.int .i64 ((rd_T54 l0_2 x9_1).f1))).cell? _ = some _ from hx1308_2)); (try have hy1308_3 := fun (n_ : Nat) => (show (((((w15.drewN n_).setCell ⟨gb1307, 0, none⟩ (.bool ((rd_T54 l0_2 x9_1).f0.f0))).setCell ⟨gb1307, 1, none⟩ (.string ((rd_T54 l0_2 x9_1).f0.f1))).setCell ⟨gb1307, 2, none⟩ (.string ((rd_T54 l0_2 x9_1).f0.f2))).setCell ⟨gb1307, 3, none⟩ (.int .i64 ((rd_T54 l0_2 x9_1).f1))).cell? _ = some _ from hx1308_3)); clear hn1308_0 hn1308_1 hn1308_2 hn1308_3; replace p1308 := eq_true p1308; replace q1308 := eq_true q1308)
      repeat (go_quiet (first | ((with_reducible refine gate_dst (N := 5) rfl ?_); refine box_event ?hg (N := 5) ?hd (cs := #[.bool false, .string (⟨#[]⟩ : ByteArray), .string (⟨#[]⟩ : ByteArray), .int .i64 0]) (t := 54) ?hr ?_; (case hd => rfl); (case hg => rfl); (case hr => first | (go_simp; done) | (go_simp; rfl)); intro gb1307 hg w15 hbox hb; have n0_ := xB BK1303 hb; have n1_ := xB BK1304 hb; have n2_ := xB BK1305 hb; have n3_ := xS HB hb; have n4_ := Aside0.mk (hbox); have n5_ := (xG HB hg); have n6_ := (xG HB hg); have n7_ := xL BK1303 hg; have n8_ := xR BK1303 hg; have n9_ := xL BK1304 hg; have n10_ := xR BK1304 hg; have n11_ := xL BK1305 hg; have n12_ := xR BK1305 hg; clear BK1303; clear BK1304; clear BK1305; clear HB; have BK1303 := n0_; have BK1304 := n1_; have BK1305 := n2_; have HB := n3_; have BK1307 := n4_; have GW1307 := n5_; have GE1307 := n6_; have NB1303_1307 := n7_; have NB1307_1303 := n8_; have NB1304_1307 := n9_; have NB1307_1304 := n10_; have NB1305_1307 := n11_; have NB1307_1305 := n12_; clear n0_ n1_ n2_ n3_ n4_ n5_ n6_ n7_ n8_ n9_ n10_ n11_ n12_; clear hb hbox hg; have hnb16 := NB1307_1303.out; have hnc16 := NB1303_1307.out; have hnb17 := NB1307_1304.out; have hnc17 := NB1304_1307.out; have hnb18 := NB1307_1305.out; have hnc18 := NB1305_1307.out; have hcz19_0 : w15.cell? ⟨gb1307, 0, none⟩ = some (.bool false) := (blk_cell BK1307.out 0).trans rfl; have hcz19_1 : w15.cell? ⟨gb1307, 1, none⟩ = some (.string (⟨#[]⟩ : ByteArray)) := (blk_cell BK1307.out 1).trans rfl; have hcz19_2 : w15.cell? ⟨gb1307, 2, none⟩ = some (.string (⟨#[]⟩ : ByteArray)) := (blk_cell BK1307.out 2).trans rfl; have hcz19_3 : w15.cell? ⟨gb1307, 3, none⟩ = some (.int .i64 0) := (blk_cell BK1307.out 3).trans rfl; have hfz19_0 := blk_frozen BK1307.out 0; have hfz19_1 := blk_frozen BK1307.out 1; have hfz19_2 := blk_frozen BK1307.out 2; have hfz19_3 := blk_frozen BK1307.out 3; have hnb20 := NB1303_1304.out; have hnc20 := NB1304_1303.out; have hnb21 := NB1303_1305.out; have hnc21 := NB1305_1303.out; have hcz22_0 : w15.cell? ⟨gb1303, 0, none⟩ = some (.int .i64 a0_0) := (blk_cell BK1303.out 0).trans rfl; have hcz22_1 : w15.cell? ⟨gb1303, 1, none⟩ = some (.int .i64 a0_1) := (blk_cell BK1303.out 1).trans rfl; have hcz22_2 : w15.cell? ⟨gb1303, 2, none⟩ = some (.slice (some ad1306) l0_2.length c0_2) := (blk_cell BK1303.out 2).trans rfl; have hfz22_0 := blk_frozen BK1303.out 0; have hfz22_1 := blk_frozen BK1303.out 1; have hfz22_2 := blk_frozen BK1303.out 2; have p1308 : 0 ≤ (0 : Int) := (by omega); have q1308 : 0 < (l0_2.length : Int) := xa; obtain ⟨ad1308, e1308, hx1308_0, hx1308_1, hx1308_2, hx1308_3⟩ := at_T54 HR0_2.out 0 p1308 q1308; obtain rfl : ad1306 = ad1308 := (by injection e1308); have qi1308 : (0 < l0_2.length) = True := eq_true (by omega); have hn1308_0 : ad1306.block ≠ gb1307 := Nat.ne_of_lt (Nat.lt_of_lt_of_le (by have := World.block_lt_of_cell? _ _ hx1308_0; first | rwa [add_block] at this | exact this) GW1307.out); have hn1308_1 : ad1306.block ≠ gb1307 := Nat.ne_of_lt (Nat.lt_of_lt_of_le (by have := World.block_lt_of_cell? _ _ hx1308_0; first | rwa [add_block] at this | exact this) GW1307.out); have hn1308_2 : ad1306.block ≠ gb1307 := Nat.ne_of_lt (Nat.lt_of_lt_of_le (by have := World.block_lt_of_cell? _ _ hx1308_0; first | rwa [add_block] at this | exact this) GW1307.out); have hn1308_3 : ad1306.block ≠ gb1307 := Nat.ne_of_lt (Nat.lt_of_lt_of_le (by have := World.block_lt_of_cell? _ _ hx1308_0; first | rwa [add_block] at this | exact this) GW1307.out); replace hx1308_0 := (HB.out.cell (World.block_lt_of_cell? w _ hx1308_0)).trans hx1308_0; replace hx1308_1 := (HB.out.cell (World.block_lt_of_cell? w _ hx1308_1)).trans hx1308_1; replace hx1308_2 := (HB.out.cell (World.block_lt_of_cell? w _ hx1308_2)).trans hx1308_2; replace hx1308_3 := (HB.out.cell (World.block_lt_of_cell? w _ hx1308_3)).trans hx1308_3; replace hx1308_0 := (cell_far (p := ⟨gb1307, 0, none⟩) (by first | (rw [add_block]; exact hn1308_0) | (show (Addr.add _ _).block ≠ _; rw [add_block]; exact hn1308_0) | exact hn1308_0) (.bool ((rd_T54 l0_2 x9_1).f0.f0))).trans hx1308_0; replace hx1308_1 := (cell_far (p := ⟨gb1307, 0, none⟩) (by first | (rw [add_block]; exact hn1308_0) | (show (Addr.add _ _).block ≠ _; rw [add_block]; exact hn1308_0) | exact hn1308_0) (.bool ((rd_T54 l0_2 x9_1).f0.f0))).trans hx1308_1; replace hx1308_2 := (cell_far (p := ⟨gb1307, 0, none⟩) (by first | (rw [add_block]; exact hn1308_0) | (show (Addr.add _ _).block ≠ _; rw [add_block]; exact hn1308_0) | exact hn1308_0) (.bool ((rd_T54 l0_2 x9_1).f0.f0))).trans hx1308_2; replace hx1308_3 := (cell_far (p := ⟨gb1307, 0, none⟩) (by first | (rw [add_block]; exact hn1308_0) | (show (Addr.add _ _).block ≠ _; rw [add_block]; exact hn1308_0) | exact hn1308_0) (.bool ((rd_T54 l0_2 x9_1).f0.f0))).trans hx1308_3; replace hx1308_0 := (cell_far (p := ⟨gb1307, 1, none⟩) (by first | (rw [add_block]; exact hn1308_1) | (show (Addr.add _ _).block ≠ _; rw [add_block]; exact hn1308_1) | exact hn1308_1) (.string ((rd_T54 l0_2 x9_1).f0.f1))).trans hx1308_0; replace hx1308_1 := (cell_far (p := ⟨gb1307, 1, none⟩) (by first | (rw [add_block]; exact hn1308_1) | (show (Addr.add _ _).block ≠ _; rw [add_block]; exact hn1308_1) | exact hn1308_1) (.string ((rd_T54 l0_2 x9_1).f0.f1))).trans hx1308_1; replace hx1308_2 := (cell_far (p := ⟨gb1307, 1, none⟩) (by first | (rw [add_block]; exact hn1308_1) | (show (Addr.add _ _).block ≠ _; rw [add_block]; exact hn1308_1) | exact hn1308_1) (.string ((rd_T54 l0_2 x9_1).f0.f1))).trans hx1308_2; replace hx1308_3 := (cell_far (p := ⟨gb1307, 1, none⟩) (by first | (rw [add_block]; exact hn1308_1) | (show (Addr.add _ _).block ≠ _; rw [add_block]; exact hn1308_1) | exact hn1308_1) (.string ((rd_T54 l0_2 x9_1).f0.f1))).trans hx1308_3; replace hx1308_0 := (cell_far (p := ⟨gb1307, 2, none⟩) (by first | (rw [add_block]; exact hn1308_2) | (show (Addr.add _ _).block ≠ _; rw [add_block]; exact hn1308_2) | exact hn1308_2) (.string ((rd_T54 l0_2 x9_1).f0.f2))).trans hx1308_0; replace hx1308_1 := (cell_far (p := ⟨gb1307, 2, none⟩) (by first | (rw [add_block]; exact hn1308_2) | (show (Addr.add _ _).block ≠ _; rw [add_block]; exact hn1308_2) | exact hn1308_2) (.string ((rd_T54 l0_2 x9_1).f0.f2))).trans hx1308_1; replace hx1308_2 := (cell_far (p := ⟨gb1307, 2, none⟩) (by first | (rw [add_block]; exact hn1308_2) | (show (Addr.add _ _).block ≠ _; rw [add_block]; exact hn1308_2) | exact hn1308_2) (.string ((rd_T54 l0_2 x9_1).f0.f2))).trans hx1308_2; replace hx1308_3 := (cell_far (p := ⟨gb1307, 2, none⟩) (by first | (rw [add_block]; exact hn1308_2) | (show (Addr.add _ _).block ≠ _; rw [add_block]; exact hn1308_2) | exact hn1308_2) (.string ((rd_T54 l0_2 x9_1).f0.f2))).trans hx1308_3; replace hx1308_0 := (cell_far (p := ⟨gb1307, 3, none⟩) (by first | (rw [add_block]; exact hn1308_3) | (show (Addr.add _ _).block ≠ _; rw [add_block]; exact hn1308_3) | exact hn1308_3) (.int .i64 ((rd_T54 l0_2 x9_1).f1))).trans hx1308_0; replace hx1308_1 := (cell_far (p := ⟨gb1307, 3, none⟩) (by first | (rw [add_block]; exact hn1308_3) | (show (Addr.add _ _).block ≠ _; rw [add_block]; exact hn1308_3) | exact hn1308_3) (.int .i64 ((rd_T54 l0_2 x9_1).f1))).trans hx1308_1; replace hx1308_2 := (cell_far (p := ⟨gb1307, 3, none⟩) (by first | (rw [add_block]; exact hn1308_3) | (show (Addr.add _ _).block ≠ _; rw [add_block]; exact hn1308_3) | exact hn1308_3) (.int .i64 ((rd_T54 l0_2 x9_1).f1))).trans hx1308_2; replace hx1308_3 := (cell_far (p := ⟨gb1307, 3, none⟩) (by first | (rw [add_block]; exact hn1308_3) | (show (Addr.add _ _).block ≠ _; rw [add_block]; exact hn1308_3) | exact hn1308_3) (.int .i64 ((rd_T54 l0_2 x9_1).f1))).trans hx1308_3; clear hn1308_0; clear hn1308_1; clear hn1308_2; clear hn1308_3; replace p1308 := eq_true p1308; replace q1308 := eq_true q1308) | (go_at_call 55; (with_reducible refine (dp_clean.calls k1 ((rd_T54 l0_2 x9_1).f0.f0) ((rd_T54 l0_2 x9_1).f0.f1) ((rd_T54 l0_2 x9_1).f0.f2) t1309 t1310 t1311 _ A14.out).mono ?_); rintro e w23 ⟨rfl, hb⟩; have n0_ := xB BK1303 hb; have n1_ := xB BK1304 hb; have n2_ := xB BK1305 hb; have n3_ := Aside0.mk (blk_below (g := gb1307) (o := .cells #[.bool ((rd_T54 l0_2 x9_1).f0.f0), .string ((rd_T54 l0_2 x9_1).f0.f1), .string ((rd_T54 l0_2 x9_1).f0.f2), .int .i64 ((rd_T54 l0_2 x9_1).f1)] 54 (0, 0)) (xp BK1307) hb); have n4_ := xS HB hb; clear BK1303; clear BK1304; clear BK1305; clear BK1307; clear HB; have BK1303 := n0_; have BK1304 := n1_; have BK1305 := n2_; have BK1307 := n3_; have HB := n4_; clear n0_ n1_ n2_ n3_ n4_; have hnb24 := NB1305_1304.out; have hnc24 := NB1304_1305.out; have hcz25_0 : w23.cell? ⟨gb1305, 0, none⟩ = some (.bool x1306000_1) := (blk_cell BK1305.out 0).trans rfl; have hcz25_1 : w23.cell? ⟨gb1305, 1, none⟩ = some (.string x1306001_1) := (blk_cell BK1305.out 1).trans rfl; have hcz25_2 : w23.cell? ⟨gb1305, 2, none⟩ = some (.string x1306002_1) := (blk_cell BK1305.out 2).trans rfl; have hfz25_0 := blk_frozen BK1305.out 0; have hfz25_1 := blk_frozen BK1305.out 1; have hfz25_2 := blk_frozen BK1305.out 2)); try go_wp2_with (go_at_call 55; (with_reducible refine (dp_clean.calls k1 ((rd_T54 l0_2 x9_1).f0.f0) ((rd_T54 l0_2 x9_1).f0.f1) ((rd_T54 l0_2 x9_1).f0.f2) t1309 t1310 t1311 _ A14.out).mono ?_); rintro e w23 ⟨rfl, hb⟩; replace BK1303 := xB BK1303 hb; replace BK1304 := xB BK1304 hb; replace BK1305 := xB BK1305 hb; replace BK1307 := Aside0.mk (blk_below (g := gb1307) (o := .cells #[.bool ((rd_T54 l0_2 x9_1).f0.f0), .string ((rd_T54 l0_2 x9_1).f0.f1), .string ((rd_T54 l0_2 x9_1).f0.f2), .int .i64 ((rd_T54 l0_2 x9_1).f1)] 54 (0, 0)) (xp BK1307) hb); replace HB := xS HB hb; clear hb; have hnb24 := NB1305_1304.out; have hnc24 := NB1304_1305.out; obtain ⟨hcz25_0, hcz25_1, hcz25_2, hfz25_0, hfz25_1, hfz25_2⟩ := x6 BK1305))
      go_roundg k1
      case measure => have := HK1.out; omega
      case rel => exact ⟨(wrap64 (x9_1 + 1)), (x1305000_1), (x1305001_1), (x1305002_1), (t1309), (t1310), (t1311), xz, H', ⟨by have := HK1.out; omega⟩, ⟨xb BK1303⟩, ⟨xb BK1304⟩, ⟨by refine blk_put (cs := #[.bool t1309, .string t1310, .string x1306002_1]) ?_ 2 _ (by rfl); refine blk_put (cs := #[.bool t1309, .string x1306001_1, .string x1306002_1]) ?_ 1 _ (by rfl); refine blk_put (cs := #[.bool x1306000_1, .string x1306001_1, .string x1306002_1]) ?_ 0 _ (by rfl); exact BK1305.out⟩, ⟨xs HB⟩⟩
     have c13b0 := beq_eq_false_iff_ne.mpr c13
     have c13b1 := bne_iff_ne.mpr c13
     replace H := xH H; obtain ⟨⟨t1312, t1313, t1314⟩, A26, H⟩ := H
     dsimp only at H
     have H' := Aside0.mk H
     clear H
     obtain ⟨p1306, q1306, ad1306, e1306, hx1306_0, hx1306_1, hx1306_2, hx1306_3⟩ := xA (at_T54 HR0_2.out x9_1)
     cases e1306
     (try replace hx1306_0 := xcl HB hx1306_0)
     (try replace hx1306_1 := xcl HB hx1306_1)
     (try replace hx1306_2 := xcl HB hx1306_2)
     (try replace hx1306_3 := xcl HB hx1306_3)
     go_wp2_with (refine xF (N := 5) #[.bool false, .string (⟨#[]⟩ : ByteArray), .string (⟨#[]⟩ : ByteArray), .int .i64 0] 54 HB ?_; clear HB; intro gb1307 hg w27 hb BK1307 GW1307 HB; have NB1303_1307 := xL BK1303 hg; have NB1307_1303 := xR BK1303 hg; replace BK1303 := xB BK1303 hb; have NB1304_1307 := xL BK1304 hg; have NB1307_1304 := xR BK1304 hg; replace BK1304 := xB BK1304 hb; have NB1305_1307 := xL BK1305 hg; have NB1307_1305 := xR BK1305 hg; replace BK1305 := xB BK1305 hb; clear hb hg; have hnb28 := NB1307_1303.out; have hnc28 := NB1303_1307.out; have hnb29 := NB1307_1304.out; have hnc29 := NB1304_1307.out; have hnb30 := NB1307_1305.out; have hnc30 := NB1305_1307.out; have hcz31_0 : w27.cell? ⟨gb1307, 0, none⟩ = some (.bool false) := (blk_cell BK1307.out 0).trans rfl; have hcz31_1 : w27.cell? ⟨gb1307, 1, none⟩ = some (.string (⟨#[]⟩ : ByteArray)) := (blk_cell BK1307.out 1).trans rfl; have hcz31_2 : w27.cell? ⟨gb1307, 2, none⟩ = some (.string (⟨#[]⟩ : ByteArray)) := (blk_cell BK1307.out 2).trans rfl; have hcz31_3 : w27.cell? ⟨gb1307, 3, none⟩ = some (.int .i64 0) := (blk_cell BK1307.out 3).trans rfl; have hfz31_0 := blk_frozen BK1307.out 0; have hfz31_1 := blk_frozen BK1307.out 1; have hfz31_2 := blk_frozen BK1307.out 2; have hfz31_3 := blk_frozen BK1307.out 3; have hnb32 := NB1303_1304.out; have hnc32 := NB1304_1303.out; have hnb33 := NB1303_1305.out; have hnc33 := NB1305_1303.out; obtain ⟨hcz34_0, hcz34_1, hcz34_2, hfz34_0, hfz34_1, hfz34_2⟩ := x6 BK1303; have p1308 : 0 ≤ (0 : Int) := (by omega); have q1308 : 0 < (l0_2.length : Int) := xa; obtain ⟨ad1308, e1308, hx1308_0, hx1308_1, hx1308_2, hx1308_3⟩ := at_T54 HR0_2.out 0 p1308 q1308; obtain rfl : ad1306 = ad1308 := (by injection e1308); have qi1308 : (0 < l0_2.length) = True := eq_true (by omega); (try rw [show (0 : Int).toNat = 0 from rfl] at hx1308_0); (try rw [show 0 * 4 = 0 from rfl] at hx1308_0); (try rw [Addr.add_zero'] at hx1308_0); (try rw [show (0 : Int).toNat = 0 from rfl] at hx1308_1); (try rw [show 0 * 4 = 0 from rfl] at hx1308_1); (try rw [Addr.add_zero'] at hx1308_1); (try rw [show (0 : Int).toNat = 0 from rfl] at hx1308_2); (try rw [show 0 * 4 = 0 from rfl] at hx1308_2); (try rw [Addr.add_zero'] at hx1308_2); (try rw [show (0 : Int).toNat = 0 from rfl] at hx1308_3); (try rw [show 0 * 4 = 0 from rfl] at hx1308_3); (try rw [Addr.add_zero'] at hx1308_3); have hn1308_0 : ad1306.block ≠ gb1307 := Nat.ne_of_lt (Nat.lt_of_lt_of_le (by have := World.block_lt_of_cell? _ _ hx1308_0; exact this) GW1307.out); have hn1308_1 : ad1306.block ≠ gb1307 := Nat.ne_of_lt (Nat.lt_of_lt_of_le (by have := World.block_lt_of_cell? _ _ hx1308_0; exact this) GW1307.out); have hn1308_2 : ad1306.block ≠ gb1307 := Nat.ne_of_lt (Nat.lt_of_lt_of_le (by have := World.block_lt_of_cell? _ _ hx1308_0; exact this) GW1307.out); have hn1308_3 : ad1306.block ≠ gb1307 := Nat.ne_of_lt (Nat.lt_of_lt_of_le (by have := World.block_lt_of_cell? _ _ hx1308_0; exact this) GW1307.out); replace hx1308_0 := (HB.out.cell (World.block_lt_of_cell? w _ hx1308_0)).trans hx1308_0; replace hx1308_1 := (HB.out.cell (World.block_lt_of_cell? w _ hx1308_1)).trans hx1308_1; replace hx1308_2 := (HB.out.cell (World.block_lt_of_cell? w _ hx1308_2)).trans hx1308_2; replace hx1308_3 := (HB.out.cell (World.block_lt_of_cell? w _ hx1308_3)).trans hx1308_3; replace hx1308_0 := (cell_far (p := ⟨gb1307, 0, none⟩) (by exact hn1308_0) (.bool ((rd_T54 l0_2 x9_1).f0.f0))).trans hx1308_0; replace hx1308_1 := (cell_far (p := ⟨gb1307, 0, none⟩) (by exact hn1308_0) (.bool ((rd_T54 l0_2 x9_1).f0.f0))).trans hx1308_1; replace hx1308_2 := (cell_far (p := ⟨gb1307, 0, none⟩) (by exact hn1308_0) (.bool ((rd_T54 l0_2 x9_1).f0.f0))).trans hx1308_2; replace hx1308_3 := (cell_far (p := ⟨gb1307, 0, none⟩) (by exact hn1308_0) (.bool ((rd_T54 l0_2 x9_1).f0.f0))).trans hx1308_3; replace hx1308_0 := (cell_far (p := ⟨gb1307, 1, none⟩) (by exact hn1308_1) (.string ((rd_T54 l0_2 x9_1).f0.f1))).trans hx1308_0; replace hx1308_1 := (cell_far (p := ⟨gb1307, 1, none⟩) (by exact hn1308_1) (.string ((rd_T54 l0_2 x9_1).f0.f1))).trans hx1308_1; replace hx1308_2 := (cell_far (p := ⟨gb1307, 1, none⟩) (by exact hn1308_1) (.string ((rd_T54 l0_2 x9_1).f0.f1))).trans hx1308_2; replace hx1308_3 := (cell_far (p := ⟨gb1307, 1, none⟩) (by exact hn1308_1) (.string ((rd_T54 l0_2 x9_1).f0.f1))).trans hx1308_3; replace hx1308_0 := (cell_far (p := ⟨gb1307, 2, none⟩) (by exact hn1308_2) (.string ((rd_T54 l0_2 x9_1).f0.f2))).trans hx1308_0; replace hx1308_1 := (cell_far (p := ⟨gb1307, 2, none⟩) (by exact hn1308_2) (.string ((rd_T54 l0_2 x9_1).f0.f2))).trans hx1308_1; replace hx1308_2 := (cell_far (p := ⟨gb1307, 2, none⟩) (by exact hn1308_2) (.string ((rd_T54 l0_2 x9_1).f0.f2))).trans hx1308_2; replace hx1308_3 := (cell_far (p := ⟨gb1307, 2, none⟩) (by exact hn1308_2) (.string ((rd_T54 l0_2 x9_1).f0.f2))).trans hx1308_3; replace hx1308_0 := (cell_far (p := ⟨gb1307, 3, none⟩) (by exact hn1308_3) (.int .i64 ((rd_T54 l0_2 x9_1).f1))).trans hx1308_0; replace hx1308_1 := (cell_far (p := ⟨gb1307, 3, none⟩) (by exact hn1308_3) (.int .i64 ((rd_T54 l0_2 x9_1).f1))).trans hx1308_1; replace hx1308_2 := (cell_far (p := ⟨gb1307, 3, none⟩) (by exact hn1308_3) (.int .i64 ((rd_T54 l0_2 x9_1).f1))).trans hx1308_2; replace hx1308_3 := (cell_far (p := ⟨gb1307, 3, none⟩) (by exact hn1308_3) (.int .i64 ((rd_T54 l0_2 x9_1).f1))).trans hx1308_3; (try have hy1308_0 := fun (n_ : Nat) => (show (((((w27.drewN n_).setCell ⟨gb1307, 0, none⟩ (.bool ((rd_T54 l0_2 x9_1).f0.f0))).setCell ⟨gb1307, 1, none⟩ (.string ((rd_T54 l0_2 x9_1).f0.f1))).setCell ⟨gb1307, 2, none⟩ (.string ((rd_T54 l0_2 x9_1).f0.f2))).setCell ⟨gb1307, 3, none⟩ (.int .i64 ((rd_T54 l0_2 x9_1).f1))).cell? _ = some _ from hx1308_0)); (try have hy1308_1 := fun (n_ : Nat) => (show (((((w27.drewN n_).setCell ⟨gb1307, 0, none⟩ (.bool ((rd_T54 l0_2 x9_1).f0.f0))).setCell ⟨gb1307, 1, none⟩ (.string ((rd_T54 l0_2 x9_1).f0.f1))).setCell ⟨gb1307, 2, none⟩ (.string ((rd_T54 l0_2 x9_1).f0.f2))).setCell ⟨gb1307, 3, none⟩ (.int .i64 ((rd_T54 l0_2 x9_1).f1))).cell? _ = some _ from hx1308_1)); (try have hy1308_2 := fun (n_ : Nat) => (show (((((w27.drewN n_).setCell ⟨gb1307, 0, none⟩ (.bool ((rd_T54 l0_2 x9_1).f0.f0))).setCell ⟨gb1307, 1, none⟩ (.string ((rd_T54 l0_2 x9_1).f0.f1))).setCell ⟨gb1307, 2, none⟩ (.string ((rd_T54 l0_2 x9_1).f0.f2))).setCell ⟨gb1307, 3, none⟩ (.int .i64 ((rd_T54 l0_2 x9_1).f1))).cell? _ = some _ from hx1308_2)); (try have hy1308_3 := fun (n_ : Nat) => (show (((((w27.drewN n_).setCell ⟨gb1307, 0, none⟩ (.bool ((rd_T54 l0_2 x9_1).f0.f0))).setCell ⟨gb1307, 1, none⟩ (.string ((rd_T54 l0_2 x9_1).f0.f1))).setCell ⟨gb1307, 2, none⟩ (.string ((rd_T54 l0_2 x9_1).f0.f2))).setCell ⟨gb1307, 3, none⟩ (.int .i64 ((rd_T54 l0_2 x9_1).f1))).cell? _ = some _ from hx1308_3)); clear hn1308_0 hn1308_1 hn1308_2 hn1308_3; replace p1308 := eq_true p1308; replace q1308 := eq_true q1308; have hnb35 := NB1305_1304.out; have hnc35 := NB1304_1305.out; obtain ⟨hcz36_0, hcz36_1, hcz36_2, hfz36_0, hfz36_1, hfz36_2⟩ := x6 BK1305)
     repeat (go_quiet (first | ((with_reducible refine gate_dst (N := 5) rfl ?_); refine box_event ?hg (N := 5) ?hd (cs := #[.bool false, .string (⟨#[]⟩ : ByteArray), .string (⟨#[]⟩ : ByteArray), .int .i64 0]) (t := 54) ?hr ?_; (case hd => rfl); (case hg => rfl); (case hr => first | (go_simp; done) | (go_simp; rfl)); intro gb1307 hg w27 hbox hb; have n0_ := xB BK1303 hb; have n1_ := xB BK1304 hb; have n2_ := xB BK1305 hb; have n3_ := xS HB hb; have n4_ := Aside0.mk (hbox); have n5_ := (xG HB hg); have n6_ := (xG HB hg); have n7_ := xL BK1303 hg; have n8_ := xR BK1303 hg; have n9_ := xL BK1304 hg; have n10_ := xR BK1304 hg; have n11_ := xL BK1305 hg; have n12_ := xR BK1305 hg; clear BK1303; clear BK1304; clear BK1305; clear HB; have BK1303 := n0_; have BK1304 := n1_; have BK1305 := n2_; have HB := n3_; have BK1307 := n4_; have GW1307 := n5_; have GE1307 := n6_; have NB1303_1307 := n7_; have NB1307_1303 := n8_; have NB1304_1307 := n9_; have NB1307_1304 := n10_; have NB1305_1307 := n11_; have NB1307_1305 := n12_; clear n0_ n1_ n2_ n3_ n4_ n5_ n6_ n7_ n8_ n9_ n10_ n11_ n12_; clear hb hbox hg; have hnb28 := NB1307_1303.out; have hnc28 := NB1303_1307.out; have hnb29 := NB1307_1304.out; have hnc29 := NB1304_1307.out; have hnb30 := NB1307_1305.out; have hnc30 := NB1305_1307.out; have hcz31_0 : w27.cell? ⟨gb1307, 0, none⟩ = some (.bool false) := (blk_cell BK1307.out 0).trans rfl; have hcz31_1 : w27.cell? ⟨gb1307, 1, none⟩ = some (.string (⟨#[]⟩ : ByteArray)) := (blk_cell BK1307.out 1).trans rfl; have hcz31_2 : w27.cell? ⟨gb1307, 2, none⟩ = some (.string (⟨#[]⟩ : ByteArray)) := (blk_cell BK1307.out 2).trans rfl; have hcz31_3 : w27.cell? ⟨gb1307, 3, none⟩ = some (.int .i64 0) := (blk_cell BK1307.out 3).trans rfl; have hfz31_0 := blk_frozen BK1307.out 0; have hfz31_1 := blk_frozen BK1307.out 1; have hfz31_2 := blk_frozen BK1307.out 2; have hfz31_3 := blk_frozen BK1307.out 3; have hnb32 := NB1303_1304.out; have hnc32 := NB1304_1303.out; have hnb33 := NB1303_1305.out; have hnc33 := NB1305_1303.out; have hcz34_0 : w27.cell? ⟨gb1303, 0, none⟩ = some (.int .i64 a0_0) := (blk_cell BK1303.out 0).trans rfl; have hcz34_1 : w27.cell? ⟨gb1303, 1, none⟩ = some (.int .i64 a0_1) := (blk_cell BK1303.out 1).trans rfl; have hcz34_2 : w27.cell? ⟨gb1303, 2, none⟩ = some (.slice (some ad1306) l0_2.length c0_2) := (blk_cell BK1303.out 2).trans rfl; have hfz34_0 := blk_frozen BK1303.out 0; have hfz34_1 := blk_frozen BK1303.out 1; have hfz34_2 := blk_frozen BK1303.out 2; have p1308 : 0 ≤ (0 : Int) := (by omega); have q1308 : 0 < (l0_2.length : Int) := xa; obtain ⟨ad1308, e1308, hx1308_0, hx1308_1, hx1308_2, hx1308_3⟩ := at_T54 HR0_2.out 0 p1308 q1308; obtain rfl : ad1306 = ad1308 := (by injection e1308); have qi1308 : (0 < l0_2.length) = True := eq_true (by omega); have hn1308_0 : ad1306.block ≠ gb1307 := Nat.ne_of_lt (Nat.lt_of_lt_of_le (by have := World.block_lt_of_cell? _ _ hx1308_0; first | rwa [add_block] at this | exact this) GW1307.out); have hn1308_1 : ad1306.block ≠ gb1307 := Nat.ne_of_lt (Nat.lt_of_lt_of_le (by have := World.block_lt_of_cell? _ _ hx1308_0; first | rwa [add_block] at this | exact this) GW1307.out); have hn1308_2 : ad1306.block ≠ gb1307 := Nat.ne_of_lt (Nat.lt_of_lt_of_le (by have := World.block_lt_of_cell? _ _ hx1308_0; first | rwa [add_block] at this | exact this) GW1307.out); have hn1308_3 : ad1306.block ≠ gb1307 := Nat.ne_of_lt (Nat.lt_of_lt_of_le (by have := World.block_lt_of_cell? _ _ hx1308_0; first | rwa [add_block] at this | exact this) GW1307.out); replace hx1308_0 := (HB.out.cell (World.block_lt_of_cell? w _ hx1308_0)).trans hx1308_0; replace hx1308_1 := (HB.out.cell (World.block_lt_of_cell? w _ hx1308_1)).trans hx1308_1; replace hx1308_2 := (HB.out.cell (World.block_lt_of_cell? w _ hx1308_2)).trans hx1308_2; replace hx1308_3 := (HB.out.cell (World.block_lt_of_cell? w _ hx1308_3)).trans hx1308_3; replace hx1308_0 := (cell_far (p := ⟨gb1307, 0, none⟩) (by first | (rw [add_block]; exact hn1308_0) | (show (Addr.add _ _).block ≠ _; rw [add_block]; exact hn1308_0) | exact hn1308_0) (.bool ((rd_T54 l0_2 x9_1).f0.f0))).trans hx1308_0; replace hx1308_1 := (cell_far (p := ⟨gb1307, 0, none⟩) (by first | (rw [add_block]; exact hn1308_0) | (show (Addr.add _ _).block ≠ _; rw [add_block]; exact hn1308_0) | exact hn1308_0) (.bool ((rd_T54 l0_2 x9_1).f0.f0))).trans hx1308_1; replace hx1308_2 := (cell_far (p := ⟨gb1307, 0, none⟩) (by first | (rw [add_block]; exact hn1308_0) | (show (Addr.add _ _).block ≠ _; rw [add_block]; exact hn1308_0) | exact hn1308_0) (.bool ((rd_T54 l0_2 x9_1).f0.f0))).trans hx1308_2; replace hx1308_3 := (cell_far (p := ⟨gb1307, 0, none⟩) (by first | (rw [add_block]; exact hn1308_0) | (show (Addr.add _ _).block ≠ _; rw [add_block]; exact hn1308_0) | exact hn1308_0) (.bool ((rd_T54 l0_2 x9_1).f0.f0))).trans hx1308_3; replace hx1308_0 := (cell_far (p := ⟨gb1307, 1, none⟩) (by first | (rw [add_block]; exact hn1308_1) | (show (Addr.add _ _).block ≠ _; rw [add_block]; exact hn1308_1) | exact hn1308_1) (.string ((rd_T54 l0_2 x9_1).f0.f1))).trans hx1308_0; replace hx1308_1 := (cell_far (p := ⟨gb1307, 1, none⟩) (by first | (rw [add_block]; exact hn1308_1) | (show (Addr.add _ _).block ≠ _; rw [add_block]; exact hn1308_1) | exact hn1308_1) (.string ((rd_T54 l0_2 x9_1).f0.f1))).trans hx1308_1; replace hx1308_2 := (cell_far (p := ⟨gb1307, 1, none⟩) (by first | (rw [add_block]; exact hn1308_1) | (show (Addr.add _ _).block ≠ _; rw [add_block]; exact hn1308_1) | exact hn1308_1) (.string ((rd_T54 l0_2 x9_1).f0.f1))).trans hx1308_2; replace hx1308_3 := (cell_far (p := ⟨gb1307, 1, none⟩) (by first | (rw [add_block]; exact hn1308_1) | (show (Addr.add _ _).block ≠ _; rw [add_block]; exact hn1308_1) | exact hn1308_1) (.string ((rd_T54 l0_2 x9_1).f0.f1))).trans hx1308_3; replace hx1308_0 := (cell_far (p := ⟨gb1307, 2, none⟩) (by first | (rw [add_block]; exact hn1308_2) | (show (Addr.add _ _).block ≠ _; rw [add_block]; exact hn1308_2) | exact hn1308_2) (.string ((rd_T54 l0_2 x9_1).f0.f2))).trans hx1308_0; replace hx1308_1 := (cell_far (p := ⟨gb1307, 2, none⟩) (by first | (rw [add_block]; exact hn1308_2) | (show (Addr.add _ _).block ≠ _; rw [add_block]; exact hn1308_2) | exact hn1308_2) (.string ((rd_T54 l0_2 x9_1).f0.f2))).trans hx1308_1; replace hx1308_2 := (cell_far (p := ⟨gb1307, 2, none⟩) (by first | (rw [add_block]; exact hn1308_2) | (show (Addr.add _ _).block ≠ _; rw [add_block]; exact hn1308_2) | exact hn1308_2) (.string ((rd_T54 l0_2 x9_1).f0.f2))).trans hx1308_2; replace hx1308_3 := (cell_far (p := ⟨gb1307, 2, none⟩) (by first | (rw [add_block]; exact hn1308_2) | (show (Addr.add _ _).block ≠ _; rw [add_block]; exact hn1308_2) | exact hn1308_2) (.string ((rd_T54 l0_2 x9_1).f0.f2))).trans hx1308_3; replace hx1308_0 := (cell_far (p := ⟨gb1307, 3, none⟩) (by first | (rw [add_block]; exact hn1308_3) | (show (Addr.add _ _).block ≠ _; rw [add_block]; exact hn1308_3) | exact hn1308_3) (.int .i64 ((rd_T54 l0_2 x9_1).f1))).trans hx1308_0; replace hx1308_1 := (cell_far (p := ⟨gb1307, 3, none⟩) (by first | (rw [add_block]; exact hn1308_3) | (show (Addr.add _ _).block ≠ _; rw [add_block]; exact hn1308_3) | exact hn1308_3) (.int .i64 ((rd_T54 l0_2 x9_1).f1))).trans hx1308_1; replace hx1308_2 := (cell_far (p := ⟨gb1307, 3, none⟩) (by first | (rw [add_block]; exact hn1308_3) | (show (Addr.add _ _).block ≠ _; rw [add_block]; exact hn1308_3) | exact hn1308_3) (.int .i64 ((rd_T54 l0_2 x9_1).f1))).trans hx1308_2; replace hx1308_3 := (cell_far (p := ⟨gb1307, 3, none⟩) (by first | (rw [add_block]; exact hn1308_3) | (show (Addr.add _ _).block ≠ _; rw [add_block]; exact hn1308_3) | exact hn1308_3) (.int .i64 ((rd_T54 l0_2 x9_1).f1))).trans hx1308_3; clear hn1308_0; clear hn1308_1; clear hn1308_2; clear hn1308_3; replace p1308 := eq_true p1308; replace q1308 := eq_true q1308; have hnb35 := NB1305_1304.out; have hnc35 := NB1304_1305.out; have hcz36_0 : w27.cell? ⟨gb1305, 0, none⟩ = some (.bool x1306000_1) := (blk_cell BK1305.out 0).trans rfl; have hcz36_1 : w27.cell? ⟨gb1305, 1, none⟩ = some (.string x1306001_1) := (blk_cell BK1305.out 1).trans rfl; have hcz36_2 : w27.cell? ⟨gb1305, 2, none⟩ = some (.string x1306002_1) := (blk_cell BK1305.out 2).trans rfl; have hfz36_0 := blk_frozen BK1305.out 0; have hfz36_1 := blk_frozen BK1305.out 1; have hfz36_2 := blk_frozen BK1305.out 2) | (go_at_call 44; (with_reducible refine (rt_Min.calls k1 x1306000_1 x1306001_1 x1306002_1 ((rd_T54 l0_2 x9_1).f0.f0) ((rd_T54 l0_2 x9_1).f0.f1) ((rd_T54 l0_2 x9_1).f0.f2) t1312 t1313 t1314 _ A26.out).mono ?_); rintro e w37 ⟨rfl, hb⟩; have n0_ := xB BK1303 hb; have n1_ := xB BK1304 hb; have n2_ := xB BK1305 hb; have n3_ := Aside0.mk (blk_below (g := gb1307) (o := .cells #[.bool ((rd_T54 l0_2 x9_1).f0.f0), .string ((rd_T54 l0_2 x9_1).f0.f1), .string ((rd_T54 l0_2 x9_1).f0.f2), .int .i64 ((rd_T54 l0_2 x9_1).f1)] 54 (0, 0)) (xp BK1307) hb); have n4_ := xS HB hb; clear BK1303; clear BK1304; clear BK1305; clear BK1307; clear HB; have BK1303 := n0_; have BK1304 := n1_; have BK1305 := n2_; have BK1307 := n3_; have HB := n4_; clear n0_ n1_ n2_ n3_ n4_; have hcz38_0 : w37.cell? ⟨gb1305, 0, none⟩ = some (.bool x1306000_1) := (blk_cell BK1305.out 0).trans rfl; have hcz38_1 : w37.cell? ⟨gb1305, 1, none⟩ = some (.string x1306001_1) := (blk_cell BK1305.out 1).trans rfl; have hcz38_2 : w37.cell? ⟨gb1305, 2, none⟩ = some (.string x1306002_1) := (blk_cell BK1305.out 2).trans rfl; have hfz38_0 := blk_frozen BK1305.out 0; have hfz38_1 := blk_frozen BK1305.out 1; have hfz38_2 := blk_frozen BK1305.out 2)); try go_wp2_with (go_at_call 44; (with_reducible refine (rt_Min.calls k1 x1306000_1 x1306001_1 x1306002_1 ((rd_T54 l0_2 x9_1).f0.f0) ((rd_T54 l0_2 x9_1).f0.f1) ((rd_T54 l0_2 x9_1).f0.f2) t1312 t1313 t1314 _ A26.out).mono ?_); rintro e w37 ⟨rfl, hb⟩; replace BK1303 := xB BK1303 hb; replace BK1304 := xB BK1304 hb; replace BK1305 := xB BK1305 hb; replace BK1307 := Aside0.mk (blk_below (g := gb1307) (o := .cells #[.bool ((rd_T54 l0_2 x9_1).f0.f0), .string ((rd_T54 l0_2 x9_1).f0.f1), .string ((rd_T54 l0_2 x9_1).f0.f2), .int .i64 ((rd_T54 l0_2 x9_1).f1)] 54 (0, 0)) (xp BK1307) hb); replace HB := xS HB hb; clear hb; obtain ⟨hcz38_0, hcz38_1, hcz38_2, hfz38_0, hfz38_1, hfz38_2⟩ := x6 BK1305))
     go_roundg k1
     case measure => have := HK1.out; omega
     case rel => exact ⟨(wrap64 (x9_1 + 1)), (x1305000_1), (x1305001_1), (x1305002_1), (t1312), (t1313), (t1314), xz, H', ⟨by have := HK1.out; omega⟩, ⟨xb BK1303⟩, ⟨xb BK1304⟩, ⟨by refine blk_put (cs := #[.bool t1312, .string t1313, .string x1306002_1]) ?_ 2 _ (by rfl); refine blk_put (cs := #[.bool t1312, .string x1306001_1, .string x1306002_1]) ?_ 1 _ (by rfl); refine blk_put (cs := #[.bool x1306000_1, .string x1306001_1, .string x1306002_1]) ?_ 0 _ (by rfl); exact BK1305.out⟩, ⟨xs HB⟩⟩
    have c12b0 := beq_eq_false_iff_ne.mpr c12
    have c12b1 := bne_iff_ne.mpr c12
    simp only [Option.some.injEq, Prod.mk.injEq] at H
    obtain ⟨rfl, rfl, rfl⟩ := H
    obtain ⟨p1306, q1306, ad1306, e1306, hx1306_0, hx1306_1, hx1306_2, hx1306_3⟩ := xA (at_T54 HR0_2.out x9_1)
    cases e1306
    (try replace hx1306_0 := xcl HB hx1306_0)
    (try replace hx1306_1 := xcl HB hx1306_1)
    (try replace hx1306_2 := xcl HB hx1306_2)
    (try replace hx1306_3 := xcl HB hx1306_3)
    go_wp2_with (refine xF (N := 5) #[.bool false, .string (⟨#[]⟩ : ByteArray), .string (⟨#[]⟩ : ByteArray), .int .i64 0] 54 HB ?_; clear HB; intro gb1307 hg w39 hb BK1307 GW1307 HB; have NB1303_1307 := xL BK1303 hg; have NB1307_1303 := xR BK1303 hg; replace BK1303 := xB BK1303 hb; have NB1304_1307 := xL BK1304 hg; have NB1307_1304 := xR BK1304 hg; replace BK1304 := xB BK1304 hb; have NB1305_1307 := xL BK1305 hg; have NB1307_1305 := xR BK1305 hg; replace BK1305 := xB BK1305 hb; clear hb hg; have hnb40 := NB1307_1303.out; have hnc40 := NB1303_1307.out; have hnb41 := NB1307_1304.out; have hnc41 := NB1304_1307.out; have hnb42 := NB1307_1305.out; have hnc42 := NB1305_1307.out; have hcz43_0 : w39.cell? ⟨gb1307, 0, none⟩ = some (.bool false) := (blk_cell BK1307.out 0).trans rfl; have hcz43_1 : w39.cell? ⟨gb1307, 1, none⟩ = some (.string (⟨#[]⟩ : ByteArray)) := (blk_cell BK1307.out 1).trans rfl; have hcz43_2 : w39.cell? ⟨gb1307, 2, none⟩ = some (.string (⟨#[]⟩ : ByteArray)) := (blk_cell BK1307.out 2).trans rfl; have hcz43_3 : w39.cell? ⟨gb1307, 3, none⟩ = some (.int .i64 0) := (blk_cell BK1307.out 3).trans rfl; have hfz43_0 := blk_frozen BK1307.out 0; have hfz43_1 := blk_frozen BK1307.out 1; have hfz43_2 := blk_frozen BK1307.out 2; have hfz43_3 := blk_frozen BK1307.out 3; have hnb44 := NB1303_1304.out; have hnc44 := NB1304_1303.out; have hnb45 := NB1303_1305.out; have hnc45 := NB1305_1303.out; obtain ⟨hcz46_0, hcz46_1, hcz46_2, hfz46_0, hfz46_1, hfz46_2⟩ := x6 BK1303; have p1308 : 0 ≤ (0 : Int) := (by omega); have q1308 : 0 < (l0_2.length : Int) := xa; obtain ⟨ad1308, e1308, hx1308_0, hx1308_1, hx1308_2, hx1308_3⟩ := at_T54 HR0_2.out 0 p1308 q1308; obtain rfl : ad1306 = ad1308 := (by injection e1308); have qi1308 : (0 < l0_2.length) = True := eq_true (by omega); (try rw [show (0 : Int).toNat = 0 from rfl] at hx1308_0); (try rw [show 0 * 4 = 0 from rfl] at hx1308_0); (try rw [Addr.add_zero'] at hx1308_0); (try rw [show (0 : Int).toNat = 0 from rfl] at hx1308_1); (try rw [show 0 * 4 = 0 from rfl] at hx1308_1); (try rw [Addr.add_zero'] at hx1308_1); (try rw [show (0 : Int).toNat = 0 from rfl] at hx1308_2); (try rw [show 0 * 4 = 0 from rfl] at hx1308_2); (try rw [Addr.add_zero'] at hx1308_2); (try rw [show (0 : Int).toNat = 0 from rfl] at hx1308_3); (try rw [show 0 * 4 = 0 from rfl] at hx1308_3); (try rw [Addr.add_zero'] at hx1308_3); have hn1308_0 : ad1306.block ≠ gb1307 := Nat.ne_of_lt (Nat.lt_of_lt_of_le (by have := World.block_lt_of_cell? _ _ hx1308_0; exact this) GW1307.out); have hn1308_1 : ad1306.block ≠ gb1307 := Nat.ne_of_lt (Nat.lt_of_lt_of_le (by have := World.block_lt_of_cell? _ _ hx1308_0; exact this) GW1307.out); have hn1308_2 : ad1306.block ≠ gb1307 := Nat.ne_of_lt (Nat.lt_of_lt_of_le (by have := World.block_lt_of_cell? _ _ hx1308_0; exact this) GW1307.out); have hn1308_3 : ad1306.block ≠ gb1307 := Nat.ne_of_lt (Nat.lt_of_lt_of_le (by have := World.block_lt_of_cell? _ _ hx1308_0; exact this) GW1307.out); replace hx1308_0 := (HB.out.cell (World.block_lt_of_cell? w _ hx1308_0)).trans hx1308_0; replace hx1308_1 := (HB.out.cell (World.block_lt_of_cell? w _ hx1308_1)).trans hx1308_1; replace hx1308_2 := (HB.out.cell (World.block_lt_of_cell? w _ hx1308_2)).trans hx1308_2; replace hx1308_3 := (HB.out.cell (World.block_lt_of_cell? w _ hx1308_3)).trans hx1308_3; replace hx1308_0 := (cell_far (p := ⟨gb1307, 0, none⟩) (by exact hn1308_0) (.bool ((rd_T54 l0_2 x9_1).f0.f0))).trans hx1308_0; replace hx1308_1 := (cell_far (p := ⟨gb1307, 0, none⟩) (by exact hn1308_0) (.bool ((rd_T54 l0_2 x9_1).f0.f0))).trans hx1308_1; replace hx1308_2 := (cell_far (p := ⟨gb1307, 0, none⟩) (by exact hn1308_0) (.bool ((rd_T54 l0_2 x9_1).f0.f0))).trans hx1308_2; replace hx1308_3 := (cell_far (p := ⟨gb1307, 0, none⟩) (by exact hn1308_0) (.bool ((rd_T54 l0_2 x9_1).f0.f0))).trans hx1308_3; replace hx1308_0 := (cell_far (p := ⟨gb1307, 1, none⟩) (by exact hn1308_1) (.string ((rd_T54 l0_2 x9_1).f0.f1))).trans hx1308_0; replace hx1308_1 := (cell_far (p := ⟨gb1307, 1, none⟩) (by exact hn1308_1) (.string ((rd_T54 l0_2 x9_1).f0.f1))).trans hx1308_1; replace hx1308_2 := (cell_far (p := ⟨gb1307, 1, none⟩) (by exact hn1308_1) (.string ((rd_T54 l0_2 x9_1).f0.f1))).trans hx1308_2; replace hx1308_3 := (cell_far (p := ⟨gb1307, 1, none⟩) (by exact hn1308_1) (.string ((rd_T54 l0_2 x9_1).f0.f1))).trans hx1308_3; replace hx1308_0 := (cell_far (p := ⟨gb1307, 2, none⟩) (by exact hn1308_2) (.string ((rd_T54 l0_2 x9_1).f0.f2))).trans hx1308_0; replace hx1308_1 := (cell_far (p := ⟨gb1307, 2, none⟩) (by exact hn1308_2) (.string ((rd_T54 l0_2 x9_1).f0.f2))).trans hx1308_1; replace hx1308_2 := (cell_far (p := ⟨gb1307, 2, none⟩) (by exact hn1308_2) (.string ((rd_T54 l0_2 x9_1).f0.f2))).trans hx1308_2; replace hx1308_3 := (cell_far (p := ⟨gb1307, 2, none⟩) (by exact hn1308_2) (.string ((rd_T54 l0_2 x9_1).f0.f2))).trans hx1308_3; replace hx1308_0 := (cell_far (p := ⟨gb1307, 3, none⟩) (by exact hn1308_3) (.int .i64 ((rd_T54 l0_2 x9_1).f1))).trans hx1308_0; replace hx1308_1 := (cell_far (p := ⟨gb1307, 3, none⟩) (by exact hn1308_3) (.int .i64 ((rd_T54 l0_2 x9_1).f1))).trans hx1308_1; replace hx1308_2 := (cell_far (p := ⟨gb1307, 3, none⟩) (by exact hn1308_3) (.int .i64 ((rd_T54 l0_2 x9_1).f1))).trans hx1308_2; replace hx1308_3 := (cell_far (p := ⟨gb1307, 3, none⟩) (by exact hn1308_3) (.int .i64 ((rd_T54 l0_2 x9_1).f1))).trans hx1308_3; (try have hy1308_0 := fun (n_ : Nat) => (show (((((w39.drewN n_).setCell ⟨gb1307, 0, none⟩ (.bool ((rd_T54 l0_2 x9_1).f0.f0))).setCell ⟨gb1307, 1, none⟩ (.string ((rd_T54 l0_2 x9_1).f0.f1))).setCell ⟨gb1307, 2, none⟩ (.string ((rd_T54 l0_2 x9_1).f0.f2))).setCell ⟨gb1307, 3, none⟩ (.int .i64 ((rd_T54 l0_2 x9_1).f1))).cell? _ = some _ from hx1308_0)); (try have hy1308_1 := fun (n_ : Nat) => (show (((((w39.drewN n_).setCell ⟨gb1307, 0, none⟩ (.bool ((rd_T54 l0_2 x9_1).f0.f0))).setCell ⟨gb1307, 1, none⟩ (.string ((rd_T54 l0_2 x9_1).f0.f1))).setCell ⟨gb1307, 2, none⟩ (.string ((rd_T54 l0_2 x9_1).f0.f2))).setCell ⟨gb1307, 3, none⟩ (.int .i64 ((rd_T54 l0_2 x9_1).f1))).cell? _ = some _ from hx1308_1)); (try have hy1308_2 := fun (n_ : Nat) => (show (((((w39.drewN n_).setCell ⟨gb1307, 0, none⟩ (.bool ((rd_T54 l0_2 x9_1).f0.f0))).setCell ⟨gb1307, 1, none⟩ (.string ((rd_T54 l0_2 x9_1).f0.f1))).setCell ⟨gb1307, 2, none⟩ (.string ((rd_T54 l0_2 x9_1).f0.f2))).setCell ⟨gb1307, 3, none⟩ (.int .i64 ((rd_T54 l0_2 x9_1).f1))).cell? _ = some _ from hx1308_2)); (try have hy1308_3 := fun (n_ : Nat) => (show (((((w39.drewN n_).setCell ⟨gb1307, 0, none⟩ (.bool ((rd_T54 l0_2 x9_1).f0.f0))).setCell ⟨gb1307, 1, none⟩ (.string ((rd_T54 l0_2 x9_1).f0.f1))).setCell ⟨gb1307, 2, none⟩ (.string ((rd_T54 l0_2 x9_1).f0.f2))).setCell ⟨gb1307, 3, none⟩ (.int .i64 ((rd_T54 l0_2 x9_1).f1))).cell? _ = some _ from hx1308_3)); clear hn1308_0 hn1308_1 hn1308_2 hn1308_3; replace p1308 := eq_true p1308; replace q1308 := eq_true q1308; have hnb47 := NB1304_1305.out; have hnc47 := NB1305_1304.out; obtain ⟨hcz48_0, hcz48_1, hcz48_2, hfz48_0, hfz48_1, hfz48_2⟩ := x6 BK1304)
    repeat (go_quiet (((with_reducible refine gate_dst (N := 5) rfl ?_); refine box_event ?hg (N := 5) ?hd (cs := #[.bool false, .string (⟨#[]⟩ : ByteArray), .string (⟨#[]⟩ : ByteArray), .int .i64 0]) (t := 54) ?hr ?_; (case hd => rfl); (case hg => rfl); (case hr => first | (go_simp; done) | (go_simp; rfl)); intro gb1307 hg w39 hbox hb; have n0_ := xB BK1303 hb; have n1_ := xB BK1304 hb; have n2_ := xB BK1305 hb; have n3_ := xS HB hb; have n4_ := Aside0.mk (hbox); have n5_ := (xG HB hg); have n6_ := (xG HB hg); have n7_ := xL BK1303 hg; have n8_ := xR BK1303 hg; have n9_ := xL BK1304 hg; have n10_ := xR BK1304 hg; have n11_ := xL BK1305 hg; have n12_ := xR BK1305 hg; clear BK1303; clear BK1304; clear BK1305; clear HB; have BK1303 := n0_; have BK1304 := n1_; have BK1305 := n2_; have HB := n3_; have BK1307 := n4_; have GW1307 := n5_; have GE1307 := n6_; have NB1303_1307 := n7_; have NB1307_1303 := n8_; have NB1304_1307 := n9_; have NB1307_1304 := n10_; have NB1305_1307 := n11_; have NB1307_1305 := n12_; clear n0_ n1_ n2_ n3_ n4_ n5_ n6_ n7_ n8_ n9_ n10_ n11_ n12_; clear hb hbox hg; have hnb40 := NB1307_1303.out; have hnc40 := NB1303_1307.out; have hnb41 := NB1307_1304.out; have hnc41 := NB1304_1307.out; have hnb42 := NB1307_1305.out; have hnc42 := NB1305_1307.out; have hcz43_0 : w39.cell? ⟨gb1307, 0, none⟩ = some (.bool false) := (blk_cell BK1307.out 0).trans rfl; have hcz43_1 : w39.cell? ⟨gb1307, 1, none⟩ = some (.string (⟨#[]⟩ : ByteArray)) := (blk_cell BK1307.out 1).trans rfl; have hcz43_2 : w39.cell? ⟨gb1307, 2, none⟩ = some (.string (⟨#[]⟩ : ByteArray)) := (blk_cell BK1307.out 2).trans rfl; have hcz43_3 : w39.cell? ⟨gb1307, 3, none⟩ = some (.int .i64 0) := (blk_cell BK1307.out 3).trans rfl; have hfz43_0 := blk_frozen BK1307.out 0; have hfz43_1 := blk_frozen BK1307.out 1; have hfz43_2 := blk_frozen BK1307.out 2; have hfz43_3 := blk_frozen BK1307.out 3; have hnb44 := NB1303_1304.out; have hnc44 := NB1304_1303.out; have hnb45 := NB1303_1305.out; have hnc45 := NB1305_1303.out; have hcz46_0 : w39.cell? ⟨gb1303, 0, none⟩ = some (.int .i64 a0_0) := (blk_cell BK1303.out 0).trans rfl; have hcz46_1 : w39.cell? ⟨gb1303, 1, none⟩ = some (.int .i64 a0_1) := (blk_cell BK1303.out 1).trans rfl; have hcz46_2 : w39.cell? ⟨gb1303, 2, none⟩ = some (.slice (some ad1306) l0_2.length c0_2) := (blk_cell BK1303.out 2).trans rfl; have hfz46_0 := blk_frozen BK1303.out 0; have hfz46_1 := blk_frozen BK1303.out 1; have hfz46_2 := blk_frozen BK1303.out 2; have p1308 : 0 ≤ (0 : Int) := (by omega); have q1308 : 0 < (l0_2.length : Int) := xa; obtain ⟨ad1308, e1308, hx1308_0, hx1308_1, hx1308_2, hx1308_3⟩ := at_T54 HR0_2.out 0 p1308 q1308; obtain rfl : ad1306 = ad1308 := (by injection e1308); have qi1308 : (0 < l0_2.length) = True := eq_true (by omega); have hn1308_0 : ad1306.block ≠ gb1307 := Nat.ne_of_lt (Nat.lt_of_lt_of_le (by have := World.block_lt_of_cell? _ _ hx1308_0; first | rwa [add_block] at this | exact this) GW1307.out); have hn1308_1 : ad1306.block ≠ gb1307 := Nat.ne_of_lt (Nat.lt_of_lt_of_le (by have := World.block_lt_of_cell? _ _ hx1308_0; first | rwa [add_block] at this | exact this) GW1307.out); have hn1308_2 : ad1306.block ≠ gb1307 := Nat.ne_of_lt (Nat.lt_of_lt_of_le (by have := World.block_lt_of_cell? _ _ hx1308_0; first | rwa [add_block] at this | exact this) GW1307.out); have hn1308_3 : ad1306.block ≠ gb1307 := Nat.ne_of_lt (Nat.lt_of_lt_of_le (by have := World.block_lt_of_cell? _ _ hx1308_0; first | rwa [add_block] at this | exact this) GW1307.out); replace hx1308_0 := (HB.out.cell (World.block_lt_of_cell? w _ hx1308_0)).trans hx1308_0; replace hx1308_1 := (HB.out.cell (World.block_lt_of_cell? w _ hx1308_1)).trans hx1308_1; replace hx1308_2 := (HB.out.cell (World.block_lt_of_cell? w _ hx1308_2)).trans hx1308_2; replace hx1308_3 := (HB.out.cell (World.block_lt_of_cell? w _ hx1308_3)).trans hx1308_3; replace hx1308_0 := (cell_far (p := ⟨gb1307, 0, none⟩) (by first | (rw [add_block]; exact hn1308_0) | (show (Addr.add _ _).block ≠ _; rw [add_block]; exact hn1308_0) | exact hn1308_0) (.bool ((rd_T54 l0_2 x9_1).f0.f0))).trans hx1308_0; replace hx1308_1 := (cell_far (p := ⟨gb1307, 0, none⟩) (by first | (rw [add_block]; exact hn1308_0) | (show (Addr.add _ _).block ≠ _; rw [add_block]; exact hn1308_0) | exact hn1308_0) (.bool ((rd_T54 l0_2 x9_1).f0.f0))).trans hx1308_1; replace hx1308_2 := (cell_far (p := ⟨gb1307, 0, none⟩) (by first | (rw [add_block]; exact hn1308_0) | (show (Addr.add _ _).block ≠ _; rw [add_block]; exact hn1308_0) | exact hn1308_0) (.bool ((rd_T54 l0_2 x9_1).f0.f0))).trans hx1308_2; replace hx1308_3 := (cell_far (p := ⟨gb1307, 0, none⟩) (by first | (rw [add_block]; exact hn1308_0) | (show (Addr.add _ _).block ≠ _; rw [add_block]; exact hn1308_0) | exact hn1308_0) (.bool ((rd_T54 l0_2 x9_1).f0.f0))).trans hx1308_3; replace hx1308_0 := (cell_far (p := ⟨gb1307, 1, none⟩) (by first | (rw [add_block]; exact hn1308_1) | (show (Addr.add _ _).block ≠ _; rw [add_block]; exact hn1308_1) | exact hn1308_1) (.string ((rd_T54 l0_2 x9_1).f0.f1))).trans hx1308_0; replace hx1308_1 := (cell_far (p := ⟨gb1307, 1, none⟩) (by first | (rw [add_block]; exact hn1308_1) | (show (Addr.add _ _).block ≠ _; rw [add_block]; exact hn1308_1) | exact hn1308_1) (.string ((rd_T54 l0_2 x9_1).f0.f1))).trans hx1308_1; replace hx1308_2 := (cell_far (p := ⟨gb1307, 1, none⟩) (by first | (rw [add_block]; exact hn1308_1) | (show (Addr.add _ _).block ≠ _; rw [add_block]; exact hn1308_1) | exact hn1308_1) (.string ((rd_T54 l0_2 x9_1).f0.f1))).trans hx1308_2; replace hx1308_3 := (cell_far (p := ⟨gb1307, 1, none⟩) (by first | (rw [add_block]; exact hn1308_1) | (show (Addr.add _ _).block ≠ _; rw [add_block]; exact hn1308_1) | exact hn1308_1) (.string ((rd_T54 l0_2 x9_1).f0.f1))).trans hx1308_3; replace hx1308_0 := (cell_far (p := ⟨gb1307, 2, none⟩) (by first | (rw [add_block]; exact hn1308_2) | (show (Addr.add _ _).block ≠ _; rw [add_block]; exact hn1308_2) | exact hn1308_2) (.string ((rd_T54 l0_2 x9_1).f0.f2))).trans hx1308_0; replace hx1308_1 := (cell_far (p := ⟨gb1307, 2, none⟩) (by first | (rw [add_block]; exact hn1308_2) | (show (Addr.add _ _).block ≠ _; rw [add_block]; exact hn1308_2) | exact hn1308_2) (.string ((rd_T54 l0_2 x9_1).f0.f2))).trans hx1308_1; replace hx1308_2 := (cell_far (p := ⟨gb1307, 2, none⟩) (by first | (rw [add_block]; exact hn1308_2) | (show (Addr.add _ _).block ≠ _; rw [add_block]; exact hn1308_2) | exact hn1308_2) (.string ((rd_T54 l0_2 x9_1).f0.f2))).trans hx1308_2; replace hx1308_3 := (cell_far (p := ⟨gb1307, 2, none⟩) (by first | (rw [add_block]; exact hn1308_2) | (show (Addr.add _ _).block ≠ _; rw [add_block]; exact hn1308_2) | exact hn1308_2) (.string ((rd_T54 l0_2 x9_1).f0.f2))).trans hx1308_3; replace hx1308_0 := (cell_far (p := ⟨gb1307, 3, none⟩) (by first | (rw [add_block]; exact hn1308_3) | (show (Addr.add _ _).block ≠ _; rw [add_block]; exact hn1308_3) | exact hn1308_3) (.int .i64 ((rd_T54 l0_2 x9_1).f1))).trans hx1308_0; replace hx1308_1 := (cell_far (p := ⟨gb1307, 3, none⟩) (by first | (rw [add_block]; exact hn1308_3) | (show (Addr.add _ _).block ≠ _; rw [add_block]; exact hn1308_3) | exact hn1308_3) (.int .i64 ((rd_T54 l0_2 x9_1).f1))).trans hx1308_1; replace hx1308_2 := (cell_far (p := ⟨gb1307, 3, none⟩) (by first | (rw [add_block]; exact hn1308_3) | (show (Addr.add _ _).block ≠ _; rw [add_block]; exact hn1308_3) | exact hn1308_3) (.int .i64 ((rd_T54 l0_2 x9_1).f1))).trans hx1308_2; replace hx1308_3 := (cell_far (p := ⟨gb1307, 3, none⟩) (by first | (rw [add_block]; exact hn1308_3) | (show (Addr.add _ _).block ≠ _; rw [add_block]; exact hn1308_3) | exact hn1308_3) (.int .i64 ((rd_T54 l0_2 x9_1).f1))).trans hx1308_3; clear hn1308_0; clear hn1308_1; clear hn1308_2; clear hn1308_3; replace p1308 := eq_true p1308; replace q1308 := eq_true q1308; have hnb47 := NB1304_1305.out; have hnc47 := NB1305_1304.out; have hcz48_0 : w39.cell? ⟨gb1304, 0, none⟩ = some (.bool x1305000_1) := (blk_cell BK1304.out 0).trans rfl; have hcz48_1 : w39.cell? ⟨gb1304, 1, none⟩ = some (.string x1305001_1) := (blk_cell BK1304.out 1).trans rfl; have hcz48_2 : w39.cell? ⟨gb1304, 2, none⟩ = some (.string x1305002_1) := (blk_cell BK1304.out 2).trans rfl; have hfz48_0 := blk_frozen BK1304.out 0; have hfz48_1 := blk_frozen BK1304.out 1; have hfz48_2 := blk_frozen BK1304.out 2)); try go_wp2_with (refine xF (N := 5) #[.bool false, .string (⟨#[]⟩ : ByteArray), .string (⟨#[]⟩ : ByteArray), .int .i64 0] 54 HB ?_; clear HB; intro gb1307 hg w39 hb BK1307 GW1307 HB; have NB1303_1307 := xL BK1303 hg; have NB1307_1303 := xR BK1303 hg; replace BK1303 := xB BK1303 hb; have NB1304_1307 := xL BK1304 hg; have NB1307_1304 := xR BK1304 hg; replace BK1304 := xB BK1304 hb; have NB1305_1307 := xL BK1305 hg; have NB1307_1305 := xR BK1305 hg; replace BK1305 := xB BK1305 hb; clear hb hg; have hnb40 := NB1307_1303.out; have hnc40 := NB1303_1307.out; have hnb41 := NB1307_1304.out; have hnc41 := NB1304_1307.out; have hnb42 := NB1307_1305.out; have hnc42 := NB1305_1307.out; have hcz43_0 : w39.cell? ⟨gb1307, 0, none⟩ = some (.bool false) := (blk_cell BK1307.out 0).trans rfl; have hcz43_1 : w39.cell? ⟨gb1307, 1, none⟩ = some (.string (⟨#[]⟩ : ByteArray)) := (blk_cell BK1307.out 1).trans rfl; have hcz43_2 : w39.cell? ⟨gb1307, 2, none⟩ = some (.string (⟨#[]⟩ : ByteArray)) := (blk_cell BK1307.out 2).trans rfl; have hcz43_3 : w39.cell? ⟨gb1307, 3, none⟩ = some (.int .i64 0) := (blk_cell BK1307.out 3).trans rfl; have hfz43_0 := blk_frozen BK1307.out 0; have hfz43_1 := blk_frozen BK1307.out 1; have hfz43_2 := blk_frozen BK1307.out 2; have hfz43_3 := blk_frozen BK1307.out 3; have hnb44 := NB1303_1304.out; have hnc44 := NB1304_1303.out; have hnb45 := NB1303_1305.out; have hnc45 := NB1305_1303.out; obtain ⟨hcz46_0, hcz46_1, hcz46_2, hfz46_0, hfz46_1, hfz46_2⟩ := x6 BK1303; have p1308 : 0 ≤ (0 : Int) := (by omega); have q1308 : 0 < (l0_2.length : Int) := xa; obtain ⟨ad1308, e1308, hx1308_0, hx1308_1, hx1308_2, hx1308_3⟩ := at_T54 HR0_2.out 0 p1308 q1308; obtain rfl : ad1306 = ad1308 := (by injection e1308); have qi1308 : (0 < l0_2.length) = True := eq_true (by omega); have hn1308_0 : ad1306.block ≠ gb1307 := Nat.ne_of_lt (Nat.lt_of_lt_of_le (by have := World.block_lt_of_cell? _ _ hx1308_0; first | rwa [add_block] at this | exact this) GW1307.out); have hn1308_1 : ad1306.block ≠ gb1307 := Nat.ne_of_lt (Nat.lt_of_lt_of_le (by have := World.block_lt_of_cell? _ _ hx1308_0; first | rwa [add_block] at this | exact this) GW1307.out); have hn1308_2 : ad1306.block ≠ gb1307 := Nat.ne_of_lt (Nat.lt_of_lt_of_le (by have := World.block_lt_of_cell? _ _ hx1308_0; first | rwa [add_block] at this | exact this) GW1307.out); have hn1308_3 : ad1306.block ≠ gb1307 := Nat.ne_of_lt (Nat.lt_of_lt_of_le (by have := World.block_lt_of_cell? _ _ hx1308_0; first | rwa [add_block] at this | exact this) GW1307.out); replace hx1308_0 := (HB.out.cell (World.block_lt_of_cell? w _ hx1308_0)).trans hx1308_0; replace hx1308_1 := (HB.out.cell (World.block_lt_of_cell? w _ hx1308_1)).trans hx1308_1; replace hx1308_2 := (HB.out.cell (World.block_lt_of_cell? w _ hx1308_2)).trans hx1308_2; replace hx1308_3 := (HB.out.cell (World.block_lt_of_cell? w _ hx1308_3)).trans hx1308_3; replace hx1308_0 := (cell_far (p := ⟨gb1307, 0, none⟩) (by first | (rw [add_block]; exact hn1308_0) | (show (Addr.add _ _).block ≠ _; rw [add_block]; exact hn1308_0) | exact hn1308_0) (.bool ((rd_T54 l0_2 x9_1).f0.f0))).trans hx1308_0; replace hx1308_1 := (cell_far (p := ⟨gb1307, 0, none⟩) (by first | (rw [add_block]; exact hn1308_0) | (show (Addr.add _ _).block ≠ _; rw [add_block]; exact hn1308_0) | exact hn1308_0) (.bool ((rd_T54 l0_2 x9_1).f0.f0))).trans hx1308_1; replace hx1308_2 := (cell_far (p := ⟨gb1307, 0, none⟩) (by first | (rw [add_block]; exact hn1308_0) | (show (Addr.add _ _).block ≠ _; rw [add_block]; exact hn1308_0) | exact hn1308_0) (.bool ((rd_T54 l0_2 x9_1).f0.f0))).trans hx1308_2; replace hx1308_3 := (cell_far (p := ⟨gb1307, 0, none⟩) (by first | (rw [add_block]; exact hn1308_0) | (show (Addr.add _ _).block ≠ _; rw [add_block]; exact hn1308_0) | exact hn1308_0) (.bool ((rd_T54 l0_2 x9_1).f0.f0))).trans hx1308_3; replace hx1308_0 := (cell_far (p := ⟨gb1307, 1, none⟩) (by first | (rw [add_block]; exact hn1308_1) | (show (Addr.add _ _).block ≠ _; rw [add_block]; exact hn1308_1) | exact hn1308_1) (.string ((rd_T54 l0_2 x9_1).f0.f1))).trans hx1308_0; replace hx1308_1 := (cell_far (p := ⟨gb1307, 1, none⟩) (by first | (rw [add_block]; exact hn1308_1) | (show (Addr.add _ _).block ≠ _; rw [add_block]; exact hn1308_1) | exact hn1308_1) (.string ((rd_T54 l0_2 x9_1).f0.f1))).trans hx1308_1; replace hx1308_2 := (cell_far (p := ⟨gb1307, 1, none⟩) (by first | (rw [add_block]; exact hn1308_1) | (show (Addr.add _ _).block ≠ _; rw [add_block]; exact hn1308_1) | exact hn1308_1) (.string ((rd_T54 l0_2 x9_1).f0.f1))).trans hx1308_2; replace hx1308_3 := (cell_far (p := ⟨gb1307, 1, none⟩) (by first | (rw [add_block]; exact hn1308_1) | (show (Addr.add _ _).block ≠ _; rw [add_block]; exact hn1308_1) | exact hn1308_1) (.string ((rd_T54 l0_2 x9_1).f0.f1))).trans hx1308_3; replace hx1308_0 := (cell_far (p := ⟨gb1307, 2, none⟩) (by first | (rw [add_block]; exact hn1308_2) | (show (Addr.add _ _).block ≠ _; rw [add_block]; exact hn1308_2) | exact hn1308_2) (.string ((rd_T54 l0_2 x9_1).f0.f2))).trans hx1308_0; replace hx1308_1 := (cell_far (p := ⟨gb1307, 2, none⟩) (by first | (rw [add_block]; exact hn1308_2) | (show (Addr.add _ _).block ≠ _; rw [add_block]; exact hn1308_2) | exact hn1308_2) (.string ((rd_T54 l0_2 x9_1).f0.f2))).trans hx1308_1; replace hx1308_2 := (cell_far (p := ⟨gb1307, 2, none⟩) (by first | (rw [add_block]; exact hn1308_2) | (show (Addr.add _ _).block ≠ _; rw [add_block]; exact hn1308_2) | exact hn1308_2) (.string ((rd_T54 l0_2 x9_1).f0.f2))).trans hx1308_2; replace hx1308_3 := (cell_far (p := ⟨gb1307, 2, none⟩) (by first | (rw [add_block]; exact hn1308_2) | (show (Addr.add _ _).block ≠ _; rw [add_block]; exact hn1308_2) | exact hn1308_2) (.string ((rd_T54 l0_2 x9_1).f0.f2))).trans hx1308_3; replace hx1308_0 := (cell_far (p := ⟨gb1307, 3, none⟩) (by first | (rw [add_block]; exact hn1308_3) | (show (Addr.add _ _).block ≠ _; rw [add_block]; exact hn1308_3) | exact hn1308_3) (.int .i64 ((rd_T54 l0_2 x9_1).f1))).trans hx1308_0; replace hx1308_1 := (cell_far (p := ⟨gb1307, 3, none⟩) (by first | (rw [add_block]; exact hn1308_3) | (show (Addr.add _ _).block ≠ _; rw [add_block]; exact hn1308_3) | exact hn1308_3) (.int .i64 ((rd_T54 l0_2 x9_1).f1))).trans hx1308_1; replace hx1308_2 := (cell_far (p := ⟨gb1307, 3, none⟩) (by first | (rw [add_block]; exact hn1308_3) | (show (Addr.add _ _).block ≠ _; rw [add_block]; exact hn1308_3) | exact hn1308_3) (.int .i64 ((rd_T54 l0_2 x9_1).f1))).trans hx1308_2; replace hx1308_3 := (cell_far (p := ⟨gb1307, 3, none⟩) (by first | (rw [add_block]; exact hn1308_3) | (show (Addr.add _ _).block ≠ _; rw [add_block]; exact hn1308_3) | exact hn1308_3) (.int .i64 ((rd_T54 l0_2 x9_1).f1))).trans hx1308_3; clear hn1308_0 hn1308_1 hn1308_2 hn1308_3; replace p1308 := eq_true p1308; replace q1308 := eq_true q1308; have hnb47 := NB1304_1305.out; have hnc47 := NB1305_1304.out; obtain ⟨hcz48_0, hcz48_1, hcz48_2, hfz48_0, hfz48_1, hfz48_2⟩ := x6 BK1304))
    refine bodyPost_ret (results_cell_row rfl _ _ gb1304 25 #[.bool false, .string (⟨#[]⟩ : ByteArray), .string (⟨#[]⟩ : ByteArray)] (0, 0) _ rfl (xp BK1304) Tryd.underlying25 rfl (by kernel_rfl)) rfl ?_
    exact ⟨xy, xs HB⟩
   simp only [Option.some.injEq, Prod.mk.injEq] at H
   obtain ⟨rfl, rfl, rfl⟩ := H
   have hnb49 := NB1305_1303.out
   have hnc49 := NB1303_1305.out
   have hnb50 := NB1305_1304.out
   have hnc50 := NB1304_1305.out
   obtain ⟨hcz51_0, hcz51_1, hcz51_2, hfz51_0, hfz51_1, hfz51_2⟩ := x6 BK1305
   have hnb52 := NB1304_1303.out
   have hnc52 := NB1303_1304.out
   obtain ⟨hcz53_0, hcz53_1, hcz53_2, hfz53_0, hfz53_1, hfz53_2⟩ := x6 BK1304
   go_wp2
   repeat (go_quiet (fail); try go_wp2)
   refine bodyPost_ret (results_cell_row rfl _ _ gb1304 25 #[.bool x1306000_1, .string x1306001_1, .string x1306002_1] (0, 0) _ rfl (xp BK1304) Tryd.underlying25 rfl (by kernel_rfl)) rfl ?_
   exact ⟨xy, xs HB⟩
/-! ### ir_Min: function 59 -/
def ir_Min.f (k : Nat) (a0_0 : Bool) (a0_1 : ByteArray) (a0_2 : ByteArray) (a1_0 : Bool) (a1_1 : ByteArray) (a1_2 : ByteArray) : Option (Bool × ByteArray × ByteArray) := (ir_Fix.f k a0_0 a0_1 a0_2).bind fun bt1318 => ((ir_Fix.f k a1_0 a1_1 a1_2).bind fun bt1321 => ((ir_Lesser.f k bt1318.1 bt1318.2.1 bt1318.2.2 bt1321.1 bt1321.2.1 bt1321.2.2).bind fun bt1324 => (some (bt1324.1, bt1324.2.1, bt1324.2.2))))
theorem ir_Min.mono : ∀ a0 a1 a2 a3 a4 a5 k, LeO (ir_Min.f k a0 a1 a2 a3 a4 a5) (ir_Min.f (k + 1) a0 a1 a2 a3 a4 a5) := by
 intro a0 a1 a2 a3 a4 a5 k
 unfold ir_Min.f
 have m0 := @ir_Fix.mono; have m1 := @ir_Lesser.mono; exact xM
theorem ir_Min.calls (k : Nat) (a0_0 : Bool) (a0_1 : ByteArray) (a0_2 : ByteArray) (a1_0 : Bool) (a1_1 : ByteArray) (a1_2 : ByteArray) (r1 : Bool) (r2 : ByteArray) (r3 : ByteArray) (w : World) (h : ir_Min.f k a0_0 a0_1 a0_2 a1_0 a1_1 a1_2 = some (r1, r2, r3)) :
  Calls Tryd.prog 59 #[.agg #[.bool a0_0, .string a0_1, .string a0_2], .agg #[.bool a1_0, .string a1_1, .string a1_2]] w fun e w' => e = .returned (.agg #[.bool r1, .string r2, .string r3]) ∧ Below w.heap.size w w' := by
 have hu25 := Tryd.underlying25
 have HB := Aside0.mk (Below.refl w.heap.size w)
 have H := h; clear h
 unfold ir_Min.f at H
 replace H := xH H; obtain ⟨⟨t1318, t1319, t1320⟩, A3, H⟩ := H
 dsimp only at H
 replace H := xH H; obtain ⟨⟨t1321, t1322, t1323⟩, A4, H⟩ := H
 dsimp only at H
 replace H := xH H; obtain ⟨⟨t1324, t1325, t1326⟩, A5, H⟩ := H
 dsimp only at H
 simp only [Option.some.injEq, Prod.mk.injEq] at H
 obtain ⟨rfl, rfl, rfl⟩ := H
 go_enter Tryd.func59, Tryd.ntmps59
 try go_wp2_with (first | (refine xF (N := 2) #[.bool a0_0, .string a0_1, .string a0_2] 25 HB ?_; clear HB; intro gb1315 hg w6 hb BK1315 GW1315 HB; clear hb hg) | (refine xF (N := 3) #[.bool a1_0, .string a1_1, .string a1_2] 25 HB ?_; clear HB; intro gb1316 hg w7 hb BK1316 GW1316 HB; have NB1315_1316 := xL BK1315 hg; have NB1316_1315 := xR BK1315 hg; replace BK1315 := xB BK1315 hb; clear hb hg) | (refine xF (N := 4) #[.bool false, .string (⟨#[]⟩ : ByteArray), .string (⟨#[]⟩ : ByteArray)] 25 HB ?_; clear HB; intro gb1317 hg w8 hb BK1317 GW1317 HB; have NB1315_1317 := xL BK1315 hg; have NB1317_1315 := xR BK1315 hg; replace BK1315 := xB BK1315 hb; have NB1316_1317 := xL BK1316 hg; have NB1317_1316 := xR BK1316 hg; replace BK1316 := xB BK1316 hb; clear hb hg))
 replace BK1315 := xD BK1315
 replace BK1316 := xD BK1316
 replace BK1317 := xD BK1317
 replace HB := xW HB
 refine start_ (n := 6) (S := fun w' => w'.cell? ⟨gb1315, 0, none⟩ = some (.bool a0_0) ∧ w'.cell? ⟨gb1315, 1, none⟩ = some (.string a0_1) ∧ w'.cell? ⟨gb1315, 2, none⟩ = some (.string a0_2) ∧ w'.cell? ⟨gb1316, 0, none⟩ = some (.bool a1_0) ∧ w'.cell? ⟨gb1316, 1, none⟩ = some (.string a1_1) ∧ w'.cell? ⟨gb1316, 2, none⟩ = some (.string a1_2)) (ds := []) (b 6 0) (by kernel_rfl) rfl rfl xV (fun hHeld => ?_)
 generalize w8.drew = w9 at BK1315 BK1316 BK1317 HB hHeld ⊢
 refine yT 0 (some 5) (b 6 1) hHeld ?_
 refine yT 2 (some 7) (b 6 5) hHeld ?_
 refine yO 1 (some 6) (b 6 7) fun K hK => ?_
 refine xc Tryd.func57 (ir_Fix.calls k a0_0 a0_1 a0_2 t1318 t1319 t1320 _ A3.out) ?_
 rintro w10 hb
 replace BK1315 := xB BK1315 hb
 replace BK1316 := xB BK1316 hb
 replace BK1317 := xB BK1317 hb
 replace HB := xS HB hb
 clear hb
 refine hK.out _ _ xV (fun hHeld => ?_)
 clear hK K
 refine xN 6 ?_
 refine yO 3 (some 8) (b 6 15) fun K hK => ?_
 refine xc Tryd.func57 (ir_Fix.calls k a1_0 a1_1 a1_2 t1321 t1322 t1323 _ A4.out) ?_
 rintro w11 hb
 replace BK1315 := xB BK1315 hb
 replace BK1316 := xB BK1316 hb
 replace BK1317 := xB BK1317 hb
 replace HB := xS HB hb
 clear hb
 refine hK.out _ _ xV (fun hHeld => ?_)
 clear hK K
 refine xN 8 ?_
 refine yO 4 (some 9) (b 6 31) fun K hK => ?_
 refine xc Tryd.func45 (ir_Lesser.calls k t1318 t1319 t1320 t1321 t1322 t1323 t1324 t1325 t1326 _ A5.out) ?_
 rintro w12 hb
 replace BK1315 := xB BK1315 hb
 replace BK1316 := xB BK1316 hb
 replace BK1317 := xB BK1317 hb
 replace HB := xS HB hb
 clear hb
 refine hK.out _ _ xV (fun hHeld => ?_)
 clear hK K
 refine xN 9 ?_
 refine yO 5 none (b 6 63) fun K hK => ?_
 obtain ⟨hs13, hs14, hs15, hfs13, hfs14, hfs15⟩ := x6 BK1317
 have hns13_0 := NB1315_1317.out
 have hns13_1 := NB1316_1317.out
 have hms13_0 := NB1317_1315.out
 have hms13_1 := NB1317_1316.out
 refine xk ?_
 refine hK.out _ _ ⟨((cell_far (p := ⟨gb1317, _, none⟩) NB1315_1317.out _).trans ((cell_far (p := ⟨gb1317, _, none⟩) NB1315_1317.out _).trans ((cell_far (p := ⟨gb1317, _, none⟩) NB1315_1317.out _).trans (hHeld.1)))), ((cell_far (p := ⟨gb1317, _, none⟩) NB1315_1317.out _).trans ((cell_far (p := ⟨gb1317, _, none⟩) NB1315_1317.out _).trans ((cell_far (p := ⟨gb1317, _, none⟩) NB1315_1317.out _).trans (hHeld.2.1)))), ((cell_far (p := ⟨gb1317, _, none⟩) NB1315_1317.out _).trans ((cell_far (p := ⟨gb1317, _, none⟩) NB1315_1317.out _).trans ((cell_far (p := ⟨gb1317, _, none⟩) NB1315_1317.out _).trans (hHeld.2.2.1)))), ((cell_far (p := ⟨gb1317, _, none⟩) NB1316_1317.out _).trans ((cell_far (p := ⟨gb1317, _, none⟩) NB1316_1317.out _).trans ((cell_far (p := ⟨gb1317, _, none⟩) NB1316_1317.out _).trans (hHeld.2.2.2.1)))), ((cell_far (p := ⟨gb1317, _, none⟩) NB1316_1317.out _).trans ((cell_far (p := ⟨gb1317, _, none⟩) NB1316_1317.out _).trans ((cell_far (p := ⟨gb1317, _, none⟩) NB1316_1317.out _).trans (hHeld.2.2.2.2.1)))), ((cell_far (p := ⟨gb1317, _, none⟩) NB1316_1317.out _).trans ((cell_far (p := ⟨gb1317, _, none⟩) NB1316_1317.out _).trans ((cell_far (p := ⟨gb1317, _, none⟩) NB1316_1317.out _).trans (hHeld.2.2.2.2.2))))⟩ (fun hHeld => ?_)
 clear hK K
 refine done_ (by kernel_rfl) ?_
 try go_wp2
 refine bodyPost_ret (results_cell_row rfl _ _ gb1317 25 #[.bool t1324, .string t1325, .string t1326] (0, 0) _ rfl (xp BK1317) Tryd.underlying25 rfl (by kernel_rfl)) rfl ?_
 exact ⟨xy, xs HB⟩
/-! ### iq_Certain: function 33 -/
def iq_Certain.l0 : Nat → Int → Int → Int → List (S54) → Bool → ByteArray → ByteArray → Option (Bool × ByteArray × ByteArray)
 | 0, _, _, _, _, _, _, _ => none
 | k + 1, x4, x1328000, x1328001, x1328002, x1334000, x1334001, x1334002 => if x4 < (x1328002.length : Int) then (if 0 ≤ x4 then (if 0 < (x1328002.length : Int) then (if ((rd_T54 x1328002 x4).f1) = ((rd_T54 x1328002 0).f1) then ((ir_Min.f k x1334000 x1334001 x1334002 ((rd_T54 x1328002 x4).f0.f0) ((rd_T54 x1328002 x4).f0.f1) ((rd_T54 x1328002 x4).f0.f2)).bind fun bt1337 => (iq_Certain.l0 k (wrap64 (x4 + 1)) x1328000 x1328001 x1328002 bt1337.1 bt1337.2.1 bt1337.2.2)) else (some (false, (⟨#[]⟩ : ByteArray), (⟨#[]⟩ : ByteArray)))) else (none)) else (none)) else (some (x1334000, x1334001, x1334002))
def iq_Certain.f (k : Nat) (a0_0 : Int) (a0_1 : Int) (l0_2 : List (S54)) : Option (Bool × ByteArray × ByteArray) := if (l0_2.length : Int) = 0 then (some (false, (⟨#[]⟩ : ByteArray), (⟨#[]⟩ : ByteArray))) else (if 0 < (l0_2.length : Int) then ((ir_Fix.f k ((rd_T54 l0_2 0).f0.f0) ((rd_T54 l0_2 0).f0.f1) ((rd_T54 l0_2 0).f0.f2)).bind fun bt1330 => (iq_Certain.l0 k 0 a0_0 a0_1 l0_2 bt1330.1 bt1330.2.1 bt1330.2.2)) else (none))
theorem iq_Certain.mono_l : ∀ k, (∀ y0 y1 y2 y3 y4 y5 y6, LeO (iq_Certain.l0 k y0 y1 y2 y3 y4 y5 y6) (iq_Certain.l0 (k + 1) y0 y1 y2 y3 y4 y5 y6))
 | 0 => fun _ _ _ _ _ _ _ r h => by simp [iq_Certain.l0] at h
 | k + 1 => by
  have ih0 := iq_Certain.mono_l k
  ·intro y0 y1 y2 y3 y4 y5 y6
   unfold iq_Certain.l0
   have m0 := @ih0; have m1 := @ir_Fix.mono; have m2 := @ir_Min.mono; exact xM
theorem iq_Certain.mono : ∀ a0 a1 a2 k, LeO (iq_Certain.f k a0 a1 a2) (iq_Certain.f (k + 1) a0 a1 a2) := by
 intro a0 a1 a2 k
 have ih0 := iq_Certain.mono_l k
 unfold iq_Certain.f
 have m0 := @ih0; have m1 := @ir_Fix.mono; have m2 := @ir_Min.mono; exact xM
def iq_Certain.T7 : Bool × List (List Nat × List Nat) := (true, [([], []), ([0], [0]), ([], []), ([1, 2], [1, 2]), ([3], [3]), ([4], [4]), ([], []), ([6], [6]), ([7], [7]), ([8], [8]), ([9], [9]), ([5, 10], [5, 10])])
def iq_Certain.B7 : List Nat := [0, 1, 0, 7, 15, 31, 0, 64, 192, 448, 960, 2047]
theorem iq_Certain.tab7 : rtab .any (opsOf Tryd.f33 7) = iq_Certain.T7 := by kernel_rfl
theorem iq_Certain.bits7 : waitsOk iq_Certain.T7.2 iq_Certain.B7 = true := by kernel_rfl
def iq_Certain.T9 : Bool × List (List Nat × List Nat) := (true, [([], []), ([], []), ([1], [1]), ([], []), ([2, 3], [2, 3]), ([4], [4]), ([5], [5]), ([0, 6], [0, 6]), ([7, 7, 0, 1, 2, 3, 4, 5, 6, 7], [7])])
def iq_Certain.B9 : List Nat := [0, 0, 2, 0, 14, 30, 62, 127, 255]
theorem iq_Certain.tab9 : rtab .any (opsOf Tryd.f33 9) = iq_Certain.T9 := by kernel_rfl
theorem iq_Certain.bits9 : waitsOk iq_Certain.T9.2 iq_Certain.B9 = true := by kernel_rfl
theorem iq_Certain.calls (k : Nat) (a0_0 : Int) (a0_1 : Int) (A0_2 : Option Addr) (c0_2 : Nat) (l0_2 : List (S54)) (r1 : Bool) (r2 : ByteArray) (r3 : ByteArray) (w : World) (hr0_2 : Kd.C k54 w A0_2 l0_2.length l0_2) (hc0_2 : l0_2.length ≤ c0_2) (h : iq_Certain.f k a0_0 a0_1 l0_2 = some (r1, r2, r3)) :
  Calls Tryd.prog 33 #[.agg #[.int .i64 a0_0, .int .i64 a0_1, .slice A0_2 l0_2.length c0_2]] w fun e w' => e = .returned (.agg #[.bool r1, .string r2, .string r3]) ∧ Below w.heap.size w w' := by
 have hu50 := Tryd.underlying50
 have hu25 := Tryd.underlying25
 have HR0_2 := Aside0.mk hr0_2
 have HC0_2 := Aside0.mk hc0_2
 clear hr0_2 hc0_2
 have HB := Aside0.mk (Below.refl w.heap.size w)
 have H := h; clear h
 unfold iq_Certain.f at H
 obtain ⟨c2, H⟩ | ⟨c2, H⟩ := xO H
 ·have c2b0 := beq_iff_eq.mpr c2
  have c2b1 := bne_eq_false_iff_eq.mpr c2
  clear c2
  simp only [Option.some.injEq, Prod.mk.injEq] at H
  obtain ⟨rfl, rfl, rfl⟩ := H
  go_enter Tryd.func33, Tryd.ntmps33
  go_wp2_with (first | (refine xF (N := 1) #[.int .i64 a0_0, .int .i64 a0_1, .slice A0_2 l0_2.length c0_2] 50 HB ?_; clear HB; intro gb1327 hg w3 hb BK1327 GW1327 HB; clear hb hg) | (refine xF (N := 2) #[.bool false, .string (⟨#[]⟩ : ByteArray), .string (⟨#[]⟩ : ByteArray)] 25 HB ?_; clear HB; intro gb1328 hg w4 hb BK1328 GW1328 HB; have NB1327_1328 := xL BK1327 hg; have NB1328_1327 := xR BK1327 hg; replace BK1327 := xB BK1327 hb; clear hb hg; have hnb5 := NB1327_1328.out; have hnc5 := NB1328_1327.out; obtain ⟨hcz6_0, hcz6_1, hcz6_2, hfz6_0, hfz6_1, hfz6_2⟩ := x6 BK1327; obtain ⟨hcz7_0, hcz7_1, hcz7_2, hfz7_0, hfz7_1, hfz7_2⟩ := x6 BK1328))
  refine bodyPost_ret (results_cell_row rfl _ _ gb1328 25 #[.bool false, .string (⟨#[]⟩ : ByteArray), .string (⟨#[]⟩ : ByteArray)] (0, 0) _ rfl (xp BK1328) Tryd.underlying25 rfl (by kernel_rfl)) rfl ?_
  exact ⟨xy, xs HB⟩
 have c2b0 := beq_eq_false_iff_ne.mpr c2
 have c2b1 := bne_iff_ne.mpr c2
 have c2b2 : ¬ (l0_2 = []) := fun h_ => c2 (by rw [h_]; rfl)
 obtain ⟨c8, H⟩ := xQ H
 have c8b0 := decide_eq_true c8
 have c8b1 : decide (0 < l0_2.length) = true := decide_eq_true (by omega)
 clear c8
 replace H := xH H; obtain ⟨⟨t1330, t1331, t1332⟩, A9, H⟩ := H
 dsimp only at H
 have H' := Aside0.mk H
 clear H
 go_enter Tryd.func33, Tryd.ntmps33
 go_wp2_with (first | (refine xF (N := 1) #[.int .i64 a0_0, .int .i64 a0_1, .slice A0_2 l0_2.length c0_2] 50 HB ?_; clear HB; intro gb1327 hg w10 hb BK1327 GW1327 HB; clear hb hg) | (refine xF (N := 2) #[.bool false, .string (⟨#[]⟩ : ByteArray), .string (⟨#[]⟩ : ByteArray)] 25 HB ?_; clear HB; intro gb1328 hg w11 hb BK1328 GW1328 HB; have NB1327_1328 := xL BK1327 hg; have NB1328_1327 := xR BK1327 hg; replace BK1327 := xB BK1327 hb; clear hb hg; have hnb12 := NB1327_1328.out; have hnc12 := NB1328_1327.out; obtain ⟨hcz13_0, hcz13_1, hcz13_2, hfz13_0, hfz13_1, hfz13_2⟩ := x6 BK1327; have p1329 : 0 ≤ (0 : Int) := (by omega); have q1329 : 0 < (l0_2.length : Int) := xa; obtain ⟨ad1329, e1329, hx1329_0, hx1329_1, hx1329_2, hx1329_3⟩ := at_T54 HR0_2.out 0 p1329 q1329; cases e1329; have qi1329 : (0 < l0_2.length) = True := eq_true (by omega); (try rw [show (0 : Int).toNat = 0 from rfl] at hx1329_0); (try rw [show 0 * 4 = 0 from rfl] at hx1329_0); (try rw [Addr.add_zero'] at hx1329_0); (try rw [show (0 : Int).toNat = 0 from rfl] at hx1329_1); (try rw [show 0 * 4 = 0 from rfl] at hx1329_1); (try rw [Addr.add_zero'] at hx1329_1); (try rw [show (0 : Int).toNat = 0 from rfl] at hx1329_2); (try rw [show 0 * 4 = 0 from rfl] at hx1329_2); (try rw [Addr.add_zero'] at hx1329_2); (try rw [show (0 : Int).toNat = 0 from rfl] at hx1329_3); (try rw [show 0 * 4 = 0 from rfl] at hx1329_3); (try rw [Addr.add_zero'] at hx1329_3); replace hx1329_0 := (HB.out.cell (World.block_lt_of_cell? w _ hx1329_0)).trans hx1329_0; replace hx1329_1 := (HB.out.cell (World.block_lt_of_cell? w _ hx1329_1)).trans hx1329_1; replace hx1329_2 := (HB.out.cell (World.block_lt_of_cell? w _ hx1329_2)).trans hx1329_2; replace hx1329_3 := (HB.out.cell (World.block_lt_of_cell? w _ hx1329_3)).trans hx1329_3; replace p1329 := eq_true p1329; replace q1329 := eq_true q1329) | (refine xC Tryd.func57 (some 15) (ir_Fix.calls k ((rd_T54 l0_2 0).f0.f0) ((rd_T54 l0_2 0).f0.f1) ((rd_T54 l0_2 0).f0.f2) t1330 t1331 t1332 _ A9.out) ?_; rintro w14 hb; replace BK1327 := xB BK1327 hb; replace BK1328 := xB BK1328 hb; replace HB := xS HB hb; clear hb) | (refine xF (N := 3) #[.bool false, .string (⟨#[]⟩ : ByteArray), .string (⟨#[]⟩ : ByteArray)] 25 HB ?_; clear HB; intro gb1333 hg w15 hb BK1333 GW1333 HB; have NB1327_1333 := xL BK1327 hg; have NB1333_1327 := xR BK1327 hg; replace BK1327 := xB BK1327 hb; have NB1328_1333 := xL BK1328 hg; have NB1333_1328 := xR BK1328 hg; replace BK1328 := xB BK1328 hb; clear hb hg; have hnb16 := NB1333_1327.out; have hnc16 := NB1327_1333.out; have hnb17 := NB1333_1328.out; have hnc17 := NB1328_1333.out; obtain ⟨hcz18_0, hcz18_1, hcz18_2, hfz18_0, hfz18_1, hfz18_2⟩ := x6 BK1333))
 go_loopg [4] k (fun kq v4 w' => ∃ (x4_1 : Int) (x1329000_1 : Bool) (x1329001_1 : ByteArray) (x1329002_1 : ByteArray) (x1334000_1 : Bool) (x1334001_1 : ByteArray) (x1334002_1 : ByteArray), v4 = .int .i64 x4_1 ∧ Aside0 (iq_Certain.l0 kq x4_1 a0_0 a0_1 l0_2 x1334000_1 x1334001_1 x1334002_1 = some (r1, r2, r3)) ∧ Aside0 (kq ≤ k) ∧ Aside0 (w'.heap[gb1327]? = some (.cells #[.int .i64 a0_0, .int .i64 a0_1, (.slice (some ad1329) l0_2.length c0_2)] 50 (0, 0))) ∧ Aside0 (w'.heap[gb1328]? = some (.cells #[.bool x1329000_1, .string x1329001_1, .string x1329002_1] 25 (0, 0))) ∧ Aside0 (w'.heap[gb1333]? = some (.cells #[.bool x1334000_1, .string x1334001_1, .string x1334002_1] 25 (0, 0))) ∧ Aside0 (Below w.heap.size w w'))
 case atStart => exact ⟨(0), (false), (⟨#[]⟩ : ByteArray), (⟨#[]⟩ : ByteArray), (t1330), (t1331), (t1332), xz, H', ⟨Nat.le_refl _⟩, ⟨xb BK1327⟩, ⟨xb BK1328⟩, ⟨by refine blk_put (cs := #[.bool t1330, .string t1331, .string (⟨#[]⟩ : ByteArray)]) ?_ 2 _ (by rfl); refine blk_put (cs := #[.bool t1330, .string (⟨#[]⟩ : ByteArray), .string (⟨#[]⟩ : ByteArray)]) ?_ 1 _ (by rfl); refine blk_put (cs := #[.bool false, .string (⟨#[]⟩ : ByteArray), .string (⟨#[]⟩ : ByteArray)]) ?_ 0 _ (by rfl); exact BK1333.out⟩, ⟨xs HB⟩⟩
 case round =>
  clear H'
  try clear c2b0; try clear c2b1; try clear c2b2; try clear c8b0; try clear c8b1; try clear hcz13_0; try clear hcz13_1; try clear hcz13_2; try clear hcz18_0; try clear hcz18_1; try clear hcz18_2; try clear hcz6_0; try clear hcz6_1; try clear hcz6_2; try clear hcz7_0; try clear hcz7_1; try clear hcz7_2; try clear hfz13_0; try clear hfz13_1; try clear hfz13_2; try clear hfz18_0; try clear hfz18_1; try clear hfz18_2; try clear hfz6_0; try clear hfz6_1; try clear hfz6_2; try clear hfz7_0; try clear hfz7_1; try clear hfz7_2; try clear hx1329_0; try clear hx1329_1; try clear hx1329_2; try clear hx1329_3; try clear p1329; try clear q1329
  obtain ⟨x4_1, x1329000_1, x1329001_1, x1329002_1, x1334000_1, x1334001_1, x1334002_1, rfl, HA, HK1, BK1327, BK1328, BK1333, HB⟩ := hrel
  cases gk with
  | zero => exact absurd HA.out (by simp [iq_Certain.l0])
  | succ k1 =>
   have H := HA.out
   clear HA
   simp only [iq_Certain.l0] at H
   obtain ⟨c19b0, H⟩ | ⟨c19b0, H⟩ := xOd H
   ·obtain ⟨c20b0, H⟩ := xQd H
    obtain ⟨c21, H⟩ := xQ H
    have c21b0 := decide_eq_true c21
    have c21b1 : decide (0 < l0_2.length) = true := decide_eq_true (by omega)
    clear c21
    obtain ⟨c22, H⟩ | ⟨c22, H⟩ := xO H
    ·have c22b0 := beq_iff_eq.mpr c22
     have c22b1 := bne_eq_false_iff_eq.mpr c22
     clear c22
     replace H := xH H; obtain ⟨⟨t1337, t1338, t1339⟩, A23, H⟩ := H
     dsimp only at H
     have H' := Aside0.mk H
     clear H
     have hnb24 := NB1327_1328.out
     have hnc24 := NB1328_1327.out
     have hnb25 := NB1327_1333.out
     have hnc25 := NB1333_1327.out
     obtain ⟨hcz26_0, hcz26_1, hcz26_2, hfz26_0, hfz26_1, hfz26_2⟩ := x6 BK1327
     try go_wp2
     replace BK1327 := xD BK1327
     replace BK1328 := xD BK1328
     replace BK1333 := xD BK1333
     replace HB := xW HB
     obtain ⟨p1334, q1334, ad1334, e1334, hx1334_0, hx1334_1, hx1334_2, hx1334_3⟩ := xA (at_T54 HR0_2.out x4_1)
     have hw1334_3 := hx1334_3
     have hw1334_2 := hx1334_2
     have hw1334_1 := hx1334_1
     have hw1334_0 := hx1334_0
     obtain rfl : ad1329 = ad1334 := (by injection e1334)
     (try replace hx1334_0 := xcl HB hx1334_0)
     (try replace hx1334_1 := xcl HB hx1334_1)
     (try replace hx1334_2 := xcl HB hx1334_2)
     (try replace hx1334_3 := xcl HB hx1334_3)
     have p1335 : 0 ≤ (0 : Int) := (by omega)
     have q1335 : 0 < (l0_2.length : Int) := xa
     obtain ⟨ad1335, e1335, hx1335_0, hx1335_1, hx1335_2, hx1335_3⟩ := at_T54 HR0_2.out 0 p1335 q1335
     have hw1335_3 := hx1335_3
     (try rw [show (0 : Int).toNat = 0 from rfl] at hw1335_3)
     (try rw [show 0 * 4 = 0 from rfl] at hw1335_3)
     (try rw [Addr.add_zero'] at hw1335_3)
     have hw1335_2 := hx1335_2
     (try rw [show (0 : Int).toNat = 0 from rfl] at hw1335_2)
     (try rw [show 0 * 4 = 0 from rfl] at hw1335_2)
     (try rw [Addr.add_zero'] at hw1335_2)
     have hw1335_1 := hx1335_1
     (try rw [show (0 : Int).toNat = 0 from rfl] at hw1335_1)
     (try rw [show 0 * 4 = 0 from rfl] at hw1335_1)
     (try rw [Addr.add_zero'] at hw1335_1)
     have hw1335_0 := hx1335_0
     (try rw [show (0 : Int).toNat = 0 from rfl] at hw1335_0)
     (try rw [show 0 * 4 = 0 from rfl] at hw1335_0)
     (try rw [Addr.add_zero'] at hw1335_0)
     obtain rfl : ad1329 = ad1335 := (by injection e1335)
     have qi1335 : (0 < l0_2.length) = True := eq_true (by omega)
     (try rw [show (0 : Int).toNat = 0 from rfl] at hx1335_0)
     (try rw [show 0 * 4 = 0 from rfl] at hx1335_0)
     (try rw [Addr.add_zero'] at hx1335_0)
     (try rw [show (0 : Int).toNat = 0 from rfl] at hx1335_1)
     (try rw [show 0 * 4 = 0 from rfl] at hx1335_1)
     (try rw [Addr.add_zero'] at hx1335_1)
     (try rw [show (0 : Int).toNat = 0 from rfl] at hx1335_2)
     (try rw [show 0 * 4 = 0 from rfl] at hx1335_2)
     (try rw [Addr.add_zero'] at hx1335_2)
     (try rw [show (0 : Int).toNat = 0 from rfl] at hx1335_3)
     (try rw [show 0 * 4 = 0 from rfl] at hx1335_3)
     (try rw [Addr.add_zero'] at hx1335_3)
     (try replace hx1335_0 := xcl HB hx1335_0)
     (try replace hx1335_1 := xcl HB hx1335_1)
     (try replace hx1335_2 := xcl HB hx1335_2)
     (try replace hx1335_3 := xcl HB hx1335_3)
     replace p1335 := eq_true p1335
     replace q1335 := eq_true q1335
     refine start_ (n := 12) (S := fun w' => w'.cell? ⟨gb1327, 0, none⟩ = some (.int .i64 a0_0) ∧ w'.cell? ⟨gb1327, 1, none⟩ = some (.int .i64 a0_1) ∧ w'.cell? ⟨gb1327, 2, none⟩ = some (.slice (some ad1329) l0_2.length c0_2) ∧ w'.cell? (ad1329.add ((x4_1).toNat * 4)) = some (.bool ((rd_T54 l0_2 x4_1).f0.f0)) ∧ w'.cell? ⟨(ad1329.add ((x4_1).toNat * 4)).block, (ad1329.add ((x4_1).toNat * 4)).off + 1, none⟩ = some (.string ((rd_T54 l0_2 x4_1).f0.f1)) ∧ w'.cell? ⟨(ad1329.add ((x4_1).toNat * 4)).block, (ad1329.add ((x4_1).toNat * 4)).off + 2, none⟩ = some (.string ((rd_T54 l0_2 x4_1).f0.f2)) ∧ w'.cell? ⟨(ad1329.add ((x4_1).toNat * 4)).block, (ad1329.add ((x4_1).toNat * 4)).off + 3, none⟩ = some (.int .i64 ((rd_T54 l0_2 x4_1).f1)) ∧ w'.cell? ad1329 = some (.bool ((rd_T54 l0_2 0).f0.f0)) ∧ w'.cell? ⟨ad1329.block, ad1329.off + 1, none⟩ = some (.string ((rd_T54 l0_2 0).f0.f1)) ∧ w'.cell? ⟨ad1329.block, ad1329.off + 2, none⟩ = some (.string ((rd_T54 l0_2 0).f0.f2)) ∧ w'.cell? ⟨ad1329.block, ad1329.off + 3, none⟩ = some (.int .i64 ((rd_T54 l0_2 0).f1))) (ds := []) (b 12 0) (by kernel_rfl) rfl rfl ⟨(blk_cell BK1327.out 0).trans rfl, (blk_cell BK1327.out 1).trans rfl, (blk_cell BK1327.out 2).trans rfl, ((HB.out.cell (World.block_lt_of_cell? w _ hw1334_0)).trans hw1334_0), ((HB.out.cell (World.block_lt_of_cell? w _ hw1334_1)).trans hw1334_1), ((HB.out.cell (World.block_lt_of_cell? w _ hw1334_2)).trans hw1334_2), ((HB.out.cell (World.block_lt_of_cell? w _ hw1334_3)).trans hw1334_3), ((HB.out.cell (World.block_lt_of_cell? w _ hw1335_0)).trans hw1335_0), ((HB.out.cell (World.block_lt_of_cell? w _ hw1335_1)).trans hw1335_1), ((HB.out.cell (World.block_lt_of_cell? w _ hw1335_2)).trans hw1335_2), ((HB.out.cell (World.block_lt_of_cell? w _ hw1335_3)).trans hw1335_3)⟩ (fun hHeld => ?_); refine with_tabW iq_Certain.tab7 iq_Certain.bits7 (fun HT_ HW_ => ?_)
     generalize wr.drew = w27 at BK1327 BK1328 BK1333 HB hx1334_0 hx1334_1 hx1334_2 hx1334_3 hx1335_0 hx1335_1 hx1335_2 hx1335_3 hHeld ⊢
     refine yP 0 (some 23) (b 12 1) ?_
     refine yP 2 (some 25) (b 12 5) ?_
     refine yP 6 (some 29) (b 12 69) ?_
     refine yT 1 (some 24) (b 12 71) hHeld ?_
     refine yP 3 (some 26) (b 12 79) ?_
     refine yP 4 (some 27) (b 12 95) ?_
     refine yT 5 (some 28) (b 12 127) hHeld ?_
     refine yT 7 (some 30) (b 12 255) hHeld ?_
     refine yP 8 (some 31) (b 12 511) ?_
     refine yP 9 (some 32) (b 12 1023) ?_
     refine yT 10 (some 33) (b 12 2047) hHeld ?_
     refine yP 11 (some 34) (b 12 4095) ?_
     refine done_ (done_of HT_.out (by kernel_rfl)) ?_
     try go_wp2
     replace BK1327 := xD BK1327
     replace BK1328 := xD BK1328
     replace BK1333 := xD BK1333
     replace HB := xW HB
     obtain ⟨p1336, q1336, ad1336, e1336, hx1336_0, hx1336_1, hx1336_2, hx1336_3⟩ := xA (at_T54 HR0_2.out x4_1)
     have hw1336_3 := hx1336_3
     have hw1336_2 := hx1336_2
     have hw1336_1 := hx1336_1
     have hw1336_0 := hx1336_0
     obtain rfl : ad1329 = ad1336 := (by injection e1336)
     (try replace hx1336_0 := xcl HB hx1336_0)
     (try replace hx1336_1 := xcl HB hx1336_1)
     (try replace hx1336_2 := xcl HB hx1336_2)
     (try replace hx1336_3 := xcl HB hx1336_3)
     refine start_ (n := 9) (S := fun w' => w'.cell? ⟨gb1333, 0, none⟩ = some (.bool x1334000_1) ∧ w'.cell? ⟨gb1333, 1, none⟩ = some (.string x1334001_1) ∧ w'.cell? ⟨gb1333, 2, none⟩ = some (.string x1334002_1) ∧ w'.cell? ⟨gb1327, 0, none⟩ = some (.int .i64 a0_0) ∧ w'.cell? ⟨gb1327, 1, none⟩ = some (.int .i64 a0_1) ∧ w'.cell? ⟨gb1327, 2, none⟩ = some (.slice (some ad1329) l0_2.length c0_2) ∧ w'.cell? (ad1329.add ((x4_1).toNat * 4)) = some (.bool ((rd_T54 l0_2 x4_1).f0.f0)) ∧ w'.cell? ⟨(ad1329.add ((x4_1).toNat * 4)).block, (ad1329.add ((x4_1).toNat * 4)).off + 1, none⟩ = some (.string ((rd_T54 l0_2 x4_1).f0.f1)) ∧ w'.cell? ⟨(ad1329.add ((x4_1).toNat * 4)).block, (ad1329.add ((x4_1).toNat * 4)).off + 2, none⟩ = some (.string ((rd_T54 l0_2 x4_1).f0.f2)) ∧ w'.cell? ⟨(ad1329.add ((x4_1).toNat * 4)).block, (ad1329.add ((x4_1).toNat * 4)).off + 3, none⟩ = some (.int .i64 ((rd_T54 l0_2 x4_1).f1))) (ds := [8]) (b 9 0) (by kernel_rfl) rfl rfl ⟨(blk_cell BK1333.out 0).trans rfl, (blk_cell BK1333.out 1).trans rfl, (blk_cell BK1333.out 2).trans rfl, (blk_cell BK1327.out 0).trans rfl, (blk_cell BK1327.out 1).trans rfl, (blk_cell BK1327.out 2).trans rfl, ((HB.out.cell (World.block_lt_of_cell? w _ hw1336_0)).trans hw1336_0), ((HB.out.cell (World.block_lt_of_cell? w _ hw1336_1)).trans hw1336_1), ((HB.out.cell (World.block_lt_of_cell? w _ hw1336_2)).trans hw1336_2), ((HB.out.cell (World.block_lt_of_cell? w _ hw1336_3)).trans hw1336_3)⟩ (fun hHeld => ?_); refine with_tabW iq_Certain.tab9 iq_Certain.bits9 (fun HT_ HW_ => ?_)
     generalize w27.drew = w28 at BK1327 BK1328 BK1333 HB hx1336_0 hx1336_1 hx1336_2 hx1336_3 hHeld ⊢
     refine yP 1 (some 37) (b 9 2) ?_
     refine yP 3 (some 39) (b 9 10) ?_
     refine yT 0 (some 36) (b 9 11) hHeld ?_
     refine yT 2 (some 38) (b 9 15) hHeld ?_
     refine yP 4 (some 40) (b 9 31) ?_
     refine yP 5 (some 41) (b 9 63) ?_
     refine yT 6 (some 42) (b 9 127) hHeld ?_
     refine yO 7 (some 43) (b 9 255) fun K hK => ?_
     refine xc Tryd.func59 (ir_Min.calls k1 x1334000_1 x1334001_1 x1334002_1 ((rd_T54 l0_2 x4_1).f0.f0) ((rd_T54 l0_2 x4_1).f0.f1) ((rd_T54 l0_2 x4_1).f0.f2) t1337 t1338 t1339 _ A23.out) ?_
     rintro w29 hb
     replace BK1327 := xB BK1327 hb
     replace BK1328 := xB BK1328 hb
     replace BK1333 := xB BK1333 hb
     replace HB := xS HB hb
     clear hb
     refine hK.out _ _ ⟨(blk_cell BK1333.out 0).trans rfl, (blk_cell BK1333.out 1).trans rfl, (blk_cell BK1333.out 2).trans rfl, (blk_cell BK1327.out 0).trans rfl, (blk_cell BK1327.out 1).trans rfl, (blk_cell BK1327.out 2).trans rfl, ((HB.out.cell (World.block_lt_of_cell? w _ hw1336_0)).trans hw1336_0), ((HB.out.cell (World.block_lt_of_cell? w _ hw1336_1)).trans hw1336_1), ((HB.out.cell (World.block_lt_of_cell? w _ hw1336_2)).trans hw1336_2), ((HB.out.cell (World.block_lt_of_cell? w _ hw1336_3)).trans hw1336_3)⟩ (fun hHeld => ?_)
     clear hK K
     refine xN 43 ?_
     refine yZ 8 none (b 9 511) fun K hK => ?_
     obtain ⟨hs30, hs31, hs32, hfs30, hfs31, hfs32⟩ := x6 BK1333
     have hns30_0 := NB1327_1333.out
     have hns30_1 := NB1328_1333.out
     have hms30_0 := NB1333_1327.out
     have hms30_1 := NB1333_1328.out
     refine xk ?_
     refine hK.out _ _ ?_
     clear hK K
     refine done_ (done_of HT_.out (by kernel_rfl)) ?_
     try go_wp2
     go_roundg k1
     case measure => have := HK1.out; omega
     case rel => exact ⟨(wrap64 (x4_1 + 1)), (x1329000_1), (x1329001_1), (x1329002_1), (t1337), (t1338), (t1339), xz, H', ⟨by have := HK1.out; omega⟩, ⟨xb BK1327⟩, ⟨xb BK1328⟩, ⟨by refine blk_put (cs := #[.bool t1337, .string t1338, .string x1334002_1]) ?_ 2 _ (by rfl); refine blk_put (cs := #[.bool t1337, .string x1334001_1, .string x1334002_1]) ?_ 1 _ (by rfl); refine blk_put (cs := #[.bool x1334000_1, .string x1334001_1, .string x1334002_1]) ?_ 0 _ (by rfl); exact BK1333.out⟩, ⟨xs HB⟩⟩
    have c22b0 := beq_eq_false_iff_ne.mpr c22
    have c22b1 := bne_iff_ne.mpr c22
    simp only [Option.some.injEq, Prod.mk.injEq] at H
    obtain ⟨rfl, rfl, rfl⟩ := H
    have hnb33 := NB1327_1328.out
    have hnc33 := NB1328_1327.out
    have hnb34 := NB1327_1333.out
    have hnc34 := NB1333_1327.out
    obtain ⟨hcz35_0, hcz35_1, hcz35_2, hfz35_0, hfz35_1, hfz35_2⟩ := x6 BK1327
    try go_wp2
    replace BK1327 := xD BK1327
    replace BK1328 := xD BK1328
    replace BK1333 := xD BK1333
    replace HB := xW HB
    obtain ⟨p1334, q1334, ad1334, e1334, hx1334_0, hx1334_1, hx1334_2, hx1334_3⟩ := xA (at_T54 HR0_2.out x4_1)
    have hw1334_3 := hx1334_3
    have hw1334_2 := hx1334_2
    have hw1334_1 := hx1334_1
    have hw1334_0 := hx1334_0
    obtain rfl : ad1329 = ad1334 := (by injection e1334)
    (try replace hx1334_0 := xcl HB hx1334_0)
    (try replace hx1334_1 := xcl HB hx1334_1)
    (try replace hx1334_2 := xcl HB hx1334_2)
    (try replace hx1334_3 := xcl HB hx1334_3)
    have p1335 : 0 ≤ (0 : Int) := (by omega)
    have q1335 : 0 < (l0_2.length : Int) := xa
    obtain ⟨ad1335, e1335, hx1335_0, hx1335_1, hx1335_2, hx1335_3⟩ := at_T54 HR0_2.out 0 p1335 q1335
    have hw1335_3 := hx1335_3
    (try rw [show (0 : Int).toNat = 0 from rfl] at hw1335_3)
    (try rw [show 0 * 4 = 0 from rfl] at hw1335_3)
    (try rw [Addr.add_zero'] at hw1335_3)
    have hw1335_2 := hx1335_2
    (try rw [show (0 : Int).toNat = 0 from rfl] at hw1335_2)
    (try rw [show 0 * 4 = 0 from rfl] at hw1335_2)
    (try rw [Addr.add_zero'] at hw1335_2)
    have hw1335_1 := hx1335_1
    (try rw [show (0 : Int).toNat = 0 from rfl] at hw1335_1)
    (try rw [show 0 * 4 = 0 from rfl] at hw1335_1)
    (try rw [Addr.add_zero'] at hw1335_1)
    have hw1335_0 := hx1335_0
    (try rw [show (0 : Int).toNat = 0 from rfl] at hw1335_0)
    (try rw [show 0 * 4 = 0 from rfl] at hw1335_0)
    (try rw [Addr.add_zero'] at hw1335_0)
    obtain rfl : ad1329 = ad1335 := (by injection e1335)
    have qi1335 : (0 < l0_2.length) = True := eq_true (by omega)
    (try rw [show (0 : Int).toNat = 0 from rfl] at hx1335_0)
    (try rw [show 0 * 4 = 0 from rfl] at hx1335_0)
    (try rw [Addr.add_zero'] at hx1335_0)
    (try rw [show (0 : Int).toNat = 0 from rfl] at hx1335_1)
    (try rw [show 0 * 4 = 0 from rfl] at hx1335_1)
    (try rw [Addr.add_zero'] at hx1335_1)
    (try rw [show (0 : Int).toNat = 0 from rfl] at hx1335_2)
    (try rw [show 0 * 4 = 0 from rfl] at hx1335_2)
    (try rw [Addr.add_zero'] at hx1335_2)
    (try rw [show (0 : Int).toNat = 0 from rfl] at hx1335_3)
    (try rw [show 0 * 4 = 0 from rfl] at hx1335_3)
    (try rw [Addr.add_zero'] at hx1335_3)
    (try replace hx1335_0 := xcl HB hx1335_0)
    (try replace hx1335_1 := xcl HB hx1335_1)
    (try replace hx1335_2 := xcl HB hx1335_2)
    (try replace hx1335_3 := xcl HB hx1335_3)
    replace p1335 := eq_true p1335
    replace q1335 := eq_true q1335
    refine start_ (n := 12) (S := fun w' => w'.cell? ⟨gb1327, 0, none⟩ = some (.int .i64 a0_0) ∧ w'.cell? ⟨gb1327, 1, none⟩ = some (.int .i64 a0_1) ∧ w'.cell? ⟨gb1327, 2, none⟩ = some (.slice (some ad1329) l0_2.length c0_2) ∧ w'.cell? (ad1329.add ((x4_1).toNat * 4)) = some (.bool ((rd_T54 l0_2 x4_1).f0.f0)) ∧ w'.cell? ⟨(ad1329.add ((x4_1).toNat * 4)).block, (ad1329.add ((x4_1).toNat * 4)).off + 1, none⟩ = some (.string ((rd_T54 l0_2 x4_1).f0.f1)) ∧ w'.cell? ⟨(ad1329.add ((x4_1).toNat * 4)).block, (ad1329.add ((x4_1).toNat * 4)).off + 2, none⟩ = some (.string ((rd_T54 l0_2 x4_1).f0.f2)) ∧ w'.cell? ⟨(ad1329.add ((x4_1).toNat * 4)).block, (ad1329.add ((x4_1).toNat * 4)).off + 3, none⟩ = some (.int .i64 ((rd_T54 l0_2 x4_1).f1)) ∧ w'.cell? ad1329 = some (.bool ((rd_T54 l0_2 0).f0.f0)) ∧ w'.cell? ⟨ad1329.block, ad1329.off + 1, none⟩ = some (.string ((rd_T54 l0_2 0).f0.f1)) ∧ w'.cell? ⟨ad1329.block, ad1329.off + 2, none⟩ = some (.string ((rd_T54 l0_2 0).f0.f2)) ∧ w'.cell? ⟨ad1329.block, ad1329.off + 3, none⟩ = some (.int .i64 ((rd_T54 l0_2 0).f1))) (ds := []) (b 12 0) (by kernel_rfl) rfl rfl ⟨(blk_cell BK1327.out 0).trans rfl, (blk_cell BK1327.out 1).trans rfl, (blk_cell BK1327.out 2).trans rfl, ((HB.out.cell (World.block_lt_of_cell? w _ hw1334_0)).trans hw1334_0), ((HB.out.cell (World.block_lt_of_cell? w _ hw1334_1)).trans hw1334_1), ((HB.out.cell (World.block_lt_of_cell? w _ hw1334_2)).trans hw1334_2), ((HB.out.cell (World.block_lt_of_cell? w _ hw1334_3)).trans hw1334_3), ((HB.out.cell (World.block_lt_of_cell? w _ hw1335_0)).trans hw1335_0), ((HB.out.cell (World.block_lt_of_cell? w _ hw1335_1)).trans hw1335_1), ((HB.out.cell (World.block_lt_of_cell? w _ hw1335_2)).trans hw1335_2), ((HB.out.cell (World.block_lt_of_cell? w _ hw1335_3)).trans hw1335_3)⟩ (fun hHeld => ?_); refine with_tabW iq_Certain.tab7 iq_Certain.bits7 (fun HT_ HW_ => ?_)
    generalize wr.drew = w36 at BK1327 BK1328 BK1333 HB hx1334_0 hx1334_1 hx1334_2 hx1334_3 hx1335_0 hx1335_1 hx1335_2 hx1335_3 hHeld ⊢
    refine yP 0 (some 23) (b 12 1) ?_
    refine yP 2 (some 25) (b 12 5) ?_
    refine yP 6 (some 29) (b 12 69) ?_
    refine yT 1 (some 24) (b 12 71) hHeld ?_
    refine yP 3 (some 26) (b 12 79) ?_
    refine yP 4 (some 27) (b 12 95) ?_
    refine yT 5 (some 28) (b 12 127) hHeld ?_
    refine yT 7 (some 30) (b 12 255) hHeld ?_
    refine yP 8 (some 31) (b 12 511) ?_
    refine yP 9 (some 32) (b 12 1023) ?_
    refine yT 10 (some 33) (b 12 2047) hHeld ?_
    refine yP 11 (some 34) (b 12 4095) ?_
    refine done_ (done_of HT_.out (by kernel_rfl)) ?_
    have hnb37 := NB1328_1333.out
    have hnc37 := NB1333_1328.out
    obtain ⟨hcz38_0, hcz38_1, hcz38_2, hfz38_0, hfz38_1, hfz38_2⟩ := x6 BK1328
    try go_wp2
    refine bodyPost_ret (results_cell_row rfl _ _ gb1328 25 #[.bool false, .string (⟨#[]⟩ : ByteArray), .string (⟨#[]⟩ : ByteArray)] (0, 0) _ rfl (xp BK1328) Tryd.underlying25 rfl (by kernel_rfl)) rfl ?_
    exact ⟨xy, xs HB⟩
   simp only [Option.some.injEq, Prod.mk.injEq] at H
   obtain ⟨rfl, rfl, rfl⟩ := H
   have hnb39 := NB1327_1328.out
   have hnc39 := NB1328_1327.out
   have hnb40 := NB1327_1333.out
   have hnc40 := NB1333_1327.out
   obtain ⟨hcz41_0, hcz41_1, hcz41_2, hfz41_0, hfz41_1, hfz41_2⟩ := x6 BK1327
   have hnb42 := NB1333_1328.out
   have hnc42 := NB1328_1333.out
   obtain ⟨hcz43_0, hcz43_1, hcz43_2, hfz43_0, hfz43_1, hfz43_2⟩ := x6 BK1333
   obtain ⟨hcz44_0, hcz44_1, hcz44_2, hfz44_0, hfz44_1, hfz44_2⟩ := x6 BK1328
   go_wp2
   refine bodyPost_ret (results_cell_row rfl _ _ gb1328 25 #[.bool x1334000_1, .string x1334001_1, .string x1334002_1] (0, 0) _ rfl (xp BK1328) Tryd.underlying25 rfl (by kernel_rfl)) rfl ?_
   exact ⟨xy, xs HB⟩
/-! ### il_DisputeBounds: function 9 -/
section
variable {P : Program} {ops : Array Oper} {rest : List Oper} {o : Oper} {a : Act} {Q : Exit → Act → World → Prop}
theorem lit_one {W : World} {N : Tmp} (cs : Array Value) (t : TypeId)
    (h : ∀ g, g = W.heap.size → ∀ w1, w1.heap[g]? = some (.cells cs t (0, 0)) → Below W.heap.size W w1 → wpList P ops Q rest (a.put o.dst (.slice (some ⟨g, 0, none⟩) 1 1)) w1)
    (hd : o.dst = some N := by rfl) (hgd : o.guard = none := by rfl)
    (hrun : (execOp a.eval o).run P W = .ok (.value (.slice (some ⟨W.heap.size, 0, none⟩) 1 1)) (W.alloc (.cells cs t (0, 0))) := by first | (go_simp; done) | (go_simp; rfl)) : wpList P ops Q (o :: rest) a W :=
  Kd.event_run hgd hrun (h _ rfl _ (blk_new W _) (below_alloc (Below.refl _ _) _))
end
theorem one_C50 {w : World} {g : Nat} {e c : Int} {A : Option Addr} {c0 : Nat} {l : List S54} (hc : l.length ≤ c0) (hb : w.heap[g]? = some (.cells #[.int .i64 e, .int .i64 c, .slice A l.length c0] 50 (0, 0))) (hC : Kd.C k54 w A l.length l) :
    Kd.C k50 w (some ⟨g, 0, none⟩) 1 [(⟨⟨e, c⟩, l⟩ : S50)] := by
  refine ⟨rfl, by decide, fun _ => ⟨⟨g, 0, none⟩, rfl, fun j p hp => ?_⟩⟩
  match j, hp with
  | 0, hp =>
    obtain rfl : (⟨⟨e, c⟩, l⟩ : S50) = p := by simpa using hp
    refine ⟨_, rfl, k50_mk w ⟨⟨e, c⟩, l⟩ hc hC, fun i u hu => ?_⟩
    have h0 : (⟨g, 0, none⟩ : Addr).add (0 * k50.sz + i) = ⟨g, i, none⟩ := by
      rw [Nat.zero_mul, Nat.zero_add]
      exact (add_plain ..).trans (by simp)
    rw [h0]
    have := blk_cell hb i
    rw [this]
    simpa using hu
  | j + 1, hp => simp at hp
theorem eqA54 (d : Nat) (w : World) (x0 y0 : Bool) (x1 y1 x2 y2 : ByteArray) (x3 y3 : Int) :
  (Op.equalIn (d + 3) 54 (.agg #[.bool x0, .string x1, .string x2, .int .i64 x3]) (.agg #[.bool y0, .string y1, .string y2, .int .i64 y3])).run Tryd.prog w = .ok ((x0 == y0 && (x1.toList == y1.toList && (x2.toList == y2.toList))) && x3 == y3) w := by
 have hu25 := Tryd.underlying25
 refine eqA_of Tryd.underlying54 (by kernel_rfl) ?_
 refine eqf_cons (a := .agg #[.bool x0, .string x1, .string x2]) (b := .agg #[.bool y0, .string y1, .string y2]) (by rfl) (by go_simp) (by go_simp) (eqA25 d w ..) ?_
 exact eqf_last (by rfl) (by go_simp; rfl) (by go_simp; rfl) (by go_simp)
theorem same54 (d : Nat) (w : World) (x0 : Bool) (x1 x2 : ByteArray) (x3 : Int) :
  (Op.equalIn (d + 3) 54 (.agg #[.bool x0, .string x1, .string x2, .int .i64 x3]) (.agg #[.bool x0, .string x1, .string x2, .int .i64 x3])).run Tryd.prog w = .ok true w := by
 rw [eqA54]; simp
theorem same25 (d : Nat) (w : World) (x0 : Bool) (x1 x2 : ByteArray) :
  (Op.equalIn (d + 2) 25 (.agg #[.bool x0, .string x1, .string x2]) (.agg #[.bool x0, .string x1, .string x2])).run Tryd.prog w = .ok true w := by
 rw [eqA25]; simp
theorem few_one {w : World} {g : Nat} {k : Nat} {e c : Int} {l : List S54} {t : Bool} (hC : Kd.C k50 w (some ⟨g, 0, none⟩) 1 [(⟨⟨e, c⟩, l⟩ : S50)]) (hf : il_few.f k [(⟨⟨e, c⟩, l⟩ : S50)] = some t) : Calls Tryd.prog 28 #[.slice (some ⟨g, 0, none⟩) 1 1] w fun e w' => e = .returned (.bool t) ∧ Below w.heap.size w w' :=
  il_few.calls k (some ⟨g, 0, none⟩) 1 [(⟨⟨e, c⟩, l⟩ : S50)] t w hC (Nat.le_refl _) hf
attribute [local go_sem high] same54 same25
def il_DisputeBounds.T3 : Bool × List (List Nat × List Nat) := (true, [([], []), ([0, 0], [0]), ([1], [1]), ([2, 1, 1], [1, 2]), ([1], [1]), ([4, 3, 1], [1, 4]), ([3, 5, 1], [1, 3, 5]), ([1, 6], [1, 6]), ([7, 5], [7]), ([8], [8]), ([9, 8, 8], [8, 9]), ([8], [8]), ([11, 10, 8], [8, 11]), ([10, 12, 8], [8, 10, 12]), ([8, 13], [8, 13]), ([14, 12, 0, 1, 2, 3, 4, 5, 6, 7, 8, 9, 10, 11, 12, 13, 14], [14])])
def il_DisputeBounds.B3 : List Nat := [0, 1, 3, 7, 3, 31, 63, 127, 255, 511, 1023, 511, 4095, 8191, 16383, 32767]
theorem il_DisputeBounds.tab3 : rtab .any (opsOf Tryd.f9 3) = il_DisputeBounds.T3 := by kernel_rfl
theorem il_DisputeBounds.bits3 : waitsOk il_DisputeBounds.T3.2 il_DisputeBounds.B3 = true := by kernel_rfl
theorem il_DisputeBounds.few (k : Nat) (e c : Int) (A : Option Addr) (c0 : Nat) (l : List S54) (w : World) (hr : Kd.C k54 w A l.length l) (hc : l.length ≤ c0) (t : Bool) (hf : il_few.f k [(⟨⟨e, c⟩, l⟩ : S50)] = some t)
    {ka : Nat} (ha : il_awake.f ka = some true) {g1 : Bool} {g2 g3 : ByteArray} {g4 : Int} {q1 : Bool} {q2 q3 : ByteArray} (hG : t = true → dp_Greatest.f k e c l = some (g1, g2, g3, g4)) (hG1 : t = true → iq_Greatest.f k e c l = some (g1, g2, g3, g4))
    (hQ : t = true → dp_Certain.f k e c l = some (q1, q2, q3)) (hQ1 : t = true → iq_Certain.f k e c l = some (q1, q2, q3)) :
    Calls Tryd.prog 9 #[.agg #[.int .i64 e, .int .i64 c, .slice A l.length c0]] w fun e w' => e = .returned (.bool true) ∧ Below w.heap.size w w' := by
 have hu50 := Tryd.underlying50
 have hu54 := Tryd.underlying54
 have HR := Aside0.mk hr
 have HC := Aside0.mk hc
 clear hr hc
 have HB := Aside0.mk (Below.refl w.heap.size w)
 have HF := Aside0.mk hf
 have HA := Aside0.mk ha
 have HG := Aside0.mk hG
 have HG1 := Aside0.mk hG1
 have HQ := Aside0.mk hQ
 have HQ1 := Aside0.mk hQ1
 clear hf ha hG hG1 hQ hQ1
 go_enter Tryd.func9, Tryd.ntmps9
 go_upto_region 1 with (refine xF (N := 1) #[.int .i64 e, .int .i64 c, .slice A l.length c0] 50 HB ?_; clear HB; intro gb1 hg w4 hb BK1 GW1 HB; clear hb hg)
 obtain ⟨hcz0, hcz1, hcz2, hfz0, hfz1, hfz2⟩ := x6 BK1
 cases t with
 | false =>
  go_wp2_with (first | (refine lit_one (N := 4) #[.int .i64 e, .int .i64 c, .slice A l.length c0] 50 ?_; intro gb2 hg w5 hbox hb; have BK2 := Aside0.mk hbox; replace BK1 := xB BK1 hb; replace HB := xS HB hb; clear hb hg hbox) | (go_at_call 28; (with_reducible refine (few_one (one_C50 HC.out BK2.out (Kd.C_below HR.out HB.out)) HF.out).mono ?_); rintro e w9 ⟨rfl, hb⟩; replace BK1 := xB BK1 hb; replace HB := xS HB hb; clear hb) | (refine xC Tryd.func29 (some 7) (il_awake.calls ka true _ HA.out) ?_; rintro w10 hb; replace BK1 := xB BK1 hb; replace HB := xS HB hb; clear hb))
  go_ret
  exact ⟨xy, xs HB⟩
 | true =>
  go_wp2_with (first | (refine lit_one (N := 4) #[.int .i64 e, .int .i64 c, .slice A l.length c0] 50 ?_; intro gb2 hg w5 hbox hb; have BK2 := Aside0.mk hbox; replace BK1 := xB BK1 hb; replace HB := xS HB hb; clear hb hg hbox) | (go_at_call 28; (with_reducible refine (few_one (one_C50 HC.out BK2.out (Kd.C_below HR.out HB.out)) HF.out).mono ?_); rintro e w9 ⟨rfl, hb⟩; replace BK1 := xB BK1 hb; replace HB := xS HB hb; clear hb))
  replace BK1 := xD BK1
  replace HB := xW HB
  refine start_ (n := 16) (S := fun w' => w'.cell? ⟨gb1, 0, none⟩ = some (.int .i64 e) ∧ w'.cell? ⟨gb1, 1, none⟩ = some (.int .i64 c) ∧ w'.cell? ⟨gb1, 2, none⟩ = some (.slice A l.length c0)) (ds := []) (b 16 0) (by kernel_rfl) rfl rfl xV (fun hHeld => ?_); refine with_tabW il_DisputeBounds.tab3 il_DisputeBounds.bits3 (fun HT_ HW_ => ?_)
  generalize World.drew _ = w24 at BK1 HB hHeld ⊢
  refine yO 0 (some 8) (b 16 1) fun K hK => ?_
  refine xc Tryd.func29 (il_awake.calls ka true _ HA.out) ?_
  rintro w25 hb
  replace BK1 := xB BK1 hb
  replace HB := xS HB hb
  clear hb
  refine hK.out _ _ xV (fun hHeld => ?_)
  clear hK K
  refine xN 8 ?_
  refine yP 1 (some 9) (b 16 3) ?_
  refine yT 2 (some 10) (b 16 7) hHeld ?_
  refine yT 4 (some 12) (b 16 23) hHeld ?_
  refine yO 3 (some 11) (b 16 31) fun K hK => ?_
  refine goes_ Tryd.func30 (by kernel_rfl) rfl #[.agg #[.int .i64 e, .int .i64 c, .slice A l.length c0]] (by rfl) rfl rfl (by (try simp only [List.map_toArray, List.map_cons, List.map_nil]); rfl) ?_
  with_reducible refine (dp_Greatest.calls k e c _ _ l g1 g2 g3 g4 _ ?side1 ?side2 (HG.out trivial)).mono ?_
  (case side1 => exact Kd.C_below HR.out (xs HB))
  (case side2 => exact HC.out)
  rintro e w3 ⟨rfl, hb⟩
  refine ⟨_, rfl, ?_⟩
  replace BK1 := xB BK1 hb
  replace HB := xS HB hb
  clear hb
  refine hK.out _ _ xV (fun hHeld => ?_)
  clear hK K
  refine xN 11 ?_
  refine yO 5 (some 13) (b 16 63) fun K hK => ?_
  refine goes_ Tryd.func31 (by kernel_rfl) rfl #[.agg #[.int .i64 e, .int .i64 c, .slice A l.length c0]] (by rfl) rfl rfl (by (try simp only [List.map_toArray, List.map_cons, List.map_nil]); rfl) ?_
  with_reducible refine (iq_Greatest.calls k e c _ _ l g1 g2 g3 g4 _ ?side1 ?side2 (HG1.out trivial)).mono ?_
  (case side1 => exact Kd.C_below HR.out (xs HB))
  (case side2 => exact HC.out)
  rintro e w5 ⟨rfl, hb⟩
  refine ⟨_, rfl, ?_⟩
  replace BK1 := xB BK1 hb
  replace HB := xS HB hb
  clear hb
  refine hK.out _ _ xV (fun hHeld => ?_)
  clear hK K
  refine xN 13 ?_
  refine yP 6 (some 14) (b 16 127) ?_
  refine yP 7 (some 15) (b 16 255) ?_
  refine yP 8 (some 16) (b 16 511) ?_
  refine yT 9 (some 17) (b 16 1023) hHeld ?_
  refine yT 11 (some 19) (b 16 3071) hHeld ?_
  refine yO 10 (some 18) (b 16 4095) fun K hK => ?_
  refine goes_ Tryd.func32 (by kernel_rfl) rfl #[.agg #[.int .i64 e, .int .i64 c, .slice A l.length c0]] (by rfl) rfl rfl (by (try simp only [List.map_toArray, List.map_cons, List.map_nil]); rfl) ?_
  with_reducible refine (dp_Certain.calls k e c _ _ l q1 q2 q3 _ ?side1 ?side2 (HQ.out trivial)).mono ?_
  (case side1 => exact Kd.C_below HR.out (xs HB))
  (case side2 => exact HC.out)
  rintro e w10 ⟨rfl, hb⟩
  refine ⟨_, rfl, ?_⟩
  replace BK1 := xB BK1 hb
  replace HB := xS HB hb
  clear hb
  refine hK.out _ _ xV (fun hHeld => ?_)
  clear hK K
  refine xN 18 ?_
  refine yO 12 (some 20) (b 16 8191) fun K hK => ?_
  refine goes_ Tryd.func33 (by kernel_rfl) rfl #[.agg #[.int .i64 e, .int .i64 c, .slice A l.length c0]] (by rfl) rfl rfl (by (try simp only [List.map_toArray, List.map_cons, List.map_nil]); rfl) ?_
  with_reducible refine (iq_Certain.calls k e c _ _ l q1 q2 q3 _ ?side1 ?side2 (HQ1.out trivial)).mono ?_
  (case side1 => exact Kd.C_below HR.out (xs HB))
  (case side2 => exact HC.out)
  rintro e w12 ⟨rfl, hb⟩
  refine ⟨_, rfl, ?_⟩
  replace BK1 := xB BK1 hb
  replace HB := xS HB hb
  clear hb
  refine hK.out _ _ xV (fun hHeld => ?_)
  clear hK K
  refine xN 20 ?_
  refine yP 13 (some 21) (b 16 16383) ?_
  refine yP 14 (some 22) (b 16 32767) ?_
  refine yP 15 (some 2) (b 16 65535) ?_
  refine done_ (done_of HT_.out (by kernel_rfl)) ?_
  try go_wp2
  go_ret
  exact ⟨xy, xs HB⟩
end Go.Proofs.YtpoogjcgjpkbeaaDoor.XA
