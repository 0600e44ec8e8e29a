/- Walks of functions of the program: a plain Lean function for each, and a proof that a call answers as it says. Written by a program (the kit's print with changes, then shortened). -/
import Derived.Test.YtpoogjcgjpkbeaaDoorXG3
namespace Go.Proofs.YtpoogjcgjpkbeaaDoor.XB
open Go.RowKit Go.Proofs.YtpoogjcgjpkbeaaDoorW.PrintWords Go.Proofs.YtpoogjcgjpkbeaaDoorW.PrintLast Go.Proofs.YtpoogjcgjpkbeaaDoorW.PrintMore Go.Proofs.YtpoogjcgjpkbeaaDoorW.Sq
attribute [local go_sem] max2_int min2_int max_two min_two max_three min_three max_four min_four   -- for this text's walks alone
set_option linter.unusedVariables false
set_option linter.unusedSimpArgs false
/-! ### guarantee_Refunds: function 12 -/
def guarantee_Refunds.l0 : Nat → List (S25) → List (S25) → Int → Int → Bool → ByteArray → ByteArray → Bool → ByteArray → ByteArray → Bool → ByteArray → ByteArray → Option ((List (S25)))
 | 0, _, _, _, _, _, _, _, _, _, _, _, _, _ => none
 | k + 1, x5, x16, x17, x18, x508000, x508001, x508002, x512000, x512001, x512002, x513000, x513001, x513002 => if x18 < x17 then (if 0 ≤ x18 then (if x18 < (x16.length : Int) then ((guarantee_positive.f k ((rd_T25 x16 x18).f0) ((rd_T25 x16 x18).f1) ((rd_T25 x16 x18).f2)).bind fun bt515 => ((rational_Add.f k x512000 x512001 x512002 bt515.1 bt515.2.1 bt515.2.2).bind fun bt518 => ((guarantee_positive.f k x508000 x508001 x508002).bind fun bt521 => ((rational_Subtract.f k bt518.1 bt518.2.1 bt518.2.2 bt521.1 bt521.2.1 bt521.2.2).bind fun bt524 => ((guarantee_positive.f k bt524.1 bt524.2.1 bt524.2.2).bind fun bt527 => ((rational_Subtract.f k bt527.1 bt527.2.1 bt527.2.2 x513000 x513001 x513002).bind fun bt531 => (if x18 < (x5.length : Int) then (guarantee_Refunds.l0 k (x5.set (x18 : Int).toNat (⟨bt531.1, bt531.2.1, bt531.2.2⟩ : S25)) x16 x17 (wrap64 (x18 + 1)) x508000 x508001 x508002 bt518.1 bt518.2.1 bt518.2.2 bt527.1 bt527.2.1 bt527.2.2) else (none)))))))) else (none)) else (none)) else (some x5)
def guarantee_Refunds.f (k : Nat) (a0_0 : Bool) (a0_1 : ByteArray) (a0_2 : ByteArray) (l1 : List (S25)) : Option ((List (S25))) := if 0 ≤ (l1.length : Int) then (if ((l1.length : Int) : Int).toNat ≤ 7036874417766 then (guarantee_Refunds.l0 k (List.replicate ((l1.length : Int) : Int).toNat z25) l1 (l1.length : Int) 0 a0_0 a0_1 a0_2 false (⟨#[]⟩ : ByteArray) (⟨#[]⟩ : ByteArray) false (⟨#[]⟩ : ByteArray) (⟨#[]⟩ : ByteArray)) else (none)) else (none)
theorem guarantee_Refunds.mono_l : ∀ k, (∀ y0 y1 y2 y3 y4 y5 y6 y7 y8 y9 y10 y11 y12, LeO (guarantee_Refunds.l0 k y0 y1 y2 y3 y4 y5 y6 y7 y8 y9 y10 y11 y12) (guarantee_Refunds.l0 (k + 1) y0 y1 y2 y3 y4 y5 y6 y7 y8 y9 y10 y11 y12))
 | 0 => fun _ _ _ _ _ _ _ _ _ _ _ _ _ r h => by simp [guarantee_Refunds.l0] at h
 | k + 1 => by
  have ih0 := guarantee_Refunds.mono_l k
  ·intro y0 y1 y2 y3 y4 y5 y6 y7 y8 y9 y10 y11 y12
   unfold guarantee_Refunds.l0
   have m0 := @ih0; have m1 := @guarantee_positive.mono; have m2 := @rational_Add.mono; have m3 := @rational_Subtract.mono; exact xM
theorem guarantee_Refunds.mono : ∀ a0 a1 a2 a3 k, LeO (guarantee_Refunds.f k a0 a1 a2 a3) (guarantee_Refunds.f (k + 1) a0 a1 a2 a3) := by
 intro a0 a1 a2 a3 k
 have ih0 := guarantee_Refunds.mono_l k
 unfold guarantee_Refunds.f
 have m0 := @ih0; have m1 := @guarantee_positive.mono; have m2 := @rational_Add.mono; have m3 := @rational_Subtract.mono; exact xM
set_option maxHeartbeats 8000000 in
set_option maxRecDepth 100000 in
theorem guarantee_Refunds.calls (k : Nat) (a0_0 : Bool) (a0_1 : ByteArray) (a0_2 : ByteArray) (A1 : Option Addr) (c1 : Nat) (l1 : List (S25)) (r : List (S25)) (w : World) (hr1 : Kd.C k25 w A1 l1.length l1) (hc1 : l1.length ≤ c1) (h : guarantee_Refunds.f k a0_0 a0_1 a0_2 l1 = some r) :
  Calls Tryd.prog 12 #[.agg #[.bool a0_0, .string a0_1, .string a0_2], .slice A1 l1.length c1] w fun e w' => ∃ v0_ : Value, e = .returned (v0_) ∧ Kd.R k25 25 w' w.heap.size (fun _ => True) v0_ r ∧ Below w.heap.size w w' := by
 have hu25 := Tryd.underlying25
 have HR1 := Aside0.mk hr1
 have HC1 := Aside0.mk hc1
 clear hr1 hc1
 have HB := Aside0.mk (Below.refl w.heap.size w)
 have H : (if 0 ≤ (l1.length : Int) then (if ((l1.length : Int) : Int).toNat ≤ 7036874417766 then (guarantee_Refunds.l0 k (List.replicate ((l1.length : Int) : Int).toNat z25) l1 (l1.length : Int) 0 a0_0 a0_1 a0_2 false (⟨#[]⟩ : ByteArray) (⟨#[]⟩ : ByteArray) false (⟨#[]⟩ : ByteArray) (⟨#[]⟩ : ByteArray)) else (none)) else (none)) = some r := h
 clear h
 by_cases c3 : 0 ≤ (l1.length : Int)
 ·rw [if_pos c3] at H
  have c3b0 := eq_true c3
  have c3b1 : decide (0 ≤ (l1.length : Int)) = true := decide_eq_true c3
  clear c3
  by_cases c4 : ((l1.length : Int) : Int).toNat ≤ 7036874417766
  ·rw [if_pos c4] at H
   have c4b0 := eq_true c4
   have c4b1 : decide (((l1.length : Int) : Int).toNat ≤ 7036874417766) = true := decide_eq_true c4
   clear c4
   obtain ⟨y508, hy508⟩ : ∃ y_ : List (S25), y_ = (List.replicate ((l1.length : Int) : Int).toNat z25) := ⟨_, rfl⟩
   replace H : (guarantee_Refunds.l0 k y508 l1 (l1.length : Int) 0 a0_0 a0_1 a0_2 false (⟨#[]⟩ : ByteArray) (⟨#[]⟩ : ByteArray) false (⟨#[]⟩ : ByteArray) (⟨#[]⟩ : ByteArray)) = some r := by first | (rw [hy508]; with_reducible exact H) | (have H2_ := (Option.bind_some _ _).symm.trans H; rw [hy508]; with_reducible exact H2_) | (have H2_ := (Option.bind_some _ _).symm.trans H; with_reducible exact H2_) | with_reducible exact H | (rw [hy508]; exact H) | exact H
   have Ny508 := Aside0.mk hy508
   clear hy508
   have H' := Aside0.mk H
   clear H
   go_enter Tryd.func12, Tryd.ntmps12
   go_wp2_with (first | ((with_reducible refine gate_dst (N := 2) rfl ?_); refine xE (N := 2) #[.bool a0_0, .string a0_1, .string a0_2] 25 rfl ?_; intro gb507 hg w5 hbox hb; have BK507 := Aside0.mk (hbox); have GW507 := (xG HB hg); have GE507 := (xG HB hg); replace HB := xS HB hb; clear hb hbox hg) | ((with_reducible refine gate_dst (N := 13) rfl ?_); refine Kd.R_make k25 _ 25 rfl (N := 13) rfl 27 _ _ rfl (l1.length : Int) rfl rfl Tryd.underlying27 (.agg #[(.bool false), (.string ⟨#[]⟩), (.string ⟨#[]⟩)]) 40 info25 rfl (by decide) (by omega) z25 (ok := fun _ => True) (okp := fun _ => True) (k25_mkM _ _ _ z25 ) (fun _ hk => hk) trivial (xa) (Nat.le_trans (Nat.mul_le_mul_right _ (xa : (l1.length : Int).toNat ≤ 7036874417766)) (by omega)) (Below.refl _ _) (Nat.le_refl _) ?_; intro v509 w6 ho7 hb hg_ hnew_; clear hg_ hnew_; (first | rw [← Ny508.out] at ho7 | (simp only [Int.reduceToNat] at ho7; rw [← Ny508.out] at ho7)); have HO510 := Aside0.mk (Kd.R_lower (Kd.R_newB ho7 (g := gb507) (o := .cells #[.bool a0_0, .string a0_1, .string a0_2] 25 (0, 0)) (xb BK507)) (below_size (xs HB))); replace BK507 := xB BK507 hb; replace HB := xS HB hb; clear hb ho7) | ((with_reducible refine gate_dst (N := 6) rfl ?_); refine xE (N := 6) #[.bool false, .string (⟨#[]⟩ : ByteArray), .string (⟨#[]⟩ : ByteArray)] 25 rfl ?_; intro gb511 hg w8 hbox hb; replace HO510 := Aside0.mk (Kd.R_below (Kd.R_elderB (xr HO510.out) gb511 (Nat.le_of_eq hg.symm)) hb); have BK511 := Aside0.mk (hbox); have GW511 := (xG HB hg); have GE511 := (xG HB hg); replace HB := xS HB hb; have NB507_511 := xL BK507 hg; have NB511_507 := xR BK507 hg; replace BK507 := xB BK507 hb; clear hb hbox hg) | ((with_reducible refine gate_dst (N := 7) rfl ?_); refine xE (N := 7) #[.bool false, .string (⟨#[]⟩ : ByteArray), .string (⟨#[]⟩ : ByteArray)] 25 rfl ?_; intro gb512 hg w9 hbox hb; replace HO510 := Aside0.mk (Kd.R_below (Kd.R_elderB (xr HO510.out) gb512 (Nat.le_of_eq hg.symm)) hb); have BK512 := Aside0.mk (hbox); have GW512 := (xG HB hg); have GE512 := (xG HB hg); replace HB := xS HB hb; have NB507_512 := xL BK507 hg; have NB512_507 := xR BK507 hg; replace BK507 := xB BK507 hb; have NB511_512 := xL BK511 hg; have NB512_511 := xR BK511 hg; replace BK511 := xB BK511 hb; clear hb hbox hg; have hnb10 := NB511_507.out; have hnc10 := NB507_511.out; have hnb11 := NB511_512.out; have hnc11 := NB512_511.out; have hcz12_0 : w9.cell? ⟨gb511, 0, none⟩ = some (.bool false) := (blk_cell BK511.out 0).trans rfl; have hcz12_1 : w9.cell? ⟨gb511, 1, none⟩ = some (.string (⟨#[]⟩ : ByteArray)) := (blk_cell BK511.out 1).trans rfl; have hcz12_2 : w9.cell? ⟨gb511, 2, none⟩ = some (.string (⟨#[]⟩ : ByteArray)) := (blk_cell BK511.out 2).trans rfl; have hfz12_0 := blk_frozen BK511.out 0; have hfz12_1 := blk_frozen BK511.out 1; have hfz12_2 := blk_frozen BK511.out 2; have hnb13 := NB512_507.out; have hnc13 := NB507_512.out; have hcz14_0 : w9.cell? ⟨gb512, 0, none⟩ = some (.bool false) := (blk_cell BK512.out 0).trans rfl; have hcz14_1 : w9.cell? ⟨gb512, 1, none⟩ = some (.string (⟨#[]⟩ : ByteArray)) := (blk_cell BK512.out 1).trans rfl; have hcz14_2 : w9.cell? ⟨gb512, 2, none⟩ = some (.string (⟨#[]⟩ : ByteArray)) := (blk_cell BK512.out 2).trans rfl; have hfz14_0 := blk_frozen BK512.out 0; have hfz14_1 := blk_frozen BK512.out 1; have hfz14_2 := blk_frozen BK512.out 2))
   go_loopg [18] k (fun kq v18 w' => ∃ (x5_1 : List (S25)) (x18_1 : Int) (x508000_1 : Bool) (x508001_1 : ByteArray) (x508002_1 : ByteArray) (x512000_1 : Bool) (x512001_1 : ByteArray) (x512002_1 : ByteArray) (x513000_1 : Bool) (x513001_1 : ByteArray) (x513002_1 : ByteArray), v18 = .int .i64 x18_1 ∧ Aside0 (guarantee_Refunds.l0 kq x5_1 l1 (l1.length : Int) x18_1 x508000_1 x508001_1 x508002_1 x512000_1 x512001_1 x512002_1 x513000_1 x513001_1 x513002_1 = some r) ∧ Aside0 (kq ≤ k) ∧ Aside0 (Kd.R k25 25 w' w.heap.size (fun k_ => k_ ≠ gb507 ∧ k_ ≠ gb511 ∧ k_ ≠ gb512) v509 x5_1) ∧ Aside0 (w'.heap[gb507]? = some (.cells #[.bool x508000_1, .string x508001_1, .string x508002_1] 25 (0, 0))) ∧ Aside0 (w'.heap[gb511]? = some (.cells #[.bool x512000_1, .string x512001_1, .string x512002_1] 25 (0, 0))) ∧ Aside0 (w'.heap[gb512]? = some (.cells #[.bool x513000_1, .string x513001_1, .string x513002_1] 25 (0, 0))) ∧ Aside0 (Below w.heap.size w w'))
   case atStart => exact ⟨(y508), (0), (a0_0), (a0_1), (a0_2), (false), ((⟨#[]⟩ : ByteArray)), ((⟨#[]⟩ : ByteArray)), (false), ((⟨#[]⟩ : ByteArray)), ((⟨#[]⟩ : ByteArray)), xz, H', ⟨Nat.le_refl _⟩, ⟨by (with_reducible repeat (first | apply Kd.R_alloc | apply Kd.R_drewN | apply Kd.R_drew)); exact Kd.R_mono (Kd.R_far (p := ⟨gb512, 2, none⟩) (Kd.R_far (p := ⟨gb512, 1, none⟩) (Kd.R_far (p := ⟨gb512, 0, none⟩) (Kd.R_far (p := ⟨gb511, 2, none⟩) (Kd.R_far (p := ⟨gb511, 1, none⟩) (Kd.R_far (p := ⟨gb511, 0, none⟩) (Kd.R_mono (Kd.R_mono HO510.out (fun k_ hk => (⟨hk, hk.1.2⟩ : _ ∧ k_ ≠ gb511))) (fun k_ hk => (⟨hk, hk.1.2⟩ : _ ∧ k_ ≠ gb512))) (fun _ hk => hk.1.2) (.bool false)) (fun _ hk => hk.1.2) (.string (⟨#[]⟩ : ByteArray))) (fun _ hk => hk.1.2) (.string (⟨#[]⟩ : ByteArray))) (fun _ hk => hk.2) (.bool false)) (fun _ hk => hk.2) (.string (⟨#[]⟩ : ByteArray))) (fun _ hk => hk.2) (.string (⟨#[]⟩ : ByteArray))) (fun _ hk => ⟨hk.1.1.1.1.2, ⟨hk.1.1.1.2, hk.1.1.2⟩⟩)⟩, ⟨xb BK507⟩, ⟨by (with_reducible repeat (first | refine blk_drewN ?_ _ | refine blk_drew ?_ | refine blk_alloc ?_ _)); refine blk_far ?_ NB511_512.out _; (with_reducible repeat (first | refine blk_drewN ?_ _ | refine blk_drew ?_ | refine blk_alloc ?_ _)); refine blk_far ?_ NB511_512.out _; (with_reducible repeat (first | refine blk_drewN ?_ _ | refine blk_drew ?_ | refine blk_alloc ?_ _)); refine blk_far ?_ NB511_512.out _; (with_reducible repeat (first | refine blk_drewN ?_ _ | refine blk_drew ?_ | refine blk_alloc ?_ _)); refine blk_put (cs := #[.bool false, .string (⟨#[]⟩ : ByteArray), .string (⟨#[]⟩ : ByteArray)]) ?_ 2 _ (by first | rfl | simp [ne_nil_b]); (with_reducible repeat (first | refine blk_drewN ?_ _ | refine blk_drew ?_ | refine blk_alloc ?_ _)); refine blk_put (cs := #[.bool false, .string (⟨#[]⟩ : ByteArray), .string (⟨#[]⟩ : ByteArray)]) ?_ 1 _ (by first | rfl | simp [ne_nil_b]); (with_reducible repeat (first | refine blk_drewN ?_ _ | refine blk_drew ?_ | refine blk_alloc ?_ _)); refine blk_put (cs := #[.bool false, .string (⟨#[]⟩ : ByteArray), .string (⟨#[]⟩ : ByteArray)]) ?_ 0 _ (by first | rfl | simp [ne_nil_b]); (with_reducible repeat (first | refine blk_drewN ?_ _ | refine blk_drew ?_ | refine blk_alloc ?_ _)); exact BK511.out⟩, ⟨by (with_reducible repeat (first | refine blk_drewN ?_ _ | refine blk_drew ?_ | refine blk_alloc ?_ _)); refine blk_put (cs := #[.bool false, .string (⟨#[]⟩ : ByteArray), .string (⟨#[]⟩ : ByteArray)]) ?_ 2 _ (by first | rfl | simp [ne_nil_b]); (with_reducible repeat (first | refine blk_drewN ?_ _ | refine blk_drew ?_ | refine blk_alloc ?_ _)); refine blk_put (cs := #[.bool false, .string (⟨#[]⟩ : ByteArray), .string (⟨#[]⟩ : ByteArray)]) ?_ 1 _ (by first | rfl | simp [ne_nil_b]); (with_reducible repeat (first | refine blk_drewN ?_ _ | refine blk_drew ?_ | refine blk_alloc ?_ _)); refine blk_put (cs := #[.bool false, .string (⟨#[]⟩ : ByteArray), .string (⟨#[]⟩ : ByteArray)]) ?_ 0 _ (by first | rfl | simp [ne_nil_b]); (with_reducible repeat (first | refine blk_drewN ?_ _ | refine blk_drew ?_ | refine blk_alloc ?_ _)); refine blk_far ?_ NB512_511.out _; (with_reducible repeat (first | refine blk_drewN ?_ _ | refine blk_drew ?_ | refine blk_alloc ?_ _)); refine blk_far ?_ NB512_511.out _; (with_reducible repeat (first | refine blk_drewN ?_ _ | refine blk_drew ?_ | refine blk_alloc ?_ _)); refine blk_far ?_ NB512_511.out _; (with_reducible repeat (first | refine blk_drewN ?_ _ | refine blk_drew ?_ | refine blk_alloc ?_ _)); exact BK512.out⟩, ⟨xs HB⟩⟩
   case round =>
    clear H'
    try clear c1
    try clear p2
    try clear c3
    try clear c3b0
    try clear c3b1
    try clear c4
    try clear c4b0
    try clear c4b1
    try clear c10
    try clear c11
    try clear c12
    try clear c13
    try clear hcz12_0
    try clear hcz12_1
    try clear hcz12_2
    try clear hcz14_0
    try clear hcz14_1
    try clear hcz14_2
    try clear hfz12_0
    try clear hfz12_1
    try clear hfz12_2
    try clear hfz14_0
    try clear hfz14_1
    try clear hfz14_2
    obtain ⟨x5_1, x18_1, x508000_1, x508001_1, x508002_1, x512000_1, x512001_1, x512002_1, x513000_1, x513001_1, x513002_1, rfl, HA, HK1, HO_5, BK507, BK511, BK512, HB⟩ := hrel
    cases gk with
    | zero => exact absurd HA.out (by simp [guarantee_Refunds.l0])
    | succ k1 =>
     have H := HA.out
     clear HA
     simp only [guarantee_Refunds.l0] at H
     by_cases c15 : x18_1 < (l1.length : Int)
     ·rw [if_pos c15] at H
      have c15b0 : decide (x18_1 < (l1.length : Int)) = true := decide_eq_true c15
      clear c15
      by_cases c16 : 0 ≤ x18_1
      ·rw [if_pos c16] at H
       have c16b0 : decide (0 ≤ x18_1) = true := decide_eq_true c16
       clear c16
       by_cases c17 : x18_1 < (l1.length : Int)
       ·rw [if_pos c17] at H
        have c17b0 : decide (x18_1 < (l1.length : Int)) = true := decide_eq_true c17
        clear c17
        replace H := xH H; obtain ⟨⟨t515, t516, t517⟩, A18, H⟩ := H
        dsimp only at H
        replace H := xH H; obtain ⟨⟨t518, t519, t520⟩, A19, H⟩ := H
        dsimp only at H
        replace H := xH H; obtain ⟨⟨t521, t522, t523⟩, A20, H⟩ := H
        dsimp only at H
        replace H := xH H; obtain ⟨⟨t524, t525, t526⟩, A21, H⟩ := H
        dsimp only at H
        replace H := xH H; obtain ⟨⟨t527, t528, t529⟩, A22, H⟩ := H
        dsimp only at H
        replace H := xH H; obtain ⟨⟨t531, t532, t533⟩, A23, H⟩ := H
        dsimp only at H
        by_cases c24 : x18_1 < (x5_1.length : Int)
        ·rw [if_pos c24] at H
         have c24b0 : decide (x18_1 < (x5_1.length : Int)) = true := decide_eq_true c24
         clear c24
         obtain ⟨y534, hy534⟩ : ∃ y_ : List (S25), y_ = (x5_1.set (x18_1 : Int).toNat (⟨t531, t532, t533⟩ : S25)) := ⟨_, rfl⟩
         replace H : (guarantee_Refunds.l0 k1 y534 l1 (l1.length : Int) (wrap64 (x18_1 + 1)) x508000_1 x508001_1 x508002_1 t518 t519 t520 t527 t528 t529) = some r := by first | (rw [hy534]; with_reducible exact H) | (have H2_ := (Option.bind_some _ _).symm.trans H; rw [hy534]; with_reducible exact H2_) | (have H2_ := (Option.bind_some _ _).symm.trans H; with_reducible exact H2_) | with_reducible exact H | (rw [hy534]; exact H) | exact H
         have Ny534 := Aside0.mk hy534
         clear hy534
         have H' := Aside0.mk H
         clear H
         have p513 : 0 ≤ (x18_1 : Int) := xa
         have q513 : x18_1 < (l1.length : Int) := xa
         obtain ⟨ad513, e513, hx513_0, hx513_1, hx513_2⟩ := at_T25 HR1.out x18_1 p513 q513
         cases e513
         (try replace hx513_0 := (HB.out.cell (World.block_lt_of_cell? w _ hx513_0)).trans hx513_0)
         (try replace hx513_1 := (HB.out.cell (World.block_lt_of_cell? w _ hx513_1)).trans hx513_1)
         (try replace hx513_2 := (HB.out.cell (World.block_lt_of_cell? w _ hx513_2)).trans hx513_2)
         replace p513 := eq_true p513
         replace q513 := eq_true q513
         try go_wp2_with (first | ((with_reducible refine gate_dst (N := 9) rfl ?_); refine xE (N := 9) #[.bool false, .string (⟨#[]⟩ : ByteArray), .string (⟨#[]⟩ : ByteArray)] 25 rfl ?_; intro gb514 hg w26 hbox hb; replace HO_5 := Aside0.mk (Kd.R_below (Kd.R_elderB (xr HO_5.out) gb514 (Nat.le_of_eq hg.symm)) hb); have BK514 := Aside0.mk (hbox); have GW514 := (xG HB hg); have GE514 := (xG HB hg); replace HB := xS HB hb; have NB507_514 := xL BK507 hg; have NB514_507 := xR BK507 hg; replace BK507 := xB BK507 hb; have NB511_514 := xL BK511 hg; have NB514_511 := xR BK511 hg; replace BK511 := xB BK511 hb; have NB512_514 := xL BK512 hg; have NB514_512 := xR BK512 hg; replace BK512 := xB BK512 hb; clear hb hbox hg; have hnb27 := NB514_507.out; have hnc27 := NB507_514.out; have hnb28 := NB514_511.out; have hnc28 := NB511_514.out; have hnb29 := NB514_512.out; have hnc29 := NB512_514.out; have hcz30_0 : w26.cell? ⟨gb514, 0, none⟩ = some (.bool false) := (blk_cell BK514.out 0).trans rfl; have hcz30_1 : w26.cell? ⟨gb514, 1, none⟩ = some (.string (⟨#[]⟩ : ByteArray)) := (blk_cell BK514.out 1).trans rfl; have hcz30_2 : w26.cell? ⟨gb514, 2, none⟩ = some (.string (⟨#[]⟩ : ByteArray)) := (blk_cell BK514.out 2).trans rfl; have hfz30_0 := blk_frozen BK514.out 0; have hfz30_1 := blk_frozen BK514.out 1; have hfz30_2 := blk_frozen BK514.out 2))
         have n0_ : Aside0 (Kd.R k25 25 (((w26.setCell ⟨gb514, 0, none⟩ (.bool ((rd_T25 l1 x18_1).f0))).setCell ⟨gb514, 1, none⟩ (.string ((rd_T25 l1 x18_1).f1))).setCell ⟨gb514, 2, none⟩ (.string ((rd_T25 l1 x18_1).f2))) w.heap.size (fun k_ => k_ ≠ gb507 ∧ k_ ≠ gb511 ∧ k_ ≠ gb512 ∧ k_ ≠ gb514) v509 x5_1) := ⟨by (with_reducible repeat (first | apply Kd.R_alloc | apply Kd.R_drewN | apply Kd.R_drew)); exact Kd.R_mono (Kd.R_far (p := ⟨gb514, 2, none⟩) (Kd.R_far (p := ⟨gb514, 1, none⟩) (Kd.R_far (p := ⟨gb514, 0, none⟩) (Kd.R_mono HO_5.out (fun k_ hk => (⟨hk, hk.2⟩ : _ ∧ k_ ≠ gb514))) (fun _ hk => hk.2) (.bool ((rd_T25 l1 x18_1).f0))) (fun _ hk => hk.2) (.string ((rd_T25 l1 x18_1).f1))) (fun _ hk => hk.2) (.string ((rd_T25 l1 x18_1).f2))) (fun _ hk => ⟨hk.1.1.1, ⟨hk.1.1.2.1, ⟨hk.1.1.2.2, hk.1.2⟩⟩⟩)⟩
         have n1_ : Aside0 ((((w26.setCell ⟨gb514, 0, none⟩ (.bool ((rd_T25 l1 x18_1).f0))).setCell ⟨gb514, 1, none⟩ (.string ((rd_T25 l1 x18_1).f1))).setCell ⟨gb514, 2, none⟩ (.string ((rd_T25 l1 x18_1).f2))).heap[gb507]? = some (.cells #[.bool x508000_1, .string x508001_1, .string x508002_1] 25 (0, 0))) := ⟨xb BK507⟩
         have n2_ : Aside0 ((((w26.setCell ⟨gb514, 0, none⟩ (.bool ((rd_T25 l1 x18_1).f0))).setCell ⟨gb514, 1, none⟩ (.string ((rd_T25 l1 x18_1).f1))).setCell ⟨gb514, 2, none⟩ (.string ((rd_T25 l1 x18_1).f2))).heap[gb511]? = some (.cells #[.bool x512000_1, .string x512001_1, .string x512002_1] 25 (0, 0))) := ⟨xb BK511⟩
         have n3_ : Aside0 ((((w26.setCell ⟨gb514, 0, none⟩ (.bool ((rd_T25 l1 x18_1).f0))).setCell ⟨gb514, 1, none⟩ (.string ((rd_T25 l1 x18_1).f1))).setCell ⟨gb514, 2, none⟩ (.string ((rd_T25 l1 x18_1).f2))).heap[gb512]? = some (.cells #[.bool x513000_1, .string x513001_1, .string x513002_1] 25 (0, 0))) := ⟨xb BK512⟩
         have n4_ : Aside0 ((((w26.setCell ⟨gb514, 0, none⟩ (.bool ((rd_T25 l1 x18_1).f0))).setCell ⟨gb514, 1, none⟩ (.string ((rd_T25 l1 x18_1).f1))).setCell ⟨gb514, 2, none⟩ (.string ((rd_T25 l1 x18_1).f2))).heap[gb514]? = some (.cells #[.bool ((rd_T25 l1 x18_1).f0), .string ((rd_T25 l1 x18_1).f1), .string ((rd_T25 l1 x18_1).f2)] 25 (0, 0))) := ⟨xp BK514⟩
         have n5_ : Aside0 (Below w.heap.size w (((w26.setCell ⟨gb514, 0, none⟩ (.bool ((rd_T25 l1 x18_1).f0))).setCell ⟨gb514, 1, none⟩ (.string ((rd_T25 l1 x18_1).f1))).setCell ⟨gb514, 2, none⟩ (.string ((rd_T25 l1 x18_1).f2)))) := ⟨xs HB⟩
         (try clear HO_5)
         (try clear BK507)
         (try clear BK511)
         (try clear BK512)
         (try clear BK514)
         (try clear HB)
         generalize (((w26.setCell ⟨gb514, 0, none⟩ (.bool ((rd_T25 l1 x18_1).f0))).setCell ⟨gb514, 1, none⟩ (.string ((rd_T25 l1 x18_1).f1))).setCell ⟨gb514, 2, none⟩ (.string ((rd_T25 l1 x18_1).f2))) = w31 at n0_ n1_ n2_ n3_ n4_ n5_ ⊢
         have HO_5 := n0_
         have BK507 := n1_
         have BK511 := n2_
         have BK512 := n3_
         have BK514 := n4_
         have HB := n5_
         clear n0_ n1_ n2_ n3_ n4_ n5_
         replace HO_5 := Aside0.mk (Kd.R_drew HO_5.out)
         replace BK507 := xD BK507
         replace BK511 := xD BK511
         replace BK512 := xD BK512
         replace BK514 := xD BK514
         replace HB := xW HB
         refine start_ (n := 5) (S := fun w' => w'.cell? ⟨gb511, 0, none⟩ = some (.bool x512000_1) ∧ w'.cell? ⟨gb511, 1, none⟩ = some (.string x512001_1) ∧ w'.cell? ⟨gb511, 2, none⟩ = some (.string x512002_1) ∧ w'.cell? ⟨gb514, 0, none⟩ = some (.bool ((rd_T25 l1 x18_1).f0)) ∧ w'.cell? ⟨gb514, 1, none⟩ = some (.string ((rd_T25 l1 x18_1).f1)) ∧ w'.cell? ⟨gb514, 2, none⟩ = some (.string ((rd_T25 l1 x18_1).f2))) (ds := [4]) #[false, false, false, false, false] (by kernel_rfl) rfl rfl xV (fun hHeld => ?_)
         generalize w31.drew = w32 at HO_5 BK507 BK511 BK512 BK514 HB hHeld ⊢
         refine xT 0 (some 23) #[true, false, false, false, false] rfl rfl hHeld ?_
         refine xT 1 (some 24) #[true, true, false, false, false] rfl rfl hHeld ?_
         refine xO 2 (some 25) #[true, true, true, false, false] rfl rfl fun K hK => ?_
         refine xc Tryd.func35 (guarantee_positive.calls k1 ((rd_T25 l1 x18_1).f0) ((rd_T25 l1 x18_1).f1) ((rd_T25 l1 x18_1).f2) t515 t516 t517 _ A18.out) ?_
         rintro w33 hb
         replace HO_5 := Aside0.mk (Kd.R_below (xr HO_5.out) hb)
         replace BK507 := xB BK507 hb
         replace BK511 := xB BK511 hb
         replace BK512 := xB BK512 hb
         replace BK514 := xB BK514 hb
         replace HB := xS HB hb
         clear hb
         refine hK.out _ _ xV (fun hHeld => ?_)
         clear hK K
         refine xN 25 ?_
         refine xO 3 (some 26) #[true, true, true, true, false] rfl rfl fun K hK => ?_
         refine xc Tryd.func21 (rational_Add.calls k1 x512000_1 x512001_1 x512002_1 t515 t516 t517 t518 t519 t520 _ A19.out) ?_
         rintro w34 hb
         replace HO_5 := Aside0.mk (Kd.R_below (xr HO_5.out) hb)
         replace BK507 := xB BK507 hb
         replace BK511 := xB BK511 hb
         replace BK512 := xB BK512 hb
         replace BK514 := xB BK514 hb
         replace HB := xS HB hb
         clear hb
         refine hK.out _ _ xV (fun hHeld => ?_)
         clear hK K
         refine xN 26 ?_
         refine xZ 4 none #[true, true, true, true, true] rfl rfl fun K hK => ?_
         have hs35 : w34.cell? ⟨gb511, 0, none⟩ = some (.bool x512000_1) := (blk_cell BK511.out 0).trans rfl
         have hfs35 := blk_frozen BK511.out 0
         have hns35_0 := NB507_511.out
         have hns35_2 := NB512_511.out
         have hns35_3 := NB514_511.out
         have hms35_0 := NB511_507.out
         have hms35_2 := NB511_512.out
         have hms35_3 := NB511_514.out
         have hs36 : w34.cell? ⟨gb511, 1, none⟩ = some (.string x512001_1) := (blk_cell BK511.out 1).trans rfl
         have hfs36 := blk_frozen BK511.out 1
         have hns36_0 := NB507_511.out
         have hns36_2 := NB512_511.out
         have hns36_3 := NB514_511.out
         have hms36_0 := NB511_507.out
         have hms36_2 := NB511_512.out
         have hms36_3 := NB511_514.out
         have hs37 : w34.cell? ⟨gb511, 2, none⟩ = some (.string x512002_1) := (blk_cell BK511.out 2).trans rfl
         have hfs37 := blk_frozen BK511.out 2
         have hns37_0 := NB507_511.out
         have hns37_2 := NB512_511.out
         have hns37_3 := NB514_511.out
         have hms37_0 := NB511_507.out
         have hms37_2 := NB511_512.out
         have hms37_3 := NB511_514.out
         refine xk ?_
         refine hK.out _ _ ?_
         clear hK K
         refine done_ (by kernel_rfl) ?_
         try go_wp2
         have n0_ : Aside0 (Kd.R k25 25 (((w34.setCell ⟨gb511, 0, none⟩ (.bool t518)).setCell ⟨gb511, 1, none⟩ (.string t519)).setCell ⟨gb511, 2, none⟩ (.string t520)) w.heap.size (fun k_ => k_ ≠ gb507 ∧ k_ ≠ gb511 ∧ k_ ≠ gb512 ∧ k_ ≠ gb514) v509 x5_1) := ⟨by (with_reducible repeat (first | apply Kd.R_alloc | apply Kd.R_drewN | apply Kd.R_drew)); exact Kd.R_mono (Kd.R_far (p := ⟨gb511, 2, none⟩) (Kd.R_far (p := ⟨gb511, 1, none⟩) (Kd.R_far (p := ⟨gb511, 0, none⟩) (Kd.R_mono HO_5.out (fun k_ hk => (⟨hk, hk.2.1⟩ : _ ∧ k_ ≠ gb511))) (fun _ hk => hk.2) (.bool t518)) (fun _ hk => hk.2) (.string t519)) (fun _ hk => hk.2) (.string t520)) (fun _ hk => ⟨hk.1.1, ⟨hk.1.2.1, ⟨hk.1.2.2.1, hk.1.2.2.2⟩⟩⟩)⟩
         have n1_ : Aside0 ((((w34.setCell ⟨gb511, 0, none⟩ (.bool t518)).setCell ⟨gb511, 1, none⟩ (.string t519)).setCell ⟨gb511, 2, none⟩ (.string t520)).heap[gb507]? = some (.cells #[.bool x508000_1, .string x508001_1, .string x508002_1] 25 (0, 0))) := ⟨xb BK507⟩
         have n2_ : Aside0 ((((w34.setCell ⟨gb511, 0, none⟩ (.bool t518)).setCell ⟨gb511, 1, none⟩ (.string t519)).setCell ⟨gb511, 2, none⟩ (.string t520)).heap[gb511]? = some (.cells #[.bool t518, .string t519, .string t520] 25 (0, 0))) := ⟨xp BK511⟩
         have n3_ : Aside0 ((((w34.setCell ⟨gb511, 0, none⟩ (.bool t518)).setCell ⟨gb511, 1, none⟩ (.string t519)).setCell ⟨gb511, 2, none⟩ (.string t520)).heap[gb512]? = some (.cells #[.bool x513000_1, .string x513001_1, .string x513002_1] 25 (0, 0))) := ⟨xb BK512⟩
         have n4_ : Aside0 ((((w34.setCell ⟨gb511, 0, none⟩ (.bool t518)).setCell ⟨gb511, 1, none⟩ (.string t519)).setCell ⟨gb511, 2, none⟩ (.string t520)).heap[gb514]? = some (.cells #[.bool ((rd_T25 l1 x18_1).f0), .string ((rd_T25 l1 x18_1).f1), .string ((rd_T25 l1 x18_1).f2)] 25 (0, 0))) := ⟨xb BK514⟩
         have n5_ : Aside0 (Below w.heap.size w (((w34.setCell ⟨gb511, 0, none⟩ (.bool t518)).setCell ⟨gb511, 1, none⟩ (.string t519)).setCell ⟨gb511, 2, none⟩ (.string t520))) := ⟨xs HB⟩
         (try clear HO_5)
         (try clear BK507)
         (try clear BK511)
         (try clear BK512)
         (try clear BK514)
         (try clear HB)
         generalize (((w34.setCell ⟨gb511, 0, none⟩ (.bool t518)).setCell ⟨gb511, 1, none⟩ (.string t519)).setCell ⟨gb511, 2, none⟩ (.string t520)) = w38 at n0_ n1_ n2_ n3_ n4_ n5_ ⊢
         have HO_5 := n0_
         have BK507 := n1_
         have BK511 := n2_
         have BK512 := n3_
         have BK514 := n4_
         have HB := n5_
         clear n0_ n1_ n2_ n3_ n4_ n5_
         replace HO_5 := Aside0.mk (Kd.R_drew HO_5.out)
         replace BK507 := xD BK507
         replace BK511 := xD BK511
         replace BK512 := xD BK512
         replace BK514 := xD BK514
         replace HB := xW HB
         refine start_ (n := 7) (S := fun w' => w'.cell? ⟨gb511, 0, none⟩ = some (.bool t518) ∧ w'.cell? ⟨gb511, 1, none⟩ = some (.string t519) ∧ w'.cell? ⟨gb511, 2, none⟩ = some (.string t520) ∧ w'.cell? ⟨gb507, 0, none⟩ = some (.bool x508000_1) ∧ w'.cell? ⟨gb507, 1, none⟩ = some (.string x508001_1) ∧ w'.cell? ⟨gb507, 2, none⟩ = some (.string x508002_1)) (ds := []) #[false, false, false, false, false, false, false] (by kernel_rfl) rfl rfl xV (fun hHeld => ?_)
         generalize w38.drew = w39 at HO_5 BK507 BK511 BK512 BK514 HB hHeld ⊢
         refine xT 0 (some 27) #[true, false, false, false, false, false, false] rfl rfl hHeld ?_
         refine xT 1 (some 28) #[true, true, false, false, false, false, false] rfl rfl hHeld ?_
         refine join_ (σ := Nat) 1 #[true, true, true, true, true, true, false] (fun s_ => [(29, .agg #[.bool t521, .string t522, .string t523]), (30, .agg #[.bool t524, .string t525, .string t526]), (31, .agg #[.bool t527, .string t528, .string t529]), (10, .pointer (some ⟨s_, 0, none⟩))]) (fun s_ w' => (w'.cell? ⟨gb511, 0, none⟩ = some (.bool t518) ∧ w'.cell? ⟨gb511, 1, none⟩ = some (.string t519) ∧ w'.cell? ⟨gb511, 2, none⟩ = some (.string t520) ∧ w'.cell? ⟨gb507, 0, none⟩ = some (.bool x508000_1) ∧ w'.cell? ⟨gb507, 1, none⟩ = some (.string x508001_1) ∧ w'.cell? ⟨gb507, 2, none⟩ = some (.string x508002_1)) ∧ (Kd.R k25 25 w' w.heap.size (fun k_ => k_ ≠ gb507 ∧ k_ ≠ gb511 ∧ k_ ≠ gb512 ∧ k_ ≠ gb514 ∧ k_ ≠ s_) v509 x5_1) ∧ (w'.heap[gb507]? = some (.cells #[.bool x508000_1, .string x508001_1, .string x508002_1] 25 (0, 0))) ∧ (w'.heap[gb511]? = some (.cells #[.bool t518, .string t519, .string t520] 25 (0, 0))) ∧ (w'.heap[gb512]? = some (.cells #[.bool x513000_1, .string x513001_1, .string x513002_1] 25 (0, 0))) ∧ (w'.heap[gb514]? = some (.cells #[.bool ((rd_T25 l1 x18_1).f0), .string ((rd_T25 l1 x18_1).f1), .string ((rd_T25 l1 x18_1).f2)] 25 (0, 0))) ∧ (w'.heap[s_]? = some (.cells #[.bool false, .string (⟨#[]⟩ : ByteArray), .string (⟨#[]⟩ : ByteArray)] 25 (0, 0))) ∧ (w.heap.size ≤ s_) ∧ (w.heap.size ≤ s_) ∧ (gb507 ≠ s_) ∧ (s_ ≠ gb507) ∧ (gb511 ≠ s_) ∧ (s_ ≠ gb511) ∧ (gb512 ≠ s_) ∧ (s_ ≠ gb512) ∧ (gb514 ≠ s_) ∧ (s_ ≠ gb514) ∧ (Below w.heap.size w w')) ?_ ?_
         rotate_left
         ·intro hCont
          refine two_ (i := 2) (j := 5) (Ni := some 29) (Nj := some 10) #[true, true, true, false, false, false, false] #[true, true, false, false, false, true, false] rfl rfl rfl rfl (by kernel_rfl) (by decide) (by decide) (fun K hK => ?_) (fun K hK => ?_)
          ·skip
           refine xc Tryd.func35 (guarantee_positive.calls k1 x508000_1 x508001_1 x508002_1 t521 t522 t523 _ A20.out) ?_
           rintro w40 hb
           replace HO_5 := Aside0.mk (Kd.R_below (xr HO_5.out) hb)
           replace BK507 := xB BK507 hb
           replace BK511 := xB BK511 hb
           replace BK512 := xB BK512 hb
           replace BK514 := xB BK514 hb
           replace HB := xS HB hb
           clear hb
           refine hK.out _ _ xV (fun hHeld => ?_)
           clear hK K
           refine xN 29 ?_
           refine two_ (i := 3) (j := 5) (Ni := some 30) (Nj := some 10) #[true, true, true, true, false, false, false] #[true, true, true, false, false, true, false] rfl rfl rfl rfl (by kernel_rfl) (by decide) (by decide) (fun K hK => ?_) (fun K hK => ?_)
           ·skip
            refine xc Tryd.func36 (rational_Subtract.calls k1 t518 t519 t520 t521 t522 t523 t524 t525 t526 _ A21.out) ?_
            rintro w41 hb
            replace HO_5 := Aside0.mk (Kd.R_below (xr HO_5.out) hb)
            replace BK507 := xB BK507 hb
            replace BK511 := xB BK511 hb
            replace BK512 := xB BK512 hb
            replace BK514 := xB BK514 hb
            replace HB := xS HB hb
            clear hb
            refine hK.out _ _ xV (fun hHeld => ?_)
            clear hK K
            refine xN 30 ?_
            refine two_ (i := 4) (j := 5) (Ni := some 31) (Nj := some 10) #[true, true, true, true, true, false, false] #[true, true, true, true, false, true, false] rfl rfl rfl rfl (by kernel_rfl) (by decide) (by decide) (fun K hK => ?_) (fun K hK => ?_)
            ·skip
             refine xc Tryd.func35 (guarantee_positive.calls k1 t524 t525 t526 t527 t528 t529 _ A22.out) ?_
             rintro w42 hb
             replace HO_5 := Aside0.mk (Kd.R_below (xr HO_5.out) hb)
             replace BK507 := xB BK507 hb
             replace BK511 := xB BK511 hb
             replace BK512 := xB BK512 hb
             replace BK514 := xB BK514 hb
             replace HB := xS HB hb
             clear hb
             refine hK.out _ _ xV (fun hHeld => ?_)
             clear hK K
             refine xN 31 ?_
             refine xO 5 (some 10) #[true, true, true, true, true, true, false] rfl rfl fun K hK => ?_
             refine box_step ?hg (N := 10) ?hd (cs := #[.bool false, .string (⟨#[]⟩ : ByteArray), .string (⟨#[]⟩ : ByteArray)]) (t := 25) ?hr ?_; (case hd => rfl); (case hg => rfl); (case hr => first | (go_simp; done) | (go_simp; rfl))
             intro gb530 hg w43 hbox hb
             replace HO_5 := Aside0.mk (Kd.R_below (Kd.R_elderB (xr HO_5.out) gb530 (Nat.le_of_eq hg.symm)) hb)
             have BK530 := Aside0.mk (hbox)
             have GW530 := (xG HB hg)
             have GE530 := (xG HB hg)
             replace HB := xS HB hb
             have NB507_530 := xL BK507 hg
             have NB530_507 := xR BK507 hg
             replace BK507 := xB BK507 hb
             have NB511_530 := xL BK511 hg
             have NB530_511 := xR BK511 hg
             replace BK511 := xB BK511 hb
             have NB512_530 := xL BK512 hg
             have NB530_512 := xR BK512 hg
             replace BK512 := xB BK512 hb
             have NB514_530 := xL BK514 hg
             have NB530_514 := xR BK514 hg
             replace BK514 := xB BK514 hb
             clear hb hbox hg
             refine hK.out _ _ xV (fun hHeld => ?_)
             clear hK K
             refine xN 10 ?_
             exact norm_ (by simp only [putAll, Act.put, List.setIfInBounds_toArray, List.set_cons_zero, List.set_cons_succ]) (hCont (gb530) _ ⟨hHeld, (by (with_reducible repeat (first | apply Kd.R_alloc | apply Kd.R_drewN | apply Kd.R_drew)); exact Kd.R_mono HO_5.out (fun _ hk => by first | exact ⟨hk.1.1, ⟨hk.1.2.1, ⟨hk.1.2.2.1, ⟨hk.1.2.2.2, hk.2⟩⟩⟩⟩ | (simp only [ob_map] at hk ⊢; first | exact ⟨hk.1.1, ⟨hk.1.2.1, ⟨hk.1.2.2.1, ⟨hk.1.2.2.2, hk.2⟩⟩⟩⟩ | grind) | grind)), (xb BK507), (xb BK511), (xb BK512), (xb BK514), (xb BK530), GW530.out, GE530.out, NB507_530.out, NB530_507.out, NB511_530.out, NB530_511.out, NB512_530.out, NB530_512.out, NB514_530.out, NB530_514.out, (xs HB)⟩)
            ·skip
             refine box_step ?hg (N := 10) ?hd (cs := #[.bool false, .string (⟨#[]⟩ : ByteArray), .string (⟨#[]⟩ : ByteArray)]) (t := 25) ?hr ?_; (case hd => rfl); (case hg => rfl); (case hr => first | (go_simp; done) | (go_simp; rfl))
             intro gb530 hg w42 hbox hb
             replace HO_5 := Aside0.mk (Kd.R_below (Kd.R_elderB (xr HO_5.out) gb530 (Nat.le_of_eq hg.symm)) hb)
             have BK530 := Aside0.mk (hbox)
             have GW530 := (xG HB hg)
             have GE530 := (xG HB hg)
             replace HB := xS HB hb
             have NB507_530 := xL BK507 hg
             have NB530_507 := xR BK507 hg
             replace BK507 := xB BK507 hb
             have NB511_530 := xL BK511 hg
             have NB530_511 := xR BK511 hg
             replace BK511 := xB BK511 hb
             have NB512_530 := xL BK512 hg
             have NB530_512 := xR BK512 hg
             replace BK512 := xB BK512 hb
             have NB514_530 := xL BK514 hg
             have NB530_514 := xR BK514 hg
             replace BK514 := xB BK514 hb
             clear hb hbox hg
             refine hK.out _ _ xV (fun hHeld => ?_)
             clear hK K
             refine xN 10 ?_
             refine xO 4 (some 31) #[true, true, true, true, true, true, false] rfl rfl fun K hK => ?_
             refine xc Tryd.func35 (guarantee_positive.calls k1 t524 t525 t526 t527 t528 t529 _ A22.out) ?_
             rintro w43 hb
             replace HO_5 := Aside0.mk (Kd.R_below (xr HO_5.out) hb)
             replace BK507 := xB BK507 hb
             replace BK511 := xB BK511 hb
             replace BK512 := xB BK512 hb
             replace BK514 := xB BK514 hb
             replace BK530 := xB BK530 hb
             replace HB := xS HB hb
             clear hb
             refine hK.out _ _ xV (fun hHeld => ?_)
             clear hK K
             refine xN 31 ?_
             exact norm_ (by simp only [putAll, Act.put, List.setIfInBounds_toArray, List.set_cons_zero, List.set_cons_succ]) (hCont (gb530) _ ⟨hHeld, (by (with_reducible repeat (first | apply Kd.R_alloc | apply Kd.R_drewN | apply Kd.R_drew)); exact Kd.R_mono HO_5.out (fun _ hk => by first | exact ⟨hk.1.1, ⟨hk.1.2.1, ⟨hk.1.2.2.1, ⟨hk.1.2.2.2, hk.2⟩⟩⟩⟩ | (simp only [ob_map] at hk ⊢; first | exact ⟨hk.1.1, ⟨hk.1.2.1, ⟨hk.1.2.2.1, ⟨hk.1.2.2.2, hk.2⟩⟩⟩⟩ | grind) | grind)), (xb BK507), (xb BK511), (xb BK512), (xb BK514), (xb BK530), GW530.out, GE530.out, NB507_530.out, NB530_507.out, NB511_530.out, NB530_511.out, NB512_530.out, NB530_512.out, NB514_530.out, NB530_514.out, (xs HB)⟩)
           ·skip
            refine box_step ?hg (N := 10) ?hd (cs := #[.bool false, .string (⟨#[]⟩ : ByteArray), .string (⟨#[]⟩ : ByteArray)]) (t := 25) ?hr ?_; (case hd => rfl); (case hg => rfl); (case hr => first | (go_simp; done) | (go_simp; rfl))
            intro gb530 hg w41 hbox hb
            replace HO_5 := Aside0.mk (Kd.R_below (Kd.R_elderB (xr HO_5.out) gb530 (Nat.le_of_eq hg.symm)) hb)
            have BK530 := Aside0.mk (hbox)
            have GW530 := (xG HB hg)
            have GE530 := (xG HB hg)
            replace HB := xS HB hb
            have NB507_530 := xL BK507 hg
            have NB530_507 := xR BK507 hg
            replace BK507 := xB BK507 hb
            have NB511_530 := xL BK511 hg
            have NB530_511 := xR BK511 hg
            replace BK511 := xB BK511 hb
            have NB512_530 := xL BK512 hg
            have NB530_512 := xR BK512 hg
            replace BK512 := xB BK512 hb
            have NB514_530 := xL BK514 hg
            have NB530_514 := xR BK514 hg
            replace BK514 := xB BK514 hb
            clear hb hbox hg
            refine hK.out _ _ xV (fun hHeld => ?_)
            clear hK K
            refine xN 10 ?_
            refine xO 3 (some 30) #[true, true, true, true, false, true, false] rfl rfl fun K hK => ?_
            refine xc Tryd.func36 (rational_Subtract.calls k1 t518 t519 t520 t521 t522 t523 t524 t525 t526 _ A21.out) ?_
            rintro w42 hb
            replace HO_5 := Aside0.mk (Kd.R_below (xr HO_5.out) hb)
            replace BK507 := xB BK507 hb
            replace BK511 := xB BK511 hb
            replace BK512 := xB BK512 hb
            replace BK514 := xB BK514 hb
            replace BK530 := xB BK530 hb
            replace HB := xS HB hb
            clear hb
            refine hK.out _ _ xV (fun hHeld => ?_)
            clear hK K
            refine xN 30 ?_
            refine xO 4 (some 31) #[true, true, true, true, true, true, false] rfl rfl fun K hK => ?_
            refine xc Tryd.func35 (guarantee_positive.calls k1 t524 t525 t526 t527 t528 t529 _ A22.out) ?_
            rintro w43 hb
            replace HO_5 := Aside0.mk (Kd.R_below (xr HO_5.out) hb)
            replace BK507 := xB BK507 hb
            replace BK511 := xB BK511 hb
            replace BK512 := xB BK512 hb
            replace BK514 := xB BK514 hb
            replace BK530 := xB BK530 hb
            replace HB := xS HB hb
            clear hb
            refine hK.out _ _ xV (fun hHeld => ?_)
            clear hK K
            refine xN 31 ?_
            exact norm_ (by simp only [putAll, Act.put, List.setIfInBounds_toArray, List.set_cons_zero, List.set_cons_succ]) (hCont (gb530) _ ⟨hHeld, (by (with_reducible repeat (first | apply Kd.R_alloc | apply Kd.R_drewN | apply Kd.R_drew)); exact Kd.R_mono HO_5.out (fun _ hk => by first | exact ⟨hk.1.1, ⟨hk.1.2.1, ⟨hk.1.2.2.1, ⟨hk.1.2.2.2, hk.2⟩⟩⟩⟩ | (simp only [ob_map] at hk ⊢; first | exact ⟨hk.1.1, ⟨hk.1.2.1, ⟨hk.1.2.2.1, ⟨hk.1.2.2.2, hk.2⟩⟩⟩⟩ | grind) | grind)), (xb BK507), (xb BK511), (xb BK512), (xb BK514), (xb BK530), GW530.out, GE530.out, NB507_530.out, NB530_507.out, NB511_530.out, NB530_511.out, NB512_530.out, NB530_512.out, NB514_530.out, NB530_514.out, (xs HB)⟩)
          ·skip
           refine box_step ?hg (N := 10) ?hd (cs := #[.bool false, .string (⟨#[]⟩ : ByteArray), .string (⟨#[]⟩ : ByteArray)]) (t := 25) ?hr ?_; (case hd => rfl); (case hg => rfl); (case hr => first | (go_simp; done) | (go_simp; rfl))
           intro gb530 hg w40 hbox hb
           replace HO_5 := Aside0.mk (Kd.R_below (Kd.R_elderB (xr HO_5.out) gb530 (Nat.le_of_eq hg.symm)) hb)
           have BK530 := Aside0.mk (hbox)
           have GW530 := (xG HB hg)
           have GE530 := (xG HB hg)
           replace HB := xS HB hb
           have NB507_530 := xL BK507 hg
           have NB530_507 := xR BK507 hg
           replace BK507 := xB BK507 hb
           have NB511_530 := xL BK511 hg
           have NB530_511 := xR BK511 hg
           replace BK511 := xB BK511 hb
           have NB512_530 := xL BK512 hg
           have NB530_512 := xR BK512 hg
           replace BK512 := xB BK512 hb
           have NB514_530 := xL BK514 hg
           have NB530_514 := xR BK514 hg
           replace BK514 := xB BK514 hb
           clear hb hbox hg
           refine hK.out _ _ xV (fun hHeld => ?_)
           clear hK K
           refine xN 10 ?_
           refine xO 2 (some 29) #[true, true, true, false, false, true, false] rfl rfl fun K hK => ?_
           refine xc Tryd.func35 (guarantee_positive.calls k1 x508000_1 x508001_1 x508002_1 t521 t522 t523 _ A20.out) ?_
           rintro w41 hb
           replace HO_5 := Aside0.mk (Kd.R_below (xr HO_5.out) hb)
           replace BK507 := xB BK507 hb
           replace BK511 := xB BK511 hb
           replace BK512 := xB BK512 hb
           replace BK514 := xB BK514 hb
           replace BK530 := xB BK530 hb
           replace HB := xS HB hb
           clear hb
           refine hK.out _ _ xV (fun hHeld => ?_)
           clear hK K
           refine xN 29 ?_
           refine xO 3 (some 30) #[true, true, true, true, false, true, false] rfl rfl fun K hK => ?_
           refine xc Tryd.func36 (rational_Subtract.calls k1 t518 t519 t520 t521 t522 t523 t524 t525 t526 _ A21.out) ?_
           rintro w42 hb
           replace HO_5 := Aside0.mk (Kd.R_below (xr HO_5.out) hb)
           replace BK507 := xB BK507 hb
           replace BK511 := xB BK511 hb
           replace BK512 := xB BK512 hb
           replace BK514 := xB BK514 hb
           replace BK530 := xB BK530 hb
           replace HB := xS HB hb
           clear hb
           refine hK.out _ _ xV (fun hHeld => ?_)
           clear hK K
           refine xN 30 ?_
           refine xO 4 (some 31) #[true, true, true, true, true, true, false] rfl rfl fun K hK => ?_
           refine xc Tryd.func35 (guarantee_positive.calls k1 t524 t525 t526 t527 t528 t529 _ A22.out) ?_
           rintro w43 hb
           replace HO_5 := Aside0.mk (Kd.R_below (xr HO_5.out) hb)
           replace BK507 := xB BK507 hb
           replace BK511 := xB BK511 hb
           replace BK512 := xB BK512 hb
           replace BK514 := xB BK514 hb
           replace BK530 := xB BK530 hb
           replace HB := xS HB hb
           clear hb
           refine hK.out _ _ xV (fun hHeld => ?_)
           clear hK K
           refine xN 31 ?_
           exact norm_ (by simp only [putAll, Act.put, List.setIfInBounds_toArray, List.set_cons_zero, List.set_cons_succ]) (hCont (gb530) _ ⟨hHeld, (by (with_reducible repeat (first | apply Kd.R_alloc | apply Kd.R_drewN | apply Kd.R_drew)); exact Kd.R_mono HO_5.out (fun _ hk => by first | exact ⟨hk.1.1, ⟨hk.1.2.1, ⟨hk.1.2.2.1, ⟨hk.1.2.2.2, hk.2⟩⟩⟩⟩ | (simp only [ob_map] at hk ⊢; first | exact ⟨hk.1.1, ⟨hk.1.2.1, ⟨hk.1.2.2.1, ⟨hk.1.2.2.2, hk.2⟩⟩⟩⟩ | grind) | grind)), (xb BK507), (xb BK511), (xb BK512), (xb BK514), (xb BK530), GW530.out, GE530.out, NB507_530.out, NB530_507.out, NB511_530.out, NB530_511.out, NB512_530.out, NB530_512.out, NB514_530.out, NB530_514.out, (xs HB)⟩)
         rintro gb530 w44 ⟨hS_, h0_, h1_, h2_, h3_, h4_, h5_, h6_, h7_, h8_, h9_, h10_, h11_, h12_, h13_, h14_, h15_, h16_⟩
         have n0_ : Aside0 (Kd.R k25 25 w44 w.heap.size (fun k_ => k_ ≠ gb507 ∧ k_ ≠ gb511 ∧ k_ ≠ gb512 ∧ k_ ≠ gb514 ∧ k_ ≠ gb530) v509 x5_1) := ⟨h0_⟩
         have n1_ : Aside0 (w44.heap[gb507]? = some (.cells #[.bool x508000_1, .string x508001_1, .string x508002_1] 25 (0, 0))) := ⟨h1_⟩
         have n2_ : Aside0 (w44.heap[gb511]? = some (.cells #[.bool t518, .string t519, .string t520] 25 (0, 0))) := ⟨h2_⟩
         have n3_ : Aside0 (w44.heap[gb512]? = some (.cells #[.bool x513000_1, .string x513001_1, .string x513002_1] 25 (0, 0))) := ⟨h3_⟩
         have n4_ : Aside0 (w44.heap[gb514]? = some (.cells #[.bool ((rd_T25 l1 x18_1).f0), .string ((rd_T25 l1 x18_1).f1), .string ((rd_T25 l1 x18_1).f2)] 25 (0, 0))) := ⟨h4_⟩
         have n5_ : Aside0 (w44.heap[gb530]? = some (.cells #[.bool false, .string (⟨#[]⟩ : ByteArray), .string (⟨#[]⟩ : ByteArray)] 25 (0, 0))) := ⟨h5_⟩
         have n6_ : Aside0 (w.heap.size ≤ gb530) := ⟨h6_⟩
         have n7_ : Aside0 (w.heap.size ≤ gb530) := ⟨h7_⟩
         have n8_ : Aside0 (gb507 ≠ gb530) := ⟨h8_⟩
         have n9_ : Aside0 (gb530 ≠ gb507) := ⟨h9_⟩
         have n10_ : Aside0 (gb511 ≠ gb530) := ⟨h10_⟩
         have n11_ : Aside0 (gb530 ≠ gb511) := ⟨h11_⟩
         have n12_ : Aside0 (gb512 ≠ gb530) := ⟨h12_⟩
         have n13_ : Aside0 (gb530 ≠ gb512) := ⟨h13_⟩
         have n14_ : Aside0 (gb514 ≠ gb530) := ⟨h14_⟩
         have n15_ : Aside0 (gb530 ≠ gb514) := ⟨h15_⟩
         have n16_ : Aside0 (Below w.heap.size w w44) := ⟨h16_⟩
         clear HO_5
         clear BK507
         clear BK511
         clear BK512
         clear BK514
         clear HB
         clear h0_ h1_ h2_ h3_ h4_ h5_ h6_ h7_ h8_ h9_ h10_ h11_ h12_ h13_ h14_ h15_ h16_
         have HO_5 := n0_
         have BK507 := n1_
         have BK511 := n2_
         have BK512 := n3_
         have BK514 := n4_
         have BK530 := n5_
         have GW530 := n6_
         have GE530 := n7_
         have NB507_530 := n8_
         have NB530_507 := n9_
         have NB511_530 := n10_
         have NB530_511 := n11_
         have NB512_530 := n12_
         have NB530_512 := n13_
         have NB514_530 := n14_
         have NB530_514 := n15_
         have HB := n16_
         clear n0_ n1_ n2_ n3_ n4_ n5_ n6_ n7_ n8_ n9_ n10_ n11_ n12_ n13_ n14_ n15_ n16_
         have hHeld : w44.cell? ⟨gb511, 0, none⟩ = some (.bool t518) ∧ w44.cell? ⟨gb511, 1, none⟩ = some (.string t519) ∧ w44.cell? ⟨gb511, 2, none⟩ = some (.string t520) ∧ w44.cell? ⟨gb507, 0, none⟩ = some (.bool x508000_1) ∧ w44.cell? ⟨gb507, 1, none⟩ = some (.string x508001_1) ∧ w44.cell? ⟨gb507, 2, none⟩ = some (.string x508002_1) := hS_
         refine norm_ (a' := ?_) ?_ ?_
         rotate_left
         ·simp only [putAll, Act.put, List.setIfInBounds_toArray, List.set_cons_zero, List.set_cons_succ]
          rfl
         refine xO 6 none #[true, true, true, true, true, true, true] rfl rfl fun K hK => ?_
         have hs45 : w44.cell? ⟨gb530, 0, none⟩ = some (.bool false) := (blk_cell BK530.out 0).trans rfl
         have hfs45 := blk_frozen BK530.out 0
         have hns45_0 := NB507_530.out
         have hns45_1 := NB511_530.out
         have hns45_2 := NB512_530.out
         have hns45_3 := NB514_530.out
         have hms45_0 := NB530_507.out
         have hms45_1 := NB530_511.out
         have hms45_2 := NB530_512.out
         have hms45_3 := NB530_514.out
         have hs46 : w44.cell? ⟨gb530, 1, none⟩ = some (.string (⟨#[]⟩ : ByteArray)) := (blk_cell BK530.out 1).trans rfl
         have hfs46 := blk_frozen BK530.out 1
         have hns46_0 := NB507_530.out
         have hns46_1 := NB511_530.out
         have hns46_2 := NB512_530.out
         have hns46_3 := NB514_530.out
         have hms46_0 := NB530_507.out
         have hms46_1 := NB530_511.out
         have hms46_2 := NB530_512.out
         have hms46_3 := NB530_514.out
         have hs47 : w44.cell? ⟨gb530, 2, none⟩ = some (.string (⟨#[]⟩ : ByteArray)) := (blk_cell BK530.out 2).trans rfl
         have hfs47 := blk_frozen BK530.out 2
         have hns47_0 := NB507_530.out
         have hns47_1 := NB511_530.out
         have hns47_2 := NB512_530.out
         have hns47_3 := NB514_530.out
         have hms47_0 := NB530_507.out
         have hms47_1 := NB530_511.out
         have hms47_2 := NB530_512.out
         have hms47_3 := NB530_514.out
         refine xk ?_
         refine hK.out _ _ ⟨((cell_far (p := ⟨gb530, _, none⟩) NB511_530.out _).trans (((cell_far (p := ⟨gb530, _, none⟩) NB511_530.out _).trans (((cell_far (p := ⟨gb530, _, none⟩) NB511_530.out _).trans (hHeld.1)))))), ((cell_far (p := ⟨gb530, _, none⟩) NB511_530.out _).trans (((cell_far (p := ⟨gb530, _, none⟩) NB511_530.out _).trans (((cell_far (p := ⟨gb530, _, none⟩) NB511_530.out _).trans (hHeld.2.1)))))), ((cell_far (p := ⟨gb530, _, none⟩) NB511_530.out _).trans (((cell_far (p := ⟨gb530, _, none⟩) NB511_530.out _).trans (((cell_far (p := ⟨gb530, _, none⟩) NB511_530.out _).trans (hHeld.2.2.1)))))), ((cell_far (p := ⟨gb530, _, none⟩) NB507_530.out _).trans (((cell_far (p := ⟨gb530, _, none⟩) NB507_530.out _).trans (((cell_far (p := ⟨gb530, _, none⟩) NB507_530.out _).trans (hHeld.2.2.2.1)))))), ((cell_far (p := ⟨gb530, _, none⟩) NB507_530.out _).trans (((cell_far (p := ⟨gb530, _, none⟩) NB507_530.out _).trans (((cell_far (p := ⟨gb530, _, none⟩) NB507_530.out _).trans (hHeld.2.2.2.2.1)))))), ((cell_far (p := ⟨gb530, _, none⟩) NB507_530.out _).trans (((cell_far (p := ⟨gb530, _, none⟩) NB507_530.out _).trans (((cell_far (p := ⟨gb530, _, none⟩) NB507_530.out _).trans (hHeld.2.2.2.2.2))))))⟩ (fun hHeld => ?_)
         clear hK K
         refine done_ (by kernel_rfl) ?_
         have hnb48 := NB530_507.out
         have hnc48 := NB507_530.out
         have hnb49 := NB530_511.out
         have hnc49 := NB511_530.out
         have hnb50 := NB530_512.out
         have hnc50 := NB512_530.out
         have hnb51 := NB530_514.out
         have hnc51 := NB514_530.out
         have hcz52_0 : w44.cell? ⟨gb530, 0, none⟩ = some (.bool false) := (blk_cell BK530.out 0).trans rfl
         have hcz52_1 : w44.cell? ⟨gb530, 1, none⟩ = some (.string (⟨#[]⟩ : ByteArray)) := (blk_cell BK530.out 1).trans rfl
         have hcz52_2 : w44.cell? ⟨gb530, 2, none⟩ = some (.string (⟨#[]⟩ : ByteArray)) := (blk_cell BK530.out 2).trans rfl
         have hfz52_0 := blk_frozen BK530.out 0
         have hfz52_1 := blk_frozen BK530.out 1
         have hfz52_2 := blk_frozen BK530.out 2
         have hnb53 := NB512_507.out
         have hnc53 := NB507_512.out
         have hnb54 := NB512_511.out
         have hnc54 := NB511_512.out
         have hcz55_0 : w44.cell? ⟨gb512, 0, none⟩ = some (.bool x513000_1) := (blk_cell BK512.out 0).trans rfl
         have hcz55_1 : w44.cell? ⟨gb512, 1, none⟩ = some (.string x513001_1) := (blk_cell BK512.out 1).trans rfl
         have hcz55_2 : w44.cell? ⟨gb512, 2, none⟩ = some (.string x513002_1) := (blk_cell BK512.out 2).trans rfl
         have hfz55_0 := blk_frozen BK512.out 0
         have hfz55_1 := blk_frozen BK512.out 1
         have hfz55_2 := blk_frozen BK512.out 2
         try go_wp2_with (first | ((with_reducible refine gate_callee (f := 36) rfl ?_); refine xC Tryd.func36 (some 36) (rational_Subtract.calls k1 t527 t528 t529 x513000_1 x513001_1 x513002_1 t531 t532 t533 _ A23.out) ?_; rintro w56 hb; replace HO_5 := Aside0.mk (Kd.R_below (by (with_reducible repeat (first | apply Kd.R_alloc | apply Kd.R_drewN | apply Kd.R_drew)); exact (Kd.R_mono (Kd.R_far (p := ⟨gb530, 2, none⟩) (Kd.R_far (p := ⟨gb530, 1, none⟩) (Kd.R_far (p := ⟨gb530, 0, none⟩) (Kd.R_mono HO_5.out (fun k_ hk => (⟨hk, hk.2.2.2.2⟩ : _ ∧ k_ ≠ gb530))) (fun _ hk => hk.2) (.bool t527)) (fun _ hk => hk.2) (.string t528)) (fun _ hk => hk.2) (.string t529)) (fun _ h_ => h_.1))) hb); replace BK507 := xB BK507 hb; replace BK511 := xB BK511 hb; replace BK512 := xB BK512 hb; replace BK514 := xB BK514 hb; replace BK530 := Aside0.mk (blk_below (g := gb530) (o := .cells #[.bool t527, .string t528, .string t529] 25 (0, 0)) (xp BK530) hb); replace HB := xS HB hb; clear hb; have p25 : 0 ≤ (x18_1 : Int) := xa; have q25 : (x18_1 : Int) < ((x5_1.length : Int) : Int) := xa; obtain ⟨go25, co25, eo25, gb25, gl25, cl25, HG25⟩ := Kd.R_form HO_5.out (by omega); (first | cases eo25 | (injection eo25 with ea_ en_ ec_; (first | subst ea_ | (injection ea_ with ea_; subst ea_)); subst ec_; clear en_)); have GB25 := Aside0.mk gb25; have GG25 := Aside0.mk HG25; clear gb25 gl25 HG25; obtain ⟨ce25, hcl25, hM25, hcc25, hfr25⟩ := Kd.R_elem HO_5.out z25 (x18_1 : Int) p25 q25; obtain rfl := k25_openM hM25; have hx25_0 : w56.cell? ⟨go25, (x18_1 : Int).toNat * 3, none⟩ = some (.bool ((rd_T25 x5_1 x18_1).f0)) := hcc25 0 _ rfl; have hx25_1 : w56.cell? ⟨go25, (x18_1 : Int).toNat * 3 + 1, none⟩ = some (.string ((rd_T25 x5_1 x18_1).f1)) := hcc25 1 _ rfl; have hx25_2 : w56.cell? ⟨go25, (x18_1 : Int).toNat * 3 + 2, none⟩ = some (.string ((rd_T25 x5_1 x18_1).f2)) := hcc25 2 _ rfl; have hf25_0 : w56.frozen? ⟨go25, (x18_1 : Int).toNat * 3, none⟩ = false := hfr25 0; have hf25_1 : w56.frozen? ⟨go25, (x18_1 : Int).toNat * 3 + 1, none⟩ = false := hfr25 1; have hf25_2 : w56.frozen? ⟨go25, (x18_1 : Int).toNat * 3 + 2, none⟩ = false := hfr25 2; clear hcl25 hcc25 hfr25 hM25; replace p25 := eq_true p25; replace q25 := eq_true q25; have HX57 := Aside0.mk (show Kd.R k25 25 w56 w.heap.size (fun k_ => k_ ≠ gb507 ∧ k_ ≠ gb511 ∧ k_ ≠ gb512 ∧ k_ ≠ gb514 ∧ k_ ≠ gb530) (.slice (some ⟨go25, 0, none⟩) x5_1.length co25) x5_1 from (xr HO_5.out)); obtain ⟨ce57, hcl57, hM57, hcc57, hfr57⟩ := Kd.R_elem HX57.out z25 (x18_1 : Int) (xa) (by have h_ : (x18_1 : Int) < ((x5_1.length : Int) : Int) := xa; first | exact h_ | (have e_ := (Kd.R_reads' HO_5.out).1; omega) | simpa using h_); obtain rfl := k25_openM hM57; have HP57 := Kd.R_seg HX57.out (x18_1 : Int) (xa) (by have h_ : (x18_1 : Int) < ((x5_1.length : Int) : Int) := xa; first | exact h_ | (have e_ := (Kd.R_reads' HO_5.out).1; omega) | simpa using h_) (seg := [.bool t531, .string t532, .string t533]) (j := 0) hcl57 hcc57 (show 3 ≤ 3 from by decide) (x' := (⟨t531, t532, t533⟩ : S25)) (k25_mkM _ _ _ (⟨t531, t532, t533⟩ : S25) ) (fun _ hk => hk); have hx57_0 := hcc57 0 _ rfl; (try simp only [show (k25).sz = 3 from rfl, Nat.mul_one, Nat.add_zero] at hx57_0); have hf57_0 := hfr57 0; (try simp only [show (k25).sz = 3 from rfl, Nat.mul_one, Nat.add_zero] at hf57_0); have hx57_1 := hcc57 1 _ rfl; (try simp only [show (k25).sz = 3 from rfl, Nat.mul_one, Nat.add_zero] at hx57_1); have hf57_1 := hfr57 1; (try simp only [show (k25).sz = 3 from rfl, Nat.mul_one, Nat.add_zero] at hf57_1); have hx57_2 := hcc57 2 _ rfl; (try simp only [show (k25).sz = 3 from rfl, Nat.mul_one, Nat.add_zero] at hx57_2); have hf57_2 := hfr57 2; (try simp only [show (k25).sz = 3 from rfl, Nat.mul_one, Nat.add_zero] at hf57_2); clear hcl57 hcc57 hfr57 hM57) | ((with_reducible refine gate_store (t := 25) (p := 37) rfl ?_); refine store_event (t := 25) (p := 37) (v := ?vo_w58) (w1 := (((w56.setCell ⟨go25, (x18_1 : Int).toNat * 3, none⟩ (.bool t531)).setCell ⟨go25, (x18_1 : Int).toNat * 3 + 1, none⟩ (.string t532)).setCell ⟨go25, (x18_1 : Int).toNat * 3 + 2, none⟩ (.string t533))) ?hg ?ho ?hn ?hr ?_; (case ho => rfl); (case hg => rfl); (case hn => rfl); (case hr => first | (go_simp; done) | (go_simp; rfl)); intro w58 hw; have hg : w56.grownBy w58 (some go25) := (by rw [hw]; exact HP57.2); have hp_ : Kd.R k25 25 w58 w.heap.size (fun k_ => k_ ≠ gb507 ∧ k_ ≠ gb511 ∧ k_ ≠ gb512 ∧ k_ ≠ gb514 ∧ k_ ≠ gb530) (.slice (some ⟨go25, 0, none⟩) x5_1.length co25) y534 := (by rw [hw, Ny534.out]; exact HP57.1); clear HP57; replace BK507 := xK BK507 hg (Kd.R_away HO_5.out (fun _ hk => hk.1)); replace BK511 := xK BK511 hg (Kd.R_away HO_5.out (fun _ hk => hk.2.1)); replace BK512 := xK BK512 hg (Kd.R_away HO_5.out (fun _ hk => hk.2.2.1)); replace BK514 := xK BK514 hg (Kd.R_away HO_5.out (fun _ hk => hk.2.2.2.1)); replace BK530 := xK BK530 hg (Kd.R_away HO_5.out (fun _ hk => hk.2.2.2.2)); replace HO_5 := Aside0.mk (hp_); replace HB := Aside0.mk ((by rw [hw]; exact below_set (below_set (below_set (HB.out) GB25.out) GB25.out) GB25.out : Below w.heap.size w w58)); clear hg hw hp_; have hcz59_0 : w58.cell? ⟨gb530, 0, none⟩ = some (.bool t527) := (blk_cell BK530.out 0).trans rfl; have hcz59_1 : w58.cell? ⟨gb530, 1, none⟩ = some (.string t528) := (blk_cell BK530.out 1).trans rfl; have hcz59_2 : w58.cell? ⟨gb530, 2, none⟩ = some (.string t529) := (blk_cell BK530.out 2).trans rfl; have hfz59_0 := blk_frozen BK530.out 0; have hfz59_1 := blk_frozen BK530.out 1; have hfz59_2 := blk_frozen BK530.out 2; have hcz60_0 : w58.cell? ⟨gb512, 0, none⟩ = some (.bool x513000_1) := (blk_cell BK512.out 0).trans rfl; have hcz60_1 : w58.cell? ⟨gb512, 1, none⟩ = some (.string x513001_1) := (blk_cell BK512.out 1).trans rfl; have hcz60_2 : w58.cell? ⟨gb512, 2, none⟩ = some (.string x513002_1) := (blk_cell BK512.out 2).trans rfl; have hfz60_0 := blk_frozen BK512.out 0; have hfz60_1 := blk_frozen BK512.out 1; have hfz60_2 := blk_frozen BK512.out 2))
         (first | go_roundg k1 | (refine Handed.intro k1 ?measure ?_; rotate_left; go_step; (repeat apply Exists.intro); refine ⟨?rel, (by first | rfl | (simp only [add_plain]; rfl))⟩))
         case measure => have := HK1.out; omega
         case rel => exact ⟨(y534), (wrap64 (x18_1 + 1)), (x508000_1), (x508001_1), (x508002_1), (t518), (t519), (t520), (t527), (t528), (t529), xz, H', ⟨by have := HK1.out; omega⟩, ⟨by (with_reducible repeat (first | apply Kd.R_alloc | apply Kd.R_drewN | apply Kd.R_drew)); exact Kd.R_mono (Kd.R_far (p := ⟨gb512, 2, none⟩) (Kd.R_far (p := ⟨gb512, 1, none⟩) (Kd.R_far (p := ⟨gb512, 0, none⟩) (Kd.R_mono HO_5.out (fun k_ hk => (⟨hk, hk.2.2.1⟩ : _ ∧ k_ ≠ gb512))) (fun _ hk => hk.2) (.bool t527)) (fun _ hk => hk.2) (.string t528)) (fun _ hk => hk.2) (.string t529)) (fun _ hk => ⟨hk.1.1, ⟨hk.1.2.1, hk.1.2.2.1⟩⟩)⟩, ⟨xb BK507⟩, ⟨xb BK511⟩, ⟨by (with_reducible repeat (first | refine blk_drewN ?_ _ | refine blk_drew ?_ | refine blk_alloc ?_ _)); refine blk_put (cs := #[.bool t527, .string t528, .string x513002_1]) ?_ 2 _ (by first | rfl | simp [ne_nil_b]); (with_reducible repeat (first | refine blk_drewN ?_ _ | refine blk_drew ?_ | refine blk_alloc ?_ _)); refine blk_put (cs := #[.bool t527, .string x513001_1, .string x513002_1]) ?_ 1 _ (by first | rfl | simp [ne_nil_b]); (with_reducible repeat (first | refine blk_drewN ?_ _ | refine blk_drew ?_ | refine blk_alloc ?_ _)); refine blk_put (cs := #[.bool x513000_1, .string x513001_1, .string x513002_1]) ?_ 0 _ (by first | rfl | simp [ne_nil_b]); (with_reducible repeat (first | refine blk_drewN ?_ _ | refine blk_drew ?_ | refine blk_alloc ?_ _)); exact BK512.out⟩, ⟨xs HB⟩⟩
        ·rw [if_neg c24] at H
         exact absurd H (by simp)
       ·rw [if_neg c17] at H
        exact absurd H (by simp)
      ·rw [if_neg c16] at H
       exact absurd H (by simp)
     ·rw [if_neg c15] at H
      have c15b0 : decide (x18_1 < (l1.length : Int)) = false := decide_eq_false c15
      clear c15
      obtain rfl := Option.some.inj H
      go_wp2
      go_ret
      exact ⟨_, xy, by (with_reducible repeat (first | apply Kd.R_alloc | apply Kd.R_drewN | apply Kd.R_drew)); exact Kd.R_mono HO_5.out (fun _ hk => trivial), xs HB⟩
  ·rw [if_neg c4] at H
   exact absurd H (by simp)
 ·rw [if_neg c3] at H
  exact absurd H (by simp)
/-! ### natural_FromUint: function 87 -/
def natural_FromUint.f (k : Nat) (a0 : Int) : Option (ByteArray) := (natural_limbs_text.f k (([(a0) % 4294967296, (a0 / 4294967296) % 4294967296] : List Int))).bind fun t543 => (some t543)
theorem natural_FromUint.mono : ∀ a0 k, LeO (natural_FromUint.f k a0) (natural_FromUint.f (k + 1) a0) := by
 intro a0 k
 unfold natural_FromUint.f
 have m0 := @natural_limbs_text.mono; exact xM
set_option maxHeartbeats 8000000 in
set_option maxRecDepth 100000 in
theorem natural_FromUint.calls (k : Nat) (a0 : Int) (r : ByteArray) (w : World) (h : natural_FromUint.f k a0 = some r) :
  Calls Tryd.prog 87 #[.int .u64 a0] w fun e w' => e = .returned (.string r) ∧ Below w.heap.size w w' := by
 have HB := Aside0.mk (Below.refl w.heap.size w)
 have H : ((natural_limbs_text.f k (([(a0) % 4294967296, (a0 / 4294967296) % 4294967296] : List Int))).bind fun t543 => (some t543)) = some r := h
 clear h
 obtain ⟨y540, hy540⟩ : ∃ y_ : List Int, y_ = (([(a0) % 4294967296, (a0 / 4294967296) % 4294967296] : List Int)) := ⟨_, rfl⟩
 replace H : ((natural_limbs_text.f k y540).bind fun t543 => (some t543)) = some r := by first | (rw [hy540]; with_reducible exact H) | (have H2_ := (Option.bind_some _ _).symm.trans H; rw [hy540]; with_reducible exact H2_) | (have H2_ := (Option.bind_some _ _).symm.trans H; with_reducible exact H2_) | with_reducible exact H | (rw [hy540]; exact H) | exact H
 have Ny540 := Aside0.mk hy540
 clear hy540
 replace H := xH H; obtain ⟨t543, A2, H⟩ := H
 obtain rfl := Option.some.inj H
 go_enter Tryd.func87, Tryd.ntmps87
 go_wp2_with (first | ((with_reducible refine gate_dst (N := 8) rfl ?_); refine Kd.R_lit (Kd.int .u32) _ 85 ?hg (N := 8) ?hd (xs := ([(a0) % 4294967296, (a0 / 4294967296) % 4294967296] : List Int)) (inner := [.int .u32 ((a0) % 4294967296), .int .u32 ((a0 / 4294967296) % 4294967296)]) (ok := fun _ => True) (okp := fun _ => True) ?hr ?hp (fun _ hk => hk) trivial (Below.refl _ _) (Nat.le_refl _) (by simp) ?_; (case hd => rfl); (case hg => rfl); (case hr => first | (go_simp; done) | (go_simp; rfl)); (case hp => exact (Reps.one (show Kd.M (Kd.int .u32) _ _ _ ((a0) % 4294967296) [.int .u32 ((a0) % 4294967296)] from rfl) (Reps.one (show Kd.M (Kd.int .u32) _ _ _ ((a0 / 4294967296) % 4294967296) [.int .u32 ((a0 / 4294967296) % 4294967296)] from rfl) (Reps.none _ _)))); intro v541 w3 ho4 hb hg_ hnew_; clear hg_ hnew_; (first | rw [← Ny540.out] at ho4 | (simp only [Int.reduceToNat] at ho4; rw [← Ny540.out] at ho4)); have HO542 := Aside0.mk (Kd.R_lower ho4 (below_size (xs HB))); replace HB := xS HB hb; clear hb ho4; obtain ⟨Ao5, co5, eo5⟩ := Kd.R_slice HO542.out; subst eo5) | ((with_reducible refine gate_callee (f := 78) rfl ?_); refine xg Tryd.func78 (some 9) #[.slice Ao5 y540.length co5] ?_; (with_reducible refine (natural_limbs_text.calls k _ _ y540 t543 _ ?side1 ?side2 A2.out).mono ?_); (case side1 => repeat (first | exact (Kd.R_reads' HO542.out).2.2 | (with_reducible refine Kd.C_alloc ?_ _) | (with_reducible refine Kd.C_drewN ?_ _) | (with_reducible refine Kd.C_drew ?_))); (case side2 => exact (Kd.R_reads' HO542.out).2.1); rintro e w6 ⟨rfl, hb⟩; refine ⟨_, rfl, ?_⟩; replace HO542 := Aside0.mk (Kd.R_below (xr HO542.out) hb); replace HB := xS HB hb; clear hb))
 go_ret
 exact ⟨xy, xs HB⟩
/-! ### rational_magnitude: function 63 -/
def rational_magnitude.f (k : Nat) (a0 : Int) : Option (ByteArray) := if a0 < 0 then ((natural_FromUint.f k (IntKind.u64.wrap (-(IntKind.u64.wrap (a0))))).bind fun t544 => (some t544)) else ((natural_FromUint.f k (IntKind.u64.wrap (a0))).bind fun t545 => (some t545))
theorem rational_magnitude.mono : ∀ a0 k, LeO (rational_magnitude.f k a0) (rational_magnitude.f (k + 1) a0) := by
 intro a0 k
 unfold rational_magnitude.f
 have m0 := @natural_FromUint.mono; exact xM
set_option maxHeartbeats 8000000 in
set_option maxRecDepth 100000 in
theorem rational_magnitude.calls (k : Nat) (a0 : Int) (r : ByteArray) (w : World) (h : rational_magnitude.f k a0 = some r) :
  Calls Tryd.prog 63 #[.int .i64 a0] w fun e w' => e = .returned (.string r) ∧ Below w.heap.size w w' := by
 have HB := Aside0.mk (Below.refl w.heap.size w)
 have H : (if a0 < 0 then ((natural_FromUint.f k (IntKind.u64.wrap (-(IntKind.u64.wrap (a0))))).bind fun t544 => (some t544)) else ((natural_FromUint.f k (IntKind.u64.wrap (a0))).bind fun t545 => (some t545))) = some r := h
 clear h
 by_cases c2 : a0 < 0
 ·rw [if_pos c2] at H
  have c2b0 : decide (a0 < 0) = true := decide_eq_true c2
  clear c2
  replace H := xH H; obtain ⟨t544, A3, H⟩ := H
  obtain rfl := Option.some.inj H
  go_enter Tryd.func63, Tryd.ntmps63
  go_wp2_with (first | ((with_reducible refine gate_callee (f := 87) rfl ?_); refine xC Tryd.func87 (some 8) (natural_FromUint.calls k (IntKind.u64.wrap (-(IntKind.u64.wrap (a0)))) t544 _ A3.out) ?_; rintro w4 hb; replace HB := xS HB hb; clear hb))
  go_ret
  exact ⟨xy, xs HB⟩
 ·rw [if_neg c2] at H
  have c2b0 : decide (a0 < 0) = false := decide_eq_false c2
  clear c2
  replace H := xH H; obtain ⟨t545, A5, H⟩ := H
  obtain rfl := Option.some.inj H
  go_enter Tryd.func63, Tryd.ntmps63
  go_wp2_with (first | ((with_reducible refine gate_callee (f := 87) rfl ?_); refine xC Tryd.func87 (some 11) (natural_FromUint.calls k (IntKind.u64.wrap (a0)) t545 _ A5.out) ?_; rintro w6 hb; replace HB := xS HB hb; clear hb))
  go_ret
  exact ⟨xy, xs HB⟩
/-! ### rational_Int: function 39 -/
def rational_Int.f (k : Nat) (a0 : Int) : Option (Bool × ByteArray × ByteArray) := (rational_magnitude.f k a0).bind fun t547 => ((rational_reduced.f k (decide (a0 < 0)) t547 (⟨#[1]⟩ : ByteArray)).bind fun bt548 => (some (bt548.1, bt548.2.1, bt548.2.2)))
theorem rational_Int.mono : ∀ a0 k, LeO (rational_Int.f k a0) (rational_Int.f (k + 1) a0) := by
 intro a0 k
 unfold rational_Int.f
 have m0 := @rational_magnitude.mono; have m1 := @rational_reduced.mono; exact xM
set_option maxHeartbeats 8000000 in
set_option maxRecDepth 100000 in
theorem rational_Int.calls (k : Nat) (a0 : Int) (r1 : Bool) (r2 : ByteArray) (r3 : ByteArray) (w : World) (h : rational_Int.f k a0 = some (r1, r2, r3)) :
  Calls Tryd.prog 39 #[.int .i64 a0] w fun e w' => e = .returned (.agg #[.bool r1, .string r2, .string r3]) ∧ Below w.heap.size w w' := by
 have hu25 := Tryd.underlying25
 have HB := Aside0.mk (Below.refl w.heap.size w)
 have H : ((rational_magnitude.f k a0).bind fun t547 => ((rational_reduced.f k (decide (a0 < 0)) t547 (⟨#[1]⟩ : ByteArray)).bind fun bt548 => (some (bt548.1, bt548.2.1, bt548.2.2)))) = some (r1, r2, r3) := h
 clear h
 replace H := xH H; obtain ⟨t547, A2, H⟩ := H
 replace H := xH H; obtain ⟨⟨t548, t549, t550⟩, A3, H⟩ := H
 dsimp only at H
 simp only [Option.some.injEq, Prod.mk.injEq] at H
 obtain ⟨rfl, rfl, rfl⟩ := H
 go_enter Tryd.func39, Tryd.ntmps39
 go_wp2_with (first | ((with_reducible refine gate_dst (N := 2) rfl ?_); refine xE (N := 2) #[.bool false, .string (⟨#[]⟩ : ByteArray), .string (⟨#[]⟩ : ByteArray)] 25 rfl ?_; intro gb546 hg w4 hbox hb; have BK546 := Aside0.mk (hbox); have GW546 := (xG HB hg); have GE546 := (xG HB hg); replace HB := xS HB hb; clear hb hbox hg) | ((with_reducible refine gate_callee (f := 63) rfl ?_); refine xC Tryd.func63 (some 6) (rational_magnitude.calls k a0 t547 _ A2.out) ?_; rintro w5 hb; replace BK546 := xB BK546 hb; replace HB := xS HB hb; clear hb) | ((with_reducible refine gate_callee (f := 52) rfl ?_); refine xC Tryd.func52 (some 7) (rational_reduced.calls k (decide (a0 < 0)) t547 (⟨#[1]⟩ : ByteArray) t548 t549 t550 _ A3.out) ?_; rintro w6 hb; replace BK546 := xB BK546 hb; replace HB := xS HB hb; clear hb; have hcz7_0 : w6.cell? ⟨gb546, 0, none⟩ = some (.bool false) := (blk_cell BK546.out 0).trans rfl; have hcz7_1 : w6.cell? ⟨gb546, 1, none⟩ = some (.string (⟨#[]⟩ : ByteArray)) := (blk_cell BK546.out 1).trans rfl; have hcz7_2 : w6.cell? ⟨gb546, 2, none⟩ = some (.string (⟨#[]⟩ : ByteArray)) := (blk_cell BK546.out 2).trans rfl; have hfz7_0 := blk_frozen BK546.out 0; have hfz7_1 := blk_frozen BK546.out 1; have hfz7_2 := blk_frozen BK546.out 2))
 refine bodyPost_ret (results_cell_row rfl _ _ gb546 25 #[.bool t548, .string t549, .string t550] (0, 0) _ rfl (xp BK546) Tryd.underlying25 rfl (by kernel_rfl)) rfl ?_
 exact ⟨xy, xs HB⟩
section
attribute [local go_sem high] eqA25
/-! ### insolvencylaw18_awake: function 14 -/
def insolvencylaw18_awake.f (k : Nat)  : Option (Bool) := (rational_Int.f k 100).bind fun bt551 => ((rational_Int.f k 70).bind fun bt554 => ((rational_Int.f k 50).bind fun bt557 => ((rational_Int.f k 20).bind fun bt560 => ((guarantee_Refunds.f k bt551.1 bt551.2.1 bt551.2.2 (([(⟨bt554.1, bt554.2.1, bt554.2.2⟩ : S25), (⟨bt557.1, bt557.2.1, bt557.2.2⟩ : S25), (⟨bt560.1, bt560.2.1, bt560.2.2⟩ : S25)] : List (S25)))).bind fun t566 => (if (t566.length : Int) = 3 then (if 0 < (t566.length : Int) then ((rational_Int.f k 0).bind fun bt570 => (if (((rd_T25 t566 0).f0) == bt570.1 && ((((rd_T25 t566 0).f1).toList) == bt570.2.1.toList && ((((rd_T25 t566 0).f2).toList) == bt570.2.2.toList))) = true then (if 1 < (t566.length : Int) then ((rational_Int.f k 20).bind fun bt574 => (if (((rd_T25 t566 1).f0) == bt574.1 && ((((rd_T25 t566 1).f1).toList) == bt574.2.1.toList && ((((rd_T25 t566 1).f2).toList) == bt574.2.2.toList))) = true then (if 2 < (t566.length : Int) then ((rational_Int.f k 20).bind fun bt578 => (some (((rd_T25 t566 2).f0) == bt578.1 && ((((rd_T25 t566 2).f1).toList) == bt578.2.1.toList && ((((rd_T25 t566 2).f2).toList) == bt578.2.2.toList))))) else (none)) else (some false))) else (none)) else (some false))) else (none)) else (some false))))))
theorem insolvencylaw18_awake.mono : ∀ k, LeO (insolvencylaw18_awake.f k ) (insolvencylaw18_awake.f (k + 1) ) := by
 intro  k
 unfold insolvencylaw18_awake.f
 have m0 := @guarantee_Refunds.mono; have m1 := @rational_Int.mono; exact xM
def insolvencylaw18_awake.T2 : Bool × List (List Nat × List Nat) := (true, [([], []), ([0], [0]), ([1], [1]), ([2], [2]), ([3], [3]), ([4, 3], [3, 4]), ([5, 3], [3, 5]), ([3, 3], [3]), ([6, 7, 3], [3, 6, 7]), ([3, 8], [3, 8]), ([9, 7], [9]), ([10], [10]), ([11, 10], [10, 11]), ([12, 10], [10, 12]), ([10, 10], [10]), ([13, 14, 10], [10, 13, 14]), ([10, 15], [10, 15]), ([16, 14], [16]), ([17], [17]), ([18, 17], [17, 18]), ([19, 17], [17, 19]), ([17, 17], [17]), ([20, 21, 17], [17, 20, 21]), ([17, 22], [17, 22]), ([23, 21, 0, 1, 2, 3, 4, 5, 6, 7, 8, 9, 10, 11, 12, 13, 14, 15, 16, 17, 18, 19, 20, 21, 22, 23], [23])])
def insolvencylaw18_awake.B2 : List Nat := [0, 1, 3, 7, 15, 31, 63, 15, 255, 511, 1023, 2047, 4095, 8191, 2047, 32767, 65535, 131071, 262143, 524287, 1048575, 262143, 4194303, 8388607, 16777215]
theorem insolvencylaw18_awake.tab2 : rtab .any (opsOf Tryd.f14 2) = insolvencylaw18_awake.T2 := by kernel_rfl
theorem insolvencylaw18_awake.bits2 : waitsOk insolvencylaw18_awake.T2.2 insolvencylaw18_awake.B2 = true := by kernel_rfl
set_option maxHeartbeats 8000000 in
set_option maxRecDepth 100000 in
theorem insolvencylaw18_awake.calls (k : Nat)  (r : Bool) (w : World) (h : insolvencylaw18_awake.f k  = some r) :
  Calls Tryd.prog 14 #[] w fun e w' => e = .returned (.bool r) ∧ Below w.heap.size w w' := by
 have hu25 := Tryd.underlying25
 have HB := Aside0.mk (Below.refl w.heap.size w)
 have H : ((rational_Int.f k 100).bind fun bt551 => ((rational_Int.f k 70).bind fun bt554 => ((rational_Int.f k 50).bind fun bt557 => ((rational_Int.f k 20).bind fun bt560 => ((guarantee_Refunds.f k bt551.1 bt551.2.1 bt551.2.2 (([(⟨bt554.1, bt554.2.1, bt554.2.2⟩ : S25), (⟨bt557.1, bt557.2.1, bt557.2.2⟩ : S25), (⟨bt560.1, bt560.2.1, bt560.2.2⟩ : S25)] : List (S25)))).bind fun t566 => (if (t566.length : Int) = 3 then (if 0 < (t566.length : Int) then ((rational_Int.f k 0).bind fun bt570 => (if (((rd_T25 t566 0).f0) == bt570.1 && ((((rd_T25 t566 0).f1).toList) == bt570.2.1.toList && ((((rd_T25 t566 0).f2).toList) == bt570.2.2.toList))) = true then (if 1 < (t566.length : Int) then ((rational_Int.f k 20).bind fun bt574 => (if (((rd_T25 t566 1).f0) == bt574.1 && ((((rd_T25 t566 1).f1).toList) == bt574.2.1.toList && ((((rd_T25 t566 1).f2).toList) == bt574.2.2.toList))) = true then (if 2 < (t566.length : Int) then ((rational_Int.f k 20).bind fun bt578 => (some (((rd_T25 t566 2).f0) == bt578.1 && ((((rd_T25 t566 2).f1).toList) == bt578.2.1.toList && ((((rd_T25 t566 2).f2).toList) == bt578.2.2.toList))))) else (none)) else (some false))) else (none)) else (some false))) else (none)) else (some false))))))) = some r := h
 clear h
 replace H := xH H; obtain ⟨⟨t551, t552, t553⟩, A1, H⟩ := H
 dsimp only at H
 replace H := xH H; obtain ⟨⟨t554, t555, t556⟩, A2, H⟩ := H
 dsimp only at H
 replace H := xH H; obtain ⟨⟨t557, t558, t559⟩, A3, H⟩ := H
 dsimp only at H
 replace H := xH H; obtain ⟨⟨t560, t561, t562⟩, A4, H⟩ := H
 dsimp only at H
 obtain ⟨y563, hy563⟩ : ∃ y_ : List (S25), y_ = (([(⟨t554, t555, t556⟩ : S25), (⟨t557, t558, t559⟩ : S25), (⟨t560, t561, t562⟩ : S25)] : List (S25))) := ⟨_, rfl⟩
 replace H : ((guarantee_Refunds.f k t551 t552 t553 y563).bind fun t566 => (if (t566.length : Int) = 3 then (if 0 < (t566.length : Int) then ((rational_Int.f k 0).bind fun bt570 => (if (((rd_T25 t566 0).f0) == bt570.1 && ((((rd_T25 t566 0).f1).toList) == bt570.2.1.toList && ((((rd_T25 t566 0).f2).toList) == bt570.2.2.toList))) = true then (if 1 < (t566.length : Int) then ((rational_Int.f k 20).bind fun bt574 => (if (((rd_T25 t566 1).f0) == bt574.1 && ((((rd_T25 t566 1).f1).toList) == bt574.2.1.toList && ((((rd_T25 t566 1).f2).toList) == bt574.2.2.toList))) = true then (if 2 < (t566.length : Int) then ((rational_Int.f k 20).bind fun bt578 => (some (((rd_T25 t566 2).f0) == bt578.1 && ((((rd_T25 t566 2).f1).toList) == bt578.2.1.toList && ((((rd_T25 t566 2).f2).toList) == bt578.2.2.toList))))) else (none)) else (some false))) else (none)) else (some false))) else (none)) else (some false))) = some r := by first | (rw [hy563]; with_reducible exact H) | (have H2_ := (Option.bind_some _ _).symm.trans H; rw [hy563]; with_reducible exact H2_) | (have H2_ := (Option.bind_some _ _).symm.trans H; with_reducible exact H2_) | with_reducible exact H | (rw [hy563]; exact H) | exact H
 have Ny563 := Aside0.mk hy563
 clear hy563
 replace H := xH H; obtain ⟨t566, A5, H⟩ := H
 by_cases c6 : (t566.length : Int) = 3
 ·rw [if_pos c6] at H
  have c6b0 : ((t566.length : Int) == 3) = true := beq_iff_eq.mpr c6
  have c6b1 : ((t566.length : Int) != 3) = false := bne_eq_false_iff_eq.mpr c6
  clear c6
  by_cases c7 : 0 < (t566.length : Int)
  ·rw [if_pos c7] at H
   have c7b0 : decide (0 < (t566.length : Int)) = true := decide_eq_true c7
   have c7b1 : decide (0 < t566.length) = true := decide_eq_true (by omega)
   clear c7
   replace H := xH H; obtain ⟨⟨t570, t571, t572⟩, A8, H⟩ := H
   dsimp only at H
   by_cases c9 : (((rd_T25 t566 0).f0) == t570 && ((((rd_T25 t566 0).f1).toList) == t571.toList && ((((rd_T25 t566 0).f2).toList) == t572.toList))) = true
   ·rw [if_pos c9] at H
    have c9b0 : (((rd_T25 t566 0).f0) == t570 && ((((rd_T25 t566 0).f1).toList) == t571.toList && ((((rd_T25 t566 0).f2).toList) == t572.toList))) = true := c9
    (try (have c9b1 : decide (((rd_T25 t566 0).f0) = t570 && ((((rd_T25 t566 0).f1).toList) == t571.toList && ((((rd_T25 t566 0).f2).toList) == t572.toList))) = true := by simpa using c9))
    (try (have c9b2 : (((rd_T25 t566 0).f0) == t570 && ((((rd_T25 t566 0).f1).toList) == t571.toList && ((((rd_T25 t566 0).f2).toList) == t572.toList))) = true := by simpa using c9))
    clear c9
    by_cases c10 : 1 < (t566.length : Int)
    ·rw [if_pos c10] at H
     have c10b0 : decide (1 < (t566.length : Int)) = true := decide_eq_true c10
     have c10b1 : decide (1 < t566.length) = true := decide_eq_true (by omega)
     clear c10
     replace H := xH H; obtain ⟨⟨t574, t575, t576⟩, A11, H⟩ := H
     dsimp only at H
     by_cases c12 : (((rd_T25 t566 1).f0) == t574 && ((((rd_T25 t566 1).f1).toList) == t575.toList && ((((rd_T25 t566 1).f2).toList) == t576.toList))) = true
     ·rw [if_pos c12] at H
      have c12b0 : (((rd_T25 t566 1).f0) == t574 && ((((rd_T25 t566 1).f1).toList) == t575.toList && ((((rd_T25 t566 1).f2).toList) == t576.toList))) = true := c12
      (try (have c12b1 : decide (((rd_T25 t566 1).f0) = t574 && ((((rd_T25 t566 1).f1).toList) == t575.toList && ((((rd_T25 t566 1).f2).toList) == t576.toList))) = true := by simpa using c12))
      (try (have c12b2 : (((rd_T25 t566 1).f0) == t574 && ((((rd_T25 t566 1).f1).toList) == t575.toList && ((((rd_T25 t566 1).f2).toList) == t576.toList))) = true := by simpa using c12))
      clear c12
      by_cases c13 : 2 < (t566.length : Int)
      ·rw [if_pos c13] at H
       have c13b0 : decide (2 < (t566.length : Int)) = true := decide_eq_true c13
       have c13b1 : decide (2 < t566.length) = true := decide_eq_true (by omega)
       clear c13
       replace H := xH H; obtain ⟨⟨t578, t579, t580⟩, A14, H⟩ := H
       dsimp only at H
       obtain rfl := Option.some.inj H
       go_enter Tryd.func14, Tryd.ntmps14
       try go_wp2_with (first | ((with_reducible refine gate_callee (f := 39) rfl ?_); refine xC Tryd.func39 (some 2) (rational_Int.calls k 100 t551 t552 t553 _ A1.out) ?_; rintro w15 hb; replace HB := xS HB hb; clear hb) | ((with_reducible refine gate_callee (f := 39) rfl ?_); refine xC Tryd.func39 (some 3) (rational_Int.calls k 70 t554 t555 t556 _ A2.out) ?_; rintro w16 hb; replace HB := xS HB hb; clear hb) | ((with_reducible refine gate_callee (f := 39) rfl ?_); refine xC Tryd.func39 (some 4) (rational_Int.calls k 50 t557 t558 t559 _ A3.out) ?_; rintro w17 hb; replace HB := xS HB hb; clear hb) | ((with_reducible refine gate_callee (f := 39) rfl ?_); refine xC Tryd.func39 (some 5) (rational_Int.calls k 20 t560 t561 t562 _ A4.out) ?_; rintro w18 hb; replace HB := xS HB hb; clear hb) | ((with_reducible refine gate_dst (N := 6) rfl ?_); refine Kd.R_lit k25 _ 25 ?hg (N := 6) ?hd (xs := ([(⟨t554, t555, t556⟩ : S25), (⟨t557, t558, t559⟩ : S25), (⟨t560, t561, t562⟩ : S25)] : List (S25))) (inner := [.bool t554, .string t555, .string t556, .bool t557, .string t558, .string t559, .bool t560, .string t561, .string t562]) (ok := fun _ => True) (okp := fun _ => True) ?hr ?hp (fun _ hk => hk) trivial (Below.refl _ _) (Nat.le_refl _) (by simp) ?_; (case hd => rfl); (case hg => rfl); (case hr => first | (go_simp; done) | (go_simp; rfl)); (case hp => exact (Reps.c3 (show Kd.M k25 _ _ _ (⟨t554, t555, t556⟩ : S25) [.bool t554, .string t555, .string t556] from (k25_mkM _ _ _ (⟨t554, t555, t556⟩ : S25) )) (Reps.c3 (show Kd.M k25 _ _ _ (⟨t557, t558, t559⟩ : S25) [.bool t557, .string t558, .string t559] from (k25_mkM _ _ _ (⟨t557, t558, t559⟩ : S25) )) (Reps.c3 (show Kd.M k25 _ _ _ (⟨t560, t561, t562⟩ : S25) [.bool t560, .string t561, .string t562] from (k25_mkM _ _ _ (⟨t560, t561, t562⟩ : S25) )) (Reps.none _ _))))); intro v564 w19 ho20 hb hg_ hnew_; clear hg_ hnew_; (first | rw [← Ny563.out] at ho20 | (simp only [Int.reduceToNat] at ho20; rw [← Ny563.out] at ho20)); have HO565 := Aside0.mk (Kd.R_lower ho20 (below_size (xs HB))); replace HB := xS HB hb; clear hb ho20; obtain ⟨Ao21, co21, eo21⟩ := Kd.R_slice HO565.out; subst eo21) | ((with_reducible refine gate_callee (f := 12) rfl ?_); refine xg Tryd.func12 (some 7) #[.agg #[.bool t551, .string t552, .string t553], .slice Ao21 y563.length co21] ?_; (with_reducible refine (guarantee_Refunds.calls k t551 t552 t553 _ _ y563 t566 _ ?side1 ?side2 A5.out).mono ?_); (case side1 => repeat (first | exact (Kd.R_reads' HO565.out).2.2 | (with_reducible refine Kd.C_alloc ?_ _) | (with_reducible refine Kd.C_drewN ?_ _) | (with_reducible refine Kd.C_drew ?_))); (case side2 => exact (Kd.R_reads' HO565.out).2.1); rintro e w22 ⟨v567, rfl, ho0, hb⟩; refine ⟨_, rfl, ?_⟩; have HO568 := Aside0.mk (Kd.R_lower (Kd.R_new' ho0 (Kd.R_lt (xr HO565.out))) (below_size (xs HB))); replace HO565 := Aside0.mk (Kd.R_elder' (xr HO565.out) (Kd.R_base ho0) hb); replace HB := xS HB hb; clear hb ho0))
       replace HO565 := Aside0.mk (Kd.R_drew HO565.out)
       replace HO568 := Aside0.mk (Kd.R_drew HO568.out)
       replace HB := xW HB
       obtain ⟨Ao24, co24, eo24⟩ := Kd.R_slice HO568.out
       (first | subst eo24 | (injection eo24 with f1_ f2_ f3_; have f4_ := f1_.symm; have f5_ := f3_.symm; clear f1_ f2_ f3_; subst f4_; subst f5_))
       have p569 : 0 ≤ (0 : Int) := (by omega)
       have q569 : 0 < (t566.length : Int) := xa
       obtain ⟨ad569, e569, hx569_0, hx569_1, hx569_2⟩ := at_T25 (Kd.R_reads' HO568.out).2.2 0 p569 q569
       cases e569
       have qi569 : (0 < t566.length) = True := eq_true (by omega)
       (try rw [show ((0 : Int)).toNat = 0 from rfl] at hx569_0)
       (try rw [show 0 * 3 = 0 from rfl] at hx569_0)
       (try rw [Addr.add_zero'] at hx569_0)
       (try rw [show ((0 : Int)).toNat = 0 from rfl] at hx569_1)
       (try rw [show 0 * 3 = 0 from rfl] at hx569_1)
       (try rw [Addr.add_zero'] at hx569_1)
       (try rw [show ((0 : Int)).toNat = 0 from rfl] at hx569_2)
       (try rw [show 0 * 3 = 0 from rfl] at hx569_2)
       (try rw [Addr.add_zero'] at hx569_2)
       replace p569 := eq_true p569
       replace q569 := eq_true q569
       have p573 : 0 ≤ (1 : Int) := (by omega)
       have q573 : 1 < (t566.length : Int) := xa
       obtain ⟨ad573, e573, hx573_0, hx573_1, hx573_2⟩ := at_T25 (Kd.R_reads' HO568.out).2.2 1 p573 q573
       obtain rfl : ad569 = ad573 := (by injection e573)
       (try simp only [show (1 : Int).toNat = 1 from rfl, Nat.reduceMul, Nat.reduceEqDiff, Go.Addr.add, ↓reduceIte] at hx573_0)
       (try simp only [show (1 : Int).toNat = 1 from rfl, Nat.reduceMul, Nat.reduceEqDiff, Go.Addr.add, ↓reduceIte] at hx573_1)
       (try simp only [show (1 : Int).toNat = 1 from rfl, Nat.reduceMul, Nat.reduceEqDiff, Go.Addr.add, ↓reduceIte] at hx573_2)
       have qi573 : (1 < t566.length) = True := eq_true (by omega)
       (try rw [show ((1 : Int)).toNat = 1 from rfl] at hx573_0)
       (try rw [show 1 * 3 = 3 from rfl] at hx573_0)
       (try rw [show ((1 : Int)).toNat = 1 from rfl] at hx573_1)
       (try rw [show 1 * 3 = 3 from rfl] at hx573_1)
       (try rw [show ((1 : Int)).toNat = 1 from rfl] at hx573_2)
       (try rw [show 1 * 3 = 3 from rfl] at hx573_2)
       replace p573 := eq_true p573
       replace q573 := eq_true q573
       have p577 : 0 ≤ (2 : Int) := (by omega)
       have q577 : 2 < (t566.length : Int) := xa
       obtain ⟨ad577, e577, hx577_0, hx577_1, hx577_2⟩ := at_T25 (Kd.R_reads' HO568.out).2.2 2 p577 q577
       obtain rfl : ad569 = ad577 := (by injection e577)
       (try simp only [show (2 : Int).toNat = 2 from rfl, Nat.reduceMul, Nat.reduceEqDiff, Go.Addr.add, ↓reduceIte] at hx577_0)
       (try simp only [show (2 : Int).toNat = 2 from rfl, Nat.reduceMul, Nat.reduceEqDiff, Go.Addr.add, ↓reduceIte] at hx577_1)
       (try simp only [show (2 : Int).toNat = 2 from rfl, Nat.reduceMul, Nat.reduceEqDiff, Go.Addr.add, ↓reduceIte] at hx577_2)
       have qi577 : (2 < t566.length) = True := eq_true (by omega)
       (try rw [show ((2 : Int)).toNat = 2 from rfl] at hx577_0)
       (try rw [show 2 * 3 = 6 from rfl] at hx577_0)
       (try rw [show ((2 : Int)).toNat = 2 from rfl] at hx577_1)
       (try rw [show 2 * 3 = 6 from rfl] at hx577_1)
       (try rw [show ((2 : Int)).toNat = 2 from rfl] at hx577_2)
       (try rw [show 2 * 3 = 6 from rfl] at hx577_2)
       replace p577 := eq_true p577
       replace q577 := eq_true q577
       refine start_ (n := 25) (S := fun w' => w'.cell? ad569 = some (.bool ((rd_T25 t566 0).f0)) ∧ w'.cell? ⟨ad569.block, ad569.off + 1, none⟩ = some (.string ((rd_T25 t566 0).f1)) ∧ w'.cell? ⟨ad569.block, ad569.off + 2, none⟩ = some (.string ((rd_T25 t566 0).f2)) ∧ w'.cell? ⟨ad569.block, ad569.off + 3, none⟩ = some (.bool ((rd_T25 t566 1).f0)) ∧ w'.cell? ⟨ad569.block, ad569.off + 3 + 1, none⟩ = some (.string ((rd_T25 t566 1).f1)) ∧ w'.cell? ⟨ad569.block, ad569.off + 3 + 2, none⟩ = some (.string ((rd_T25 t566 1).f2)) ∧ w'.cell? ⟨ad569.block, ad569.off + 6, none⟩ = some (.bool ((rd_T25 t566 2).f0)) ∧ w'.cell? ⟨ad569.block, ad569.off + 6 + 1, none⟩ = some (.string ((rd_T25 t566 2).f1)) ∧ w'.cell? ⟨ad569.block, ad569.off + 6 + 2, none⟩ = some (.string ((rd_T25 t566 2).f2))) (ds := []) #[false, false, false, false, false, false, false, false, false, false, false, false, false, false, false, false, false, false, false, false, false, false, false, false, false] (by kernel_rfl) rfl rfl ⟨hx569_0, hx569_1, hx569_2, hx573_0, hx573_1, hx573_2, hx577_0, hx577_1, hx577_2⟩ (fun hHeld => ?_); refine with_tabW insolvencylaw18_awake.tab2 insolvencylaw18_awake.bits2 (fun HT_ HW_ => ?_)
       generalize w22.drew = w23 at HO565 HO568 HB hx569_0 hx569_1 hx569_2 hx573_0 hx573_1 hx573_2 hx577_0 hx577_1 hx577_2 hHeld ⊢
       refine xP 0 (some 8) #[true, false, false, false, false, false, false, false, false, false, false, false, false, false, false, false, false, false, false, false, false, false, false, false, false] rfl rfl ?_
       refine xP 1 (some 9) #[true, true, false, false, false, false, false, false, false, false, false, false, false, false, false, false, false, false, false, false, false, false, false, false, false] rfl rfl ?_
       refine xP 2 (some 10) #[true, true, true, false, false, false, false, false, false, false, false, false, false, false, false, false, false, false, false, false, false, false, false, false, false] rfl rfl ?_
       refine xP 3 (some 11) #[true, true, true, true, false, false, false, false, false, false, false, false, false, false, false, false, false, false, false, false, false, false, false, false, false] rfl rfl ?_
       refine xP 4 (some 12) #[true, true, true, true, true, false, false, false, false, false, false, false, false, false, false, false, false, false, false, false, false, false, false, false, false] rfl rfl ?_
       refine xP 5 (some 13) #[true, true, true, true, true, true, false, false, false, false, false, false, false, false, false, false, false, false, false, false, false, false, false, false, false] rfl rfl ?_
       refine xT 6 (some 14) #[true, true, true, true, true, true, true, false, false, false, false, false, false, false, false, false, false, false, false, false, false, false, false, false, false] rfl rfl hHeld ?_
       refine xO 7 (some 15) #[true, true, true, true, true, true, true, true, false, false, false, false, false, false, false, false, false, false, false, false, false, false, false, false, false] rfl rfl fun K hK => ?_
       refine goes_ Tryd.func39 (by kernel_rfl) rfl #[.int .i64 0] (by rfl) rfl rfl (by (try simp only [List.map_toArray, List.map_cons, List.map_nil]); first | done | rfl | (simp only [List.length_drop, List.length_take]; rfl)) ?_
       with_reducible refine (rational_Int.calls k 0 t570 t571 t572 _ A8.out).mono ?_
       rintro e w25 ⟨rfl, hb⟩
       have HS0_ := (hb.cell (World.block_lt_of_cell? _ _ (hHeld.1))).trans (hHeld.1)
       have HS1_ := (hb.cell (World.block_lt_of_cell? _ _ (hHeld.2.1))).trans (hHeld.2.1)
       have HS2_ := (hb.cell (World.block_lt_of_cell? _ _ (hHeld.2.2.1))).trans (hHeld.2.2.1)
       have HS3_ := (hb.cell (World.block_lt_of_cell? _ _ (hHeld.2.2.2.1))).trans (hHeld.2.2.2.1)
       have HS4_ := (hb.cell (World.block_lt_of_cell? _ _ (hHeld.2.2.2.2.1))).trans (hHeld.2.2.2.2.1)
       have HS5_ := (hb.cell (World.block_lt_of_cell? _ _ (hHeld.2.2.2.2.2.1))).trans (hHeld.2.2.2.2.2.1)
       have HS6_ := (hb.cell (World.block_lt_of_cell? _ _ (hHeld.2.2.2.2.2.2.1))).trans (hHeld.2.2.2.2.2.2.1)
       have HS7_ := (hb.cell (World.block_lt_of_cell? _ _ (hHeld.2.2.2.2.2.2.2.1))).trans (hHeld.2.2.2.2.2.2.2.1)
       have HS8_ := (hb.cell (World.block_lt_of_cell? _ _ (hHeld.2.2.2.2.2.2.2.2))).trans (hHeld.2.2.2.2.2.2.2.2)
       refine ⟨_, rfl, ?_⟩
       replace HO565 := Aside0.mk (Kd.R_below (xr HO565.out) hb)
       replace HO568 := Aside0.mk (Kd.R_below (xr HO568.out) hb)
       replace HB := xS HB hb
       (try clear hb)
       (try clear hb2)
       (try clear hk)
       (try clear hi)
       refine hK.out _ _ ⟨HS0_, HS1_, HS2_, HS3_, HS4_, HS5_, HS6_, HS7_, HS8_⟩ (fun hHeld => ?_)
       clear hK K
       refine xN 15 ?_
       refine xP 8 (some 16) #[true, true, true, true, true, true, true, true, true, false, false, false, false, false, false, false, false, false, false, false, false, false, false, false, false] rfl rfl ?_
       refine xP 9 (some 17) #[true, true, true, true, true, true, true, true, true, true, false, false, false, false, false, false, false, false, false, false, false, false, false, false, false] rfl rfl ?_
       refine xP 10 (some 18) #[true, true, true, true, true, true, true, true, true, true, true, false, false, false, false, false, false, false, false, false, false, false, false, false, false] rfl rfl ?_
       refine xP 11 (some 19) #[true, true, true, true, true, true, true, true, true, true, true, true, false, false, false, false, false, false, false, false, false, false, false, false, false] rfl rfl ?_
       refine xP 12 (some 20) #[true, true, true, true, true, true, true, true, true, true, true, true, true, false, false, false, false, false, false, false, false, false, false, false, false] rfl rfl ?_
       refine xT 13 (some 21) #[true, true, true, true, true, true, true, true, true, true, true, true, true, true, false, false, false, false, false, false, false, false, false, false, false] rfl rfl hHeld ?_
       refine xO 14 (some 22) #[true, true, true, true, true, true, true, true, true, true, true, true, true, true, true, false, false, false, false, false, false, false, false, false, false] rfl rfl fun K hK => ?_
       refine goes_ Tryd.func39 (by kernel_rfl) rfl #[.int .i64 20] (by rfl) rfl rfl (by (try simp only [List.map_toArray, List.map_cons, List.map_nil]); first | done | rfl | (simp only [List.length_drop, List.length_take]; rfl)) ?_
       with_reducible refine (rational_Int.calls k 20 t574 t575 t576 _ A11.out).mono ?_
       rintro e w26 ⟨rfl, hb⟩
       have HS0_ := (hb.cell (World.block_lt_of_cell? _ _ (hHeld.1))).trans (hHeld.1)
       have HS1_ := (hb.cell (World.block_lt_of_cell? _ _ (hHeld.2.1))).trans (hHeld.2.1)
       have HS2_ := (hb.cell (World.block_lt_of_cell? _ _ (hHeld.2.2.1))).trans (hHeld.2.2.1)
       have HS3_ := (hb.cell (World.block_lt_of_cell? _ _ (hHeld.2.2.2.1))).trans (hHeld.2.2.2.1)
       have HS4_ := (hb.cell (World.block_lt_of_cell? _ _ (hHeld.2.2.2.2.1))).trans (hHeld.2.2.2.2.1)
       have HS5_ := (hb.cell (World.block_lt_of_cell? _ _ (hHeld.2.2.2.2.2.1))).trans (hHeld.2.2.2.2.2.1)
       have HS6_ := (hb.cell (World.block_lt_of_cell? _ _ (hHeld.2.2.2.2.2.2.1))).trans (hHeld.2.2.2.2.2.2.1)
       have HS7_ := (hb.cell (World.block_lt_of_cell? _ _ (hHeld.2.2.2.2.2.2.2.1))).trans (hHeld.2.2.2.2.2.2.2.1)
       have HS8_ := (hb.cell (World.block_lt_of_cell? _ _ (hHeld.2.2.2.2.2.2.2.2))).trans (hHeld.2.2.2.2.2.2.2.2)
       refine ⟨_, rfl, ?_⟩
       replace HO565 := Aside0.mk (Kd.R_below (xr HO565.out) hb)
       replace HO568 := Aside0.mk (Kd.R_below (xr HO568.out) hb)
       replace HB := xS HB hb
       (try clear hb)
       (try clear hb2)
       (try clear hk)
       (try clear hi)
       refine hK.out _ _ ⟨HS0_, HS1_, HS2_, HS3_, HS4_, HS5_, HS6_, HS7_, HS8_⟩ (fun hHeld => ?_)
       clear hK K
       refine xN 22 ?_
       refine xP 15 (some 23) #[true, true, true, true, true, true, true, true, true, true, true, true, true, true, true, true, false, false, false, false, false, false, false, false, false] rfl rfl ?_
       refine xP 16 (some 24) #[true, true, true, true, true, true, true, true, true, true, true, true, true, true, true, true, true, false, false, false, false, false, false, false, false] rfl rfl ?_
       refine xP 17 (some 25) #[true, true, true, true, true, true, true, true, true, true, true, true, true, true, true, true, true, true, false, false, false, false, false, false, false] rfl rfl ?_
       refine xP 18 (some 26) #[true, true, true, true, true, true, true, true, true, true, true, true, true, true, true, true, true, true, true, false, false, false, false, false, false] rfl rfl ?_
       refine xP 19 (some 27) #[true, true, true, true, true, true, true, true, true, true, true, true, true, true, true, true, true, true, true, true, false, false, false, false, false] rfl rfl ?_
       refine xT 20 (some 28) #[true, true, true, true, true, true, true, true, true, true, true, true, true, true, true, true, true, true, true, true, true, false, false, false, false] rfl rfl hHeld ?_
       refine xO 21 (some 29) #[true, true, true, true, true, true, true, true, true, true, true, true, true, true, true, true, true, true, true, true, true, true, false, false, false] rfl rfl fun K hK => ?_
       refine goes_ Tryd.func39 (by kernel_rfl) rfl #[.int .i64 20] (by rfl) rfl rfl (by (try simp only [List.map_toArray, List.map_cons, List.map_nil]); first | done | rfl | (simp only [List.length_drop, List.length_take]; rfl)) ?_
       with_reducible refine (rational_Int.calls k 20 t578 t579 t580 _ A14.out).mono ?_
       rintro e w27 ⟨rfl, hb⟩
       have HS0_ := (hb.cell (World.block_lt_of_cell? _ _ (hHeld.1))).trans (hHeld.1)
       have HS1_ := (hb.cell (World.block_lt_of_cell? _ _ (hHeld.2.1))).trans (hHeld.2.1)
       have HS2_ := (hb.cell (World.block_lt_of_cell? _ _ (hHeld.2.2.1))).trans (hHeld.2.2.1)
       have HS3_ := (hb.cell (World.block_lt_of_cell? _ _ (hHeld.2.2.2.1))).trans (hHeld.2.2.2.1)
       have HS4_ := (hb.cell (World.block_lt_of_cell? _ _ (hHeld.2.2.2.2.1))).trans (hHeld.2.2.2.2.1)
       have HS5_ := (hb.cell (World.block_lt_of_cell? _ _ (hHeld.2.2.2.2.2.1))).trans (hHeld.2.2.2.2.2.1)
       have HS6_ := (hb.cell (World.block_lt_of_cell? _ _ (hHeld.2.2.2.2.2.2.1))).trans (hHeld.2.2.2.2.2.2.1)
       have HS7_ := (hb.cell (World.block_lt_of_cell? _ _ (hHeld.2.2.2.2.2.2.2.1))).trans (hHeld.2.2.2.2.2.2.2.1)
       have HS8_ := (hb.cell (World.block_lt_of_cell? _ _ (hHeld.2.2.2.2.2.2.2.2))).trans (hHeld.2.2.2.2.2.2.2.2)
       refine ⟨_, rfl, ?_⟩
       replace HO565 := Aside0.mk (Kd.R_below (xr HO565.out) hb)
       replace HO568 := Aside0.mk (Kd.R_below (xr HO568.out) hb)
       replace HB := xS HB hb
       (try clear hb)
       (try clear hb2)
       (try clear hk)
       (try clear hi)
       refine hK.out _ _ ⟨HS0_, HS1_, HS2_, HS3_, HS4_, HS5_, HS6_, HS7_, HS8_⟩ (fun hHeld => ?_)
       clear hK K
       refine xN 29 ?_
       refine xP 22 (some 30) #[true, true, true, true, true, true, true, true, true, true, true, true, true, true, true, true, true, true, true, true, true, true, true, false, false] rfl rfl ?_
       refine xP 23 (some 31) #[true, true, true, true, true, true, true, true, true, true, true, true, true, true, true, true, true, true, true, true, true, true, true, true, false] rfl rfl ?_
       refine xP 24 (some 0) #[true, true, true, true, true, true, true, true, true, true, true, true, true, true, true, true, true, true, true, true, true, true, true, true, true] rfl rfl ?_
       refine done_ (done_of HT_.out (by kernel_rfl)) ?_
       try go_wp2
       go_ret
       exact ⟨xy, xs HB⟩
      ·rw [if_neg c13] at H
       exact absurd H (by simp)
     ·rw [if_neg c12] at H
      have c12b0 : (((rd_T25 t566 1).f0) == t574 && ((((rd_T25 t566 1).f1).toList) == t575.toList && ((((rd_T25 t566 1).f2).toList) == t576.toList))) = false := by simpa using c12
      (try (have c12b1 : decide (((rd_T25 t566 1).f0) = t574 && ((((rd_T25 t566 1).f1).toList) == t575.toList && ((((rd_T25 t566 1).f2).toList) == t576.toList))) = false := by simpa using c12))
      (try (have c12b2 : (((rd_T25 t566 1).f0) == t574 && ((((rd_T25 t566 1).f1).toList) == t575.toList && ((((rd_T25 t566 1).f2).toList) == t576.toList))) = false := by simpa using c12))
      (try (have c12b3 : ¬ (((rd_T25 t566 1).f0) = t574 && ((((rd_T25 t566 1).f1).toList) == t575.toList && ((((rd_T25 t566 1).f2).toList) == t576.toList))) := by simpa using c12))
      clear c12
      obtain rfl := Option.some.inj H
      go_enter Tryd.func14, Tryd.ntmps14
      try go_wp2_with (first | ((with_reducible refine gate_callee (f := 39) rfl ?_); refine xC Tryd.func39 (some 2) (rational_Int.calls k 100 t551 t552 t553 _ A1.out) ?_; rintro w28 hb; replace HB := xS HB hb; clear hb) | ((with_reducible refine gate_callee (f := 39) rfl ?_); refine xC Tryd.func39 (some 3) (rational_Int.calls k 70 t554 t555 t556 _ A2.out) ?_; rintro w29 hb; replace HB := xS HB hb; clear hb) | ((with_reducible refine gate_callee (f := 39) rfl ?_); refine xC Tryd.func39 (some 4) (rational_Int.calls k 50 t557 t558 t559 _ A3.out) ?_; rintro w30 hb; replace HB := xS HB hb; clear hb) | ((with_reducible refine gate_callee (f := 39) rfl ?_); refine xC Tryd.func39 (some 5) (rational_Int.calls k 20 t560 t561 t562 _ A4.out) ?_; rintro w31 hb; replace HB := xS HB hb; clear hb) | ((with_reducible refine gate_dst (N := 6) rfl ?_); refine Kd.R_lit k25 _ 25 ?hg (N := 6) ?hd (xs := ([(⟨t554, t555, t556⟩ : S25), (⟨t557, t558, t559⟩ : S25), (⟨t560, t561, t562⟩ : S25)] : List (S25))) (inner := [.bool t554, .string t555, .string t556, .bool t557, .string t558, .string t559, .bool t560, .string t561, .string t562]) (ok := fun _ => True) (okp := fun _ => True) ?hr ?hp (fun _ hk => hk) trivial (Below.refl _ _) (Nat.le_refl _) (by simp) ?_; (case hd => rfl); (case hg => rfl); (case hr => first | (go_simp; done) | (go_simp; rfl)); (case hp => exact (Reps.c3 (show Kd.M k25 _ _ _ (⟨t554, t555, t556⟩ : S25) [.bool t554, .string t555, .string t556] from (k25_mkM _ _ _ (⟨t554, t555, t556⟩ : S25) )) (Reps.c3 (show Kd.M k25 _ _ _ (⟨t557, t558, t559⟩ : S25) [.bool t557, .string t558, .string t559] from (k25_mkM _ _ _ (⟨t557, t558, t559⟩ : S25) )) (Reps.c3 (show Kd.M k25 _ _ _ (⟨t560, t561, t562⟩ : S25) [.bool t560, .string t561, .string t562] from (k25_mkM _ _ _ (⟨t560, t561, t562⟩ : S25) )) (Reps.none _ _))))); intro v564 w32 ho33 hb hg_ hnew_; clear hg_ hnew_; (first | rw [← Ny563.out] at ho33 | (simp only [Int.reduceToNat] at ho33; rw [← Ny563.out] at ho33)); have HO565 := Aside0.mk (Kd.R_lower ho33 (below_size (xs HB))); replace HB := xS HB hb; clear hb ho33; obtain ⟨Ao34, co34, eo34⟩ := Kd.R_slice HO565.out; subst eo34) | ((with_reducible refine gate_callee (f := 12) rfl ?_); refine xg Tryd.func12 (some 7) #[.agg #[.bool t551, .string t552, .string t553], .slice Ao34 y563.length co34] ?_; (with_reducible refine (guarantee_Refunds.calls k t551 t552 t553 _ _ y563 t566 _ ?side1 ?side2 A5.out).mono ?_); (case side1 => repeat (first | exact (Kd.R_reads' HO565.out).2.2 | (with_reducible refine Kd.C_alloc ?_ _) | (with_reducible refine Kd.C_drewN ?_ _) | (with_reducible refine Kd.C_drew ?_))); (case side2 => exact (Kd.R_reads' HO565.out).2.1); rintro e w35 ⟨v567, rfl, ho0, hb⟩; refine ⟨_, rfl, ?_⟩; have HO568 := Aside0.mk (Kd.R_lower (Kd.R_new' ho0 (Kd.R_lt (xr HO565.out))) (below_size (xs HB))); replace HO565 := Aside0.mk (Kd.R_elder' (xr HO565.out) (Kd.R_base ho0) hb); replace HB := xS HB hb; clear hb ho0))
      replace HO565 := Aside0.mk (Kd.R_drew HO565.out)
      replace HO568 := Aside0.mk (Kd.R_drew HO568.out)
      replace HB := xW HB
      obtain ⟨Ao37, co37, eo37⟩ := Kd.R_slice HO568.out
      (first | subst eo37 | (injection eo37 with f1_ f2_ f3_; have f4_ := f1_.symm; have f5_ := f3_.symm; clear f1_ f2_ f3_; subst f4_; subst f5_))
      have p569 : 0 ≤ (0 : Int) := (by omega)
      have q569 : 0 < (t566.length : Int) := xa
      obtain ⟨ad569, e569, hx569_0, hx569_1, hx569_2⟩ := at_T25 (Kd.R_reads' HO568.out).2.2 0 p569 q569
      cases e569
      have qi569 : (0 < t566.length) = True := eq_true (by omega)
      (try rw [show ((0 : Int)).toNat = 0 from rfl] at hx569_0)
      (try rw [show 0 * 3 = 0 from rfl] at hx569_0)
      (try rw [Addr.add_zero'] at hx569_0)
      (try rw [show ((0 : Int)).toNat = 0 from rfl] at hx569_1)
      (try rw [show 0 * 3 = 0 from rfl] at hx569_1)
      (try rw [Addr.add_zero'] at hx569_1)
      (try rw [show ((0 : Int)).toNat = 0 from rfl] at hx569_2)
      (try rw [show 0 * 3 = 0 from rfl] at hx569_2)
      (try rw [Addr.add_zero'] at hx569_2)
      replace p569 := eq_true p569
      replace q569 := eq_true q569
      have p573 : 0 ≤ (1 : Int) := (by omega)
      have q573 : 1 < (t566.length : Int) := xa
      obtain ⟨ad573, e573, hx573_0, hx573_1, hx573_2⟩ := at_T25 (Kd.R_reads' HO568.out).2.2 1 p573 q573
      obtain rfl : ad569 = ad573 := (by injection e573)
      (try simp only [show (1 : Int).toNat = 1 from rfl, Nat.reduceMul, Nat.reduceEqDiff, Go.Addr.add, ↓reduceIte] at hx573_0)
      (try simp only [show (1 : Int).toNat = 1 from rfl, Nat.reduceMul, Nat.reduceEqDiff, Go.Addr.add, ↓reduceIte] at hx573_1)
      (try simp only [show (1 : Int).toNat = 1 from rfl, Nat.reduceMul, Nat.reduceEqDiff, Go.Addr.add, ↓reduceIte] at hx573_2)
      have qi573 : (1 < t566.length) = True := eq_true (by omega)
      (try rw [show ((1 : Int)).toNat = 1 from rfl] at hx573_0)
      (try rw [show 1 * 3 = 3 from rfl] at hx573_0)
      (try rw [show ((1 : Int)).toNat = 1 from rfl] at hx573_1)
      (try rw [show 1 * 3 = 3 from rfl] at hx573_1)
      (try rw [show ((1 : Int)).toNat = 1 from rfl] at hx573_2)
      (try rw [show 1 * 3 = 3 from rfl] at hx573_2)
      replace p573 := eq_true p573
      replace q573 := eq_true q573
      refine start_ (n := 25) (S := fun w' => w'.cell? ad569 = some (.bool ((rd_T25 t566 0).f0)) ∧ w'.cell? ⟨ad569.block, ad569.off + 1, none⟩ = some (.string ((rd_T25 t566 0).f1)) ∧ w'.cell? ⟨ad569.block, ad569.off + 2, none⟩ = some (.string ((rd_T25 t566 0).f2)) ∧ w'.cell? ⟨ad569.block, ad569.off + 3, none⟩ = some (.bool ((rd_T25 t566 1).f0)) ∧ w'.cell? ⟨ad569.block, ad569.off + 3 + 1, none⟩ = some (.string ((rd_T25 t566 1).f1)) ∧ w'.cell? ⟨ad569.block, ad569.off + 3 + 2, none⟩ = some (.string ((rd_T25 t566 1).f2))) (ds := []) #[false, false, false, false, false, false, false, false, false, false, false, false, false, false, false, false, false, false, false, false, false, false, false, false, false] (by kernel_rfl) rfl rfl ⟨hx569_0, hx569_1, hx569_2, hx573_0, hx573_1, hx573_2⟩ (fun hHeld => ?_); refine with_tabW insolvencylaw18_awake.tab2 insolvencylaw18_awake.bits2 (fun HT_ HW_ => ?_)
      generalize w35.drew = w36 at HO565 HO568 HB hx569_0 hx569_1 hx569_2 hx573_0 hx573_1 hx573_2 hHeld ⊢
      refine xP 0 (some 8) #[true, false, false, false, false, false, false, false, false, false, false, false, false, false, false, false, false, false, false, false, false, false, false, false, false] rfl rfl ?_
      refine xP 1 (some 9) #[true, true, false, false, false, false, false, false, false, false, false, false, false, false, false, false, false, false, false, false, false, false, false, false, false] rfl rfl ?_
      refine xP 2 (some 10) #[true, true, true, false, false, false, false, false, false, false, false, false, false, false, false, false, false, false, false, false, false, false, false, false, false] rfl rfl ?_
      refine xP 3 (some 11) #[true, true, true, true, false, false, false, false, false, false, false, false, false, false, false, false, false, false, false, false, false, false, false, false, false] rfl rfl ?_
      refine xP 4 (some 12) #[true, true, true, true, true, false, false, false, false, false, false, false, false, false, false, false, false, false, false, false, false, false, false, false, false] rfl rfl ?_
      refine xP 5 (some 13) #[true, true, true, true, true, true, false, false, false, false, false, false, false, false, false, false, false, false, false, false, false, false, false, false, false] rfl rfl ?_
      refine xT 6 (some 14) #[true, true, true, true, true, true, true, false, false, false, false, false, false, false, false, false, false, false, false, false, false, false, false, false, false] rfl rfl hHeld ?_
      refine xO 7 (some 15) #[true, true, true, true, true, true, true, true, false, false, false, false, false, false, false, false, false, false, false, false, false, false, false, false, false] rfl rfl fun K hK => ?_
      refine goes_ Tryd.func39 (by kernel_rfl) rfl #[.int .i64 0] (by rfl) rfl rfl (by (try simp only [List.map_toArray, List.map_cons, List.map_nil]); first | done | rfl | (simp only [List.length_drop, List.length_take]; rfl)) ?_
      with_reducible refine (rational_Int.calls k 0 t570 t571 t572 _ A8.out).mono ?_
      rintro e w38 ⟨rfl, hb⟩
      have HS0_ := (hb.cell (World.block_lt_of_cell? _ _ (hHeld.1))).trans (hHeld.1)
      have HS1_ := (hb.cell (World.block_lt_of_cell? _ _ (hHeld.2.1))).trans (hHeld.2.1)
      have HS2_ := (hb.cell (World.block_lt_of_cell? _ _ (hHeld.2.2.1))).trans (hHeld.2.2.1)
      have HS3_ := (hb.cell (World.block_lt_of_cell? _ _ (hHeld.2.2.2.1))).trans (hHeld.2.2.2.1)
      have HS4_ := (hb.cell (World.block_lt_of_cell? _ _ (hHeld.2.2.2.2.1))).trans (hHeld.2.2.2.2.1)
      have HS5_ := (hb.cell (World.block_lt_of_cell? _ _ (hHeld.2.2.2.2.2))).trans (hHeld.2.2.2.2.2)
      refine ⟨_, rfl, ?_⟩
      replace HO565 := Aside0.mk (Kd.R_below (xr HO565.out) hb)
      replace HO568 := Aside0.mk (Kd.R_below (xr HO568.out) hb)
      replace HB := xS HB hb
      (try clear hb)
      (try clear hb2)
      (try clear hk)
      (try clear hi)
      refine hK.out _ _ ⟨HS0_, HS1_, HS2_, HS3_, HS4_, HS5_⟩ (fun hHeld => ?_)
      clear hK K
      refine xN 15 ?_
      refine xP 8 (some 16) #[true, true, true, true, true, true, true, true, true, false, false, false, false, false, false, false, false, false, false, false, false, false, false, false, false] rfl rfl ?_
      refine xP 9 (some 17) #[true, true, true, true, true, true, true, true, true, true, false, false, false, false, false, false, false, false, false, false, false, false, false, false, false] rfl rfl ?_
      refine xP 10 (some 18) #[true, true, true, true, true, true, true, true, true, true, true, false, false, false, false, false, false, false, false, false, false, false, false, false, false] rfl rfl ?_
      refine xP 11 (some 19) #[true, true, true, true, true, true, true, true, true, true, true, true, false, false, false, false, false, false, false, false, false, false, false, false, false] rfl rfl ?_
      refine xP 12 (some 20) #[true, true, true, true, true, true, true, true, true, true, true, true, true, false, false, false, false, false, false, false, false, false, false, false, false] rfl rfl ?_
      refine xT 13 (some 21) #[true, true, true, true, true, true, true, true, true, true, true, true, true, true, false, false, false, false, false, false, false, false, false, false, false] rfl rfl hHeld ?_
      refine xO 14 (some 22) #[true, true, true, true, true, true, true, true, true, true, true, true, true, true, true, false, false, false, false, false, false, false, false, false, false] rfl rfl fun K hK => ?_
      refine goes_ Tryd.func39 (by kernel_rfl) rfl #[.int .i64 20] (by rfl) rfl rfl (by (try simp only [List.map_toArray, List.map_cons, List.map_nil]); first | done | rfl | (simp only [List.length_drop, List.length_take]; rfl)) ?_
      with_reducible refine (rational_Int.calls k 20 t574 t575 t576 _ A11.out).mono ?_
      rintro e w39 ⟨rfl, hb⟩
      have HS0_ := (hb.cell (World.block_lt_of_cell? _ _ (hHeld.1))).trans (hHeld.1)
      have HS1_ := (hb.cell (World.block_lt_of_cell? _ _ (hHeld.2.1))).trans (hHeld.2.1)
      have HS2_ := (hb.cell (World.block_lt_of_cell? _ _ (hHeld.2.2.1))).trans (hHeld.2.2.1)
      have HS3_ := (hb.cell (World.block_lt_of_cell? _ _ (hHeld.2.2.2.1))).trans (hHeld.2.2.2.1)
      have HS4_ := (hb.cell (World.block_lt_of_cell? _ _ (hHeld.2.2.2.2.1))).trans (hHeld.2.2.2.2.1)
      have HS5_ := (hb.cell (World.block_lt_of_cell? _ _ (hHeld.2.2.2.2.2))).trans (hHeld.2.2.2.2.2)
      refine ⟨_, rfl, ?_⟩
      replace HO565 := Aside0.mk (Kd.R_below (xr HO565.out) hb)
      replace HO568 := Aside0.mk (Kd.R_below (xr HO568.out) hb)
      replace HB := xS HB hb
      (try clear hb)
      (try clear hb2)
      (try clear hk)
      (try clear hi)
      refine hK.out _ _ ⟨HS0_, HS1_, HS2_, HS3_, HS4_, HS5_⟩ (fun hHeld => ?_)
      clear hK K
      refine xN 22 ?_
      refine xP 15 (some 23) #[true, true, true, true, true, true, true, true, true, true, true, true, true, true, true, true, false, false, false, false, false, false, false, false, false] rfl rfl ?_
      refine xP 16 (some 24) #[true, true, true, true, true, true, true, true, true, true, true, true, true, true, true, true, true, false, false, false, false, false, false, false, false] rfl rfl ?_
      refine xP 17 (some 25) #[true, true, true, true, true, true, true, true, true, true, true, true, true, true, true, true, true, true, false, false, false, false, false, false, false] rfl rfl ?_
      refine xU 18 (some 26) #[true, true, true, true, true, true, true, true, true, true, true, true, true, true, true, true, true, true, true, false, false, false, false, false, false] rfl rfl ?_
      refine xU 19 (some 27) #[true, true, true, true, true, true, true, true, true, true, true, true, true, true, true, true, true, true, true, true, false, false, false, false, false] rfl rfl ?_
      refine xU 20 (some 28) #[true, true, true, true, true, true, true, true, true, true, true, true, true, true, true, true, true, true, true, true, true, false, false, false, false] rfl rfl ?_
      refine xU 21 (some 29) #[true, true, true, true, true, true, true, true, true, true, true, true, true, true, true, true, true, true, true, true, true, true, false, false, false] rfl rfl ?_
      refine xU 22 (some 30) #[true, true, true, true, true, true, true, true, true, true, true, true, true, true, true, true, true, true, true, true, true, true, true, false, false] rfl rfl ?_
      refine xP 23 (some 31) #[true, true, true, true, true, true, true, true, true, true, true, true, true, true, true, true, true, true, true, true, true, true, true, true, false] rfl rfl ?_
      refine xP 24 (some 0) #[true, true, true, true, true, true, true, true, true, true, true, true, true, true, true, true, true, true, true, true, true, true, true, true, true] rfl rfl ?_
      refine done_ (done_of HT_.out (by kernel_rfl)) ?_
      try go_wp2
      go_ret
      exact ⟨xy, xs HB⟩
    ·rw [if_neg c10] at H
     exact absurd H (by simp)
   ·rw [if_neg c9] at H
    have c9b0 : (((rd_T25 t566 0).f0) == t570 && ((((rd_T25 t566 0).f1).toList) == t571.toList && ((((rd_T25 t566 0).f2).toList) == t572.toList))) = false := by simpa using c9
    (try (have c9b1 : decide (((rd_T25 t566 0).f0) = t570 && ((((rd_T25 t566 0).f1).toList) == t571.toList && ((((rd_T25 t566 0).f2).toList) == t572.toList))) = false := by simpa using c9))
    (try (have c9b2 : (((rd_T25 t566 0).f0) == t570 && ((((rd_T25 t566 0).f1).toList) == t571.toList && ((((rd_T25 t566 0).f2).toList) == t572.toList))) = false := by simpa using c9))
    (try (have c9b3 : ¬ (((rd_T25 t566 0).f0) = t570 && ((((rd_T25 t566 0).f1).toList) == t571.toList && ((((rd_T25 t566 0).f2).toList) == t572.toList))) := by simpa using c9))
    clear c9
    obtain rfl := Option.some.inj H
    go_enter Tryd.func14, Tryd.ntmps14
    try go_wp2_with (first | ((with_reducible refine gate_callee (f := 39) rfl ?_); refine xC Tryd.func39 (some 2) (rational_Int.calls k 100 t551 t552 t553 _ A1.out) ?_; rintro w40 hb; replace HB := xS HB hb; clear hb) | ((with_reducible refine gate_callee (f := 39) rfl ?_); refine xC Tryd.func39 (some 3) (rational_Int.calls k 70 t554 t555 t556 _ A2.out) ?_; rintro w41 hb; replace HB := xS HB hb; clear hb) | ((with_reducible refine gate_callee (f := 39) rfl ?_); refine xC Tryd.func39 (some 4) (rational_Int.calls k 50 t557 t558 t559 _ A3.out) ?_; rintro w42 hb; replace HB := xS HB hb; clear hb) | ((with_reducible refine gate_callee (f := 39) rfl ?_); refine xC Tryd.func39 (some 5) (rational_Int.calls k 20 t560 t561 t562 _ A4.out) ?_; rintro w43 hb; replace HB := xS HB hb; clear hb) | ((with_reducible refine gate_dst (N := 6) rfl ?_); refine Kd.R_lit k25 _ 25 ?hg (N := 6) ?hd (xs := ([(⟨t554, t555, t556⟩ : S25), (⟨t557, t558, t559⟩ : S25), (⟨t560, t561, t562⟩ : S25)] : List (S25))) (inner := [.bool t554, .string t555, .string t556, .bool t557, .string t558, .string t559, .bool t560, .string t561, .string t562]) (ok := fun _ => True) (okp := fun _ => True) ?hr ?hp (fun _ hk => hk) trivial (Below.refl _ _) (Nat.le_refl _) (by simp) ?_; (case hd => rfl); (case hg => rfl); (case hr => first | (go_simp; done) | (go_simp; rfl)); (case hp => exact (Reps.c3 (show Kd.M k25 _ _ _ (⟨t554, t555, t556⟩ : S25) [.bool t554, .string t555, .string t556] from (k25_mkM _ _ _ (⟨t554, t555, t556⟩ : S25) )) (Reps.c3 (show Kd.M k25 _ _ _ (⟨t557, t558, t559⟩ : S25) [.bool t557, .string t558, .string t559] from (k25_mkM _ _ _ (⟨t557, t558, t559⟩ : S25) )) (Reps.c3 (show Kd.M k25 _ _ _ (⟨t560, t561, t562⟩ : S25) [.bool t560, .string t561, .string t562] from (k25_mkM _ _ _ (⟨t560, t561, t562⟩ : S25) )) (Reps.none _ _))))); intro v564 w44 ho45 hb hg_ hnew_; clear hg_ hnew_; (first | rw [← Ny563.out] at ho45 | (simp only [Int.reduceToNat] at ho45; rw [← Ny563.out] at ho45)); have HO565 := Aside0.mk (Kd.R_lower ho45 (below_size (xs HB))); replace HB := xS HB hb; clear hb ho45; obtain ⟨Ao46, co46, eo46⟩ := Kd.R_slice HO565.out; subst eo46) | ((with_reducible refine gate_callee (f := 12) rfl ?_); refine xg Tryd.func12 (some 7) #[.agg #[.bool t551, .string t552, .string t553], .slice Ao46 y563.length co46] ?_; (with_reducible refine (guarantee_Refunds.calls k t551 t552 t553 _ _ y563 t566 _ ?side1 ?side2 A5.out).mono ?_); (case side1 => repeat (first | exact (Kd.R_reads' HO565.out).2.2 | (with_reducible refine Kd.C_alloc ?_ _) | (with_reducible refine Kd.C_drewN ?_ _) | (with_reducible refine Kd.C_drew ?_))); (case side2 => exact (Kd.R_reads' HO565.out).2.1); rintro e w47 ⟨v567, rfl, ho0, hb⟩; refine ⟨_, rfl, ?_⟩; have HO568 := Aside0.mk (Kd.R_lower (Kd.R_new' ho0 (Kd.R_lt (xr HO565.out))) (below_size (xs HB))); replace HO565 := Aside0.mk (Kd.R_elder' (xr HO565.out) (Kd.R_base ho0) hb); replace HB := xS HB hb; clear hb ho0))
    replace HO565 := Aside0.mk (Kd.R_drew HO565.out)
    replace HO568 := Aside0.mk (Kd.R_drew HO568.out)
    replace HB := xW HB
    obtain ⟨Ao49, co49, eo49⟩ := Kd.R_slice HO568.out
    (first | subst eo49 | (injection eo49 with f1_ f2_ f3_; have f4_ := f1_.symm; have f5_ := f3_.symm; clear f1_ f2_ f3_; subst f4_; subst f5_))
    have p569 : 0 ≤ (0 : Int) := (by omega)
    have q569 : 0 < (t566.length : Int) := xa
    obtain ⟨ad569, e569, hx569_0, hx569_1, hx569_2⟩ := at_T25 (Kd.R_reads' HO568.out).2.2 0 p569 q569
    cases e569
    have qi569 : (0 < t566.length) = True := eq_true (by omega)
    (try rw [show ((0 : Int)).toNat = 0 from rfl] at hx569_0)
    (try rw [show 0 * 3 = 0 from rfl] at hx569_0)
    (try rw [Addr.add_zero'] at hx569_0)
    (try rw [show ((0 : Int)).toNat = 0 from rfl] at hx569_1)
    (try rw [show 0 * 3 = 0 from rfl] at hx569_1)
    (try rw [Addr.add_zero'] at hx569_1)
    (try rw [show ((0 : Int)).toNat = 0 from rfl] at hx569_2)
    (try rw [show 0 * 3 = 0 from rfl] at hx569_2)
    (try rw [Addr.add_zero'] at hx569_2)
    replace p569 := eq_true p569
    replace q569 := eq_true q569
    refine start_ (n := 25) (S := fun w' => w'.cell? ad569 = some (.bool ((rd_T25 t566 0).f0)) ∧ w'.cell? ⟨ad569.block, ad569.off + 1, none⟩ = some (.string ((rd_T25 t566 0).f1)) ∧ w'.cell? ⟨ad569.block, ad569.off + 2, none⟩ = some (.string ((rd_T25 t566 0).f2))) (ds := []) #[false, false, false, false, false, false, false, false, false, false, false, false, false, false, false, false, false, false, false, false, false, false, false, false, false] (by kernel_rfl) rfl rfl ⟨hx569_0, hx569_1, hx569_2⟩ (fun hHeld => ?_); refine with_tabW insolvencylaw18_awake.tab2 insolvencylaw18_awake.bits2 (fun HT_ HW_ => ?_)
    generalize w47.drew = w48 at HO565 HO568 HB hx569_0 hx569_1 hx569_2 hHeld ⊢
    refine xP 0 (some 8) #[true, false, false, false, false, false, false, false, false, false, false, false, false, false, false, false, false, false, false, false, false, false, false, false, false] rfl rfl ?_
    refine xP 1 (some 9) #[true, true, false, false, false, false, false, false, false, false, false, false, false, false, false, false, false, false, false, false, false, false, false, false, false] rfl rfl ?_
    refine xP 2 (some 10) #[true, true, true, false, false, false, false, false, false, false, false, false, false, false, false, false, false, false, false, false, false, false, false, false, false] rfl rfl ?_
    refine xP 3 (some 11) #[true, true, true, true, false, false, false, false, false, false, false, false, false, false, false, false, false, false, false, false, false, false, false, false, false] rfl rfl ?_
    refine xP 4 (some 12) #[true, true, true, true, true, false, false, false, false, false, false, false, false, false, false, false, false, false, false, false, false, false, false, false, false] rfl rfl ?_
    refine xP 5 (some 13) #[true, true, true, true, true, true, false, false, false, false, false, false, false, false, false, false, false, false, false, false, false, false, false, false, false] rfl rfl ?_
    refine xT 6 (some 14) #[true, true, true, true, true, true, true, false, false, false, false, false, false, false, false, false, false, false, false, false, false, false, false, false, false] rfl rfl hHeld ?_
    refine xO 7 (some 15) #[true, true, true, true, true, true, true, true, false, false, false, false, false, false, false, false, false, false, false, false, false, false, false, false, false] rfl rfl fun K hK => ?_
    refine goes_ Tryd.func39 (by kernel_rfl) rfl #[.int .i64 0] (by rfl) rfl rfl (by (try simp only [List.map_toArray, List.map_cons, List.map_nil]); first | done | rfl | (simp only [List.length_drop, List.length_take]; rfl)) ?_
    with_reducible refine (rational_Int.calls k 0 t570 t571 t572 _ A8.out).mono ?_
    rintro e w50 ⟨rfl, hb⟩
    have HS0_ := (hb.cell (World.block_lt_of_cell? _ _ (hHeld.1))).trans (hHeld.1)
    have HS1_ := (hb.cell (World.block_lt_of_cell? _ _ (hHeld.2.1))).trans (hHeld.2.1)
    have HS2_ := (hb.cell (World.block_lt_of_cell? _ _ (hHeld.2.2))).trans (hHeld.2.2)
    refine ⟨_, rfl, ?_⟩
    replace HO565 := Aside0.mk (Kd.R_below (xr HO565.out) hb)
    replace HO568 := Aside0.mk (Kd.R_below (xr HO568.out) hb)
    replace HB := xS HB hb
    (try clear hb)
    (try clear hb2)
    (try clear hk)
    (try clear hi)
    refine hK.out _ _ ⟨HS0_, HS1_, HS2_⟩ (fun hHeld => ?_)
    clear hK K
    refine xN 15 ?_
    refine xP 8 (some 16) #[true, true, true, true, true, true, true, true, true, false, false, false, false, false, false, false, false, false, false, false, false, false, false, false, false] rfl rfl ?_
    refine xP 9 (some 17) #[true, true, true, true, true, true, true, true, true, true, false, false, false, false, false, false, false, false, false, false, false, false, false, false, false] rfl rfl ?_
    refine xP 10 (some 18) #[true, true, true, true, true, true, true, true, true, true, true, false, false, false, false, false, false, false, false, false, false, false, false, false, false] rfl rfl ?_
    refine xU 11 (some 19) #[true, true, true, true, true, true, true, true, true, true, true, true, false, false, false, false, false, false, false, false, false, false, false, false, false] rfl rfl ?_
    refine xU 12 (some 20) #[true, true, true, true, true, true, true, true, true, true, true, true, true, false, false, false, false, false, false, false, false, false, false, false, false] rfl rfl ?_
    refine xU 13 (some 21) #[true, true, true, true, true, true, true, true, true, true, true, true, true, true, false, false, false, false, false, false, false, false, false, false, false] rfl rfl ?_
    refine xU 14 (some 22) #[true, true, true, true, true, true, true, true, true, true, true, true, true, true, true, false, false, false, false, false, false, false, false, false, false] rfl rfl ?_
    refine xU 15 (some 23) #[true, true, true, true, true, true, true, true, true, true, true, true, true, true, true, true, false, false, false, false, false, false, false, false, false] rfl rfl ?_
    refine xP 16 (some 24) #[true, true, true, true, true, true, true, true, true, true, true, true, true, true, true, true, true, false, false, false, false, false, false, false, false] rfl rfl ?_
    refine xP 17 (some 25) #[true, true, true, true, true, true, true, true, true, true, true, true, true, true, true, true, true, true, false, false, false, false, false, false, false] rfl rfl ?_
    refine xU 18 (some 26) #[true, true, true, true, true, true, true, true, true, true, true, true, true, true, true, true, true, true, true, false, false, false, false, false, false] rfl rfl ?_
    refine xU 19 (some 27) #[true, true, true, true, true, true, true, true, true, true, true, true, true, true, true, true, true, true, true, true, false, false, false, false, false] rfl rfl ?_
    refine xU 20 (some 28) #[true, true, true, true, true, true, true, true, true, true, true, true, true, true, true, true, true, true, true, true, true, false, false, false, false] rfl rfl ?_
    refine xU 21 (some 29) #[true, true, true, true, true, true, true, true, true, true, true, true, true, true, true, true, true, true, true, true, true, true, false, false, false] rfl rfl ?_
    refine xU 22 (some 30) #[true, true, true, true, true, true, true, true, true, true, true, true, true, true, true, true, true, true, true, true, true, true, true, false, false] rfl rfl ?_
    refine xP 23 (some 31) #[true, true, true, true, true, true, true, true, true, true, true, true, true, true, true, true, true, true, true, true, true, true, true, true, false] rfl rfl ?_
    refine xP 24 (some 0) #[true, true, true, true, true, true, true, true, true, true, true, true, true, true, true, true, true, true, true, true, true, true, true, true, true] rfl rfl ?_
    refine done_ (done_of HT_.out (by kernel_rfl)) ?_
    try go_wp2
    go_ret
    exact ⟨xy, xs HB⟩
  ·rw [if_neg c7] at H
   exact absurd H (by simp)
 ·rw [if_neg c6] at H
  have c6b0 : ((t566.length : Int) == 3) = false := beq_eq_false_iff_ne.mpr c6
  have c6b1 : ((t566.length : Int) != 3) = true := bne_iff_ne.mpr c6
  obtain rfl := Option.some.inj H
  go_enter Tryd.func14, Tryd.ntmps14
  try go_wp2_with (first | ((with_reducible refine gate_callee (f := 39) rfl ?_); refine xC Tryd.func39 (some 2) (rational_Int.calls k 100 t551 t552 t553 _ A1.out) ?_; rintro w51 hb; replace HB := xS HB hb; clear hb) | ((with_reducible refine gate_callee (f := 39) rfl ?_); refine xC Tryd.func39 (some 3) (rational_Int.calls k 70 t554 t555 t556 _ A2.out) ?_; rintro w52 hb; replace HB := xS HB hb; clear hb) | ((with_reducible refine gate_callee (f := 39) rfl ?_); refine xC Tryd.func39 (some 4) (rational_Int.calls k 50 t557 t558 t559 _ A3.out) ?_; rintro w53 hb; replace HB := xS HB hb; clear hb) | ((with_reducible refine gate_callee (f := 39) rfl ?_); refine xC Tryd.func39 (some 5) (rational_Int.calls k 20 t560 t561 t562 _ A4.out) ?_; rintro w54 hb; replace HB := xS HB hb; clear hb) | ((with_reducible refine gate_dst (N := 6) rfl ?_); refine Kd.R_lit k25 _ 25 ?hg (N := 6) ?hd (xs := ([(⟨t554, t555, t556⟩ : S25), (⟨t557, t558, t559⟩ : S25), (⟨t560, t561, t562⟩ : S25)] : List (S25))) (inner := [.bool t554, .string t555, .string t556, .bool t557, .string t558, .string t559, .bool t560, .string t561, .string t562]) (ok := fun _ => True) (okp := fun _ => True) ?hr ?hp (fun _ hk => hk) trivial (Below.refl _ _) (Nat.le_refl _) (by simp) ?_; (case hd => rfl); (case hg => rfl); (case hr => first | (go_simp; done) | (go_simp; rfl)); (case hp => exact (Reps.c3 (show Kd.M k25 _ _ _ (⟨t554, t555, t556⟩ : S25) [.bool t554, .string t555, .string t556] from (k25_mkM _ _ _ (⟨t554, t555, t556⟩ : S25) )) (Reps.c3 (show Kd.M k25 _ _ _ (⟨t557, t558, t559⟩ : S25) [.bool t557, .string t558, .string t559] from (k25_mkM _ _ _ (⟨t557, t558, t559⟩ : S25) )) (Reps.c3 (show Kd.M k25 _ _ _ (⟨t560, t561, t562⟩ : S25) [.bool t560, .string t561, .string t562] from (k25_mkM _ _ _ (⟨t560, t561, t562⟩ : S25) )) (Reps.none _ _))))); intro v564 w55 ho56 hb hg_ hnew_; clear hg_ hnew_; (first | rw [← Ny563.out] at ho56 | (simp only [Int.reduceToNat] at ho56; rw [← Ny563.out] at ho56)); have HO565 := Aside0.mk (Kd.R_lower ho56 (below_size (xs HB))); replace HB := xS HB hb; clear hb ho56; obtain ⟨Ao57, co57, eo57⟩ := Kd.R_slice HO565.out; subst eo57) | ((with_reducible refine gate_callee (f := 12) rfl ?_); refine xg Tryd.func12 (some 7) #[.agg #[.bool t551, .string t552, .string t553], .slice Ao57 y563.length co57] ?_; (with_reducible refine (guarantee_Refunds.calls k t551 t552 t553 _ _ y563 t566 _ ?side1 ?side2 A5.out).mono ?_); (case side1 => repeat (first | exact (Kd.R_reads' HO565.out).2.2 | (with_reducible refine Kd.C_alloc ?_ _) | (with_reducible refine Kd.C_drewN ?_ _) | (with_reducible refine Kd.C_drew ?_))); (case side2 => exact (Kd.R_reads' HO565.out).2.1); rintro e w58 ⟨v567, rfl, ho0, hb⟩; refine ⟨_, rfl, ?_⟩; have HO568 := Aside0.mk (Kd.R_lower (Kd.R_new' ho0 (Kd.R_lt (xr HO565.out))) (below_size (xs HB))); replace HO565 := Aside0.mk (Kd.R_elder' (xr HO565.out) (Kd.R_base ho0) hb); replace HB := xS HB hb; clear hb ho0))
  replace HO565 := Aside0.mk (Kd.R_drew HO565.out)
  replace HO568 := Aside0.mk (Kd.R_drew HO568.out)
  replace HB := xW HB
  obtain ⟨Ao60, co60, eo60⟩ := Kd.R_slice HO568.out
  (first | subst eo60 | (injection eo60 with f1_ f2_ f3_; have f4_ := f1_.symm; have f5_ := f3_.symm; clear f1_ f2_ f3_; subst f4_; subst f5_))
  refine start_ (n := 25) (S := fun w' => True) (ds := []) #[false, false, false, false, false, false, false, false, false, false, false, false, false, false, false, false, false, false, false, false, false, false, false, false, false] (by kernel_rfl) rfl rfl trivial (fun hHeld => ?_); refine with_tabW insolvencylaw18_awake.tab2 insolvencylaw18_awake.bits2 (fun HT_ HW_ => ?_)
  generalize w58.drew = w59 at HO565 HO568 HB hHeld ⊢
  refine xP 0 (some 8) #[true, false, false, false, false, false, false, false, false, false, false, false, false, false, false, false, false, false, false, false, false, false, false, false, false] rfl rfl ?_
  refine xP 1 (some 9) #[true, true, false, false, false, false, false, false, false, false, false, false, false, false, false, false, false, false, false, false, false, false, false, false, false] rfl rfl ?_
  refine xP 2 (some 10) #[true, true, true, false, false, false, false, false, false, false, false, false, false, false, false, false, false, false, false, false, false, false, false, false, false] rfl rfl ?_
  refine xP 3 (some 11) #[true, true, true, true, false, false, false, false, false, false, false, false, false, false, false, false, false, false, false, false, false, false, false, false, false] rfl rfl ?_
  refine xU 4 (some 12) #[true, true, true, true, true, false, false, false, false, false, false, false, false, false, false, false, false, false, false, false, false, false, false, false, false] rfl rfl ?_
  refine xU 5 (some 13) #[true, true, true, true, true, true, false, false, false, false, false, false, false, false, false, false, false, false, false, false, false, false, false, false, false] rfl rfl ?_
  refine xU 6 (some 14) #[true, true, true, true, true, true, true, false, false, false, false, false, false, false, false, false, false, false, false, false, false, false, false, false, false] rfl rfl ?_
  refine xU 7 (some 15) #[true, true, true, true, true, true, true, true, false, false, false, false, false, false, false, false, false, false, false, false, false, false, false, false, false] rfl rfl ?_
  refine xU 8 (some 16) #[true, true, true, true, true, true, true, true, true, false, false, false, false, false, false, false, false, false, false, false, false, false, false, false, false] rfl rfl ?_
  refine xP 9 (some 17) #[true, true, true, true, true, true, true, true, true, true, false, false, false, false, false, false, false, false, false, false, false, false, false, false, false] rfl rfl ?_
  refine xP 10 (some 18) #[true, true, true, true, true, true, true, true, true, true, true, false, false, false, false, false, false, false, false, false, false, false, false, false, false] rfl rfl ?_
  refine xU 11 (some 19) #[true, true, true, true, true, true, true, true, true, true, true, true, false, false, false, false, false, false, false, false, false, false, false, false, false] rfl rfl ?_
  refine xU 12 (some 20) #[true, true, true, true, true, true, true, true, true, true, true, true, true, false, false, false, false, false, false, false, false, false, false, false, false] rfl rfl ?_
  refine xU 13 (some 21) #[true, true, true, true, true, true, true, true, true, true, true, true, true, true, false, false, false, false, false, false, false, false, false, false, false] rfl rfl ?_
  refine xU 14 (some 22) #[true, true, true, true, true, true, true, true, true, true, true, true, true, true, true, false, false, false, false, false, false, false, false, false, false] rfl rfl ?_
  refine xU 15 (some 23) #[true, true, true, true, true, true, true, true, true, true, true, true, true, true, true, true, false, false, false, false, false, false, false, false, false] rfl rfl ?_
  refine xP 16 (some 24) #[true, true, true, true, true, true, true, true, true, true, true, true, true, true, true, true, true, false, false, false, false, false, false, false, false] rfl rfl ?_
  refine xP 17 (some 25) #[true, true, true, true, true, true, true, true, true, true, true, true, true, true, true, true, true, true, false, false, false, false, false, false, false] rfl rfl ?_
  refine xU 18 (some 26) #[true, true, true, true, true, true, true, true, true, true, true, true, true, true, true, true, true, true, true, false, false, false, false, false, false] rfl rfl ?_
  refine xU 19 (some 27) #[true, true, true, true, true, true, true, true, true, true, true, true, true, true, true, true, true, true, true, true, false, false, false, false, false] rfl rfl ?_
  refine xU 20 (some 28) #[true, true, true, true, true, true, true, true, true, true, true, true, true, true, true, true, true, true, true, true, true, false, false, false, false] rfl rfl ?_
  refine xU 21 (some 29) #[true, true, true, true, true, true, true, true, true, true, true, true, true, true, true, true, true, true, true, true, true, true, false, false, false] rfl rfl ?_
  refine xU 22 (some 30) #[true, true, true, true, true, true, true, true, true, true, true, true, true, true, true, true, true, true, true, true, true, true, true, false, false] rfl rfl ?_
  refine xP 23 (some 31) #[true, true, true, true, true, true, true, true, true, true, true, true, true, true, true, true, true, true, true, true, true, true, true, true, false] rfl rfl ?_
  refine xP 24 (some 0) #[true, true, true, true, true, true, true, true, true, true, true, true, true, true, true, true, true, true, true, true, true, true, true, true, true] rfl rfl ?_
  refine done_ (done_of HT_.out (by kernel_rfl)) ?_
  try go_wp2
  go_ret
  exact ⟨xy, xs HB⟩
end
/-! ### rational_Min: function 44 -/
def rational_Min.f (k : Nat) (a0_0 : Bool) (a0_1 : ByteArray) (a0_2 : ByteArray) (a1_0 : Bool) (a1_1 : ByteArray) (a1_2 : ByteArray) : Option (Bool × ByteArray × ByteArray) := (rational_Compare.f k a0_0 a0_1 a0_2 a1_0 a1_1 a1_2).bind fun t599 => (if t599 ≤ 0 then ((rational_clean.f k a0_0 a0_1 a0_2).bind fun bt600 => (some (bt600.1, bt600.2.1, bt600.2.2))) else ((rational_clean.f k a1_0 a1_1 a1_2).bind fun bt603 => (some (bt603.1, bt603.2.1, bt603.2.2))))
theorem rational_Min.mono : ∀ a0 a1 a2 a3 a4 a5 k, LeO (rational_Min.f k a0 a1 a2 a3 a4 a5) (rational_Min.f (k + 1) a0 a1 a2 a3 a4 a5) := by
 intro a0 a1 a2 a3 a4 a5 k
 unfold rational_Min.f
 have m0 := @rational_Compare.mono; have m1 := @rational_clean.mono; exact xM
set_option maxHeartbeats 8000000 in
set_option maxRecDepth 100000 in
theorem rational_Min.calls (k : Nat) (a0_0 : Bool) (a0_1 : ByteArray) (a0_2 : ByteArray) (a1_0 : Bool) (a1_1 : ByteArray) (a1_2 : ByteArray) (r1 : Bool) (r2 : ByteArray) (r3 : ByteArray) (w : World) (h : rational_Min.f k a0_0 a0_1 a0_2 a1_0 a1_1 a1_2 = some (r1, r2, r3)) :
  Calls Tryd.prog 44 #[.agg #[.bool a0_0, .string a0_1, .string a0_2], .agg #[.bool a1_0, .string a1_1, .string a1_2]] w fun e w' => e = .returned (.agg #[.bool r1, .string r2, .string r3]) ∧ Below w.heap.size w w' := by
 have hu25 := Tryd.underlying25
 have HB := Aside0.mk (Below.refl w.heap.size w)
 have H : ((rational_Compare.f k a0_0 a0_1 a0_2 a1_0 a1_1 a1_2).bind fun t599 => (if t599 ≤ 0 then ((rational_clean.f k a0_0 a0_1 a0_2).bind fun bt600 => (some (bt600.1, bt600.2.1, bt600.2.2))) else ((rational_clean.f k a1_0 a1_1 a1_2).bind fun bt603 => (some (bt603.1, bt603.2.1, bt603.2.2))))) = some (r1, r2, r3) := h
 clear h
 replace H := xH H; obtain ⟨t599, A3, H⟩ := H
 by_cases c4 : t599 ≤ 0
 ·rw [if_pos c4] at H
  have c4b0 : decide (t599 ≤ 0) = true := decide_eq_true c4
  clear c4
  replace H := xH H; obtain ⟨⟨t600, t601, t602⟩, A5, H⟩ := H
  dsimp only at H
  simp only [Option.some.injEq, Prod.mk.injEq] at H
  obtain ⟨rfl, rfl, rfl⟩ := H
  go_enter Tryd.func44, Tryd.ntmps44
  go_wp2_with (first | ((with_reducible refine gate_dst (N := 2) rfl ?_); refine xE (N := 2) #[.bool a0_0, .string a0_1, .string a0_2] 25 rfl ?_; intro gb596 hg w6 hbox hb; have BK596 := Aside0.mk (hbox); have GW596 := (xG HB hg); have GE596 := (xG HB hg); replace HB := xS HB hb; clear hb hbox hg) | ((with_reducible refine gate_dst (N := 3) rfl ?_); refine xE (N := 3) #[.bool a1_0, .string a1_1, .string a1_2] 25 rfl ?_; intro gb597 hg w7 hbox hb; have BK597 := Aside0.mk (hbox); have GW597 := (xG HB hg); have GE597 := (xG HB hg); replace HB := xS HB hb; have NB596_597 := xL BK596 hg; have NB597_596 := xR BK596 hg; replace BK596 := xB BK596 hb; clear hb hbox hg) | ((with_reducible refine gate_dst (N := 4) rfl ?_); refine xE (N := 4) #[.bool false, .string (⟨#[]⟩ : ByteArray), .string (⟨#[]⟩ : ByteArray)] 25 rfl ?_; intro gb598 hg w8 hbox hb; have BK598 := Aside0.mk (hbox); have GW598 := (xG HB hg); have GE598 := (xG HB hg); replace HB := xS HB hb; have NB596_598 := xL BK596 hg; have NB598_596 := xR BK596 hg; replace BK596 := xB BK596 hb; have NB597_598 := xL BK597 hg; have NB598_597 := xR BK597 hg; replace BK597 := xB BK597 hb; clear hb hbox hg; have hnb9 := NB596_597.out; have hnc9 := NB597_596.out; have hnb10 := NB596_598.out; have hnc10 := NB598_596.out; have hcz11_0 : w8.cell? ⟨gb596, 0, none⟩ = some (.bool a0_0) := (blk_cell BK596.out 0).trans rfl; have hcz11_1 : w8.cell? ⟨gb596, 1, none⟩ = some (.string a0_1) := (blk_cell BK596.out 1).trans rfl; have hcz11_2 : w8.cell? ⟨gb596, 2, none⟩ = some (.string a0_2) := (blk_cell BK596.out 2).trans rfl; have hfz11_0 := blk_frozen BK596.out 0; have hfz11_1 := blk_frozen BK596.out 1; have hfz11_2 := blk_frozen BK596.out 2; have hnb12 := NB597_598.out; have hnc12 := NB598_597.out; have hcz13_0 : w8.cell? ⟨gb597, 0, none⟩ = some (.bool a1_0) := (blk_cell BK597.out 0).trans rfl; have hcz13_1 : w8.cell? ⟨gb597, 1, none⟩ = some (.string a1_1) := (blk_cell BK597.out 1).trans rfl; have hcz13_2 : w8.cell? ⟨gb597, 2, none⟩ = some (.string a1_2) := (blk_cell BK597.out 2).trans rfl; have hfz13_0 := blk_frozen BK597.out 0; have hfz13_1 := blk_frozen BK597.out 1; have hfz13_2 := blk_frozen BK597.out 2) | ((with_reducible refine gate_callee (f := 22) rfl ?_); refine xC Tryd.func22 (some 7) (rational_Compare.calls k a0_0 a0_1 a0_2 a1_0 a1_1 a1_2 t599 _ A3.out) ?_; rintro w14 hb; replace BK596 := xB BK596 hb; replace BK597 := xB BK597 hb; replace BK598 := xB BK598 hb; replace HB := xS HB hb; clear hb; have hcz15_0 : w14.cell? ⟨gb596, 0, none⟩ = some (.bool a0_0) := (blk_cell BK596.out 0).trans rfl; have hcz15_1 : w14.cell? ⟨gb596, 1, none⟩ = some (.string a0_1) := (blk_cell BK596.out 1).trans rfl; have hcz15_2 : w14.cell? ⟨gb596, 2, none⟩ = some (.string a0_2) := (blk_cell BK596.out 2).trans rfl; have hfz15_0 := blk_frozen BK596.out 0; have hfz15_1 := blk_frozen BK596.out 1; have hfz15_2 := blk_frozen BK596.out 2) | ((with_reducible refine gate_callee (f := 38) rfl ?_); refine xC Tryd.func38 (some 10) (rational_clean.calls k a0_0 a0_1 a0_2 t600 t601 t602 _ A5.out) ?_; rintro w16 hb; replace BK596 := xB BK596 hb; replace BK597 := xB BK597 hb; replace BK598 := xB BK598 hb; replace HB := xS HB hb; clear hb; have hcz17_0 : w16.cell? ⟨gb598, 0, none⟩ = some (.bool false) := (blk_cell BK598.out 0).trans rfl; have hcz17_1 : w16.cell? ⟨gb598, 1, none⟩ = some (.string (⟨#[]⟩ : ByteArray)) := (blk_cell BK598.out 1).trans rfl; have hcz17_2 : w16.cell? ⟨gb598, 2, none⟩ = some (.string (⟨#[]⟩ : ByteArray)) := (blk_cell BK598.out 2).trans rfl; have hfz17_0 := blk_frozen BK598.out 0; have hfz17_1 := blk_frozen BK598.out 1; have hfz17_2 := blk_frozen BK598.out 2))
  refine bodyPost_ret (results_cell_row rfl _ _ gb598 25 #[.bool t600, .string t601, .string t602] (0, 0) _ rfl (xp BK598) Tryd.underlying25 rfl (by kernel_rfl)) rfl ?_
  exact ⟨xy, xs HB⟩
 ·rw [if_neg c4] at H
  have c4b0 : decide (t599 ≤ 0) = false := decide_eq_false c4
  clear c4
  replace H := xH H; obtain ⟨⟨t603, t604, t605⟩, A18, H⟩ := H
  dsimp only at H
  simp only [Option.some.injEq, Prod.mk.injEq] at H
  obtain ⟨rfl, rfl, rfl⟩ := H
  go_enter Tryd.func44, Tryd.ntmps44
  go_wp2_with (first | ((with_reducible refine gate_dst (N := 2) rfl ?_); refine xE (N := 2) #[.bool a0_0, .string a0_1, .string a0_2] 25 rfl ?_; intro gb596 hg w19 hbox hb; have BK596 := Aside0.mk (hbox); have GW596 := (xG HB hg); have GE596 := (xG HB hg); replace HB := xS HB hb; clear hb hbox hg) | ((with_reducible refine gate_dst (N := 3) rfl ?_); refine xE (N := 3) #[.bool a1_0, .string a1_1, .string a1_2] 25 rfl ?_; intro gb597 hg w20 hbox hb; have BK597 := Aside0.mk (hbox); have GW597 := (xG HB hg); have GE597 := (xG HB hg); replace HB := xS HB hb; have NB596_597 := xL BK596 hg; have NB597_596 := xR BK596 hg; replace BK596 := xB BK596 hb; clear hb hbox hg) | ((with_reducible refine gate_dst (N := 4) rfl ?_); refine xE (N := 4) #[.bool false, .string (⟨#[]⟩ : ByteArray), .string (⟨#[]⟩ : ByteArray)] 25 rfl ?_; intro gb598 hg w21 hbox hb; have BK598 := Aside0.mk (hbox); have GW598 := (xG HB hg); have GE598 := (xG HB hg); replace HB := xS HB hb; have NB596_598 := xL BK596 hg; have NB598_596 := xR BK596 hg; replace BK596 := xB BK596 hb; have NB597_598 := xL BK597 hg; have NB598_597 := xR BK597 hg; replace BK597 := xB BK597 hb; clear hb hbox hg; have hnb22 := NB596_597.out; have hnc22 := NB597_596.out; have hnb23 := NB596_598.out; have hnc23 := NB598_596.out; have hcz24_0 : w21.cell? ⟨gb596, 0, none⟩ = some (.bool a0_0) := (blk_cell BK596.out 0).trans rfl; have hcz24_1 : w21.cell? ⟨gb596, 1, none⟩ = some (.string a0_1) := (blk_cell BK596.out 1).trans rfl; have hcz24_2 : w21.cell? ⟨gb596, 2, none⟩ = some (.string a0_2) := (blk_cell BK596.out 2).trans rfl; have hfz24_0 := blk_frozen BK596.out 0; have hfz24_1 := blk_frozen BK596.out 1; have hfz24_2 := blk_frozen BK596.out 2; have hnb25 := NB597_598.out; have hnc25 := NB598_597.out; have hcz26_0 : w21.cell? ⟨gb597, 0, none⟩ = some (.bool a1_0) := (blk_cell BK597.out 0).trans rfl; have hcz26_1 : w21.cell? ⟨gb597, 1, none⟩ = some (.string a1_1) := (blk_cell BK597.out 1).trans rfl; have hcz26_2 : w21.cell? ⟨gb597, 2, none⟩ = some (.string a1_2) := (blk_cell BK597.out 2).trans rfl; have hfz26_0 := blk_frozen BK597.out 0; have hfz26_1 := blk_frozen BK597.out 1; have hfz26_2 := blk_frozen BK597.out 2) | ((with_reducible refine gate_callee (f := 22) rfl ?_); refine xC Tryd.func22 (some 7) (rational_Compare.calls k a0_0 a0_1 a0_2 a1_0 a1_1 a1_2 t599 _ A3.out) ?_; rintro w27 hb; replace BK596 := xB BK596 hb; replace BK597 := xB BK597 hb; replace BK598 := xB BK598 hb; replace HB := xS HB hb; clear hb; have hcz28_0 : w27.cell? ⟨gb597, 0, none⟩ = some (.bool a1_0) := (blk_cell BK597.out 0).trans rfl; have hcz28_1 : w27.cell? ⟨gb597, 1, none⟩ = some (.string a1_1) := (blk_cell BK597.out 1).trans rfl; have hcz28_2 : w27.cell? ⟨gb597, 2, none⟩ = some (.string a1_2) := (blk_cell BK597.out 2).trans rfl; have hfz28_0 := blk_frozen BK597.out 0; have hfz28_1 := blk_frozen BK597.out 1; have hfz28_2 := blk_frozen BK597.out 2) | ((with_reducible refine gate_callee (f := 38) rfl ?_); refine xC Tryd.func38 (some 12) (rational_clean.calls k a1_0 a1_1 a1_2 t603 t604 t605 _ A18.out) ?_; rintro w29 hb; replace BK596 := xB BK596 hb; replace BK597 := xB BK597 hb; replace BK598 := xB BK598 hb; replace HB := xS HB hb; clear hb; have hcz30_0 : w29.cell? ⟨gb598, 0, none⟩ = some (.bool false) := (blk_cell BK598.out 0).trans rfl; have hcz30_1 : w29.cell? ⟨gb598, 1, none⟩ = some (.string (⟨#[]⟩ : ByteArray)) := (blk_cell BK598.out 1).trans rfl; have hcz30_2 : w29.cell? ⟨gb598, 2, none⟩ = some (.string (⟨#[]⟩ : ByteArray)) := (blk_cell BK598.out 2).trans rfl; have hfz30_0 := blk_frozen BK598.out 0; have hfz30_1 := blk_frozen BK598.out 1; have hfz30_2 := blk_frozen BK598.out 2))
  refine bodyPost_ret (results_cell_row rfl _ _ gb598 25 #[.bool t603, .string t604, .string t605] (0, 0) _ rfl (xp BK598) Tryd.underlying25 rfl (by kernel_rfl)) rfl ?_
  exact ⟨xy, xs HB⟩
/-! ### guarantee_Kept: function 19 -/
def guarantee_Kept.l0 : Nat → List (S25) → Int → Int → Bool → ByteArray → ByteArray → Bool → ByteArray → ByteArray → Option (Bool × ByteArray × ByteArray)
 | 0, _, _, _, _, _, _, _, _, _ => none
 | k + 1, x9, x10, x11, x607000, x607001, x607002, x609000, x609001, x609002 => if x11 < x10 then (if 0 ≤ x11 then (if x11 < (x9.length : Int) then ((guarantee_positive.f k ((rd_T25 x9 x11).f0) ((rd_T25 x9 x11).f1) ((rd_T25 x9 x11).f2)).bind fun bt611 => ((rational_Add.f k x609000 x609001 x609002 bt611.1 bt611.2.1 bt611.2.2).bind fun bt614 => (guarantee_Kept.l0 k x9 x10 (wrap64 (x11 + 1)) x607000 x607001 x607002 bt614.1 bt614.2.1 bt614.2.2))) else (none)) else (none)) else ((guarantee_positive.f k x607000 x607001 x607002).bind fun bt617 => ((rational_Min.f k bt617.1 bt617.2.1 bt617.2.2 x609000 x609001 x609002).bind fun bt620 => (some (bt620.1, bt620.2.1, bt620.2.2))))
def guarantee_Kept.f (k : Nat) (a0_0 : Bool) (a0_1 : ByteArray) (a0_2 : ByteArray) (l1 : List (S25)) : Option (Bool × ByteArray × ByteArray) := guarantee_Kept.l0 k l1 (l1.length : Int) 0 a0_0 a0_1 a0_2 false (⟨#[]⟩ : ByteArray) (⟨#[]⟩ : ByteArray)
theorem guarantee_Kept.mono_l : ∀ k, (∀ y0 y1 y2 y3 y4 y5 y6 y7 y8, LeO (guarantee_Kept.l0 k y0 y1 y2 y3 y4 y5 y6 y7 y8) (guarantee_Kept.l0 (k + 1) y0 y1 y2 y3 y4 y5 y6 y7 y8))
 | 0 => fun _ _ _ _ _ _ _ _ _ r h => by simp [guarantee_Kept.l0] at h
 | k + 1 => by
  have ih0 := guarantee_Kept.mono_l k
  ·intro y0 y1 y2 y3 y4 y5 y6 y7 y8
   unfold guarantee_Kept.l0
   have m0 := @ih0; have m1 := @guarantee_positive.mono; have m2 := @rational_Add.mono; have m3 := @rational_Min.mono; exact xM
theorem guarantee_Kept.mono : ∀ a0 a1 a2 a3 k, LeO (guarantee_Kept.f k a0 a1 a2 a3) (guarantee_Kept.f (k + 1) a0 a1 a2 a3) := by
 intro a0 a1 a2 a3 k
 have ih0 := guarantee_Kept.mono_l k
 unfold guarantee_Kept.f
 have m0 := @ih0; have m1 := @guarantee_positive.mono; have m2 := @rational_Add.mono; have m3 := @rational_Min.mono; exact xM
set_option maxHeartbeats 8000000 in
set_option maxRecDepth 100000 in
theorem guarantee_Kept.calls (k : Nat) (a0_0 : Bool) (a0_1 : ByteArray) (a0_2 : ByteArray) (A1 : Option Addr) (c1 : Nat) (l1 : List (S25)) (r1 : Bool) (r2 : ByteArray) (r3 : ByteArray) (w : World) (hr1 : Kd.C k25 w A1 l1.length l1) (hc1 : l1.length ≤ c1) (h : guarantee_Kept.f k a0_0 a0_1 a0_2 l1 = some (r1, r2, r3)) :
  Calls Tryd.prog 19 #[.agg #[.bool a0_0, .string a0_1, .string a0_2], .slice A1 l1.length c1] w fun e w' => e = .returned (.agg #[.bool r1, .string r2, .string r3]) ∧ Below w.heap.size w w' := by
 have hu25 := Tryd.underlying25
 have HR1 := Aside0.mk hr1
 have HC1 := Aside0.mk hc1
 clear hr1 hc1
 have HB := Aside0.mk (Below.refl w.heap.size w)
 have H : (guarantee_Kept.l0 k l1 (l1.length : Int) 0 a0_0 a0_1 a0_2 false (⟨#[]⟩ : ByteArray) (⟨#[]⟩ : ByteArray)) = some (r1, r2, r3) := h
 clear h
 have H' := Aside0.mk H
 clear H
 go_enter Tryd.func19, Tryd.ntmps19
 go_wp2_with (first | ((with_reducible refine gate_dst (N := 2) rfl ?_); refine xE (N := 2) #[.bool a0_0, .string a0_1, .string a0_2] 25 rfl ?_; intro gb606 hg w3 hbox hb; have BK606 := Aside0.mk (hbox); have GW606 := (xG HB hg); have GE606 := (xG HB hg); replace HB := xS HB hb; clear hb hbox hg) | ((with_reducible refine gate_dst (N := 4) rfl ?_); refine xE (N := 4) #[.bool false, .string (⟨#[]⟩ : ByteArray), .string (⟨#[]⟩ : ByteArray)] 25 rfl ?_; intro gb607 hg w4 hbox hb; have BK607 := Aside0.mk (hbox); have GW607 := (xG HB hg); have GE607 := (xG HB hg); replace HB := xS HB hb; have NB606_607 := xL BK606 hg; have NB607_606 := xR BK606 hg; replace BK606 := xB BK606 hb; clear hb hbox hg) | ((with_reducible refine gate_dst (N := 5) rfl ?_); refine xE (N := 5) #[.bool false, .string (⟨#[]⟩ : ByteArray), .string (⟨#[]⟩ : ByteArray)] 25 rfl ?_; intro gb608 hg w5 hbox hb; have BK608 := Aside0.mk (hbox); have GW608 := (xG HB hg); have GE608 := (xG HB hg); replace HB := xS HB hb; have NB606_608 := xL BK606 hg; have NB608_606 := xR BK606 hg; replace BK606 := xB BK606 hb; have NB607_608 := xL BK607 hg; have NB608_607 := xR BK607 hg; replace BK607 := xB BK607 hb; clear hb hbox hg; have hnb6 := NB608_606.out; have hnc6 := NB606_608.out; have hnb7 := NB608_607.out; have hnc7 := NB607_608.out; have hcz8_0 : w5.cell? ⟨gb608, 0, none⟩ = some (.bool false) := (blk_cell BK608.out 0).trans rfl; have hcz8_1 : w5.cell? ⟨gb608, 1, none⟩ = some (.string (⟨#[]⟩ : ByteArray)) := (blk_cell BK608.out 1).trans rfl; have hcz8_2 : w5.cell? ⟨gb608, 2, none⟩ = some (.string (⟨#[]⟩ : ByteArray)) := (blk_cell BK608.out 2).trans rfl; have hfz8_0 := blk_frozen BK608.out 0; have hfz8_1 := blk_frozen BK608.out 1; have hfz8_2 := blk_frozen BK608.out 2))
 go_loopg [11] k (fun kq v11 w' => ∃ (x11_1 : Int) (x609000_1 : Bool) (x609001_1 : ByteArray) (x609002_1 : ByteArray), v11 = .int .i64 x11_1 ∧ Aside0 (guarantee_Kept.l0 kq l1 (l1.length : Int) x11_1 a0_0 a0_1 a0_2 x609000_1 x609001_1 x609002_1 = some (r1, r2, r3)) ∧ Aside0 (kq ≤ k) ∧ Aside0 (w'.heap[gb606]? = some (.cells #[.bool a0_0, .string a0_1, .string a0_2] 25 (0, 0))) ∧ Aside0 (w'.heap[gb607]? = some (.cells #[.bool false, .string (⟨#[]⟩ : ByteArray), .string (⟨#[]⟩ : ByteArray)] 25 (0, 0))) ∧ Aside0 (w'.heap[gb608]? = some (.cells #[.bool x609000_1, .string x609001_1, .string x609002_1] 25 (0, 0))) ∧ Aside0 (Below w.heap.size w w'))
 case atStart => exact ⟨(0), (false), ((⟨#[]⟩ : ByteArray)), ((⟨#[]⟩ : ByteArray)), xz, H', ⟨Nat.le_refl _⟩, ⟨xb BK606⟩, ⟨xb BK607⟩, ⟨by (with_reducible repeat (first | refine blk_drewN ?_ _ | refine blk_drew ?_ | refine blk_alloc ?_ _)); refine blk_put (cs := #[.bool false, .string (⟨#[]⟩ : ByteArray), .string (⟨#[]⟩ : ByteArray)]) ?_ 2 _ (by first | rfl | simp [ne_nil_b]); (with_reducible repeat (first | refine blk_drewN ?_ _ | refine blk_drew ?_ | refine blk_alloc ?_ _)); refine blk_put (cs := #[.bool false, .string (⟨#[]⟩ : ByteArray), .string (⟨#[]⟩ : ByteArray)]) ?_ 1 _ (by first | rfl | simp [ne_nil_b]); (with_reducible repeat (first | refine blk_drewN ?_ _ | refine blk_drew ?_ | refine blk_alloc ?_ _)); refine blk_put (cs := #[.bool false, .string (⟨#[]⟩ : ByteArray), .string (⟨#[]⟩ : ByteArray)]) ?_ 0 _ (by first | rfl | simp [ne_nil_b]); (with_reducible repeat (first | refine blk_drewN ?_ _ | refine blk_drew ?_ | refine blk_alloc ?_ _)); exact BK608.out⟩, ⟨xs HB⟩⟩
 case round =>
  clear H'
  try clear c1
  try clear p2
  try clear c6
  try clear c7
  try clear hcz8_0
  try clear hcz8_1
  try clear hcz8_2
  try clear hfz8_0
  try clear hfz8_1
  try clear hfz8_2
  obtain ⟨x11_1, x609000_1, x609001_1, x609002_1, rfl, HA, HK1, BK606, BK607, BK608, HB⟩ := hrel
  cases gk with
  | zero => exact absurd HA.out (by simp [guarantee_Kept.l0])
  | succ k1 =>
   have H := HA.out
   clear HA
   simp only [guarantee_Kept.l0] at H
   by_cases c9 : x11_1 < (l1.length : Int)
   ·rw [if_pos c9] at H
    have c9b0 : decide (x11_1 < (l1.length : Int)) = true := decide_eq_true c9
    clear c9
    by_cases c10 : 0 ≤ x11_1
    ·rw [if_pos c10] at H
     have c10b0 : decide (0 ≤ x11_1) = true := decide_eq_true c10
     clear c10
     by_cases c11 : x11_1 < (l1.length : Int)
     ·rw [if_pos c11] at H
      have c11b0 : decide (x11_1 < (l1.length : Int)) = true := decide_eq_true c11
      clear c11
      replace H := xH H; obtain ⟨⟨t611, t612, t613⟩, A12, H⟩ := H
      dsimp only at H
      replace H := xH H; obtain ⟨⟨t614, t615, t616⟩, A13, H⟩ := H
      dsimp only at H
      have H' := Aside0.mk H
      clear H
      have p609 : 0 ≤ (x11_1 : Int) := xa
      have q609 : x11_1 < (l1.length : Int) := xa
      obtain ⟨ad609, e609, hx609_0, hx609_1, hx609_2⟩ := at_T25 HR1.out x11_1 p609 q609
      cases e609
      (try replace hx609_0 := (HB.out.cell (World.block_lt_of_cell? w _ hx609_0)).trans hx609_0)
      (try replace hx609_1 := (HB.out.cell (World.block_lt_of_cell? w _ hx609_1)).trans hx609_1)
      (try replace hx609_2 := (HB.out.cell (World.block_lt_of_cell? w _ hx609_2)).trans hx609_2)
      replace p609 := eq_true p609
      replace q609 := eq_true q609
      try go_wp2_with (first | ((with_reducible refine gate_dst (N := 7) rfl ?_); refine xE (N := 7) #[.bool false, .string (⟨#[]⟩ : ByteArray), .string (⟨#[]⟩ : ByteArray)] 25 rfl ?_; intro gb610 hg w14 hbox hb; have BK610 := Aside0.mk (hbox); have GW610 := (xG HB hg); have GE610 := (xG HB hg); replace HB := xS HB hb; have NB606_610 := xL BK606 hg; have NB610_606 := xR BK606 hg; replace BK606 := xB BK606 hb; have NB607_610 := xL BK607 hg; have NB610_607 := xR BK607 hg; replace BK607 := xB BK607 hb; have NB608_610 := xL BK608 hg; have NB610_608 := xR BK608 hg; replace BK608 := xB BK608 hb; clear hb hbox hg; have hnb15 := NB610_606.out; have hnc15 := NB606_610.out; have hnb16 := NB610_607.out; have hnc16 := NB607_610.out; have hnb17 := NB610_608.out; have hnc17 := NB608_610.out; have hcz18_0 : w14.cell? ⟨gb610, 0, none⟩ = some (.bool false) := (blk_cell BK610.out 0).trans rfl; have hcz18_1 : w14.cell? ⟨gb610, 1, none⟩ = some (.string (⟨#[]⟩ : ByteArray)) := (blk_cell BK610.out 1).trans rfl; have hcz18_2 : w14.cell? ⟨gb610, 2, none⟩ = some (.string (⟨#[]⟩ : ByteArray)) := (blk_cell BK610.out 2).trans rfl; have hfz18_0 := blk_frozen BK610.out 0; have hfz18_1 := blk_frozen BK610.out 1; have hfz18_2 := blk_frozen BK610.out 2))
      have n0_ : Aside0 ((((w14.setCell ⟨gb610, 0, none⟩ (.bool ((rd_T25 l1 x11_1).f0))).setCell ⟨gb610, 1, none⟩ (.string ((rd_T25 l1 x11_1).f1))).setCell ⟨gb610, 2, none⟩ (.string ((rd_T25 l1 x11_1).f2))).heap[gb606]? = some (.cells #[.bool a0_0, .string a0_1, .string a0_2] 25 (0, 0))) := ⟨xb BK606⟩
      have n1_ : Aside0 ((((w14.setCell ⟨gb610, 0, none⟩ (.bool ((rd_T25 l1 x11_1).f0))).setCell ⟨gb610, 1, none⟩ (.string ((rd_T25 l1 x11_1).f1))).setCell ⟨gb610, 2, none⟩ (.string ((rd_T25 l1 x11_1).f2))).heap[gb607]? = some (.cells #[.bool false, .string (⟨#[]⟩ : ByteArray), .string (⟨#[]⟩ : ByteArray)] 25 (0, 0))) := ⟨xb BK607⟩
      have n2_ : Aside0 ((((w14.setCell ⟨gb610, 0, none⟩ (.bool ((rd_T25 l1 x11_1).f0))).setCell ⟨gb610, 1, none⟩ (.string ((rd_T25 l1 x11_1).f1))).setCell ⟨gb610, 2, none⟩ (.string ((rd_T25 l1 x11_1).f2))).heap[gb608]? = some (.cells #[.bool x609000_1, .string x609001_1, .string x609002_1] 25 (0, 0))) := ⟨xb BK608⟩
      have n3_ : Aside0 ((((w14.setCell ⟨gb610, 0, none⟩ (.bool ((rd_T25 l1 x11_1).f0))).setCell ⟨gb610, 1, none⟩ (.string ((rd_T25 l1 x11_1).f1))).setCell ⟨gb610, 2, none⟩ (.string ((rd_T25 l1 x11_1).f2))).heap[gb610]? = some (.cells #[.bool ((rd_T25 l1 x11_1).f0), .string ((rd_T25 l1 x11_1).f1), .string ((rd_T25 l1 x11_1).f2)] 25 (0, 0))) := ⟨xp BK610⟩
      have n4_ : Aside0 (Below w.heap.size w (((w14.setCell ⟨gb610, 0, none⟩ (.bool ((rd_T25 l1 x11_1).f0))).setCell ⟨gb610, 1, none⟩ (.string ((rd_T25 l1 x11_1).f1))).setCell ⟨gb610, 2, none⟩ (.string ((rd_T25 l1 x11_1).f2)))) := ⟨xs HB⟩
      (try clear BK606)
      (try clear BK607)
      (try clear BK608)
      (try clear BK610)
      (try clear HB)
      generalize (((w14.setCell ⟨gb610, 0, none⟩ (.bool ((rd_T25 l1 x11_1).f0))).setCell ⟨gb610, 1, none⟩ (.string ((rd_T25 l1 x11_1).f1))).setCell ⟨gb610, 2, none⟩ (.string ((rd_T25 l1 x11_1).f2))) = w19 at n0_ n1_ n2_ n3_ n4_ ⊢
      have BK606 := n0_
      have BK607 := n1_
      have BK608 := n2_
      have BK610 := n3_
      have HB := n4_
      clear n0_ n1_ n2_ n3_ n4_
      replace BK606 := xD BK606
      replace BK607 := xD BK607
      replace BK608 := xD BK608
      replace BK610 := xD BK610
      replace HB := xW HB
      refine start_ (n := 5) (S := fun w' => w'.cell? ⟨gb608, 0, none⟩ = some (.bool x609000_1) ∧ w'.cell? ⟨gb608, 1, none⟩ = some (.string x609001_1) ∧ w'.cell? ⟨gb608, 2, none⟩ = some (.string x609002_1) ∧ w'.cell? ⟨gb610, 0, none⟩ = some (.bool ((rd_T25 l1 x11_1).f0)) ∧ w'.cell? ⟨gb610, 1, none⟩ = some (.string ((rd_T25 l1 x11_1).f1)) ∧ w'.cell? ⟨gb610, 2, none⟩ = some (.string ((rd_T25 l1 x11_1).f2))) (ds := [4]) #[false, false, false, false, false] (by kernel_rfl) rfl rfl xV (fun hHeld => ?_)
      generalize w19.drew = w20 at BK606 BK607 BK608 BK610 HB hHeld ⊢
      refine xT 0 (some 15) #[true, false, false, false, false] rfl rfl hHeld ?_
      refine xT 1 (some 16) #[true, true, false, false, false] rfl rfl hHeld ?_
      refine xO 2 (some 17) #[true, true, true, false, false] rfl rfl fun K hK => ?_
      refine xc Tryd.func35 (guarantee_positive.calls k1 ((rd_T25 l1 x11_1).f0) ((rd_T25 l1 x11_1).f1) ((rd_T25 l1 x11_1).f2) t611 t612 t613 _ A12.out) ?_
      rintro w21 hb
      replace BK606 := xB BK606 hb
      replace BK607 := xB BK607 hb
      replace BK608 := xB BK608 hb
      replace BK610 := xB BK610 hb
      replace HB := xS HB hb
      clear hb
      refine hK.out _ _ xV (fun hHeld => ?_)
      clear hK K
      refine xN 17 ?_
      refine xO 3 (some 18) #[true, true, true, true, false] rfl rfl fun K hK => ?_
      refine xc Tryd.func21 (rational_Add.calls k1 x609000_1 x609001_1 x609002_1 t611 t612 t613 t614 t615 t616 _ A13.out) ?_
      rintro w22 hb
      replace BK606 := xB BK606 hb
      replace BK607 := xB BK607 hb
      replace BK608 := xB BK608 hb
      replace BK610 := xB BK610 hb
      replace HB := xS HB hb
      clear hb
      refine hK.out _ _ xV (fun hHeld => ?_)
      clear hK K
      refine xN 18 ?_
      refine xZ 4 none #[true, true, true, true, true] rfl rfl fun K hK => ?_
      have hs23 : w22.cell? ⟨gb608, 0, none⟩ = some (.bool x609000_1) := (blk_cell BK608.out 0).trans rfl
      have hfs23 := blk_frozen BK608.out 0
      have hns23_0 := NB606_608.out
      have hns23_1 := NB607_608.out
      have hns23_3 := NB610_608.out
      have hms23_0 := NB608_606.out
      have hms23_1 := NB608_607.out
      have hms23_3 := NB608_610.out
      have hs24 : w22.cell? ⟨gb608, 1, none⟩ = some (.string x609001_1) := (blk_cell BK608.out 1).trans rfl
      have hfs24 := blk_frozen BK608.out 1
      have hns24_0 := NB606_608.out
      have hns24_1 := NB607_608.out
      have hns24_3 := NB610_608.out
      have hms24_0 := NB608_606.out
      have hms24_1 := NB608_607.out
      have hms24_3 := NB608_610.out
      have hs25 : w22.cell? ⟨gb608, 2, none⟩ = some (.string x609002_1) := (blk_cell BK608.out 2).trans rfl
      have hfs25 := blk_frozen BK608.out 2
      have hns25_0 := NB606_608.out
      have hns25_1 := NB607_608.out
      have hns25_3 := NB610_608.out
      have hms25_0 := NB608_606.out
      have hms25_1 := NB608_607.out
      have hms25_3 := NB608_610.out
      refine xk ?_
      refine hK.out _ _ ?_
      clear hK K
      refine done_ (by kernel_rfl) ?_
      try go_wp2
      (first | go_roundg k1 | (refine Handed.intro k1 ?measure ?_; rotate_left; go_step; (repeat apply Exists.intro); refine ⟨?rel, (by first | rfl | (simp only [add_plain]; rfl))⟩))
      case measure => have := HK1.out; omega
      case rel => exact ⟨(wrap64 (x11_1 + 1)), (t614), (t615), (t616), xz, H', ⟨by have := HK1.out; omega⟩, ⟨xb BK606⟩, ⟨xb BK607⟩, ⟨by (with_reducible repeat (first | refine blk_drewN ?_ _ | refine blk_drew ?_ | refine blk_alloc ?_ _)); refine blk_put (cs := #[.bool t614, .string t615, .string x609002_1]) ?_ 2 _ (by first | rfl | simp [ne_nil_b]); (with_reducible repeat (first | refine blk_drewN ?_ _ | refine blk_drew ?_ | refine blk_alloc ?_ _)); refine blk_put (cs := #[.bool t614, .string x609001_1, .string x609002_1]) ?_ 1 _ (by first | rfl | simp [ne_nil_b]); (with_reducible repeat (first | refine blk_drewN ?_ _ | refine blk_drew ?_ | refine blk_alloc ?_ _)); refine blk_put (cs := #[.bool x609000_1, .string x609001_1, .string x609002_1]) ?_ 0 _ (by first | rfl | simp [ne_nil_b]); (with_reducible repeat (first | refine blk_drewN ?_ _ | refine blk_drew ?_ | refine blk_alloc ?_ _)); exact BK608.out⟩, ⟨xs HB⟩⟩
     ·rw [if_neg c11] at H
      exact absurd H (by simp)
    ·rw [if_neg c10] at H
     exact absurd H (by simp)
   ·rw [if_neg c9] at H
    have c9b0 : decide (x11_1 < (l1.length : Int)) = false := decide_eq_false c9
    clear c9
    replace H := xH H; obtain ⟨⟨t617, t618, t619⟩, A26, H⟩ := H
    dsimp only at H
    replace H := xH H; obtain ⟨⟨t620, t621, t622⟩, A27, H⟩ := H
    dsimp only at H
    simp only [Option.some.injEq, Prod.mk.injEq] at H
    obtain ⟨rfl, rfl, rfl⟩ := H
    try go_wp2
    replace BK606 := xD BK606
    replace BK607 := xD BK607
    replace BK608 := xD BK608
    replace HB := xW HB
    refine start_ (n := 5) (S := fun w' => w'.cell? ⟨gb606, 0, none⟩ = some (.bool a0_0) ∧ w'.cell? ⟨gb606, 1, none⟩ = some (.string a0_1) ∧ w'.cell? ⟨gb606, 2, none⟩ = some (.string a0_2) ∧ w'.cell? ⟨gb608, 0, none⟩ = some (.bool x609000_1) ∧ w'.cell? ⟨gb608, 1, none⟩ = some (.string x609001_1) ∧ w'.cell? ⟨gb608, 2, none⟩ = some (.string x609002_1)) (ds := []) #[false, false, false, false, false] (by kernel_rfl) rfl rfl xV (fun hHeld => ?_)
    generalize wr.drew = w28 at BK606 BK607 BK608 HB hHeld ⊢
    refine xT 0 (some 20) #[true, false, false, false, false] rfl rfl hHeld ?_
    refine xT 2 (some 22) #[true, false, true, false, false] rfl rfl hHeld ?_
    refine xO 1 (some 21) #[true, true, true, false, false] rfl rfl fun K hK => ?_
    refine xc Tryd.func35 (guarantee_positive.calls k1 a0_0 a0_1 a0_2 t617 t618 t619 _ A26.out) ?_
    rintro w29 hb
    replace BK606 := xB BK606 hb
    replace BK607 := xB BK607 hb
    replace BK608 := xB BK608 hb
    replace HB := xS HB hb
    clear hb
    refine hK.out _ _ xV (fun hHeld => ?_)
    clear hK K
    refine xN 21 ?_
    refine xO 3 (some 23) #[true, true, true, true, false] rfl rfl fun K hK => ?_
    refine xc Tryd.func44 (rational_Min.calls k1 t617 t618 t619 x609000_1 x609001_1 x609002_1 t620 t621 t622 _ A27.out) ?_
    rintro w30 hb
    replace BK606 := xB BK606 hb
    replace BK607 := xB BK607 hb
    replace BK608 := xB BK608 hb
    replace HB := xS HB hb
    clear hb
    refine hK.out _ _ xV (fun hHeld => ?_)
    clear hK K
    refine xN 23 ?_
    refine xO 4 none #[true, true, true, true, true] rfl rfl fun K hK => ?_
    have hs31 : w30.cell? ⟨gb607, 0, none⟩ = some (.bool false) := (blk_cell BK607.out 0).trans rfl
    have hfs31 := blk_frozen BK607.out 0
    have hns31_0 := NB606_607.out
    have hns31_2 := NB608_607.out
    have hms31_0 := NB607_606.out
    have hms31_2 := NB607_608.out
    have hs32 : w30.cell? ⟨gb607, 1, none⟩ = some (.string (⟨#[]⟩ : ByteArray)) := (blk_cell BK607.out 1).trans rfl
    have hfs32 := blk_frozen BK607.out 1
    have hns32_0 := NB606_607.out
    have hns32_2 := NB608_607.out
    have hms32_0 := NB607_606.out
    have hms32_2 := NB607_608.out
    have hs33 : w30.cell? ⟨gb607, 2, none⟩ = some (.string (⟨#[]⟩ : ByteArray)) := (blk_cell BK607.out 2).trans rfl
    have hfs33 := blk_frozen BK607.out 2
    have hns33_0 := NB606_607.out
    have hns33_2 := NB608_607.out
    have hms33_0 := NB607_606.out
    have hms33_2 := NB607_608.out
    refine xk ?_
    refine hK.out _ _ ⟨((cell_far (p := ⟨gb607, _, none⟩) NB606_607.out _).trans (((cell_far (p := ⟨gb607, _, none⟩) NB606_607.out _).trans (((cell_far (p := ⟨gb607, _, none⟩) NB606_607.out _).trans (hHeld.1)))))), ((cell_far (p := ⟨gb607, _, none⟩) NB606_607.out _).trans (((cell_far (p := ⟨gb607, _, none⟩) NB606_607.out _).trans (((cell_far (p := ⟨gb607, _, none⟩) NB606_607.out _).trans (hHeld.2.1)))))), ((cell_far (p := ⟨gb607, _, none⟩) NB606_607.out _).trans (((cell_far (p := ⟨gb607, _, none⟩) NB606_607.out _).trans (((cell_far (p := ⟨gb607, _, none⟩) NB606_607.out _).trans (hHeld.2.2.1)))))), ((cell_far (p := ⟨gb607, _, none⟩) NB608_607.out _).trans (((cell_far (p := ⟨gb607, _, none⟩) NB608_607.out _).trans (((cell_far (p := ⟨gb607, _, none⟩) NB608_607.out _).trans (hHeld.2.2.2.1)))))), ((cell_far (p := ⟨gb607, _, none⟩) NB608_607.out _).trans (((cell_far (p := ⟨gb607, _, none⟩) NB608_607.out _).trans (((cell_far (p := ⟨gb607, _, none⟩) NB608_607.out _).trans (hHeld.2.2.2.2.1)))))), ((cell_far (p := ⟨gb607, _, none⟩) NB608_607.out _).trans (((cell_far (p := ⟨gb607, _, none⟩) NB608_607.out _).trans (((cell_far (p := ⟨gb607, _, none⟩) NB608_607.out _).trans (hHeld.2.2.2.2.2))))))⟩ (fun hHeld => ?_)
    clear hK K
    refine done_ (by kernel_rfl) ?_
    try go_wp2
    refine bodyPost_ret (results_cell_row rfl _ _ gb607 25 #[.bool t620, .string t621, .string t622] (0, 0) _ rfl (xp BK607) Tryd.underlying25 rfl (by kernel_rfl)) rfl ?_
    exact ⟨xy, xs HB⟩
end Go.Proofs.YtpoogjcgjpkbeaaDoor.XB
