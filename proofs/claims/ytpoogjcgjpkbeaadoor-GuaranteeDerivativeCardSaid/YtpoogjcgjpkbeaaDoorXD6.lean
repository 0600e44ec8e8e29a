/- Walks of functions of the program: a plain Lean function for each, and a proof that a call answers as it says. Written by a program (the kit's print with changes, then shortened). -/
import Derived.Test.YtpoogjcgjpkbeaaDoorXD5
namespace Go.Proofs.YtpoogjcgjpkbeaaDoor.XC
open Go.RowKit Go.Proofs.YtpoogjcgjpkbeaaDoorW.PrintWords Go.Proofs.YtpoogjcgjpkbeaaDoorW.PrintLast Go.Proofs.YtpoogjcgjpkbeaaDoorW.PrintMore Go.Proofs.YtpoogjcgjpkbeaaDoorW.Sq
attribute [local go_sem] max2_int min2_int max_two min_two max_three min_three max_four min_four   -- for this text's walks alone
set_option linter.unusedVariables false
set_option linter.unusedSimpArgs false
/-! ### guarantee_Rates: function 23 -/
mutual
def guarantee_Rates.l0 : Nat → List (S25) → List (S25) → List (S25) → Int → Int → Bool → ByteArray → ByteArray → Bool → ByteArray → ByteArray → Bool → ByteArray → ByteArray → Bool → ByteArray → ByteArray → Option ((List (S25)))
 | 0, _, _, _, _, _, _, _, _, _, _, _, _, _, _, _, _, _ => none
 | k + 1, x2, x7, x20, x21, x22, x688000, x688001, x688002, x692000, x692001, x692002, x693000, x693001, x693002, x694000, x694001, x694002 => if x22 < x21 then (if 0 ≤ x22 then (if x22 < (x20.length : Int) then ((guarantee_positive.f k ((rd_T25 x20 x22).f0) ((rd_T25 x20 x22).f1) ((rd_T25 x20 x22).f2)).bind fun bt696 => ((rational_Add.f k x692000 x692001 x692002 bt696.1 bt696.2.1 bt696.2.2).bind fun bt699 => (if x22 < (x2.length : Int) then ((guarantee_positive.f k ((rd_T25 x2 x22).f0) ((rd_T25 x2 x22).f1) ((rd_T25 x2 x22).f2)).bind fun bt703 => ((rational_Add.f k x693000 x693001 x693002 bt703.1 bt703.2.1 bt703.2.2).bind fun bt706 => (guarantee_Rates.j1 k x2 x7 x22 x20 x21 x22 x688000 x688001 x688002 bt699.1 bt699.2.1 bt699.2.2 bt706.1 bt706.2.1 bt706.2.2 x694000 x694001 x694002))) else (guarantee_Rates.j1 k x2 x7 x22 x20 x21 x22 x688000 x688001 x688002 bt699.1 bt699.2.1 bt699.2.2 x693000 x693001 x693002 x694000 x694001 x694002)))) else (none)) else (none)) else (some x7)
def guarantee_Rates.j1 : Nat → List (S25) → List (S25) → Int → List (S25) → Int → Int → Bool → ByteArray → ByteArray → Bool → ByteArray → ByteArray → Bool → ByteArray → ByteArray → Bool → ByteArray → ByteArray → Option ((List (S25)))
 | 0, _, _, _, _, _, _, _, _, _, _, _, _, _, _, _, _, _, _ => none
 | k + 1, x2, x7, x11, x20, x21, x22, x688000, x688001, x688002, x692000, x692001, x692002, x693000, x693001, x693002, x694000, x694001, x694002 => (guarantee_positive.f k x688000 x688001 x688002).bind fun bt710 => ((rational_Compare.f k x692000 x692001 x692002 bt710.1 bt710.2.1 bt710.2.2).bind fun t713 => (if t713 ≥ 0 then ((rational_Subtract.f k x693000 x693001 x693002 x694000 x694001 x694002).bind fun bt714 => (if 0 ≤ x11 then (if x11 < (x7.length : Int) then (guarantee_Rates.l0 k x2 (x7.set (x11 : Int).toNat (⟨bt714.1, bt714.2.1, bt714.2.2⟩ : S25)) x20 x21 (wrap64 (x22 + 1)) x688000 x688001 x688002 x692000 x692001 x692002 x693000 x693001 x693002 x693000 x693001 x693002) else (none)) else (none))) else ((rational_Subtract.f k false (⟨#[]⟩ : ByteArray) (⟨#[]⟩ : ByteArray) x694000 x694001 x694002).bind fun bt718 => (if 0 ≤ x11 then (if x11 < (x7.length : Int) then (guarantee_Rates.l0 k x2 (x7.set (x11 : Int).toNat (⟨bt718.1, bt718.2.1, bt718.2.2⟩ : S25)) x20 x21 (wrap64 (x22 + 1)) x688000 x688001 x688002 x692000 x692001 x692002 x693000 x693001 x693002 false (⟨#[]⟩ : ByteArray) (⟨#[]⟩ : ByteArray)) else (none)) else (none)))))
end
def guarantee_Rates.f (k : Nat) (a0_0 : Bool) (a0_1 : ByteArray) (a0_2 : ByteArray) (l1 : List (S25)) (l2 : List (S25)) : Option ((List (S25))) := if 0 ≤ (l1.length : Int) then (if ((l1.length : Int) : Int).toNat ≤ 7036874417766 then (guarantee_Rates.l0 k l2 (List.replicate ((l1.length : Int) : Int).toNat z25) l1 (l1.length : Int) 0 a0_0 a0_1 a0_2 false (⟨#[]⟩ : ByteArray) (⟨#[]⟩ : ByteArray) false (⟨#[]⟩ : ByteArray) (⟨#[]⟩ : ByteArray) false (⟨#[]⟩ : ByteArray) (⟨#[]⟩ : ByteArray)) else (none)) else (none)
theorem guarantee_Rates.mono_l : ∀ k, (∀ y0 y1 y2 y3 y4 y5 y6 y7 y8 y9 y10 y11 y12 y13 y14 y15 y16, LeO (guarantee_Rates.l0 k y0 y1 y2 y3 y4 y5 y6 y7 y8 y9 y10 y11 y12 y13 y14 y15 y16) (guarantee_Rates.l0 (k + 1) y0 y1 y2 y3 y4 y5 y6 y7 y8 y9 y10 y11 y12 y13 y14 y15 y16)) ∧ (∀ y0 y1 y2 y3 y4 y5 y6 y7 y8 y9 y10 y11 y12 y13 y14 y15 y16 y17, LeO (guarantee_Rates.j1 k y0 y1 y2 y3 y4 y5 y6 y7 y8 y9 y10 y11 y12 y13 y14 y15 y16 y17) (guarantee_Rates.j1 (k + 1) y0 y1 y2 y3 y4 y5 y6 y7 y8 y9 y10 y11 y12 y13 y14 y15 y16 y17))
 | 0 => ⟨fun _ _ _ _ _ _ _ _ _ _ _ _ _ _ _ _ _ r h => by simp [guarantee_Rates.l0] at h, fun _ _ _ _ _ _ _ _ _ _ _ _ _ _ _ _ _ _ r h => by simp [guarantee_Rates.j1] at h⟩
 | k + 1 => by
  obtain ⟨ih0, ih1⟩ := guarantee_Rates.mono_l k
  refine ⟨?_, ?_⟩
  ·intro y0 y1 y2 y3 y4 y5 y6 y7 y8 y9 y10 y11 y12 y13 y14 y15 y16
   unfold guarantee_Rates.l0
   have m0 := @ih0; have m1 := @ih1; have m2 := @guarantee_positive.mono; have m3 := @rational_Add.mono; have m4 := @rational_Compare.mono; have m5 := @rational_Subtract.mono; exact xM
  ·intro y0 y1 y2 y3 y4 y5 y6 y7 y8 y9 y10 y11 y12 y13 y14 y15 y16 y17
   unfold guarantee_Rates.j1
   have m0 := @ih0; have m1 := @ih1; have m2 := @guarantee_positive.mono; have m3 := @rational_Add.mono; have m4 := @rational_Compare.mono; have m5 := @rational_Subtract.mono; exact xM
theorem guarantee_Rates.mono : ∀ a0 a1 a2 a3 a4 k, LeO (guarantee_Rates.f k a0 a1 a2 a3 a4) (guarantee_Rates.f (k + 1) a0 a1 a2 a3 a4) := by
 intro a0 a1 a2 a3 a4 k
 obtain ⟨ih0, ih1⟩ := guarantee_Rates.mono_l k
 unfold guarantee_Rates.f
 have m0 := @ih0; have m1 := @ih1; have m2 := @guarantee_positive.mono; have m3 := @rational_Add.mono; have m4 := @rational_Compare.mono; have m5 := @rational_Subtract.mono; exact xM
def guarantee_Rates.T8 : Bool × List (List Nat × List Nat) := (true, [([], []), ([], []), ([], []), ([1, 2], [1, 2]), ([3], [3]), ([4], [4]), ([0, 5, 5], [0, 5]), ([6, 6, 0, 1, 2, 3, 4, 5, 6], [6])])
def guarantee_Rates.B8 : List Nat := [0, 0, 0, 6, 14, 30, 63, 127]
theorem guarantee_Rates.tab8 : rtab .any (opsOf Tryd.f23 8) = guarantee_Rates.T8 := by kernel_rfl
theorem guarantee_Rates.bits8 : waitsOk guarantee_Rates.T8.2 guarantee_Rates.B8 = true := by kernel_rfl
set_option maxHeartbeats 8000000 in
set_option maxRecDepth 100000 in
theorem guarantee_Rates.calls (k : Nat) (a0_0 : Bool) (a0_1 : ByteArray) (a0_2 : ByteArray) (A1 : Option Addr) (c1 : Nat) (l1 : List (S25)) (A2 : Option Addr) (c2 : Nat) (l2 : List (S25)) (r : List (S25)) (w : World) (hr1 : Kd.C k25 w A1 l1.length l1) (hc1 : l1.length ≤ c1) (hr2 : Kd.C k25 w A2 l2.length l2) (hc2 : l2.length ≤ c2) (h : guarantee_Rates.f k a0_0 a0_1 a0_2 l1 l2 = some r) :
  Calls Tryd.prog 23 #[.agg #[.bool a0_0, .string a0_1, .string a0_2], .slice A1 l1.length c1, .slice A2 l2.length c2] w fun e w' => ∃ v0_ : Value, e = .returned (v0_) ∧ Kd.R k25 25 w' w.heap.size (fun _ => True) v0_ r ∧ Below w.heap.size w w' := by
 have hu25 := Tryd.underlying25
 have HR1 := Aside0.mk hr1
 have HC1 := Aside0.mk hc1
 clear hr1 hc1
 have HR2 := Aside0.mk hr2
 have HC2 := Aside0.mk hc2
 clear hr2 hc2
 have HB := Aside0.mk (Below.refl w.heap.size w)
 have H : (if 0 ≤ (l1.length : Int) then (if ((l1.length : Int) : Int).toNat ≤ 7036874417766 then (guarantee_Rates.l0 k l2 (List.replicate ((l1.length : Int) : Int).toNat z25) l1 (l1.length : Int) 0 a0_0 a0_1 a0_2 false (⟨#[]⟩ : ByteArray) (⟨#[]⟩ : ByteArray) false (⟨#[]⟩ : ByteArray) (⟨#[]⟩ : ByteArray) false (⟨#[]⟩ : ByteArray) (⟨#[]⟩ : ByteArray)) else (none)) else (none)) = some r := h
 clear h
 by_cases c4 : 0 ≤ (l1.length : Int)
 rotate_left
 ·rw [if_neg c4] at H
  exact absurd H (by simp)
 rw [if_pos c4] at H
 have c4b0 := eq_true c4
 have c4b1 : decide (0 ≤ (l1.length : Int)) = true := decide_eq_true c4
 clear c4
 by_cases c5 : ((l1.length : Int) : Int).toNat ≤ 7036874417766
 rotate_left
 ·rw [if_neg c5] at H
  exact absurd H (by simp)
 rw [if_pos c5] at H
 have c5b0 := eq_true c5
 have c5b1 : decide (((l1.length : Int) : Int).toNat ≤ 7036874417766) = true := decide_eq_true c5
 clear c5
 obtain ⟨y688, hy688⟩ : ∃ y_ : List (S25), y_ = (List.replicate ((l1.length : Int) : Int).toNat z25) := ⟨_, rfl⟩
 replace H : (guarantee_Rates.l0 k l2 y688 l1 (l1.length : Int) 0 a0_0 a0_1 a0_2 false (⟨#[]⟩ : ByteArray) (⟨#[]⟩ : ByteArray) false (⟨#[]⟩ : ByteArray) (⟨#[]⟩ : ByteArray) false (⟨#[]⟩ : ByteArray) (⟨#[]⟩ : ByteArray)) = some r := by first | (rw [hy688]; with_reducible exact H) | (have H2_ := (Option.bind_some _ _).symm.trans H; rw [hy688]; with_reducible exact H2_) | (have H2_ := (Option.bind_some _ _).symm.trans H; with_reducible exact H2_) | with_reducible exact H | (rw [hy688]; exact H) | exact H
 have Ny688 := Aside0.mk hy688
 clear hy688
 have H' := Aside0.mk H
 clear H
 go_enter Tryd.func23, Tryd.ntmps23
 go_wp2_with (first | (refine xE (N := 3) #[.bool a0_0, .string a0_1, .string a0_2] 25 rfl ?_; intro gb687 hg w6 hbox hb; have BK687 := Aside0.mk (hbox); have GW687 := (xG HB hg); have GE687 := (xG HB hg); replace HB := xS HB hb; clear hb hbox hg) | ((with_reducible refine gate_dst (N := 16) rfl ?_); refine Kd.R_make k25 _ 25 rfl (N := 16) rfl 27 _ _ rfl (l1.length : Int) rfl rfl Tryd.underlying27 (.agg #[(.bool false), (.string ⟨#[]⟩), (.string ⟨#[]⟩)]) 40 info25 rfl (by decide) (by omega) z25 (ok := fun _ => True) (okp := fun _ => True) (k25_mkM _ _ _ z25 ) (fun _ hk => hk) trivial (xa) (Nat.le_trans (Nat.mul_le_mul_right _ (xa : (l1.length : Int).toNat ≤ 7036874417766)) (by omega)) (Below.refl _ _) (Nat.le_refl _) ?_; intro v689 w7 ho8 hb hg_ hnew_; clear hg_ hnew_; (first | rw [← Ny688.out] at ho8 | (simp only [Int.reduceToNat] at ho8; rw [← Ny688.out] at ho8)); have HO690 := Aside0.mk (Kd.R_lower (Kd.R_newB ho8 (g := gb687) (o := .cells #[.bool a0_0, .string a0_1, .string a0_2] 25 (0, 0)) (xb BK687)) (below_size (xs HB))); replace BK687 := xB BK687 hb; replace HB := xS HB hb; clear hb ho8) | (refine xE (N := 8) #[.bool false, .string (⟨#[]⟩ : ByteArray), .string (⟨#[]⟩ : ByteArray)] 25 rfl ?_; intro gb691 hg w9 hbox hb; replace HO690 := Aside0.mk (Kd.R_below (Kd.R_elderB (xr HO690.out) gb691 (Nat.le_of_eq hg.symm)) hb); have BK691 := Aside0.mk (hbox); have GW691 := (xG HB hg); have GE691 := (xG HB hg); replace HB := xS HB hb; have NB687_691 := xL BK687 hg; have NB691_687 := xR BK687 hg; replace BK687 := xB BK687 hb; clear hb hbox hg) | (refine xE (N := 9) #[.bool false, .string (⟨#[]⟩ : ByteArray), .string (⟨#[]⟩ : ByteArray)] 25 rfl ?_; intro gb692 hg w10 hbox hb; replace HO690 := Aside0.mk (Kd.R_below (Kd.R_elderB (xr HO690.out) gb692 (Nat.le_of_eq hg.symm)) hb); have BK692 := Aside0.mk (hbox); have GW692 := (xG HB hg); have GE692 := (xG HB hg); replace HB := xS HB hb; have NB687_692 := xL BK687 hg; have NB692_687 := xR BK687 hg; replace BK687 := xB BK687 hb; have NB691_692 := xL BK691 hg; have NB692_691 := xR BK691 hg; replace BK691 := xB BK691 hb; clear hb hbox hg) | (refine xE (N := 10) #[.bool false, .string (⟨#[]⟩ : ByteArray), .string (⟨#[]⟩ : ByteArray)] 25 rfl ?_; intro gb693 hg w11 hbox hb; replace HO690 := Aside0.mk (Kd.R_below (Kd.R_elderB (xr HO690.out) gb693 (Nat.le_of_eq hg.symm)) hb); have BK693 := Aside0.mk (hbox); have GW693 := (xG HB hg); have GE693 := (xG HB hg); replace HB := xS HB hb; have NB687_693 := xL BK687 hg; have NB693_687 := xR BK687 hg; replace BK687 := xB BK687 hb; have NB691_693 := xL BK691 hg; have NB693_691 := xR BK691 hg; replace BK691 := xB BK691 hb; have NB692_693 := xL BK692 hg; have NB693_692 := xR BK692 hg; replace BK692 := xB BK692 hb; clear hb hbox hg; have hnb12 := NB691_687.out; have hnc12 := NB687_691.out; have hnb13 := NB691_692.out; have hnc13 := NB692_691.out; have hnb14 := NB691_693.out; have hnc14 := NB693_691.out; obtain ⟨hcz15_0, hcz15_1, hcz15_2, hfz15_0, hfz15_1, hfz15_2⟩ := x6 BK691; have hnb16 := NB692_687.out; have hnc16 := NB687_692.out; have hnb17 := NB692_693.out; have hnc17 := NB693_692.out; obtain ⟨hcz18_0, hcz18_1, hcz18_2, hfz18_0, hfz18_1, hfz18_2⟩ := x6 BK692; have hnb19 := NB693_687.out; have hnc19 := NB687_693.out; obtain ⟨hcz20_0, hcz20_1, hcz20_2, hfz20_0, hfz20_1, hfz20_2⟩ := x6 BK693))
 go_loopg [22] k (fun kq v22 w' => ∃ (x7_1 : List (S25)) (x22_1 : Int) (x688000_1 : Bool) (x688001_1 : ByteArray) (x688002_1 : ByteArray) (x692000_1 : Bool) (x692001_1 : ByteArray) (x692002_1 : ByteArray) (x693000_1 : Bool) (x693001_1 : ByteArray) (x693002_1 : ByteArray) (x694000_1 : Bool) (x694001_1 : ByteArray) (x694002_1 : ByteArray), v22 = .int .i64 x22_1 ∧ Aside0 (guarantee_Rates.l0 kq l2 x7_1 l1 (l1.length : Int) x22_1 x688000_1 x688001_1 x688002_1 x692000_1 x692001_1 x692002_1 x693000_1 x693001_1 x693002_1 x694000_1 x694001_1 x694002_1 = some r) ∧ Aside0 (kq ≤ k) ∧ Aside0 (Kd.R k25 25 w' w.heap.size (fun k_ => k_ ≠ gb687 ∧ k_ ≠ gb691 ∧ k_ ≠ gb692 ∧ k_ ≠ gb693) v689 x7_1) ∧ Aside0 (w'.heap[gb687]? = some (.cells #[.bool x688000_1, .string x688001_1, .string x688002_1] 25 (0, 0))) ∧ Aside0 (w'.heap[gb691]? = some (.cells #[.bool x692000_1, .string x692001_1, .string x692002_1] 25 (0, 0))) ∧ Aside0 (w'.heap[gb692]? = some (.cells #[.bool x693000_1, .string x693001_1, .string x693002_1] 25 (0, 0))) ∧ Aside0 (w'.heap[gb693]? = some (.cells #[.bool x694000_1, .string x694001_1, .string x694002_1] 25 (0, 0))) ∧ Aside0 (Below w.heap.size w w'))
 case atStart => exact ⟨(y688), (0), (a0_0), (a0_1), (a0_2), (false), ((⟨#[]⟩ : ByteArray)), ((⟨#[]⟩ : ByteArray)), (false), ((⟨#[]⟩ : ByteArray)), ((⟨#[]⟩ : ByteArray)), (false), ((⟨#[]⟩ : ByteArray)), ((⟨#[]⟩ : ByteArray)), xz, H', ⟨Nat.le_refl _⟩, ⟨by (with_reducible repeat (first | apply Kd.R_alloc | apply Kd.R_drewN | apply Kd.R_drew)); exact Kd.R_mono (Kd.R_far (p := ⟨gb693, 2, none⟩) (Kd.R_far (p := ⟨gb693, 1, none⟩) (Kd.R_far (p := ⟨gb693, 0, none⟩) (Kd.R_far (p := ⟨gb692, 2, none⟩) (Kd.R_far (p := ⟨gb692, 1, none⟩) (Kd.R_far (p := ⟨gb692, 0, none⟩) (Kd.R_far (p := ⟨gb691, 2, none⟩) (Kd.R_far (p := ⟨gb691, 1, none⟩) (Kd.R_far (p := ⟨gb691, 0, none⟩) (Kd.R_mono (Kd.R_mono (Kd.R_mono HO690.out (fun k_ hk => (⟨hk, hk.1.1.2⟩ : _ ∧ k_ ≠ gb691))) (fun k_ hk => (⟨hk, hk.1.1.2⟩ : _ ∧ k_ ≠ gb692))) (fun k_ hk => (⟨hk, hk.1.1.2⟩ : _ ∧ k_ ≠ gb693))) (fun _ hk => hk.1.1.2) (.bool false)) (fun _ hk => hk.1.1.2) (.string (⟨#[]⟩ : ByteArray))) (fun _ hk => hk.1.1.2) (.string (⟨#[]⟩ : ByteArray))) (fun _ hk => hk.1.2) (.bool false)) (fun _ hk => hk.1.2) (.string (⟨#[]⟩ : ByteArray))) (fun _ hk => hk.1.2) (.string (⟨#[]⟩ : ByteArray))) (fun _ hk => hk.2) (.bool false)) (fun _ hk => hk.2) (.string (⟨#[]⟩ : ByteArray))) (fun _ hk => hk.2) (.string (⟨#[]⟩ : ByteArray))) (fun _ hk => ⟨hk.1.1.1.1.1.1.2, ⟨hk.1.1.1.1.1.2, ⟨hk.1.1.1.1.2, hk.1.1.1.2⟩⟩⟩)⟩, ⟨xb BK687⟩, ⟨by (with_reducible repeat (first | refine blk_drewN ?_ _ | refine blk_drew ?_ | refine blk_alloc ?_ _)); refine blk_far ?_ NB691_693.out _; (with_reducible repeat (first | refine blk_drewN ?_ _ | refine blk_drew ?_ | refine blk_alloc ?_ _)); refine blk_far ?_ NB691_693.out _; (with_reducible repeat (first | refine blk_drewN ?_ _ | refine blk_drew ?_ | refine blk_alloc ?_ _)); refine blk_far ?_ NB691_693.out _; (with_reducible repeat (first | refine blk_drewN ?_ _ | refine blk_drew ?_ | refine blk_alloc ?_ _)); refine blk_far ?_ NB691_692.out _; (with_reducible repeat (first | refine blk_drewN ?_ _ | refine blk_drew ?_ | refine blk_alloc ?_ _)); refine blk_far ?_ NB691_692.out _; (with_reducible repeat (first | refine blk_drewN ?_ _ | refine blk_drew ?_ | refine blk_alloc ?_ _)); refine blk_far ?_ NB691_692.out _; (with_reducible repeat (first | refine blk_drewN ?_ _ | refine blk_drew ?_ | refine blk_alloc ?_ _)); refine blk_put (cs := #[.bool false, .string (⟨#[]⟩ : ByteArray), .string (⟨#[]⟩ : ByteArray)]) ?_ 2 _ (by first | rfl | simp [ne_nil_b]); (with_reducible repeat (first | refine blk_drewN ?_ _ | refine blk_drew ?_ | refine blk_alloc ?_ _)); refine blk_put (cs := #[.bool false, .string (⟨#[]⟩ : ByteArray), .string (⟨#[]⟩ : ByteArray)]) ?_ 1 _ (by first | rfl | simp [ne_nil_b]); (with_reducible repeat (first | refine blk_drewN ?_ _ | refine blk_drew ?_ | refine blk_alloc ?_ _)); refine blk_put (cs := #[.bool false, .string (⟨#[]⟩ : ByteArray), .string (⟨#[]⟩ : ByteArray)]) ?_ 0 _ (by first | rfl | simp [ne_nil_b]); (with_reducible repeat (first | refine blk_drewN ?_ _ | refine blk_drew ?_ | refine blk_alloc ?_ _)); exact BK691.out⟩, ⟨by (with_reducible repeat (first | refine blk_drewN ?_ _ | refine blk_drew ?_ | refine blk_alloc ?_ _)); refine blk_far ?_ NB692_693.out _; (with_reducible repeat (first | refine blk_drewN ?_ _ | refine blk_drew ?_ | refine blk_alloc ?_ _)); refine blk_far ?_ NB692_693.out _; (with_reducible repeat (first | refine blk_drewN ?_ _ | refine blk_drew ?_ | refine blk_alloc ?_ _)); refine blk_far ?_ NB692_693.out _; (with_reducible repeat (first | refine blk_drewN ?_ _ | refine blk_drew ?_ | refine blk_alloc ?_ _)); refine blk_put (cs := #[.bool false, .string (⟨#[]⟩ : ByteArray), .string (⟨#[]⟩ : ByteArray)]) ?_ 2 _ (by first | rfl | simp [ne_nil_b]); (with_reducible repeat (first | refine blk_drewN ?_ _ | refine blk_drew ?_ | refine blk_alloc ?_ _)); refine blk_put (cs := #[.bool false, .string (⟨#[]⟩ : ByteArray), .string (⟨#[]⟩ : ByteArray)]) ?_ 1 _ (by first | rfl | simp [ne_nil_b]); (with_reducible repeat (first | refine blk_drewN ?_ _ | refine blk_drew ?_ | refine blk_alloc ?_ _)); refine blk_put (cs := #[.bool false, .string (⟨#[]⟩ : ByteArray), .string (⟨#[]⟩ : ByteArray)]) ?_ 0 _ (by first | rfl | simp [ne_nil_b]); (with_reducible repeat (first | refine blk_drewN ?_ _ | refine blk_drew ?_ | refine blk_alloc ?_ _)); refine blk_far ?_ NB692_691.out _; (with_reducible repeat (first | refine blk_drewN ?_ _ | refine blk_drew ?_ | refine blk_alloc ?_ _)); refine blk_far ?_ NB692_691.out _; (with_reducible repeat (first | refine blk_drewN ?_ _ | refine blk_drew ?_ | refine blk_alloc ?_ _)); refine blk_far ?_ NB692_691.out _; (with_reducible repeat (first | refine blk_drewN ?_ _ | refine blk_drew ?_ | refine blk_alloc ?_ _)); exact BK692.out⟩, ⟨by (with_reducible repeat (first | refine blk_drewN ?_ _ | refine blk_drew ?_ | refine blk_alloc ?_ _)); refine blk_put (cs := #[.bool false, .string (⟨#[]⟩ : ByteArray), .string (⟨#[]⟩ : ByteArray)]) ?_ 2 _ (by first | rfl | simp [ne_nil_b]); (with_reducible repeat (first | refine blk_drewN ?_ _ | refine blk_drew ?_ | refine blk_alloc ?_ _)); refine blk_put (cs := #[.bool false, .string (⟨#[]⟩ : ByteArray), .string (⟨#[]⟩ : ByteArray)]) ?_ 1 _ (by first | rfl | simp [ne_nil_b]); (with_reducible repeat (first | refine blk_drewN ?_ _ | refine blk_drew ?_ | refine blk_alloc ?_ _)); refine blk_put (cs := #[.bool false, .string (⟨#[]⟩ : ByteArray), .string (⟨#[]⟩ : ByteArray)]) ?_ 0 _ (by first | rfl | simp [ne_nil_b]); (with_reducible repeat (first | refine blk_drewN ?_ _ | refine blk_drew ?_ | refine blk_alloc ?_ _)); refine blk_far ?_ NB693_692.out _; (with_reducible repeat (first | refine blk_drewN ?_ _ | refine blk_drew ?_ | refine blk_alloc ?_ _)); refine blk_far ?_ NB693_692.out _; (with_reducible repeat (first | refine blk_drewN ?_ _ | refine blk_drew ?_ | refine blk_alloc ?_ _)); refine blk_far ?_ NB693_692.out _; (with_reducible repeat (first | refine blk_drewN ?_ _ | refine blk_drew ?_ | refine blk_alloc ?_ _)); refine blk_far ?_ NB693_691.out _; (with_reducible repeat (first | refine blk_drewN ?_ _ | refine blk_drew ?_ | refine blk_alloc ?_ _)); refine blk_far ?_ NB693_691.out _; (with_reducible repeat (first | refine blk_drewN ?_ _ | refine blk_drew ?_ | refine blk_alloc ?_ _)); refine blk_far ?_ NB693_691.out _; (with_reducible repeat (first | refine blk_drewN ?_ _ | refine blk_drew ?_ | refine blk_alloc ?_ _)); exact BK693.out⟩, ⟨xs HB⟩⟩
 case round =>
  clear H'
  try clear c1
  try clear c2
  try clear p2
  try clear c4
  try clear c4b0
  try clear c4b1
  try clear c5
  try clear c5b0
  try clear c5b1
  try clear c12
  try clear c13
  try clear c14
  try clear c16
  try clear c17
  try clear c19
  try clear hcz15_0
  try clear hcz15_1
  try clear hcz15_2
  try clear hcz18_0
  try clear hcz18_1
  try clear hcz18_2
  try clear hcz20_0
  try clear hcz20_1
  try clear hcz20_2
  try clear hfz15_0
  try clear hfz15_1
  try clear hfz15_2
  try clear hfz18_0
  try clear hfz18_1
  try clear hfz18_2
  try clear hfz20_0
  try clear hfz20_1
  try clear hfz20_2
  obtain ⟨x7_1, x22_1, x688000_1, x688001_1, x688002_1, x692000_1, x692001_1, x692002_1, x693000_1, x693001_1, x693002_1, x694000_1, x694001_1, x694002_1, rfl, HA, HK1, HO_7, BK687, BK691, BK692, BK693, HB⟩ := hrel
  cases gk with
  | zero => exact absurd HA.out (by simp [guarantee_Rates.l0])
  | succ k1 =>
   have H := HA.out
   clear HA
   simp only [guarantee_Rates.l0] at H
   by_cases c21 : x22_1 < (l1.length : Int)
   ·rw [if_pos c21] at H
    have c21b0 : decide (x22_1 < (l1.length : Int)) = true := decide_eq_true c21
    clear c21
    by_cases c22 : 0 ≤ x22_1
    rotate_left
    ·rw [if_neg c22] at H
     exact absurd H (by simp)
    rw [if_pos c22] at H
    have c22b0 : decide (0 ≤ x22_1) = true := decide_eq_true c22
    clear c22
    by_cases c23 : x22_1 < (l1.length : Int)
    rotate_left
    ·rw [if_neg c23] at H
     exact absurd H (by simp)
    rw [if_pos c23] at H
    have c23b0 : decide (x22_1 < (l1.length : Int)) = true := decide_eq_true c23
    clear c23
    replace H := xH H; obtain ⟨⟨t696, t697, t698⟩, A24, H⟩ := H
    dsimp only at H
    replace H := xH H; obtain ⟨⟨t699, t700, t701⟩, A25, H⟩ := H
    dsimp only at H
    have HC26 := Aside0.mk H
    clear H
    have p694 : 0 ≤ (x22_1 : Int) := xa
    have q694 : x22_1 < (l1.length : Int) := xa
    obtain ⟨ad694, e694, hx694_0, hx694_1, hx694_2⟩ := at_T25 HR1.out x22_1 p694 q694
    cases e694
    (try replace hx694_0 := (HB.out.cell (World.block_lt_of_cell? w _ hx694_0)).trans hx694_0)
    (try replace hx694_1 := (HB.out.cell (World.block_lt_of_cell? w _ hx694_1)).trans hx694_1)
    (try replace hx694_2 := (HB.out.cell (World.block_lt_of_cell? w _ hx694_2)).trans hx694_2)
    replace p694 := eq_true p694
    replace q694 := eq_true q694
    try go_wp2_with (first | (refine xE (N := 12) #[.bool false, .string (⟨#[]⟩ : ByteArray), .string (⟨#[]⟩ : ByteArray)] 25 rfl ?_; intro gb695 hg w27 hbox hb; replace HO_7 := Aside0.mk (Kd.R_below (Kd.R_elderB (xr HO_7.out) gb695 (Nat.le_of_eq hg.symm)) hb); have BK695 := Aside0.mk (hbox); have GW695 := (xG HB hg); have GE695 := (xG HB hg); replace HB := xS HB hb; have NB687_695 := xL BK687 hg; have NB695_687 := xR BK687 hg; replace BK687 := xB BK687 hb; have NB691_695 := xL BK691 hg; have NB695_691 := xR BK691 hg; replace BK691 := xB BK691 hb; have NB692_695 := xL BK692 hg; have NB695_692 := xR BK692 hg; replace BK692 := xB BK692 hb; have NB693_695 := xL BK693 hg; have NB695_693 := xR BK693 hg; replace BK693 := xB BK693 hb; clear hb hbox hg; have hnb28 := NB695_687.out; have hnc28 := NB687_695.out; have hnb29 := NB695_691.out; have hnc29 := NB691_695.out; have hnb30 := NB695_692.out; have hnc30 := NB692_695.out; have hnb31 := NB695_693.out; have hnc31 := NB693_695.out; obtain ⟨hcz32_0, hcz32_1, hcz32_2, hfz32_0, hfz32_1, hfz32_2⟩ := x6 BK695))
    have n0_ : Aside0 (Kd.R k25 25 (((w27.setCell ⟨gb695, 0, none⟩ (.bool ((rd_T25 l1 x22_1).f0))).setCell ⟨gb695, 1, none⟩ (.string ((rd_T25 l1 x22_1).f1))).setCell ⟨gb695, 2, none⟩ (.string ((rd_T25 l1 x22_1).f2))) w.heap.size (fun k_ => k_ ≠ gb687 ∧ k_ ≠ gb691 ∧ k_ ≠ gb692 ∧ k_ ≠ gb693 ∧ k_ ≠ gb695) v689 x7_1) := ⟨by (with_reducible repeat (first | apply Kd.R_alloc | apply Kd.R_drewN | apply Kd.R_drew)); exact Kd.R_mono (Kd.R_far (p := ⟨gb695, 2, none⟩) (Kd.R_far (p := ⟨gb695, 1, none⟩) (Kd.R_far (p := ⟨gb695, 0, none⟩) (Kd.R_mono HO_7.out (fun k_ hk => (⟨hk, hk.2⟩ : _ ∧ k_ ≠ gb695))) (fun _ hk => hk.2) (.bool ((rd_T25 l1 x22_1).f0))) (fun _ hk => hk.2) (.string ((rd_T25 l1 x22_1).f1))) (fun _ hk => hk.2) (.string ((rd_T25 l1 x22_1).f2))) (fun _ hk => ⟨hk.1.1.1, ⟨hk.1.1.2.1, ⟨hk.1.1.2.2.1, ⟨hk.1.1.2.2.2, hk.1.2⟩⟩⟩⟩)⟩
    have n1_ : Aside0 ((((w27.setCell ⟨gb695, 0, none⟩ (.bool ((rd_T25 l1 x22_1).f0))).setCell ⟨gb695, 1, none⟩ (.string ((rd_T25 l1 x22_1).f1))).setCell ⟨gb695, 2, none⟩ (.string ((rd_T25 l1 x22_1).f2))).heap[gb687]? = some (.cells #[.bool x688000_1, .string x688001_1, .string x688002_1] 25 (0, 0))) := ⟨xb BK687⟩
    have n2_ : Aside0 ((((w27.setCell ⟨gb695, 0, none⟩ (.bool ((rd_T25 l1 x22_1).f0))).setCell ⟨gb695, 1, none⟩ (.string ((rd_T25 l1 x22_1).f1))).setCell ⟨gb695, 2, none⟩ (.string ((rd_T25 l1 x22_1).f2))).heap[gb691]? = some (.cells #[.bool x692000_1, .string x692001_1, .string x692002_1] 25 (0, 0))) := ⟨xb BK691⟩
    have n3_ : Aside0 ((((w27.setCell ⟨gb695, 0, none⟩ (.bool ((rd_T25 l1 x22_1).f0))).setCell ⟨gb695, 1, none⟩ (.string ((rd_T25 l1 x22_1).f1))).setCell ⟨gb695, 2, none⟩ (.string ((rd_T25 l1 x22_1).f2))).heap[gb692]? = some (.cells #[.bool x693000_1, .string x693001_1, .string x693002_1] 25 (0, 0))) := ⟨xb BK692⟩
    have n4_ : Aside0 ((((w27.setCell ⟨gb695, 0, none⟩ (.bool ((rd_T25 l1 x22_1).f0))).setCell ⟨gb695, 1, none⟩ (.string ((rd_T25 l1 x22_1).f1))).setCell ⟨gb695, 2, none⟩ (.string ((rd_T25 l1 x22_1).f2))).heap[gb693]? = some (.cells #[.bool x694000_1, .string x694001_1, .string x694002_1] 25 (0, 0))) := ⟨xb BK693⟩
    have n5_ : Aside0 ((((w27.setCell ⟨gb695, 0, none⟩ (.bool ((rd_T25 l1 x22_1).f0))).setCell ⟨gb695, 1, none⟩ (.string ((rd_T25 l1 x22_1).f1))).setCell ⟨gb695, 2, none⟩ (.string ((rd_T25 l1 x22_1).f2))).heap[gb695]? = some (.cells #[.bool ((rd_T25 l1 x22_1).f0), .string ((rd_T25 l1 x22_1).f1), .string ((rd_T25 l1 x22_1).f2)] 25 (0, 0))) := ⟨xp BK695⟩
    have n6_ : Aside0 (Below w.heap.size w (((w27.setCell ⟨gb695, 0, none⟩ (.bool ((rd_T25 l1 x22_1).f0))).setCell ⟨gb695, 1, none⟩ (.string ((rd_T25 l1 x22_1).f1))).setCell ⟨gb695, 2, none⟩ (.string ((rd_T25 l1 x22_1).f2)))) := ⟨xs HB⟩
    (try clear HO_7)
    (try clear BK687)
    (try clear BK691)
    (try clear BK692)
    (try clear BK693)
    (try clear BK695)
    (try clear HB)
    generalize (((w27.setCell ⟨gb695, 0, none⟩ (.bool ((rd_T25 l1 x22_1).f0))).setCell ⟨gb695, 1, none⟩ (.string ((rd_T25 l1 x22_1).f1))).setCell ⟨gb695, 2, none⟩ (.string ((rd_T25 l1 x22_1).f2))) = w33 at n0_ n1_ n2_ n3_ n4_ n5_ n6_ ⊢
    have HO_7 := n0_
    have BK687 := n1_
    have BK691 := n2_
    have BK692 := n3_
    have BK693 := n4_
    have BK695 := n5_
    have HB := n6_
    clear n0_ n1_ n2_ n3_ n4_ n5_ n6_
    replace HO_7 := Aside0.mk (Kd.R_drew HO_7.out)
    replace BK687 := xD BK687
    replace BK691 := xD BK691
    replace BK692 := xD BK692
    replace BK693 := xD BK693
    replace BK695 := xD BK695
    replace HB := xW HB
    refine start_ (n := 5) (S := fun w' => w'.cell? ⟨gb691, 0, none⟩ = some (.bool x692000_1) ∧ w'.cell? ⟨gb691, 1, none⟩ = some (.string x692001_1) ∧ w'.cell? ⟨gb691, 2, none⟩ = some (.string x692002_1) ∧ w'.cell? ⟨gb695, 0, none⟩ = some (.bool ((rd_T25 l1 x22_1).f0)) ∧ w'.cell? ⟨gb695, 1, none⟩ = some (.string ((rd_T25 l1 x22_1).f1)) ∧ w'.cell? ⟨gb695, 2, none⟩ = some (.string ((rd_T25 l1 x22_1).f2))) (ds := [4]) #[false, false, false, false, false] (by kernel_rfl) rfl rfl xV (fun hHeld => ?_)
    generalize w33.drew = w34 at HO_7 BK687 BK691 BK692 BK693 BK695 HB hHeld ⊢
    refine xT 0 (some 27) (b 5 1) rfl rfl hHeld ?_
    refine xT 1 (some 28) (b 5 3) rfl rfl hHeld ?_
    refine xO 2 (some 29) (b 5 7) rfl rfl fun K hK => ?_
    refine xc Tryd.func35 (guarantee_positive.calls k1 ((rd_T25 l1 x22_1).f0) ((rd_T25 l1 x22_1).f1) ((rd_T25 l1 x22_1).f2) t696 t697 t698 _ A24.out) ?_
    rintro w35 hb
    replace HO_7 := Aside0.mk (Kd.R_below (xr HO_7.out) hb)
    replace BK687 := xB BK687 hb
    replace BK691 := xB BK691 hb
    replace BK692 := xB BK692 hb
    replace BK693 := xB BK693 hb
    replace BK695 := xB BK695 hb
    replace HB := xS HB hb
    clear hb
    refine hK.out _ _ xV (fun hHeld => ?_)
    clear hK K
    refine xN 29 ?_
    refine xO 3 (some 30) (b 5 15) rfl rfl fun K hK => ?_
    refine xc Tryd.func21 (rational_Add.calls k1 x692000_1 x692001_1 x692002_1 t696 t697 t698 t699 t700 t701 _ A25.out) ?_
    rintro w36 hb
    replace HO_7 := Aside0.mk (Kd.R_below (xr HO_7.out) hb)
    replace BK687 := xB BK687 hb
    replace BK691 := xB BK691 hb
    replace BK692 := xB BK692 hb
    replace BK693 := xB BK693 hb
    replace BK695 := xB BK695 hb
    replace HB := xS HB hb
    clear hb
    refine hK.out _ _ xV (fun hHeld => ?_)
    clear hK K
    refine xN 30 ?_
    refine xZ 4 none (b 5 31) rfl rfl fun K hK => ?_
    obtain ⟨hs37, hs38, hs39, hfs37, hfs38, hfs39⟩ := x6 BK691
    have hns37_0 := NB687_691.out
    have hns37_2 := NB692_691.out
    have hns37_3 := NB693_691.out
    have hns37_4 := NB695_691.out
    have hms37_0 := NB691_687.out
    have hms37_2 := NB691_692.out
    have hms37_3 := NB691_693.out
    have hms37_4 := NB691_695.out
    refine xk ?_
    refine hK.out _ _ ?_
    clear hK K
    refine done_ (by kernel_rfl) ?_
    go_upto_if 34 with (fail)
    repeat (go_quiet (fail); go_upto_if 34 with (fail))
    go_cut [] (fun wc => ∃ (kq : Nat) (x693000_25 : Bool) (x693001_25 : ByteArray) (x693002_25 : ByteArray), Aside0 (guarantee_Rates.j1 kq l2 x7_1 x22_1 l1 (l1.length : Int) x22_1 x688000_1 x688001_1 x688002_1 t699 t700 t701 x693000_25 x693001_25 x693002_25 x694000_1 x694001_1 x694002_1 = some r) ∧ Aside0 (kq ≤ k1) ∧ Aside0 (Kd.R k25 25 wc w.heap.size (fun k_ => k_ ≠ gb687 ∧ k_ ≠ gb691 ∧ k_ ≠ gb692 ∧ k_ ≠ gb693 ∧ k_ ≠ gb695) v689 x7_1) ∧ Aside0 (wc.heap[gb687]? = some (.cells #[.bool x688000_1, .string x688001_1, .string x688002_1] 25 (0, 0))) ∧ Aside0 (wc.heap[gb691]? = some (.cells #[.bool t699, .string t700, .string t701] 25 (0, 0))) ∧ Aside0 (wc.heap[gb692]? = some (.cells #[.bool x693000_25, .string x693001_25, .string x693002_25] 25 (0, 0))) ∧ Aside0 (wc.heap[gb693]? = some (.cells #[.bool x694000_1, .string x694001_1, .string x694002_1] 25 (0, 0))) ∧ Aside0 (wc.heap[gb695]? = some (.cells #[.bool ((rd_T25 l1 x22_1).f0), .string ((rd_T25 l1 x22_1).f1), .string ((rd_T25 l1 x22_1).f2)] 25 (0, 0))) ∧ Aside0 (Below w.heap.size w wc))
    case first =>
     have H := HC26.out
     clear HC26
     by_cases c40 : x22_1 < (l2.length : Int)
     ·rw [if_pos c40] at H
      have c40b0 : decide (x22_1 < (l2.length : Int)) = true := decide_eq_true c40
      clear c40
      (first | rw [c40b0] | (simp only [i64_w, i32_w]; rw [c40b0]) | skip)
      replace H := xH H; obtain ⟨⟨t703, t704, t705⟩, A41, H⟩ := H
      dsimp only at H
      replace H := xH H; obtain ⟨⟨t706, t707, t708⟩, A42, H⟩ := H
      dsimp only at H
      have H' := Aside0.mk H
      clear H
      try go_wp2
      have n0_ : Aside0 (Kd.R k25 25 (((w36.setCell ⟨gb691, 0, none⟩ (.bool t699)).setCell ⟨gb691, 1, none⟩ (.string t700)).setCell ⟨gb691, 2, none⟩ (.string t701)) w.heap.size (fun k_ => k_ ≠ gb687 ∧ k_ ≠ gb691 ∧ k_ ≠ gb692 ∧ k_ ≠ gb693 ∧ k_ ≠ gb695) v689 x7_1) := ⟨by (with_reducible repeat (first | apply Kd.R_alloc | apply Kd.R_drewN | apply Kd.R_drew)); exact Kd.R_mono (Kd.R_far (p := ⟨gb691, 2, none⟩) (Kd.R_far (p := ⟨gb691, 1, none⟩) (Kd.R_far (p := ⟨gb691, 0, none⟩) (Kd.R_mono HO_7.out (fun k_ hk => (⟨hk, hk.2.1⟩ : _ ∧ k_ ≠ gb691))) (fun _ hk => hk.2) (.bool t699)) (fun _ hk => hk.2) (.string t700)) (fun _ hk => hk.2) (.string t701)) (fun _ hk => ⟨hk.1.1, ⟨hk.1.2.1, ⟨hk.1.2.2.1, ⟨hk.1.2.2.2.1, hk.1.2.2.2.2⟩⟩⟩⟩)⟩
      have n1_ : Aside0 ((((w36.setCell ⟨gb691, 0, none⟩ (.bool t699)).setCell ⟨gb691, 1, none⟩ (.string t700)).setCell ⟨gb691, 2, none⟩ (.string t701)).heap[gb687]? = some (.cells #[.bool x688000_1, .string x688001_1, .string x688002_1] 25 (0, 0))) := ⟨xb BK687⟩
      have n2_ : Aside0 ((((w36.setCell ⟨gb691, 0, none⟩ (.bool t699)).setCell ⟨gb691, 1, none⟩ (.string t700)).setCell ⟨gb691, 2, none⟩ (.string t701)).heap[gb691]? = some (.cells #[.bool t699, .string t700, .string t701] 25 (0, 0))) := ⟨xp BK691⟩
      have n3_ : Aside0 ((((w36.setCell ⟨gb691, 0, none⟩ (.bool t699)).setCell ⟨gb691, 1, none⟩ (.string t700)).setCell ⟨gb691, 2, none⟩ (.string t701)).heap[gb692]? = some (.cells #[.bool x693000_1, .string x693001_1, .string x693002_1] 25 (0, 0))) := ⟨xb BK692⟩
      have n4_ : Aside0 ((((w36.setCell ⟨gb691, 0, none⟩ (.bool t699)).setCell ⟨gb691, 1, none⟩ (.string t700)).setCell ⟨gb691, 2, none⟩ (.string t701)).heap[gb693]? = some (.cells #[.bool x694000_1, .string x694001_1, .string x694002_1] 25 (0, 0))) := ⟨xb BK693⟩
      have n5_ : Aside0 ((((w36.setCell ⟨gb691, 0, none⟩ (.bool t699)).setCell ⟨gb691, 1, none⟩ (.string t700)).setCell ⟨gb691, 2, none⟩ (.string t701)).heap[gb695]? = some (.cells #[.bool ((rd_T25 l1 x22_1).f0), .string ((rd_T25 l1 x22_1).f1), .string ((rd_T25 l1 x22_1).f2)] 25 (0, 0))) := ⟨xb BK695⟩
      have n6_ : Aside0 (Below w.heap.size w (((w36.setCell ⟨gb691, 0, none⟩ (.bool t699)).setCell ⟨gb691, 1, none⟩ (.string t700)).setCell ⟨gb691, 2, none⟩ (.string t701))) := ⟨xs HB⟩
      (try clear HO_7)
      (try clear BK687)
      (try clear BK691)
      (try clear BK692)
      (try clear BK693)
      (try clear BK695)
      (try clear HB)
      generalize (((w36.setCell ⟨gb691, 0, none⟩ (.bool t699)).setCell ⟨gb691, 1, none⟩ (.string t700)).setCell ⟨gb691, 2, none⟩ (.string t701)) = w43 at n0_ n1_ n2_ n3_ n4_ n5_ n6_ ⊢
      have HO_7 := n0_
      have BK687 := n1_
      have BK691 := n2_
      have BK692 := n3_
      have BK693 := n4_
      have BK695 := n5_
      have HB := n6_
      clear n0_ n1_ n2_ n3_ n4_ n5_ n6_
      replace HO_7 := Aside0.mk (Kd.R_drew HO_7.out)
      replace BK687 := xD BK687
      replace BK691 := xD BK691
      replace BK692 := xD BK692
      replace BK693 := xD BK693
      replace BK695 := xD BK695
      replace HB := xW HB
      have p702 : 0 ≤ (x22_1 : Int) := xa
      have q702 : x22_1 < (l2.length : Int) := xa
      obtain ⟨ad702, e702, hx702_0, hx702_1, hx702_2⟩ := at_T25 HR2.out x22_1 p702 q702
      have hw702_2 := hx702_2
      have hw702_1 := hx702_1
      have hw702_0 := hx702_0
      cases e702
      (try replace hx702_0 := (HB.out.cell (World.block_lt_of_cell? w _ hx702_0)).trans hx702_0)
      (try replace hx702_1 := (HB.out.cell (World.block_lt_of_cell? w _ hx702_1)).trans hx702_1)
      (try replace hx702_2 := (HB.out.cell (World.block_lt_of_cell? w _ hx702_2)).trans hx702_2)
      replace p702 := eq_true p702
      replace q702 := eq_true q702
      refine start_ (n := 8) (S := fun w' => w'.cell? ⟨gb692, 0, none⟩ = some (.bool x693000_1) ∧ w'.cell? ⟨gb692, 1, none⟩ = some (.string x693001_1) ∧ w'.cell? ⟨gb692, 2, none⟩ = some (.string x693002_1) ∧ w'.cell? (ad702.add ((x22_1).toNat * 3)) = some (.bool ((rd_T25 l2 x22_1).f0)) ∧ w'.cell? ⟨(ad702.add ((x22_1).toNat * 3)).block, (ad702.add ((x22_1).toNat * 3)).off + 1, none⟩ = some (.string ((rd_T25 l2 x22_1).f1)) ∧ w'.cell? ⟨(ad702.add ((x22_1).toNat * 3)).block, (ad702.add ((x22_1).toNat * 3)).off + 2, none⟩ = some (.string ((rd_T25 l2 x22_1).f2))) (ds := [7]) #[false, false, false, false, false, false, false, false] (by kernel_rfl) rfl rfl ⟨(blk_cell BK692.out 0).trans rfl, (blk_cell BK692.out 1).trans rfl, (blk_cell BK692.out 2).trans rfl, ((HB.out.cell (World.block_lt_of_cell? w _ hw702_0)).trans hw702_0), ((HB.out.cell (World.block_lt_of_cell? w _ hw702_1)).trans hw702_1), ((HB.out.cell (World.block_lt_of_cell? w _ hw702_2)).trans hw702_2)⟩ (fun hHeld => ?_); refine with_tabW guarantee_Rates.tab8 guarantee_Rates.bits8 (fun HT_ HW_ => ?_)
      generalize w43.drew = w44 at HO_7 BK687 BK691 BK692 BK693 BK695 HB hx702_0 hx702_1 hx702_2 hHeld ⊢
      refine xP 1 (some 36) (b 8 2) rfl rfl ?_
      refine xP 2 (some 37) (b 8 6) rfl rfl ?_
      refine xP 3 (some 38) (b 8 14) rfl rfl ?_
      refine xT 0 (some 35) (b 8 15) rfl rfl hHeld ?_
      refine xT 4 (some 39) (b 8 31) rfl rfl hHeld ?_
      refine xO 5 (some 40) (b 8 63) rfl rfl fun K hK => ?_
      refine xc Tryd.func35 (guarantee_positive.calls k1 ((rd_T25 l2 x22_1).f0) ((rd_T25 l2 x22_1).f1) ((rd_T25 l2 x22_1).f2) t703 t704 t705 _ A41.out) ?_
      rintro w45 hb
      replace HO_7 := Aside0.mk (Kd.R_below (xr HO_7.out) hb)
      replace BK687 := xB BK687 hb
      replace BK691 := xB BK691 hb
      replace BK692 := xB BK692 hb
      replace BK693 := xB BK693 hb
      replace BK695 := xB BK695 hb
      replace HB := xS HB hb
      clear hb
      refine hK.out _ _ ⟨(blk_cell BK692.out 0).trans rfl, (blk_cell BK692.out 1).trans rfl, (blk_cell BK692.out 2).trans rfl, ((HB.out.cell (World.block_lt_of_cell? w _ hw702_0)).trans hw702_0), ((HB.out.cell (World.block_lt_of_cell? w _ hw702_1)).trans hw702_1), ((HB.out.cell (World.block_lt_of_cell? w _ hw702_2)).trans hw702_2)⟩ (fun hHeld => ?_)
      clear hK K
      refine xN 40 ?_
      refine xO 6 (some 41) (b 8 127) rfl rfl fun K hK => ?_
      refine xc Tryd.func21 (rational_Add.calls k1 x693000_1 x693001_1 x693002_1 t703 t704 t705 t706 t707 t708 _ A42.out) ?_
      rintro w46 hb
      replace HO_7 := Aside0.mk (Kd.R_below (xr HO_7.out) hb)
      replace BK687 := xB BK687 hb
      replace BK691 := xB BK691 hb
      replace BK692 := xB BK692 hb
      replace BK693 := xB BK693 hb
      replace BK695 := xB BK695 hb
      replace HB := xS HB hb
      clear hb
      refine hK.out _ _ ⟨(blk_cell BK692.out 0).trans rfl, (blk_cell BK692.out 1).trans rfl, (blk_cell BK692.out 2).trans rfl, ((HB.out.cell (World.block_lt_of_cell? w _ hw702_0)).trans hw702_0), ((HB.out.cell (World.block_lt_of_cell? w _ hw702_1)).trans hw702_1), ((HB.out.cell (World.block_lt_of_cell? w _ hw702_2)).trans hw702_2)⟩ (fun hHeld => ?_)
      clear hK K
      refine xN 41 ?_
      refine xZ 7 none (b 8 255) rfl rfl fun K hK => ?_
      obtain ⟨hs47, hs48, hs49, hfs47, hfs48, hfs49⟩ := x6 BK692
      have hns47_0 := NB687_692.out
      have hns47_1 := NB691_692.out
      have hns47_3 := NB693_692.out
      have hns47_4 := NB695_692.out
      have hms47_0 := NB692_687.out
      have hms47_1 := NB692_691.out
      have hms47_3 := NB692_693.out
      have hms47_4 := NB692_695.out
      refine xk ?_
      refine hK.out _ _ ?_
      clear hK K
      refine done_ (done_of HT_.out (by kernel_rfl)) ?_
      try go_wp2
      go_meet
      case rel => exact ⟨_, (t706), (t707), (t708), H', ⟨by have := HK1.out; first | omega | exact Nat.le_refl _⟩, ⟨by (with_reducible repeat (first | apply Kd.R_alloc | apply Kd.R_drewN | apply Kd.R_drew)); exact Kd.R_mono (Kd.R_far (p := ⟨gb692, 2, none⟩) (Kd.R_far (p := ⟨gb692, 1, none⟩) (Kd.R_far (p := ⟨gb692, 0, none⟩) (Kd.R_mono HO_7.out (fun k_ hk => (⟨hk, hk.2.2.1⟩ : _ ∧ k_ ≠ gb692))) (fun _ hk => hk.2) (.bool t706)) (fun _ hk => hk.2) (.string t707)) (fun _ hk => hk.2) (.string t708)) (fun _ hk => ⟨hk.1.1, ⟨hk.1.2.1, ⟨hk.1.2.2.1, ⟨hk.1.2.2.2.1, hk.1.2.2.2.2⟩⟩⟩⟩)⟩, ⟨xb BK687⟩, ⟨xb BK691⟩, ⟨by (with_reducible repeat (first | refine blk_drewN ?_ _ | refine blk_drew ?_ | refine blk_alloc ?_ _)); refine blk_put (cs := #[.bool t706, .string t707, .string x693002_1]) ?_ 2 _ (by first | rfl | simp [ne_nil_b]); (with_reducible repeat (first | refine blk_drewN ?_ _ | refine blk_drew ?_ | refine blk_alloc ?_ _)); refine blk_put (cs := #[.bool t706, .string x693001_1, .string x693002_1]) ?_ 1 _ (by first | rfl | simp [ne_nil_b]); (with_reducible repeat (first | refine blk_drewN ?_ _ | refine blk_drew ?_ | refine blk_alloc ?_ _)); refine blk_put (cs := #[.bool x693000_1, .string x693001_1, .string x693002_1]) ?_ 0 _ (by first | rfl | simp [ne_nil_b]); (with_reducible repeat (first | refine blk_drewN ?_ _ | refine blk_drew ?_ | refine blk_alloc ?_ _)); exact BK692.out⟩, ⟨xb BK693⟩, ⟨xb BK695⟩, ⟨xs HB⟩⟩
     ·rw [if_neg c40] at H
      have c40b0 : decide (x22_1 < (l2.length : Int)) = false := decide_eq_false c40
      clear c40
      (first | rw [c40b0] | (simp only [i64_w, i32_w]; rw [c40b0]) | skip)
      have H' := Aside0.mk H
      clear H
      go_wp2
      go_meet
      case rel => exact ⟨_, (x693000_1), (x693001_1), (x693002_1), H', ⟨by have := HK1.out; first | omega | exact Nat.le_refl _⟩, ⟨by (with_reducible repeat (first | apply Kd.R_alloc | apply Kd.R_drewN | apply Kd.R_drew)); exact Kd.R_mono (Kd.R_far (p := ⟨gb691, 2, none⟩) (Kd.R_far (p := ⟨gb691, 1, none⟩) (Kd.R_far (p := ⟨gb691, 0, none⟩) (Kd.R_mono HO_7.out (fun k_ hk => (⟨hk, hk.2.1⟩ : _ ∧ k_ ≠ gb691))) (fun _ hk => hk.2) (.bool t699)) (fun _ hk => hk.2) (.string t700)) (fun _ hk => hk.2) (.string t701)) (fun _ hk => ⟨hk.1.1, ⟨hk.1.2.1, ⟨hk.1.2.2.1, ⟨hk.1.2.2.2.1, hk.1.2.2.2.2⟩⟩⟩⟩)⟩, ⟨xb BK687⟩, ⟨by (with_reducible repeat (first | refine blk_drewN ?_ _ | refine blk_drew ?_ | refine blk_alloc ?_ _)); refine blk_put (cs := #[.bool t699, .string t700, .string x692002_1]) ?_ 2 _ (by first | rfl | simp [ne_nil_b]); (with_reducible repeat (first | refine blk_drewN ?_ _ | refine blk_drew ?_ | refine blk_alloc ?_ _)); refine blk_put (cs := #[.bool t699, .string x692001_1, .string x692002_1]) ?_ 1 _ (by first | rfl | simp [ne_nil_b]); (with_reducible repeat (first | refine blk_drewN ?_ _ | refine blk_drew ?_ | refine blk_alloc ?_ _)); refine blk_put (cs := #[.bool x692000_1, .string x692001_1, .string x692002_1]) ?_ 0 _ (by first | rfl | simp [ne_nil_b]); (with_reducible repeat (first | refine blk_drewN ?_ _ | refine blk_drew ?_ | refine blk_alloc ?_ _)); exact BK691.out⟩, ⟨xb BK692⟩, ⟨xb BK693⟩, ⟨xb BK695⟩, ⟨xs HB⟩⟩
    case rest =>
     clear HC26
     try clear c1
     try clear c2
     try clear p2
     try clear c3
     try clear c4
     try clear c4b0
     try clear c4b1
     try clear c5
     try clear c5b0
     try clear c5b1
     try clear p6
     try clear q6
     try clear hx6
     try clear p7
     try clear q7
     try clear hx7
     try clear c12
     try clear c13
     try clear c14
     try clear c16
     try clear c17
     try clear c19
     try clear c21
     try clear c21b0
     try clear c22
     try clear c22b0
     try clear c23
     try clear c23b0
     try clear c28
     try clear c29
     try clear c30
     try clear c31
     try clear c35
     try clear c40
     try clear c40b0
     try clear hcz15_0
     try clear hcz15_1
     try clear hcz15_2
     try clear hcz18_0
     try clear hcz18_1
     try clear hcz18_2
     try clear hcz20_0
     try clear hcz20_1
     try clear hcz20_2
     try clear hcz32_0
     try clear hcz32_1
     try clear hcz32_2
     try clear hfz15_0
     try clear hfz15_1
     try clear hfz15_2
     try clear hfz18_0
     try clear hfz18_1
     try clear hfz18_2
     try clear hfz20_0
     try clear hfz20_1
     try clear hfz20_2
     try clear hfz32_0
     try clear hfz32_1
     try clear hfz32_2
     try clear hx694_0
     try clear hx694_1
     try clear hx694_2
     try clear hx702_0
     try clear hx702_1
     try clear hx702_2
     try clear p2
     try clear p694
     try clear p702
     try clear q694
     try clear q702
     obtain ⟨kq, x693000_25, x693001_25, x693002_25, HA, HJ25, HO_7, BK687, BK691, BK692, BK693, BK695, HB⟩ := hcut
     cases kq with
     | zero => exact absurd HA.out (by simp [guarantee_Rates.j1])
     | succ kj25 =>
      have H := HA.out
      clear HA
      simp only [guarantee_Rates.j1] at H
      replace H := xH H; obtain ⟨⟨t710, t711, t712⟩, A50, H⟩ := H
      dsimp only at H
      replace H := xH H; obtain ⟨t713, A51, H⟩ := H
      by_cases c52 : t713 ≥ 0
      ·rw [if_pos c52] at H
       have c52b0 : decide (0 ≤ t713) = true := decide_eq_true c52
       clear c52
       replace H := xH H; obtain ⟨⟨t714, t715, t716⟩, A53, H⟩ := H
       dsimp only at H
       by_cases c54 : 0 ≤ x22_1
       rotate_left
       ·rw [if_neg c54] at H
        exact absurd H (by simp)
       rw [if_pos c54] at H
       have c54b0 : decide (0 ≤ x22_1) = true := decide_eq_true c54
       clear c54
       by_cases c55 : x22_1 < (x7_1.length : Int)
       rotate_left
       ·rw [if_neg c55] at H
        exact absurd H (by simp)
       rw [if_pos c55] at H
       have c55b0 : decide (x22_1 < (x7_1.length : Int)) = true := decide_eq_true c55
       clear c55
       obtain ⟨y717, hy717⟩ : ∃ y_ : List (S25), y_ = (x7_1.set (x22_1 : Int).toNat (⟨t714, t715, t716⟩ : S25)) := ⟨_, rfl⟩
       replace H : (guarantee_Rates.l0 kj25 l2 y717 l1 (l1.length : Int) (wrap64 (x22_1 + 1)) x688000_1 x688001_1 x688002_1 t699 t700 t701 x693000_25 x693001_25 x693002_25 x693000_25 x693001_25 x693002_25) = some r := by first | (rw [hy717]; with_reducible exact H) | (have H2_ := (Option.bind_some _ _).symm.trans H; rw [hy717]; with_reducible exact H2_) | (have H2_ := (Option.bind_some _ _).symm.trans H; with_reducible exact H2_) | with_reducible exact H | (rw [hy717]; exact H) | exact H
       have Ny717 := Aside0.mk hy717
       clear hy717
       have H' := Aside0.mk H
       clear H
       try go_wp2_with (first | (refine xE (N := 13) #[.bool false, .string (⟨#[]⟩ : ByteArray), .string (⟨#[]⟩ : ByteArray)] 25 rfl ?_; intro gb709 hg w57 hbox hb; replace HO_7 := Aside0.mk (Kd.R_below (Kd.R_elderB (xr HO_7.out) gb709 (Nat.le_of_eq hg.symm)) hb); have BK709 := Aside0.mk (hbox); have GW709 := (xG HB hg); have GE709 := (xG HB hg); replace HB := xS HB hb; have NB687_709 := xL BK687 hg; have NB709_687 := xR BK687 hg; replace BK687 := xB BK687 hb; have NB691_709 := xL BK691 hg; have NB709_691 := xR BK691 hg; replace BK691 := xB BK691 hb; have NB692_709 := xL BK692 hg; have NB709_692 := xR BK692 hg; replace BK692 := xB BK692 hb; have NB693_709 := xL BK693 hg; have NB709_693 := xR BK693 hg; replace BK693 := xB BK693 hb; have NB695_709 := xL BK695 hg; have NB709_695 := xR BK695 hg; replace BK695 := xB BK695 hb; clear hb hbox hg; have hnb58 := NB709_687.out; have hnc58 := NB687_709.out; have hnb59 := NB709_691.out; have hnc59 := NB691_709.out; have hnb60 := NB709_692.out; have hnc60 := NB692_709.out; have hnb61 := NB709_693.out; have hnc61 := NB693_709.out; have hnb62 := NB709_695.out; have hnc62 := NB695_709.out; obtain ⟨hcz63_0, hcz63_1, hcz63_2, hfz63_0, hfz63_1, hfz63_2⟩ := x6 BK709))
       have n0_ : Aside0 (Kd.R k25 25 (((w57.setCell ⟨gb709, 0, none⟩ (.bool false)).setCell ⟨gb709, 1, none⟩ (.string (⟨#[]⟩ : ByteArray))).setCell ⟨gb709, 2, none⟩ (.string (⟨#[]⟩ : ByteArray))) w.heap.size (fun k_ => k_ ≠ gb687 ∧ k_ ≠ gb691 ∧ k_ ≠ gb692 ∧ k_ ≠ gb693 ∧ k_ ≠ gb695 ∧ k_ ≠ gb709) v689 x7_1) := ⟨by (with_reducible repeat (first | apply Kd.R_alloc | apply Kd.R_drewN | apply Kd.R_drew)); exact Kd.R_mono (Kd.R_far (p := ⟨gb709, 2, none⟩) (Kd.R_far (p := ⟨gb709, 1, none⟩) (Kd.R_far (p := ⟨gb709, 0, none⟩) (Kd.R_mono HO_7.out (fun k_ hk => (⟨hk, hk.2⟩ : _ ∧ k_ ≠ gb709))) (fun _ hk => hk.2) (.bool false)) (fun _ hk => hk.2) (.string (⟨#[]⟩ : ByteArray))) (fun _ hk => hk.2) (.string (⟨#[]⟩ : ByteArray))) (fun _ hk => ⟨hk.1.1.1, ⟨hk.1.1.2.1, ⟨hk.1.1.2.2.1, ⟨hk.1.1.2.2.2.1, ⟨hk.1.1.2.2.2.2, hk.1.2⟩⟩⟩⟩⟩)⟩
       have n1_ : Aside0 ((((w57.setCell ⟨gb709, 0, none⟩ (.bool false)).setCell ⟨gb709, 1, none⟩ (.string (⟨#[]⟩ : ByteArray))).setCell ⟨gb709, 2, none⟩ (.string (⟨#[]⟩ : ByteArray))).heap[gb687]? = some (.cells #[.bool x688000_1, .string x688001_1, .string x688002_1] 25 (0, 0))) := ⟨xb BK687⟩
       have n2_ : Aside0 ((((w57.setCell ⟨gb709, 0, none⟩ (.bool false)).setCell ⟨gb709, 1, none⟩ (.string (⟨#[]⟩ : ByteArray))).setCell ⟨gb709, 2, none⟩ (.string (⟨#[]⟩ : ByteArray))).heap[gb691]? = some (.cells #[.bool t699, .string t700, .string t701] 25 (0, 0))) := ⟨xb BK691⟩
       have n3_ : Aside0 ((((w57.setCell ⟨gb709, 0, none⟩ (.bool false)).setCell ⟨gb709, 1, none⟩ (.string (⟨#[]⟩ : ByteArray))).setCell ⟨gb709, 2, none⟩ (.string (⟨#[]⟩ : ByteArray))).heap[gb692]? = some (.cells #[.bool x693000_25, .string x693001_25, .string x693002_25] 25 (0, 0))) := ⟨xb BK692⟩
       have n4_ : Aside0 ((((w57.setCell ⟨gb709, 0, none⟩ (.bool false)).setCell ⟨gb709, 1, none⟩ (.string (⟨#[]⟩ : ByteArray))).setCell ⟨gb709, 2, none⟩ (.string (⟨#[]⟩ : ByteArray))).heap[gb693]? = some (.cells #[.bool x694000_1, .string x694001_1, .string x694002_1] 25 (0, 0))) := ⟨xb BK693⟩
       have n5_ : Aside0 ((((w57.setCell ⟨gb709, 0, none⟩ (.bool false)).setCell ⟨gb709, 1, none⟩ (.string (⟨#[]⟩ : ByteArray))).setCell ⟨gb709, 2, none⟩ (.string (⟨#[]⟩ : ByteArray))).heap[gb695]? = some (.cells #[.bool ((rd_T25 l1 x22_1).f0), .string ((rd_T25 l1 x22_1).f1), .string ((rd_T25 l1 x22_1).f2)] 25 (0, 0))) := ⟨xb BK695⟩
       have n6_ : Aside0 ((((w57.setCell ⟨gb709, 0, none⟩ (.bool false)).setCell ⟨gb709, 1, none⟩ (.string (⟨#[]⟩ : ByteArray))).setCell ⟨gb709, 2, none⟩ (.string (⟨#[]⟩ : ByteArray))).heap[gb709]? = some (.cells #[.bool false, .string (⟨#[]⟩ : ByteArray), .string (⟨#[]⟩ : ByteArray)] 25 (0, 0))) := ⟨xp BK709⟩
       have n7_ : Aside0 (Below w.heap.size w (((w57.setCell ⟨gb709, 0, none⟩ (.bool false)).setCell ⟨gb709, 1, none⟩ (.string (⟨#[]⟩ : ByteArray))).setCell ⟨gb709, 2, none⟩ (.string (⟨#[]⟩ : ByteArray)))) := ⟨xs HB⟩
       (try clear HO_7)
       (try clear BK687)
       (try clear BK691)
       (try clear BK692)
       (try clear BK693)
       (try clear BK695)
       (try clear BK709)
       (try clear HB)
       generalize (((w57.setCell ⟨gb709, 0, none⟩ (.bool false)).setCell ⟨gb709, 1, none⟩ (.string (⟨#[]⟩ : ByteArray))).setCell ⟨gb709, 2, none⟩ (.string (⟨#[]⟩ : ByteArray))) = w64 at n0_ n1_ n2_ n3_ n4_ n5_ n6_ n7_ ⊢
       have HO_7 := n0_
       have BK687 := n1_
       have BK691 := n2_
       have BK692 := n3_
       have BK693 := n4_
       have BK695 := n5_
       have BK709 := n6_
       have HB := n7_
       clear n0_ n1_ n2_ n3_ n4_ n5_ n6_ n7_
       replace HO_7 := Aside0.mk (Kd.R_drew HO_7.out)
       replace BK687 := xD BK687
       replace BK691 := xD BK691
       replace BK692 := xD BK692
       replace BK693 := xD BK693
       replace BK695 := xD BK695
       replace BK709 := xD BK709
       replace HB := xW HB
       refine start_ (n := 5) (S := fun w' => w'.cell? ⟨gb691, 0, none⟩ = some (.bool t699) ∧ w'.cell? ⟨gb691, 1, none⟩ = some (.string t700) ∧ w'.cell? ⟨gb691, 2, none⟩ = some (.string t701) ∧ w'.cell? ⟨gb687, 0, none⟩ = some (.bool x688000_1) ∧ w'.cell? ⟨gb687, 1, none⟩ = some (.string x688001_1) ∧ w'.cell? ⟨gb687, 2, none⟩ = some (.string x688002_1)) (ds := []) #[false, false, false, false, false] (by kernel_rfl) rfl rfl xV (fun hHeld => ?_)
       generalize w64.drew = w65 at HO_7 BK687 BK691 BK692 BK693 BK695 BK709 HB hHeld ⊢
       refine xT 0 (some 43) (b 5 1) rfl rfl hHeld ?_
       refine xT 1 (some 44) (b 5 3) rfl rfl hHeld ?_
       refine xO 2 (some 45) (b 5 7) rfl rfl fun K hK => ?_
       refine xc Tryd.func35 (guarantee_positive.calls kj25 x688000_1 x688001_1 x688002_1 t710 t711 t712 _ A50.out) ?_
       rintro w66 hb
       replace HO_7 := Aside0.mk (Kd.R_below (xr HO_7.out) hb)
       replace BK687 := xB BK687 hb
       replace BK691 := xB BK691 hb
       replace BK692 := xB BK692 hb
       replace BK693 := xB BK693 hb
       replace BK695 := xB BK695 hb
       replace BK709 := xB BK709 hb
       replace HB := xS HB hb
       clear hb
       refine hK.out _ _ xV (fun hHeld => ?_)
       clear hK K
       refine xN 45 ?_
       refine xO 3 (some 46) (b 5 15) rfl rfl fun K hK => ?_
       refine xc Tryd.func22 (rational_Compare.calls kj25 t699 t700 t701 t710 t711 t712 t713 _ A51.out) ?_
       rintro w67 hb
       replace HO_7 := Aside0.mk (Kd.R_below (xr HO_7.out) hb)
       replace BK687 := xB BK687 hb
       replace BK691 := xB BK691 hb
       replace BK692 := xB BK692 hb
       replace BK693 := xB BK693 hb
       replace BK695 := xB BK695 hb
       replace BK709 := xB BK709 hb
       replace HB := xS HB hb
       clear hb
       refine hK.out _ _ xV (fun hHeld => ?_)
       clear hK K
       refine xN 46 ?_
       refine xP 4 (some 47) (b 5 31) rfl rfl ?_
       refine done_ (by kernel_rfl) ?_
       have hnb68 := NB692_687.out
       have hnc68 := NB687_692.out
       have hnb69 := NB692_691.out
       have hnc69 := NB691_692.out
       have hnb70 := NB692_693.out
       have hnc70 := NB693_692.out
       have hnb71 := NB692_695.out
       have hnc71 := NB695_692.out
       obtain ⟨hcz72_0, hcz72_1, hcz72_2, hfz72_0, hfz72_1, hfz72_2⟩ := x6 BK692
       obtain ⟨hcz73_0, hcz73_1, hcz73_2, hfz73_0, hfz73_1, hfz73_2⟩ := x6 BK709
       have hnb74 := NB693_687.out
       have hnc74 := NB687_693.out
       have hnb75 := NB693_691.out
       have hnc75 := NB691_693.out
       have hnb76 := NB693_695.out
       have hnc76 := NB695_693.out
       obtain ⟨hcz77_0, hcz77_1, hcz77_2, hfz77_0, hfz77_1, hfz77_2⟩ := x6 BK693
       try go_wp2_with (first | (refine xC Tryd.func36 (some 53) (rational_Subtract.calls kj25 x693000_25 x693001_25 x693002_25 x694000_1 x694001_1 x694002_1 t714 t715 t716 _ A53.out) ?_; rintro w78 hb; replace HO_7 := Aside0.mk (Kd.R_below (by (with_reducible repeat (first | apply Kd.R_alloc | apply Kd.R_drewN | apply Kd.R_drew)); exact (Kd.R_mono (Kd.R_far (p := ⟨gb709, 2, none⟩) (Kd.R_far (p := ⟨gb709, 1, none⟩) (Kd.R_far (p := ⟨gb709, 0, none⟩) (Kd.R_mono HO_7.out (fun k_ hk => (⟨hk, hk.2.2.2.2.2⟩ : _ ∧ k_ ≠ gb709))) (fun _ hk => hk.2) (.bool x693000_25)) (fun _ hk => hk.2) (.string x693001_25)) (fun _ hk => hk.2) (.string x693002_25)) (fun _ h_ => h_.1))) hb); replace BK687 := xB BK687 hb; replace BK691 := xB BK691 hb; replace BK692 := xB BK692 hb; replace BK693 := xB BK693 hb; replace BK695 := xB BK695 hb; replace BK709 := Aside0.mk (blk_below (g := gb709) (o := .cells #[.bool x693000_25, .string x693001_25, .string x693002_25] 25 (0, 0)) (xp BK709) hb); replace HB := xS HB hb; clear hb; have p56 : 0 ≤ (x22_1 : Int) := xa; have q56 : (x22_1 : Int) < ((x7_1.length : Int) : Int) := xa; obtain ⟨go56, co56, eo56, gb56, gl56, cl56, HG56⟩ := Kd.R_form HO_7.out (by omega); (first | cases eo56 | (injection eo56 with ea_ en_ ec_; (first | subst ea_ | (injection ea_ with ea_; subst ea_)); subst ec_; clear en_)); have GB56 := Aside0.mk gb56; have GG56 := Aside0.mk HG56; clear gb56 gl56 HG56; obtain ⟨ce56, hcl56, hM56, hcc56, hfr56⟩ := Kd.R_elem HO_7.out z25 (x22_1 : Int) p56 q56; obtain rfl := k25_openM hM56; have hx56_0 : w78.cell? ⟨go56, (x22_1 : Int).toNat * 3, none⟩ = some (.bool ((rd_T25 x7_1 x22_1).f0)) := hcc56 0 _ rfl; have hx56_1 : w78.cell? ⟨go56, (x22_1 : Int).toNat * 3 + 1, none⟩ = some (.string ((rd_T25 x7_1 x22_1).f1)) := hcc56 1 _ rfl; have hx56_2 : w78.cell? ⟨go56, (x22_1 : Int).toNat * 3 + 2, none⟩ = some (.string ((rd_T25 x7_1 x22_1).f2)) := hcc56 2 _ rfl; have hf56_0 : w78.frozen? ⟨go56, (x22_1 : Int).toNat * 3, none⟩ = false := hfr56 0; have hf56_1 : w78.frozen? ⟨go56, (x22_1 : Int).toNat * 3 + 1, none⟩ = false := hfr56 1; have hf56_2 : w78.frozen? ⟨go56, (x22_1 : Int).toNat * 3 + 2, none⟩ = false := hfr56 2; clear hcl56 hcc56 hfr56 hM56; replace p56 := eq_true p56; replace q56 := eq_true q56; have HX79 := Aside0.mk (show Kd.R k25 25 w78 w.heap.size (fun k_ => k_ ≠ gb687 ∧ k_ ≠ gb691 ∧ k_ ≠ gb692 ∧ k_ ≠ gb693 ∧ k_ ≠ gb695 ∧ k_ ≠ gb709) (.slice (some ⟨go56, 0, none⟩) x7_1.length co56) x7_1 from (xr HO_7.out)); obtain ⟨ce79, hcl79, hM79, hcc79, hfr79⟩ := Kd.R_elem HX79.out z25 (x22_1 : Int) (xa) (by have h_ : (x22_1 : Int) < ((x7_1.length : Int) : Int) := xa; first | exact h_ | (have e_ := (Kd.R_reads' HO_7.out).1; omega) | simpa using h_); obtain rfl := k25_openM hM79; have HP79 := Kd.R_seg HX79.out (x22_1 : Int) (xa) (by have h_ : (x22_1 : Int) < ((x7_1.length : Int) : Int) := xa; first | exact h_ | (have e_ := (Kd.R_reads' HO_7.out).1; omega) | simpa using h_) (seg := [.bool t714, .string t715, .string t716]) (j := 0) hcl79 hcc79 (show 3 ≤ 3 from by decide) (x' := (⟨t714, t715, t716⟩ : S25)) (k25_mkM _ _ _ (⟨t714, t715, t716⟩ : S25) ) (fun _ hk => hk); have hx79_0 := hcc79 0 _ rfl; (try simp only [show (k25).sz = 3 from rfl, Nat.mul_one, Nat.add_zero] at hx79_0); have hf79_0 := hfr79 0; (try simp only [show (k25).sz = 3 from rfl, Nat.mul_one, Nat.add_zero] at hf79_0); have hx79_1 := hcc79 1 _ rfl; (try simp only [show (k25).sz = 3 from rfl, Nat.mul_one, Nat.add_zero] at hx79_1); have hf79_1 := hfr79 1; (try simp only [show (k25).sz = 3 from rfl, Nat.mul_one, Nat.add_zero] at hf79_1); have hx79_2 := hcc79 2 _ rfl; (try simp only [show (k25).sz = 3 from rfl, Nat.mul_one, Nat.add_zero] at hx79_2); have hf79_2 := hfr79 2; (try simp only [show (k25).sz = 3 from rfl, Nat.mul_one, Nat.add_zero] at hf79_2); clear hcl79 hcc79 hfr79 hM79) | ((with_reducible refine gate_store (t := 25) (p := 54) rfl ?_); refine store_event (t := 25) (p := 54) (v := ?vo_w80) (w1 := (((w78.setCell ⟨go56, (x22_1 : Int).toNat * 3, none⟩ (.bool t714)).setCell ⟨go56, (x22_1 : Int).toNat * 3 + 1, none⟩ (.string t715)).setCell ⟨go56, (x22_1 : Int).toNat * 3 + 2, none⟩ (.string t716))) ?hg ?ho ?hn ?hr ?_; (case ho => rfl); (case hg => rfl); (case hn => rfl); (case hr => first | (go_simp; done) | (go_simp; rfl)); intro w80 hw; have hg : w78.grownBy w80 (some go56) := (by rw [hw]; exact HP79.2); have hp_ : Kd.R k25 25 w80 w.heap.size (fun k_ => k_ ≠ gb687 ∧ k_ ≠ gb691 ∧ k_ ≠ gb692 ∧ k_ ≠ gb693 ∧ k_ ≠ gb695 ∧ k_ ≠ gb709) (.slice (some ⟨go56, 0, none⟩) x7_1.length co56) y717 := (by rw [hw, Ny717.out]; exact HP79.1); clear HP79; replace BK687 := xK BK687 hg (Kd.R_away HO_7.out (fun _ hk => hk.1)); replace BK691 := xK BK691 hg (Kd.R_away HO_7.out (fun _ hk => hk.2.1)); replace BK692 := xK BK692 hg (Kd.R_away HO_7.out (fun _ hk => hk.2.2.1)); replace BK693 := xK BK693 hg (Kd.R_away HO_7.out (fun _ hk => hk.2.2.2.1)); replace BK695 := xK BK695 hg (Kd.R_away HO_7.out (fun _ hk => hk.2.2.2.2.1)); replace BK709 := xK BK709 hg (Kd.R_away HO_7.out (fun _ hk => hk.2.2.2.2.2)); replace HO_7 := Aside0.mk (hp_); replace HB := Aside0.mk ((by rw [hw]; exact below_set (below_set (below_set (HB.out) GB56.out) GB56.out) GB56.out : Below w.heap.size w w80)); clear hg hw hp_; obtain ⟨hcz81_0, hcz81_1, hcz81_2, hfz81_0, hfz81_1, hfz81_2⟩ := x6 BK709; obtain ⟨hcz82_0, hcz82_1, hcz82_2, hfz82_0, hfz82_1, hfz82_2⟩ := x6 BK693))
       (first | go_roundg kj25 | (refine Handed.intro kj25 ?measure ?_; rotate_left; go_step; (repeat apply Exists.intro); refine ⟨?rel, (by first | rfl | (simp only [add_plain]; rfl))⟩))
       case measure => have := HK1.out; have := HJ25.out; omega
       case rel => exact ⟨(y717), (wrap64 (x22_1 + 1)), (x688000_1), (x688001_1), (x688002_1), (t699), (t700), (t701), (x693000_25), (x693001_25), (x693002_25), (x693000_25), (x693001_25), (x693002_25), xz, H', ⟨by have := HK1.out; have := HJ25.out; omega⟩, ⟨by (with_reducible repeat (first | apply Kd.R_alloc | apply Kd.R_drewN | apply Kd.R_drew)); exact Kd.R_mono (Kd.R_far (p := ⟨gb693, 2, none⟩) (Kd.R_far (p := ⟨gb693, 1, none⟩) (Kd.R_far (p := ⟨gb693, 0, none⟩) (Kd.R_mono HO_7.out (fun k_ hk => (⟨hk, hk.2.2.2.1⟩ : _ ∧ k_ ≠ gb693))) (fun _ hk => hk.2) (.bool x693000_25)) (fun _ hk => hk.2) (.string x693001_25)) (fun _ hk => hk.2) (.string x693002_25)) (fun _ hk => ⟨hk.1.1, ⟨hk.1.2.1, ⟨hk.1.2.2.1, hk.1.2.2.2.1⟩⟩⟩)⟩, ⟨xb BK687⟩, ⟨xb BK691⟩, ⟨xb BK692⟩, ⟨by (with_reducible repeat (first | refine blk_drewN ?_ _ | refine blk_drew ?_ | refine blk_alloc ?_ _)); refine blk_put (cs := #[.bool x693000_25, .string x693001_25, .string x694002_1]) ?_ 2 _ (by first | rfl | simp [ne_nil_b]); (with_reducible repeat (first | refine blk_drewN ?_ _ | refine blk_drew ?_ | refine blk_alloc ?_ _)); refine blk_put (cs := #[.bool x693000_25, .string x694001_1, .string x694002_1]) ?_ 1 _ (by first | rfl | simp [ne_nil_b]); (with_reducible repeat (first | refine blk_drewN ?_ _ | refine blk_drew ?_ | refine blk_alloc ?_ _)); refine blk_put (cs := #[.bool x694000_1, .string x694001_1, .string x694002_1]) ?_ 0 _ (by first | rfl | simp [ne_nil_b]); (with_reducible repeat (first | refine blk_drewN ?_ _ | refine blk_drew ?_ | refine blk_alloc ?_ _)); exact BK693.out⟩, ⟨xs HB⟩⟩
      ·rw [if_neg c52] at H
       have c52b0 : decide (0 ≤ t713) = false := decide_eq_false c52
       clear c52
       replace H := xH H; obtain ⟨⟨t718, t719, t720⟩, A83, H⟩ := H
       dsimp only at H
       by_cases c84 : 0 ≤ x22_1
       rotate_left
       ·rw [if_neg c84] at H
        exact absurd H (by simp)
       rw [if_pos c84] at H
       have c84b0 : decide (0 ≤ x22_1) = true := decide_eq_true c84
       clear c84
       by_cases c85 : x22_1 < (x7_1.length : Int)
       rotate_left
       ·rw [if_neg c85] at H
        exact absurd H (by simp)
       rw [if_pos c85] at H
       have c85b0 : decide (x22_1 < (x7_1.length : Int)) = true := decide_eq_true c85
       clear c85
       obtain ⟨y721, hy721⟩ : ∃ y_ : List (S25), y_ = (x7_1.set (x22_1 : Int).toNat (⟨t718, t719, t720⟩ : S25)) := ⟨_, rfl⟩
       replace H : (guarantee_Rates.l0 kj25 l2 y721 l1 (l1.length : Int) (wrap64 (x22_1 + 1)) x688000_1 x688001_1 x688002_1 t699 t700 t701 x693000_25 x693001_25 x693002_25 false (⟨#[]⟩ : ByteArray) (⟨#[]⟩ : ByteArray)) = some r := by first | (rw [hy721]; with_reducible exact H) | (have H2_ := (Option.bind_some _ _).symm.trans H; rw [hy721]; with_reducible exact H2_) | (have H2_ := (Option.bind_some _ _).symm.trans H; with_reducible exact H2_) | with_reducible exact H | (rw [hy721]; exact H) | exact H
       have Ny721 := Aside0.mk hy721
       clear hy721
       have H' := Aside0.mk H
       clear H
       try go_wp2_with (first | (refine xE (N := 13) #[.bool false, .string (⟨#[]⟩ : ByteArray), .string (⟨#[]⟩ : ByteArray)] 25 rfl ?_; intro gb709 hg w87 hbox hb; replace HO_7 := Aside0.mk (Kd.R_below (Kd.R_elderB (xr HO_7.out) gb709 (Nat.le_of_eq hg.symm)) hb); have BK709 := Aside0.mk (hbox); have GW709 := (xG HB hg); have GE709 := (xG HB hg); replace HB := xS HB hb; have NB687_709 := xL BK687 hg; have NB709_687 := xR BK687 hg; replace BK687 := xB BK687 hb; have NB691_709 := xL BK691 hg; have NB709_691 := xR BK691 hg; replace BK691 := xB BK691 hb; have NB692_709 := xL BK692 hg; have NB709_692 := xR BK692 hg; replace BK692 := xB BK692 hb; have NB693_709 := xL BK693 hg; have NB709_693 := xR BK693 hg; replace BK693 := xB BK693 hb; have NB695_709 := xL BK695 hg; have NB709_695 := xR BK695 hg; replace BK695 := xB BK695 hb; clear hb hbox hg; have hnb88 := NB709_687.out; have hnc88 := NB687_709.out; have hnb89 := NB709_691.out; have hnc89 := NB691_709.out; have hnb90 := NB709_692.out; have hnc90 := NB692_709.out; have hnb91 := NB709_693.out; have hnc91 := NB693_709.out; have hnb92 := NB709_695.out; have hnc92 := NB695_709.out; obtain ⟨hcz93_0, hcz93_1, hcz93_2, hfz93_0, hfz93_1, hfz93_2⟩ := x6 BK709))
       have n0_ : Aside0 (Kd.R k25 25 (((w87.setCell ⟨gb709, 0, none⟩ (.bool false)).setCell ⟨gb709, 1, none⟩ (.string (⟨#[]⟩ : ByteArray))).setCell ⟨gb709, 2, none⟩ (.string (⟨#[]⟩ : ByteArray))) w.heap.size (fun k_ => k_ ≠ gb687 ∧ k_ ≠ gb691 ∧ k_ ≠ gb692 ∧ k_ ≠ gb693 ∧ k_ ≠ gb695 ∧ k_ ≠ gb709) v689 x7_1) := ⟨by (with_reducible repeat (first | apply Kd.R_alloc | apply Kd.R_drewN | apply Kd.R_drew)); exact Kd.R_mono (Kd.R_far (p := ⟨gb709, 2, none⟩) (Kd.R_far (p := ⟨gb709, 1, none⟩) (Kd.R_far (p := ⟨gb709, 0, none⟩) (Kd.R_mono HO_7.out (fun k_ hk => (⟨hk, hk.2⟩ : _ ∧ k_ ≠ gb709))) (fun _ hk => hk.2) (.bool false)) (fun _ hk => hk.2) (.string (⟨#[]⟩ : ByteArray))) (fun _ hk => hk.2) (.string (⟨#[]⟩ : ByteArray))) (fun _ hk => ⟨hk.1.1.1, ⟨hk.1.1.2.1, ⟨hk.1.1.2.2.1, ⟨hk.1.1.2.2.2.1, ⟨hk.1.1.2.2.2.2, hk.1.2⟩⟩⟩⟩⟩)⟩
       have n1_ : Aside0 ((((w87.setCell ⟨gb709, 0, none⟩ (.bool false)).setCell ⟨gb709, 1, none⟩ (.string (⟨#[]⟩ : ByteArray))).setCell ⟨gb709, 2, none⟩ (.string (⟨#[]⟩ : ByteArray))).heap[gb687]? = some (.cells #[.bool x688000_1, .string x688001_1, .string x688002_1] 25 (0, 0))) := ⟨xb BK687⟩
       have n2_ : Aside0 ((((w87.setCell ⟨gb709, 0, none⟩ (.bool false)).setCell ⟨gb709, 1, none⟩ (.string (⟨#[]⟩ : ByteArray))).setCell ⟨gb709, 2, none⟩ (.string (⟨#[]⟩ : ByteArray))).heap[gb691]? = some (.cells #[.bool t699, .string t700, .string t701] 25 (0, 0))) := ⟨xb BK691⟩
       have n3_ : Aside0 ((((w87.setCell ⟨gb709, 0, none⟩ (.bool false)).setCell ⟨gb709, 1, none⟩ (.string (⟨#[]⟩ : ByteArray))).setCell ⟨gb709, 2, none⟩ (.string (⟨#[]⟩ : ByteArray))).heap[gb692]? = some (.cells #[.bool x693000_25, .string x693001_25, .string x693002_25] 25 (0, 0))) := ⟨xb BK692⟩
       have n4_ : Aside0 ((((w87.setCell ⟨gb709, 0, none⟩ (.bool false)).setCell ⟨gb709, 1, none⟩ (.string (⟨#[]⟩ : ByteArray))).setCell ⟨gb709, 2, none⟩ (.string (⟨#[]⟩ : ByteArray))).heap[gb693]? = some (.cells #[.bool x694000_1, .string x694001_1, .string x694002_1] 25 (0, 0))) := ⟨xb BK693⟩
       have n5_ : Aside0 ((((w87.setCell ⟨gb709, 0, none⟩ (.bool false)).setCell ⟨gb709, 1, none⟩ (.string (⟨#[]⟩ : ByteArray))).setCell ⟨gb709, 2, none⟩ (.string (⟨#[]⟩ : ByteArray))).heap[gb695]? = some (.cells #[.bool ((rd_T25 l1 x22_1).f0), .string ((rd_T25 l1 x22_1).f1), .string ((rd_T25 l1 x22_1).f2)] 25 (0, 0))) := ⟨xb BK695⟩
       have n6_ : Aside0 ((((w87.setCell ⟨gb709, 0, none⟩ (.bool false)).setCell ⟨gb709, 1, none⟩ (.string (⟨#[]⟩ : ByteArray))).setCell ⟨gb709, 2, none⟩ (.string (⟨#[]⟩ : ByteArray))).heap[gb709]? = some (.cells #[.bool false, .string (⟨#[]⟩ : ByteArray), .string (⟨#[]⟩ : ByteArray)] 25 (0, 0))) := ⟨xp BK709⟩
       have n7_ : Aside0 (Below w.heap.size w (((w87.setCell ⟨gb709, 0, none⟩ (.bool false)).setCell ⟨gb709, 1, none⟩ (.string (⟨#[]⟩ : ByteArray))).setCell ⟨gb709, 2, none⟩ (.string (⟨#[]⟩ : ByteArray)))) := ⟨xs HB⟩
       (try clear HO_7)
       (try clear BK687)
       (try clear BK691)
       (try clear BK692)
       (try clear BK693)
       (try clear BK695)
       (try clear BK709)
       (try clear HB)
       generalize (((w87.setCell ⟨gb709, 0, none⟩ (.bool false)).setCell ⟨gb709, 1, none⟩ (.string (⟨#[]⟩ : ByteArray))).setCell ⟨gb709, 2, none⟩ (.string (⟨#[]⟩ : ByteArray))) = w94 at n0_ n1_ n2_ n3_ n4_ n5_ n6_ n7_ ⊢
       have HO_7 := n0_
       have BK687 := n1_
       have BK691 := n2_
       have BK692 := n3_
       have BK693 := n4_
       have BK695 := n5_
       have BK709 := n6_
       have HB := n7_
       clear n0_ n1_ n2_ n3_ n4_ n5_ n6_ n7_
       replace HO_7 := Aside0.mk (Kd.R_drew HO_7.out)
       replace BK687 := xD BK687
       replace BK691 := xD BK691
       replace BK692 := xD BK692
       replace BK693 := xD BK693
       replace BK695 := xD BK695
       replace BK709 := xD BK709
       replace HB := xW HB
       refine start_ (n := 5) (S := fun w' => w'.cell? ⟨gb691, 0, none⟩ = some (.bool t699) ∧ w'.cell? ⟨gb691, 1, none⟩ = some (.string t700) ∧ w'.cell? ⟨gb691, 2, none⟩ = some (.string t701) ∧ w'.cell? ⟨gb687, 0, none⟩ = some (.bool x688000_1) ∧ w'.cell? ⟨gb687, 1, none⟩ = some (.string x688001_1) ∧ w'.cell? ⟨gb687, 2, none⟩ = some (.string x688002_1)) (ds := []) #[false, false, false, false, false] (by kernel_rfl) rfl rfl xV (fun hHeld => ?_)
       generalize w94.drew = w95 at HO_7 BK687 BK691 BK692 BK693 BK695 BK709 HB hHeld ⊢
       refine xT 0 (some 43) (b 5 1) rfl rfl hHeld ?_
       refine xT 1 (some 44) (b 5 3) rfl rfl hHeld ?_
       refine xO 2 (some 45) (b 5 7) rfl rfl fun K hK => ?_
       refine xc Tryd.func35 (guarantee_positive.calls kj25 x688000_1 x688001_1 x688002_1 t710 t711 t712 _ A50.out) ?_
       rintro w96 hb
       replace HO_7 := Aside0.mk (Kd.R_below (xr HO_7.out) hb)
       replace BK687 := xB BK687 hb
       replace BK691 := xB BK691 hb
       replace BK692 := xB BK692 hb
       replace BK693 := xB BK693 hb
       replace BK695 := xB BK695 hb
       replace BK709 := xB BK709 hb
       replace HB := xS HB hb
       clear hb
       refine hK.out _ _ xV (fun hHeld => ?_)
       clear hK K
       refine xN 45 ?_
       refine xO 3 (some 46) (b 5 15) rfl rfl fun K hK => ?_
       refine xc Tryd.func22 (rational_Compare.calls kj25 t699 t700 t701 t710 t711 t712 t713 _ A51.out) ?_
       rintro w97 hb
       replace HO_7 := Aside0.mk (Kd.R_below (xr HO_7.out) hb)
       replace BK687 := xB BK687 hb
       replace BK691 := xB BK691 hb
       replace BK692 := xB BK692 hb
       replace BK693 := xB BK693 hb
       replace BK695 := xB BK695 hb
       replace BK709 := xB BK709 hb
       replace HB := xS HB hb
       clear hb
       refine hK.out _ _ xV (fun hHeld => ?_)
       clear hK K
       refine xN 46 ?_
       refine xP 4 (some 47) (b 5 31) rfl rfl ?_
       refine done_ (by kernel_rfl) ?_
       obtain ⟨hcz98_0, hcz98_1, hcz98_2, hfz98_0, hfz98_1, hfz98_2⟩ := x6 BK709
       have hnb99 := NB693_687.out
       have hnc99 := NB687_693.out
       have hnb100 := NB693_691.out
       have hnc100 := NB691_693.out
       have hnb101 := NB693_692.out
       have hnc101 := NB692_693.out
       have hnb102 := NB693_695.out
       have hnc102 := NB695_693.out
       obtain ⟨hcz103_0, hcz103_1, hcz103_2, hfz103_0, hfz103_1, hfz103_2⟩ := x6 BK693
       try go_wp2_with (first | (refine xC Tryd.func36 (some 53) (rational_Subtract.calls kj25 false (⟨#[]⟩ : ByteArray) (⟨#[]⟩ : ByteArray) x694000_1 x694001_1 x694002_1 t718 t719 t720 _ A83.out) ?_; rintro w104 hb; replace HO_7 := Aside0.mk (Kd.R_below (xr HO_7.out) hb); replace BK687 := xB BK687 hb; replace BK691 := xB BK691 hb; replace BK692 := xB BK692 hb; replace BK693 := xB BK693 hb; replace BK695 := xB BK695 hb; replace BK709 := xB BK709 hb; replace HB := xS HB hb; clear hb; have p86 : 0 ≤ (x22_1 : Int) := xa; have q86 : (x22_1 : Int) < ((x7_1.length : Int) : Int) := xa; obtain ⟨go86, co86, eo86, gb86, gl86, cl86, HG86⟩ := Kd.R_form HO_7.out (by omega); (first | cases eo86 | (injection eo86 with ea_ en_ ec_; (first | subst ea_ | (injection ea_ with ea_; subst ea_)); subst ec_; clear en_)); have GB86 := Aside0.mk gb86; have GG86 := Aside0.mk HG86; clear gb86 gl86 HG86; obtain ⟨ce86, hcl86, hM86, hcc86, hfr86⟩ := Kd.R_elem HO_7.out z25 (x22_1 : Int) p86 q86; obtain rfl := k25_openM hM86; have hx86_0 : w104.cell? ⟨go86, (x22_1 : Int).toNat * 3, none⟩ = some (.bool ((rd_T25 x7_1 x22_1).f0)) := hcc86 0 _ rfl; have hx86_1 : w104.cell? ⟨go86, (x22_1 : Int).toNat * 3 + 1, none⟩ = some (.string ((rd_T25 x7_1 x22_1).f1)) := hcc86 1 _ rfl; have hx86_2 : w104.cell? ⟨go86, (x22_1 : Int).toNat * 3 + 2, none⟩ = some (.string ((rd_T25 x7_1 x22_1).f2)) := hcc86 2 _ rfl; have hf86_0 : w104.frozen? ⟨go86, (x22_1 : Int).toNat * 3, none⟩ = false := hfr86 0; have hf86_1 : w104.frozen? ⟨go86, (x22_1 : Int).toNat * 3 + 1, none⟩ = false := hfr86 1; have hf86_2 : w104.frozen? ⟨go86, (x22_1 : Int).toNat * 3 + 2, none⟩ = false := hfr86 2; clear hcl86 hcc86 hfr86 hM86; replace p86 := eq_true p86; replace q86 := eq_true q86; have HX105 := Aside0.mk (show Kd.R k25 25 w104 w.heap.size (fun k_ => k_ ≠ gb687 ∧ k_ ≠ gb691 ∧ k_ ≠ gb692 ∧ k_ ≠ gb693 ∧ k_ ≠ gb695 ∧ k_ ≠ gb709) (.slice (some ⟨go86, 0, none⟩) x7_1.length co86) x7_1 from (xr HO_7.out)); obtain ⟨ce105, hcl105, hM105, hcc105, hfr105⟩ := Kd.R_elem HX105.out z25 (x22_1 : Int) (xa) (by have h_ : (x22_1 : Int) < ((x7_1.length : Int) : Int) := xa; first | exact h_ | (have e_ := (Kd.R_reads' HO_7.out).1; omega) | simpa using h_); obtain rfl := k25_openM hM105; have HP105 := Kd.R_seg HX105.out (x22_1 : Int) (xa) (by have h_ : (x22_1 : Int) < ((x7_1.length : Int) : Int) := xa; first | exact h_ | (have e_ := (Kd.R_reads' HO_7.out).1; omega) | simpa using h_) (seg := [.bool t718, .string t719, .string t720]) (j := 0) hcl105 hcc105 (show 3 ≤ 3 from by decide) (x' := (⟨t718, t719, t720⟩ : S25)) (k25_mkM _ _ _ (⟨t718, t719, t720⟩ : S25) ) (fun _ hk => hk); have hx105_0 := hcc105 0 _ rfl; (try simp only [show (k25).sz = 3 from rfl, Nat.mul_one, Nat.add_zero] at hx105_0); have hf105_0 := hfr105 0; (try simp only [show (k25).sz = 3 from rfl, Nat.mul_one, Nat.add_zero] at hf105_0); have hx105_1 := hcc105 1 _ rfl; (try simp only [show (k25).sz = 3 from rfl, Nat.mul_one, Nat.add_zero] at hx105_1); have hf105_1 := hfr105 1; (try simp only [show (k25).sz = 3 from rfl, Nat.mul_one, Nat.add_zero] at hf105_1); have hx105_2 := hcc105 2 _ rfl; (try simp only [show (k25).sz = 3 from rfl, Nat.mul_one, Nat.add_zero] at hx105_2); have hf105_2 := hfr105 2; (try simp only [show (k25).sz = 3 from rfl, Nat.mul_one, Nat.add_zero] at hf105_2); clear hcl105 hcc105 hfr105 hM105) | ((with_reducible refine gate_store (t := 25) (p := 54) rfl ?_); refine store_event (t := 25) (p := 54) (v := ?vo_w106) (w1 := (((w104.setCell ⟨go86, (x22_1 : Int).toNat * 3, none⟩ (.bool t718)).setCell ⟨go86, (x22_1 : Int).toNat * 3 + 1, none⟩ (.string t719)).setCell ⟨go86, (x22_1 : Int).toNat * 3 + 2, none⟩ (.string t720))) ?hg ?ho ?hn ?hr ?_; (case ho => rfl); (case hg => rfl); (case hn => rfl); (case hr => first | (go_simp; done) | (go_simp; rfl)); intro w106 hw; have hg : w104.grownBy w106 (some go86) := (by rw [hw]; exact HP105.2); have hp_ : Kd.R k25 25 w106 w.heap.size (fun k_ => k_ ≠ gb687 ∧ k_ ≠ gb691 ∧ k_ ≠ gb692 ∧ k_ ≠ gb693 ∧ k_ ≠ gb695 ∧ k_ ≠ gb709) (.slice (some ⟨go86, 0, none⟩) x7_1.length co86) y721 := (by rw [hw, Ny721.out]; exact HP105.1); clear HP105; replace BK687 := xK BK687 hg (Kd.R_away HO_7.out (fun _ hk => hk.1)); replace BK691 := xK BK691 hg (Kd.R_away HO_7.out (fun _ hk => hk.2.1)); replace BK692 := xK BK692 hg (Kd.R_away HO_7.out (fun _ hk => hk.2.2.1)); replace BK693 := xK BK693 hg (Kd.R_away HO_7.out (fun _ hk => hk.2.2.2.1)); replace BK695 := xK BK695 hg (Kd.R_away HO_7.out (fun _ hk => hk.2.2.2.2.1)); replace BK709 := xK BK709 hg (Kd.R_away HO_7.out (fun _ hk => hk.2.2.2.2.2)); replace HO_7 := Aside0.mk (hp_); replace HB := Aside0.mk ((by rw [hw]; exact below_set (below_set (below_set (HB.out) GB86.out) GB86.out) GB86.out : Below w.heap.size w w106)); clear hg hw hp_; obtain ⟨hcz107_0, hcz107_1, hcz107_2, hfz107_0, hfz107_1, hfz107_2⟩ := x6 BK709; obtain ⟨hcz108_0, hcz108_1, hcz108_2, hfz108_0, hfz108_1, hfz108_2⟩ := x6 BK693))
       (first | go_roundg kj25 | (refine Handed.intro kj25 ?measure ?_; rotate_left; go_step; (repeat apply Exists.intro); refine ⟨?rel, (by first | rfl | (simp only [add_plain]; rfl))⟩))
       case measure => have := HK1.out; have := HJ25.out; omega
       case rel => exact ⟨(y721), (wrap64 (x22_1 + 1)), (x688000_1), (x688001_1), (x688002_1), (t699), (t700), (t701), (x693000_25), (x693001_25), (x693002_25), (false), ((⟨#[]⟩ : ByteArray)), ((⟨#[]⟩ : ByteArray)), xz, H', ⟨by have := HK1.out; have := HJ25.out; omega⟩, ⟨by (with_reducible repeat (first | apply Kd.R_alloc | apply Kd.R_drewN | apply Kd.R_drew)); exact Kd.R_mono (Kd.R_far (p := ⟨gb693, 2, none⟩) (Kd.R_far (p := ⟨gb693, 1, none⟩) (Kd.R_far (p := ⟨gb693, 0, none⟩) (Kd.R_mono HO_7.out (fun k_ hk => (⟨hk, hk.2.2.2.1⟩ : _ ∧ k_ ≠ gb693))) (fun _ hk => hk.2) (.bool false)) (fun _ hk => hk.2) (.string (⟨#[]⟩ : ByteArray))) (fun _ hk => hk.2) (.string (⟨#[]⟩ : ByteArray))) (fun _ hk => ⟨hk.1.1, ⟨hk.1.2.1, ⟨hk.1.2.2.1, hk.1.2.2.2.1⟩⟩⟩)⟩, ⟨xb BK687⟩, ⟨xb BK691⟩, ⟨xb BK692⟩, ⟨by (with_reducible repeat (first | refine blk_drewN ?_ _ | refine blk_drew ?_ | refine blk_alloc ?_ _)); refine blk_put (cs := #[.bool false, .string (⟨#[]⟩ : ByteArray), .string x694002_1]) ?_ 2 _ (by first | rfl | simp [ne_nil_b]); (with_reducible repeat (first | refine blk_drewN ?_ _ | refine blk_drew ?_ | refine blk_alloc ?_ _)); refine blk_put (cs := #[.bool false, .string x694001_1, .string x694002_1]) ?_ 1 _ (by first | rfl | simp [ne_nil_b]); (with_reducible repeat (first | refine blk_drewN ?_ _ | refine blk_drew ?_ | refine blk_alloc ?_ _)); refine blk_put (cs := #[.bool x694000_1, .string x694001_1, .string x694002_1]) ?_ 0 _ (by first | rfl | simp [ne_nil_b]); (with_reducible repeat (first | refine blk_drewN ?_ _ | refine blk_drew ?_ | refine blk_alloc ?_ _)); exact BK693.out⟩, ⟨xs HB⟩⟩
   ·rw [if_neg c21] at H
    have c21b0 : decide (x22_1 < (l1.length : Int)) = false := decide_eq_false c21
    clear c21
    obtain rfl := Option.some.inj H
    go_wp2
    go_ret
    exact ⟨_, xy, by (with_reducible repeat (first | apply Kd.R_alloc | apply Kd.R_drewN | apply Kd.R_drew)); exact Kd.R_mono HO_7.out (fun _ hk => trivial), xs HB⟩
/-! ### rational_Multiply: function 26 -/
def rational_Multiply.f (k : Nat) (a0_0 : Bool) (a0_1 : ByteArray) (a0_2 : ByteArray) (a1_0 : Bool) (a1_1 : ByteArray) (a1_2 : ByteArray) : Option (Bool × ByteArray × ByteArray) := (rational_clean.f k a0_0 a0_1 a0_2).bind fun bt725 => ((rational_clean.f k a1_0 a1_1 a1_2).bind fun bt728 => ((natural_Multiply.f k bt725.2.1 bt728.2.1).bind fun t731 => ((rational_den.f bt725.1 bt725.2.1 bt725.2.2).bind fun t732 => ((rational_den.f bt728.1 bt728.2.1 bt728.2.2).bind fun t733 => ((natural_Multiply.f k t732 t733).bind fun t734 => ((rational_reduced.f k (bt725.1 != bt728.1) t731 t734).bind fun bt735 => (some (bt735.1, bt735.2.1, bt735.2.2))))))))
theorem rational_Multiply.mono : ∀ a0 a1 a2 a3 a4 a5 k, LeO (rational_Multiply.f k a0 a1 a2 a3 a4 a5) (rational_Multiply.f (k + 1) a0 a1 a2 a3 a4 a5) := by
 intro a0 a1 a2 a3 a4 a5 k
 unfold rational_Multiply.f
 have m0 := @natural_Multiply.mono; have m1 := @rational_clean.mono; have m2 := @rational_reduced.mono; exact xM
def rational_Multiply.T2 : Bool × List (List Nat × List Nat) := (true, [([], []), ([0], [0]), ([], []), ([2], [2]), ([1, 3], [1, 3]), ([], []), ([5], [5]), ([], []), ([7], [7]), ([6, 8], [6, 8]), ([], []), ([10, 9], [10]), ([], []), ([12, 11], [12]), ([11, 13, 13], [11, 13]), ([4, 9, 14, 14], [4, 9, 14]), ([15, 15, 0, 1, 2, 3, 4, 5, 6, 7, 8, 9, 10, 11, 12, 13, 14, 15], [15])])
def rational_Multiply.B2 : List Nat := [0, 1, 0, 4, 15, 0, 32, 0, 128, 480, 0, 2016, 0, 8160, 16352, 32767, 65535]
theorem rational_Multiply.tab2 : rtab .any (opsOf Tryd.f26 2) = rational_Multiply.T2 := by kernel_rfl
theorem rational_Multiply.bits2 : waitsOk rational_Multiply.T2.2 rational_Multiply.B2 = true := by kernel_rfl
set_option maxHeartbeats 8000000 in
set_option maxRecDepth 100000 in
theorem rational_Multiply.calls (k : Nat) (a0_0 : Bool) (a0_1 : ByteArray) (a0_2 : ByteArray) (a1_0 : Bool) (a1_1 : ByteArray) (a1_2 : ByteArray) (r1 : Bool) (r2 : ByteArray) (r3 : ByteArray) (w : World) (h : rational_Multiply.f k a0_0 a0_1 a0_2 a1_0 a1_1 a1_2 = some (r1, r2, r3)) :
  Calls Tryd.prog 26 #[.agg #[.bool a0_0, .string a0_1, .string a0_2], .agg #[.bool a1_0, .string a1_1, .string a1_2]] w fun e w' => e = .returned (.agg #[.bool r1, .string r2, .string r3]) ∧ Below w.heap.size w w' := by
 have hu25 := Tryd.underlying25
 have HB := Aside0.mk (Below.refl w.heap.size w)
 have H : ((rational_clean.f k a0_0 a0_1 a0_2).bind fun bt725 => ((rational_clean.f k a1_0 a1_1 a1_2).bind fun bt728 => ((natural_Multiply.f k bt725.2.1 bt728.2.1).bind fun t731 => ((rational_den.f bt725.1 bt725.2.1 bt725.2.2).bind fun t732 => ((rational_den.f bt728.1 bt728.2.1 bt728.2.2).bind fun t733 => ((natural_Multiply.f k t732 t733).bind fun t734 => ((rational_reduced.f k (bt725.1 != bt728.1) t731 t734).bind fun bt735 => (some (bt735.1, bt735.2.1, bt735.2.2))))))))) = some (r1, r2, r3) := h
 clear h
 replace H := xH H; obtain ⟨⟨t725, t726, t727⟩, A3, H⟩ := H
 dsimp only at H
 replace H := xH H; obtain ⟨⟨t728, t729, t730⟩, A4, H⟩ := H
 dsimp only at H
 replace H := xH H; obtain ⟨t731, A5, H⟩ := H
 replace H := xH H; obtain ⟨t732, A6, H⟩ := H
 replace H := xH H; obtain ⟨t733, A7, H⟩ := H
 replace H := xH H; obtain ⟨t734, A8, H⟩ := H
 replace H := xH H; obtain ⟨⟨t735, t736, t737⟩, A9, H⟩ := H
 dsimp only at H
 simp only [Option.some.injEq, Prod.mk.injEq] at H
 obtain ⟨rfl, rfl, rfl⟩ := H
 go_enter Tryd.func26, Tryd.ntmps26
 try go_wp2_with (first | (refine xE (N := 2) #[.bool a0_0, .string a0_1, .string a0_2] 25 rfl ?_; intro gb722 hg w10 hbox hb; have BK722 := Aside0.mk (hbox); have GW722 := (xG HB hg); have GE722 := (xG HB hg); replace HB := xS HB hb; clear hb hbox hg) | (refine xE (N := 3) #[.bool a1_0, .string a1_1, .string a1_2] 25 rfl ?_; intro gb723 hg w11 hbox hb; have BK723 := Aside0.mk (hbox); have GW723 := (xG HB hg); have GE723 := (xG HB hg); replace HB := xS HB hb; have NB722_723 := xL BK722 hg; have NB723_722 := xR BK722 hg; replace BK722 := xB BK722 hb; clear hb hbox hg) | (refine xE (N := 4) #[.bool false, .string (⟨#[]⟩ : ByteArray), .string (⟨#[]⟩ : ByteArray)] 25 rfl ?_; intro gb724 hg w12 hbox hb; have BK724 := Aside0.mk (hbox); have GW724 := (xG HB hg); have GE724 := (xG HB hg); replace HB := xS HB hb; have NB722_724 := xL BK722 hg; have NB724_722 := xR BK722 hg; replace BK722 := xB BK722 hb; have NB723_724 := xL BK723 hg; have NB724_723 := xR BK723 hg; replace BK723 := xB BK723 hb; clear hb hbox hg))
 replace BK722 := xD BK722
 replace BK723 := xD BK723
 replace BK724 := xD BK724
 replace HB := xW HB
 refine start_ (n := 6) (S := fun w' => w'.cell? ⟨gb722, 0, none⟩ = some (.bool a0_0) ∧ w'.cell? ⟨gb722, 1, none⟩ = some (.string a0_1) ∧ w'.cell? ⟨gb722, 2, none⟩ = some (.string a0_2) ∧ w'.cell? ⟨gb723, 0, none⟩ = some (.bool a1_0) ∧ w'.cell? ⟨gb723, 1, none⟩ = some (.string a1_1) ∧ w'.cell? ⟨gb723, 2, none⟩ = some (.string a1_2)) (ds := [4, 5]) #[false, false, false, false, false, false] (by kernel_rfl) rfl rfl xV (fun hHeld => ?_)
 generalize w12.drew = w13 at BK722 BK723 BK724 HB hHeld ⊢
 refine xT 0 (some 5) (b 6 1) rfl rfl hHeld ?_
 refine xT 2 (some 7) (b 6 5) rfl rfl hHeld ?_
 refine xO 1 (some 6) (b 6 7) rfl rfl fun K hK => ?_
 refine xc Tryd.func38 (rational_clean.calls k a0_0 a0_1 a0_2 t725 t726 t727 _ A3.out) ?_
 rintro w14 hb
 replace BK722 := xB BK722 hb
 replace BK723 := xB BK723 hb
 replace BK724 := xB BK724 hb
 replace HB := xS HB hb
 clear hb
 refine hK.out _ _ xV (fun hHeld => ?_)
 clear hK K
 refine xN 6 ?_
 refine xO 3 (some 8) (b 6 15) rfl rfl fun K hK => ?_
 refine xc Tryd.func38 (rational_clean.calls k a1_0 a1_1 a1_2 t728 t729 t730 _ A4.out) ?_
 rintro w15 hb
 replace BK722 := xB BK722 hb
 replace BK723 := xB BK723 hb
 replace BK724 := xB BK724 hb
 replace HB := xS HB hb
 clear hb
 refine hK.out _ _ xV (fun hHeld => ?_)
 clear hK K
 refine xN 8 ?_
 refine xZ 4 none (b 6 31) rfl rfl fun K hK => ?_
 obtain ⟨hs16, hs17, hs18, hfs16, hfs17, hfs18⟩ := x6 BK722
 have hns16_1 := NB723_722.out
 have hns16_2 := NB724_722.out
 have hms16_1 := NB722_723.out
 have hms16_2 := NB722_724.out
 refine xk ?_
 refine hK.out _ _ ?_
 clear hK K
 refine xZ 5 none (b 6 63) rfl rfl fun K hK => ?_
 obtain ⟨hs19, hs20, hs21, hfs19, hfs20, hfs21⟩ := x6 BK723
 have hns19_0 := NB722_723.out
 have hns19_2 := NB724_723.out
 have hms19_0 := NB723_722.out
 have hms19_2 := NB723_724.out
 refine xk ?_
 refine hK.out _ _ ?_
 clear hK K
 refine done_ (by kernel_rfl) ?_
 try go_wp2
 have n0_ : Aside0 (((((((w15.setCell ⟨gb722, 0, none⟩ (.bool t725)).setCell ⟨gb722, 1, none⟩ (.string t726)).setCell ⟨gb722, 2, none⟩ (.string t727)).setCell ⟨gb723, 0, none⟩ (.bool t728)).setCell ⟨gb723, 1, none⟩ (.string t729)).setCell ⟨gb723, 2, none⟩ (.string t730)).heap[gb722]? = some (.cells #[.bool t725, .string t726, .string t727] 25 (0, 0))) := ⟨xp BK722⟩
 have n1_ : Aside0 (((((((w15.setCell ⟨gb722, 0, none⟩ (.bool t725)).setCell ⟨gb722, 1, none⟩ (.string t726)).setCell ⟨gb722, 2, none⟩ (.string t727)).setCell ⟨gb723, 0, none⟩ (.bool t728)).setCell ⟨gb723, 1, none⟩ (.string t729)).setCell ⟨gb723, 2, none⟩ (.string t730)).heap[gb723]? = some (.cells #[.bool t728, .string t729, .string t730] 25 (0, 0))) := ⟨xp BK723⟩
 have n2_ : Aside0 (((((((w15.setCell ⟨gb722, 0, none⟩ (.bool t725)).setCell ⟨gb722, 1, none⟩ (.string t726)).setCell ⟨gb722, 2, none⟩ (.string t727)).setCell ⟨gb723, 0, none⟩ (.bool t728)).setCell ⟨gb723, 1, none⟩ (.string t729)).setCell ⟨gb723, 2, none⟩ (.string t730)).heap[gb724]? = some (.cells #[.bool false, .string (⟨#[]⟩ : ByteArray), .string (⟨#[]⟩ : ByteArray)] 25 (0, 0))) := ⟨xb BK724⟩
 have n3_ : Aside0 (Below w.heap.size w ((((((w15.setCell ⟨gb722, 0, none⟩ (.bool t725)).setCell ⟨gb722, 1, none⟩ (.string t726)).setCell ⟨gb722, 2, none⟩ (.string t727)).setCell ⟨gb723, 0, none⟩ (.bool t728)).setCell ⟨gb723, 1, none⟩ (.string t729)).setCell ⟨gb723, 2, none⟩ (.string t730))) := ⟨xs HB⟩
 (try clear BK722)
 (try clear BK723)
 (try clear BK724)
 (try clear HB)
 generalize ((((((w15.setCell ⟨gb722, 0, none⟩ (.bool t725)).setCell ⟨gb722, 1, none⟩ (.string t726)).setCell ⟨gb722, 2, none⟩ (.string t727)).setCell ⟨gb723, 0, none⟩ (.bool t728)).setCell ⟨gb723, 1, none⟩ (.string t729)).setCell ⟨gb723, 2, none⟩ (.string t730)) = w22 at n0_ n1_ n2_ n3_ ⊢
 have BK722 := n0_
 have BK723 := n1_
 have BK724 := n2_
 have HB := n3_
 clear n0_ n1_ n2_ n3_
 replace BK722 := xD BK722
 replace BK723 := xD BK723
 replace BK724 := xD BK724
 replace HB := xW HB
 refine start_ (n := 17) (S := fun w' => w'.cell? ⟨gb722, 0, none⟩ = some (.bool t725) ∧ w'.cell? ⟨gb722, 1, none⟩ = some (.string t726) ∧ w'.cell? ⟨gb722, 2, none⟩ = some (.string t727) ∧ w'.cell? ⟨gb723, 0, none⟩ = some (.bool t728) ∧ w'.cell? ⟨gb723, 1, none⟩ = some (.string t729) ∧ w'.cell? ⟨gb723, 2, none⟩ = some (.string t730)) (ds := []) #[false, false, false, false, false, false, false, false, false, false, false, false, false, false, false, false, false] (by kernel_rfl) rfl rfl xV (fun hHeld => ?_); refine with_tabW rational_Multiply.tab2 rational_Multiply.bits2 (fun HT_ HW_ => ?_)
 generalize w22.drew = w23 at BK722 BK723 BK724 HB hHeld ⊢
 refine xP 0 (some 9) (b 17 1) rfl rfl ?_
 refine xP 2 (some 11) (b 17 5) rfl rfl ?_
 refine xP 5 (some 14) (b 17 37) rfl rfl ?_
 refine xP 7 (some 16) (b 17 165) rfl rfl ?_
 refine xT 1 (some 10) (b 17 167) rfl rfl hHeld ?_
 refine xT 3 (some 12) (b 17 175) rfl rfl hHeld ?_
 refine xP 4 (some 13) (b 17 191) rfl rfl ?_
 refine xT 6 (some 15) (b 17 255) rfl rfl hHeld ?_
 refine xT 8 (some 17) (b 17 511) rfl rfl hHeld ?_
 refine xT 10 (some 19) (b 17 1535) rfl rfl hHeld ?_
 refine xT 12 (some 21) (b 17 5631) rfl rfl hHeld ?_
 refine xO 9 (some 18) (b 17 6143) rfl rfl fun K hK => ?_
 refine xc Tryd.func48 (natural_Multiply.calls k t726 t729 t731 _ A5.out) ?_
 rintro w24 hb
 replace BK722 := xB BK722 hb
 replace BK723 := xB BK723 hb
 replace BK724 := xB BK724 hb
 replace HB := xS HB hb
 clear hb
 refine hK.out _ _ xV (fun hHeld => ?_)
 clear hK K
 refine xN 18 ?_
 refine xO 11 (some 20) (b 17 8191) rfl rfl fun K hK => ?_
 refine xc Tryd.func49 (rational_den.calls t725 t726 t727 t732 _ A6.out) ?_
 rintro w25 hb
 replace BK722 := xB BK722 hb
 replace BK723 := xB BK723 hb
 replace BK724 := xB BK724 hb
 replace HB := xS HB hb
 clear hb
 refine hK.out _ _ xV (fun hHeld => ?_)
 clear hK K
 refine xN 20 ?_
 refine xO 13 (some 22) (b 17 16383) rfl rfl fun K hK => ?_
 refine xc Tryd.func49 (rational_den.calls t728 t729 t730 t733 _ A7.out) ?_
 rintro w26 hb
 replace BK722 := xB BK722 hb
 replace BK723 := xB BK723 hb
 replace BK724 := xB BK724 hb
 replace HB := xS HB hb
 clear hb
 refine hK.out _ _ xV (fun hHeld => ?_)
 clear hK K
 refine xN 22 ?_
 refine xO 14 (some 23) (b 17 32767) rfl rfl fun K hK => ?_
 refine xc Tryd.func48 (natural_Multiply.calls k t732 t733 t734 _ A8.out) ?_
 rintro w27 hb
 replace BK722 := xB BK722 hb
 replace BK723 := xB BK723 hb
 replace BK724 := xB BK724 hb
 replace HB := xS HB hb
 clear hb
 refine hK.out _ _ xV (fun hHeld => ?_)
 clear hK K
 refine xN 23 ?_
 refine xO 15 (some 24) (b 17 65535) rfl rfl fun K hK => ?_
 refine xc Tryd.func52 (rational_reduced.calls k (t725 != t728) t731 t734 t735 t736 t737 _ A9.out) ?_
 rintro w28 hb
 replace BK722 := xB BK722 hb
 replace BK723 := xB BK723 hb
 replace BK724 := xB BK724 hb
 replace HB := xS HB hb
 clear hb
 refine hK.out _ _ xV (fun hHeld => ?_)
 clear hK K
 refine xN 24 ?_
 refine xO 16 none (b 17 131071) rfl rfl fun K hK => ?_
 obtain ⟨hs29, hs30, hs31, hfs29, hfs30, hfs31⟩ := x6 BK724
 have hns29_0 := NB722_724.out
 have hns29_1 := NB723_724.out
 have hms29_0 := NB724_722.out
 have hms29_1 := NB724_723.out
 refine xk ?_
 refine hK.out _ _ ⟨((cell_far (p := ⟨gb724, _, none⟩) NB722_724.out _).trans (((cell_far (p := ⟨gb724, _, none⟩) NB722_724.out _).trans (((cell_far (p := ⟨gb724, _, none⟩) NB722_724.out _).trans (hHeld.1)))))), ((cell_far (p := ⟨gb724, _, none⟩) NB722_724.out _).trans (((cell_far (p := ⟨gb724, _, none⟩) NB722_724.out _).trans (((cell_far (p := ⟨gb724, _, none⟩) NB722_724.out _).trans (hHeld.2.1)))))), ((cell_far (p := ⟨gb724, _, none⟩) NB722_724.out _).trans (((cell_far (p := ⟨gb724, _, none⟩) NB722_724.out _).trans (((cell_far (p := ⟨gb724, _, none⟩) NB722_724.out _).trans (hHeld.2.2.1)))))), ((cell_far (p := ⟨gb724, _, none⟩) NB723_724.out _).trans (((cell_far (p := ⟨gb724, _, none⟩) NB723_724.out _).trans (((cell_far (p := ⟨gb724, _, none⟩) NB723_724.out _).trans (hHeld.2.2.2.1)))))), ((cell_far (p := ⟨gb724, _, none⟩) NB723_724.out _).trans (((cell_far (p := ⟨gb724, _, none⟩) NB723_724.out _).trans (((cell_far (p := ⟨gb724, _, none⟩) NB723_724.out _).trans (hHeld.2.2.2.2.1)))))), ((cell_far (p := ⟨gb724, _, none⟩) NB723_724.out _).trans (((cell_far (p := ⟨gb724, _, none⟩) NB723_724.out _).trans (((cell_far (p := ⟨gb724, _, none⟩) NB723_724.out _).trans (hHeld.2.2.2.2.2))))))⟩ (fun hHeld => ?_)
 clear hK K
 refine done_ (done_of HT_.out (by kernel_rfl)) ?_
 try go_wp2
 refine bodyPost_ret (results_cell_row rfl _ _ gb724 25 #[.bool t735, .string t736, .string t737] (0, 0) _ rfl (xp BK724) Tryd.underlying25 rfl (by kernel_rfl)) rfl ?_
 exact ⟨xy, xs HB⟩
end Go.Proofs.YtpoogjcgjpkbeaaDoor.XC
