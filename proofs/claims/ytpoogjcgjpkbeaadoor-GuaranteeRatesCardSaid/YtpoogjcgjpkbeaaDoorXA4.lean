/- Walks of functions of the program: a plain Lean function for each, and a proof that a call answers as it says. Written by a program (the kit's print with changes, then shortened). -/
import Derived.Test.YtpoogjcgjpkbeaaDoorXA3
namespace Go.Proofs.YtpoogjcgjpkbeaaDoor.XA
open Go.RowKit Go.Proofs.YtpoogjcgjpkbeaaDoorW.PrintWords Go.Proofs.YtpoogjcgjpkbeaaDoorW.PrintLast Go.Proofs.YtpoogjcgjpkbeaaDoorW.PrintMore Go.Proofs.YtpoogjcgjpkbeaaDoorW.Sq Go.Proofs.YtpoogjcgjpkbeaaDoorW.Sr Go.Proofs.YtpoogjcgjpkbeaaDoorW.Ss
attribute [local go_sem] max2_int min2_int max_two min_two max_three min_three max_four min_four   -- for this text's walks alone
set_option linter.unusedVariables false
set_option linter.unusedSimpArgs false
set_option maxHeartbeats 8000000
set_option maxRecDepth 100000
open Go.RowKit Go.Proofs.YtpoogjcgjpkbeaaDoorW.PrintWords Go.Proofs.YtpoogjcgjpkbeaaDoorW.PrintLast Go.Proofs.YtpoogjcgjpkbeaaDoorW.PrintMore Go.Proofs.YtpoogjcgjpkbeaaDoorW.Sq Go.Proofs.YtpoogjcgjpkbeaaDoorW.Sr
/-! ### guarantee_Rates: function 23 -/
mutual
def guarantee_Rates.l0 : Nat → List (S25) → List (S25) → List (S25) → Int → Int → Bool → ByteArray → ByteArray → Bool → ByteArray → ByteArray → Bool → ByteArray → ByteArray → Bool → ByteArray → ByteArray → Option (List (S25))
 | 0, _, _, _, _, _, _, _, _, _, _, _, _, _, _, _, _, _ => none
 | k + 1, x2, x7, x20, x21, x22, x1037000, x1037001, x1037002, x1041000, x1041001, x1041002, x1042000, x1042001, x1042002, x1043000, x1043001, x1043002 => if x22 < x21 then (if 0 ≤ x22 then (if x22 < (x20.length : Int) then ((guarantee_positive.f k ((rd_T25 x20 x22).f0) ((rd_T25 x20 x22).f1) ((rd_T25 x20 x22).f2)).bind fun bt1045 => ((rational_Add.f k x1041000 x1041001 x1041002 bt1045.1 bt1045.2.1 bt1045.2.2).bind fun bt1048 => (if x22 < (x2.length : Int) then ((guarantee_positive.f k ((rd_T25 x2 x22).f0) ((rd_T25 x2 x22).f1) ((rd_T25 x2 x22).f2)).bind fun bt1052 => ((rational_Add.f k x1042000 x1042001 x1042002 bt1052.1 bt1052.2.1 bt1052.2.2).bind fun bt1055 => (guarantee_Rates.j1 k x2 x7 x22 x20 x21 x22 x1037000 x1037001 x1037002 bt1048.1 bt1048.2.1 bt1048.2.2 bt1055.1 bt1055.2.1 bt1055.2.2 x1043000 x1043001 x1043002))) else (guarantee_Rates.j1 k x2 x7 x22 x20 x21 x22 x1037000 x1037001 x1037002 bt1048.1 bt1048.2.1 bt1048.2.2 x1042000 x1042001 x1042002 x1043000 x1043001 x1043002)))) else (none)) else (none)) else (some x7)
def guarantee_Rates.j1 : Nat → List (S25) → List (S25) → Int → List (S25) → Int → Int → Bool → ByteArray → ByteArray → Bool → ByteArray → ByteArray → Bool → ByteArray → ByteArray → Bool → ByteArray → ByteArray → Option (List (S25))
 | 0, _, _, _, _, _, _, _, _, _, _, _, _, _, _, _, _, _, _ => none
 | k + 1, x2, x7, x11, x20, x21, x22, x1037000, x1037001, x1037002, x1041000, x1041001, x1041002, x1042000, x1042001, x1042002, x1043000, x1043001, x1043002 => (guarantee_positive.f k x1037000 x1037001 x1037002).bind fun bt1059 => ((rational_Compare.f k x1041000 x1041001 x1041002 bt1059.1 bt1059.2.1 bt1059.2.2).bind fun t1062 => (if t1062 ≥ 0 then ((rational_Subtract.f k x1042000 x1042001 x1042002 x1043000 x1043001 x1043002).bind fun bt1063 => (if 0 ≤ x11 then (if x11 < (x7.length : Int) then (guarantee_Rates.l0 k x2 (x7.set (x11 : Int).toNat (⟨bt1063.1, bt1063.2.1, bt1063.2.2⟩ : S25)) x20 x21 (wrap64 (x22 + 1)) x1037000 x1037001 x1037002 x1041000 x1041001 x1041002 x1042000 x1042001 x1042002 x1042000 x1042001 x1042002) else (none)) else (none))) else ((rational_Subtract.f k false (⟨#[]⟩ : ByteArray) (⟨#[]⟩ : ByteArray) x1043000 x1043001 x1043002).bind fun bt1067 => (if 0 ≤ x11 then (if x11 < (x7.length : Int) then (guarantee_Rates.l0 k x2 (x7.set (x11 : Int).toNat (⟨bt1067.1, bt1067.2.1, bt1067.2.2⟩ : S25)) x20 x21 (wrap64 (x22 + 1)) x1037000 x1037001 x1037002 x1041000 x1041001 x1041002 x1042000 x1042001 x1042002 false (⟨#[]⟩ : ByteArray) (⟨#[]⟩ : ByteArray)) else (none)) else (none)))))
end
def guarantee_Rates.f (k : Nat) (a0_0 : Bool) (a0_1 : ByteArray) (a0_2 : ByteArray) (l1 : List (S25)) (l2 : List (S25)) : Option (List (S25)) := if 0 ≤ (l1.length : Int) then (if ((l1.length : Int) : Int).toNat ≤ 7036874417766 then (guarantee_Rates.l0 k l2 (List.replicate ((l1.length : Int) : Int).toNat z25) l1 (l1.length : Int) 0 a0_0 a0_1 a0_2 false (⟨#[]⟩ : ByteArray) (⟨#[]⟩ : ByteArray) false (⟨#[]⟩ : ByteArray) (⟨#[]⟩ : ByteArray) false (⟨#[]⟩ : ByteArray) (⟨#[]⟩ : ByteArray)) else (none)) else (none)
theorem guarantee_Rates.mono_l : ∀ k, (∀ y0 y1 y2 y3 y4 y5 y6 y7 y8 y9 y10 y11 y12 y13 y14 y15 y16, LeO (guarantee_Rates.l0 k y0 y1 y2 y3 y4 y5 y6 y7 y8 y9 y10 y11 y12 y13 y14 y15 y16) (guarantee_Rates.l0 (k + 1) y0 y1 y2 y3 y4 y5 y6 y7 y8 y9 y10 y11 y12 y13 y14 y15 y16)) ∧ (∀ y0 y1 y2 y3 y4 y5 y6 y7 y8 y9 y10 y11 y12 y13 y14 y15 y16 y17, LeO (guarantee_Rates.j1 k y0 y1 y2 y3 y4 y5 y6 y7 y8 y9 y10 y11 y12 y13 y14 y15 y16 y17) (guarantee_Rates.j1 (k + 1) y0 y1 y2 y3 y4 y5 y6 y7 y8 y9 y10 y11 y12 y13 y14 y15 y16 y17))
 | 0 => ⟨fun _ _ _ _ _ _ _ _ _ _ _ _ _ _ _ _ _ r h => by simp [guarantee_Rates.l0] at h, fun _ _ _ _ _ _ _ _ _ _ _ _ _ _ _ _ _ _ r h => by simp [guarantee_Rates.j1] at h⟩
 | k + 1 => by
  obtain ⟨ih0, ih1⟩ := guarantee_Rates.mono_l k
  refine ⟨?_, ?_⟩
  ·intro y0 y1 y2 y3 y4 y5 y6 y7 y8 y9 y10 y11 y12 y13 y14 y15 y16
   unfold guarantee_Rates.l0
   have m0 := @ih0; have m1 := @ih1; have m2 := @guarantee_positive.mono; have m3 := @rational_Add.mono; have m4 := @rational_Compare.mono; have m5 := @rational_Subtract.mono; exact xM
  ·intro y0 y1 y2 y3 y4 y5 y6 y7 y8 y9 y10 y11 y12 y13 y14 y15 y16 y17
   unfold guarantee_Rates.j1
   have m0 := @ih0; have m1 := @ih1; have m2 := @guarantee_positive.mono; have m3 := @rational_Add.mono; have m4 := @rational_Compare.mono; have m5 := @rational_Subtract.mono; exact xM
theorem guarantee_Rates.mono : ∀ a0 a1 a2 a3 a4 k, LeO (guarantee_Rates.f k a0 a1 a2 a3 a4) (guarantee_Rates.f (k + 1) a0 a1 a2 a3 a4) := by
 intro a0 a1 a2 a3 a4 k
 obtain ⟨ih0, ih1⟩ := guarantee_Rates.mono_l k
 unfold guarantee_Rates.f
 have m0 := @ih0; have m1 := @ih1; have m2 := @guarantee_positive.mono; have m3 := @rational_Add.mono; have m4 := @rational_Compare.mono; have m5 := @rational_Subtract.mono; exact xM
def guarantee_Rates.T8 : Bool × List (List Nat × List Nat) := (true, [([], []), ([], []), ([], []), ([1, 2], [1, 2]), ([3], [3]), ([4], [4]), ([0, 5, 5], [0, 5]), ([6, 6, 0, 1, 2, 3, 4, 5, 6], [6])])
def guarantee_Rates.B8 : List Nat := [0, 0, 0, 6, 14, 30, 63, 127]
theorem guarantee_Rates.tab8 : rtab .any (opsOf Tryd.f23 8) = guarantee_Rates.T8 := by kernel_rfl
theorem guarantee_Rates.bits8 : waitsOk guarantee_Rates.T8.2 guarantee_Rates.B8 = true := by kernel_rfl
theorem guarantee_Rates.calls (k : Nat) (a0_0 : Bool) (a0_1 : ByteArray) (a0_2 : ByteArray) (A1 : Option Addr) (c1 : Nat) (l1 : List (S25)) (A2 : Option Addr) (c2 : Nat) (l2 : List (S25)) (r : List (S25)) (w : World) (hr1 : Kd.C k25 w A1 l1.length l1) (hc1 : l1.length ≤ c1) (hr2 : Kd.C k25 w A2 l2.length l2) (hc2 : l2.length ≤ c2) (h : guarantee_Rates.f k a0_0 a0_1 a0_2 l1 l2 = some r) :
  Calls Tryd.prog 23 #[.agg #[.bool a0_0, .string a0_1, .string a0_2], .slice A1 l1.length c1, .slice A2 l2.length c2] w fun e w' => ∃ v0_ : Value, e = .returned (v0_) ∧ Kd.R k25 25 w' w.heap.size (fun _ => True) v0_ r ∧ Below w.heap.size w w' := by
 have hu25 := Tryd.underlying25
 have HR1 := Aside0.mk hr1
 have HC1 := Aside0.mk hc1
 clear hr1 hc1
 have HR2 := Aside0.mk hr2
 have HC2 := Aside0.mk hc2
 clear hr2 hc2
 have HB := Aside0.mk (Below.refl w.heap.size w)
 have H := h; clear h
 unfold guarantee_Rates.f at H
 obtain ⟨c4b0, c4b1, H⟩ := xQt H
 obtain ⟨c5b0, c5b1, H⟩ := xQt H
 generalize hy1037 : (List.replicate ((l1.length : Int) : Int).toNat z25 : List (S25)) = y1037 at H
 have Ny1037 := Aside0.mk hy1037.symm
 clear hy1037
 have H' := Aside0.mk H
 clear H
 go_enter Tryd.func23, Tryd.ntmps23
 go_wp2_with (first | (refine xF (N := 3) #[.bool a0_0, .string a0_1, .string a0_2] 25 HB ?_; clear HB; intro gb1036 hg w6 hb BK1036 GW1036 HB; clear hb hg) | ((with_reducible refine gate_dst (N := 16) rfl ?_); refine Kd.R_make k25 _ 25 rfl (N := 16) rfl 27 _ _ rfl (l1.length : Int) rfl rfl Tryd.underlying27 (.agg #[(.bool false), (.string ⟨#[]⟩), (.string ⟨#[]⟩)]) 40 info25 rfl (by decide) (by omega) z25 (ok := fun _ => True) (okp := fun _ => True) (k25_mkM _ _ _ z25 ) (fun _ hk => hk) trivial (xa) (Nat.le_trans (Nat.mul_le_mul_right _ (xa : (l1.length : Int).toNat ≤ 7036874417766)) (by omega)) (Below.refl _ _) (Nat.le_refl _) ?_; intro v1038 w7 ho8 hb hg_ hnew_; clear hg_ hnew_; (rw [← Ny1037.out] at ho8); have HO1039 := Aside0.mk (Kd.R_lower (Kd.R_newB ho8 (g := gb1036) (o := .cells #[.bool a0_0, .string a0_1, .string a0_2] 25 (0, 0)) (xb BK1036)) (below_size (xs HB))); replace BK1036 := xB BK1036 hb; replace HB := xS HB hb; clear hb ho8) | (refine xF (N := 8) #[.bool false, .string (⟨#[]⟩ : ByteArray), .string (⟨#[]⟩ : ByteArray)] 25 HB ?_; clear HB; intro gb1040 hg w9 hb BK1040 GW1040 HB; replace HO1039 := Aside0.mk (Kd.R_below (Kd.R_elderB (xr HO1039.out) gb1040 (Nat.le_of_eq hg.symm)) hb); have NB1036_1040 := xL BK1036 hg; have NB1040_1036 := xR BK1036 hg; replace BK1036 := xB BK1036 hb; clear hb hg) | (refine xF (N := 9) #[.bool false, .string (⟨#[]⟩ : ByteArray), .string (⟨#[]⟩ : ByteArray)] 25 HB ?_; clear HB; intro gb1041 hg w10 hb BK1041 GW1041 HB; replace HO1039 := Aside0.mk (Kd.R_below (Kd.R_elderB (xr HO1039.out) gb1041 (Nat.le_of_eq hg.symm)) hb); have NB1036_1041 := xL BK1036 hg; have NB1041_1036 := xR BK1036 hg; replace BK1036 := xB BK1036 hb; have NB1040_1041 := xL BK1040 hg; have NB1041_1040 := xR BK1040 hg; replace BK1040 := xB BK1040 hb; clear hb hg) | (refine xF (N := 10) #[.bool false, .string (⟨#[]⟩ : ByteArray), .string (⟨#[]⟩ : ByteArray)] 25 HB ?_; clear HB; intro gb1042 hg w11 hb BK1042 GW1042 HB; replace HO1039 := Aside0.mk (Kd.R_below (Kd.R_elderB (xr HO1039.out) gb1042 (Nat.le_of_eq hg.symm)) hb); have NB1036_1042 := xL BK1036 hg; have NB1042_1036 := xR BK1036 hg; replace BK1036 := xB BK1036 hb; have NB1040_1042 := xL BK1040 hg; have NB1042_1040 := xR BK1040 hg; replace BK1040 := xB BK1040 hb; have NB1041_1042 := xL BK1041 hg; have NB1042_1041 := xR BK1041 hg; replace BK1041 := xB BK1041 hb; clear hb hg; have hnb12 := NB1040_1036.out; have hnc12 := NB1036_1040.out; have hnb13 := NB1040_1041.out; have hnc13 := NB1041_1040.out; have hnb14 := NB1040_1042.out; have hnc14 := NB1042_1040.out; obtain ⟨hcz15_0, hcz15_1, hcz15_2, hfz15_0, hfz15_1, hfz15_2⟩ := x6 BK1040; have hnb16 := NB1041_1036.out; have hnc16 := NB1036_1041.out; have hnb17 := NB1041_1042.out; have hnc17 := NB1042_1041.out; obtain ⟨hcz18_0, hcz18_1, hcz18_2, hfz18_0, hfz18_1, hfz18_2⟩ := x6 BK1041; have hnb19 := NB1042_1036.out; have hnc19 := NB1036_1042.out; obtain ⟨hcz20_0, hcz20_1, hcz20_2, hfz20_0, hfz20_1, hfz20_2⟩ := x6 BK1042))
 go_loopg [22] k (fun kq v22 w' => ∃ (x7_1 : List (S25)) (x22_1 : Int) (x1037000_1 : Bool) (x1037001_1 : ByteArray) (x1037002_1 : ByteArray) (x1041000_1 : Bool) (x1041001_1 : ByteArray) (x1041002_1 : ByteArray) (x1042000_1 : Bool) (x1042001_1 : ByteArray) (x1042002_1 : ByteArray) (x1043000_1 : Bool) (x1043001_1 : ByteArray) (x1043002_1 : ByteArray), v22 = .int .i64 x22_1 ∧ Aside0 (guarantee_Rates.l0 kq l2 x7_1 l1 (l1.length : Int) x22_1 x1037000_1 x1037001_1 x1037002_1 x1041000_1 x1041001_1 x1041002_1 x1042000_1 x1042001_1 x1042002_1 x1043000_1 x1043001_1 x1043002_1 = some r) ∧ Aside0 (kq ≤ k) ∧ Aside0 (Kd.R k25 25 w' w.heap.size (fun k_ => k_ ≠ gb1036 ∧ k_ ≠ gb1040 ∧ k_ ≠ gb1041 ∧ k_ ≠ gb1042) v1038 x7_1) ∧ Aside0 (w'.heap[gb1036]? = some (.cells #[.bool x1037000_1, .string x1037001_1, .string x1037002_1] 25 (0, 0))) ∧ Aside0 (w'.heap[gb1040]? = some (.cells #[.bool x1041000_1, .string x1041001_1, .string x1041002_1] 25 (0, 0))) ∧ Aside0 (w'.heap[gb1041]? = some (.cells #[.bool x1042000_1, .string x1042001_1, .string x1042002_1] 25 (0, 0))) ∧ Aside0 (w'.heap[gb1042]? = some (.cells #[.bool x1043000_1, .string x1043001_1, .string x1043002_1] 25 (0, 0))) ∧ Aside0 (Below w.heap.size w w'))
 case atStart => exact ⟨(y1037), (0), (a0_0), (a0_1), (a0_2), (false), (⟨#[]⟩ : ByteArray), (⟨#[]⟩ : ByteArray), (false), (⟨#[]⟩ : ByteArray), (⟨#[]⟩ : ByteArray), (false), (⟨#[]⟩ : ByteArray), (⟨#[]⟩ : ByteArray), xz, H', ⟨Nat.le_refl _⟩, ⟨by exact Kd.R_mono (Kd.R_far (p := ⟨gb1042, 2, none⟩) (Kd.R_far (p := ⟨gb1042, 1, none⟩) (Kd.R_far (p := ⟨gb1042, 0, none⟩) (Kd.R_far (p := ⟨gb1041, 2, none⟩) (Kd.R_far (p := ⟨gb1041, 1, none⟩) (Kd.R_far (p := ⟨gb1041, 0, none⟩) (Kd.R_far (p := ⟨gb1040, 2, none⟩) (Kd.R_far (p := ⟨gb1040, 1, none⟩) (Kd.R_far (p := ⟨gb1040, 0, none⟩) (Kd.R_mono (Kd.R_mono (Kd.R_mono HO1039.out (fun k_ hk => (⟨hk, hk.1.1.2⟩ : _ ∧ k_ ≠ gb1040))) (fun k_ hk => (⟨hk, hk.1.1.2⟩ : _ ∧ k_ ≠ gb1041))) (fun k_ hk => (⟨hk, hk.1.1.2⟩ : _ ∧ k_ ≠ gb1042))) (fun _ hk => hk.1.1.2) (.bool false)) (fun _ hk => hk.1.1.2) (.string (⟨#[]⟩ : ByteArray))) (fun _ hk => hk.1.1.2) (.string (⟨#[]⟩ : ByteArray))) (fun _ hk => hk.1.2) (.bool false)) (fun _ hk => hk.1.2) (.string (⟨#[]⟩ : ByteArray))) (fun _ hk => hk.1.2) (.string (⟨#[]⟩ : ByteArray))) (fun _ hk => hk.2) (.bool false)) (fun _ hk => hk.2) (.string (⟨#[]⟩ : ByteArray))) (fun _ hk => hk.2) (.string (⟨#[]⟩ : ByteArray))) (fun _ hk => ⟨hk.1.1.1.1.1.1.2, ⟨hk.1.1.1.1.1.2, ⟨hk.1.1.1.1.2, hk.1.1.1.2⟩⟩⟩)⟩, ⟨xb BK1036⟩, ⟨by refine blk_far ?_ NB1040_1042.out _; refine blk_far ?_ NB1040_1042.out _; refine blk_far ?_ NB1040_1042.out _; refine blk_far ?_ NB1040_1041.out _; refine blk_far ?_ NB1040_1041.out _; refine blk_far ?_ NB1040_1041.out _; refine blk_put (cs := #[.bool false, .string (⟨#[]⟩ : ByteArray), .string (⟨#[]⟩ : ByteArray)]) ?_ 2 _ (by rfl); refine blk_put (cs := #[.bool false, .string (⟨#[]⟩ : ByteArray), .string (⟨#[]⟩ : ByteArray)]) ?_ 1 _ (by rfl); refine blk_put (cs := #[.bool false, .string (⟨#[]⟩ : ByteArray), .string (⟨#[]⟩ : ByteArray)]) ?_ 0 _ (by rfl); exact BK1040.out⟩, ⟨by refine blk_far ?_ NB1041_1042.out _; refine blk_far ?_ NB1041_1042.out _; refine blk_far ?_ NB1041_1042.out _; refine blk_put (cs := #[.bool false, .string (⟨#[]⟩ : ByteArray), .string (⟨#[]⟩ : ByteArray)]) ?_ 2 _ (by rfl); refine blk_put (cs := #[.bool false, .string (⟨#[]⟩ : ByteArray), .string (⟨#[]⟩ : ByteArray)]) ?_ 1 _ (by rfl); refine blk_put (cs := #[.bool false, .string (⟨#[]⟩ : ByteArray), .string (⟨#[]⟩ : ByteArray)]) ?_ 0 _ (by rfl); refine blk_far ?_ NB1041_1040.out _; refine blk_far ?_ NB1041_1040.out _; refine blk_far ?_ NB1041_1040.out _; exact BK1041.out⟩, ⟨by refine blk_put (cs := #[.bool false, .string (⟨#[]⟩ : ByteArray), .string (⟨#[]⟩ : ByteArray)]) ?_ 2 _ (by rfl); refine blk_put (cs := #[.bool false, .string (⟨#[]⟩ : ByteArray), .string (⟨#[]⟩ : ByteArray)]) ?_ 1 _ (by rfl); refine blk_put (cs := #[.bool false, .string (⟨#[]⟩ : ByteArray), .string (⟨#[]⟩ : ByteArray)]) ?_ 0 _ (by rfl); refine blk_far ?_ NB1042_1041.out _; refine blk_far ?_ NB1042_1041.out _; refine blk_far ?_ NB1042_1041.out _; refine blk_far ?_ NB1042_1040.out _; refine blk_far ?_ NB1042_1040.out _; refine blk_far ?_ NB1042_1040.out _; exact BK1042.out⟩, ⟨xs HB⟩⟩
 case round =>
  clear H'
  clear c4b0 c4b1 c5b0 c5b1 hcz15_0 hcz15_1 hcz15_2 hcz18_0 hcz18_1 hcz18_2 hcz20_0 hcz20_1 hcz20_2 hfz15_0 hfz15_1 hfz15_2 hfz18_0 hfz18_1 hfz18_2 hfz20_0 hfz20_1 hfz20_2
  obtain ⟨x7_1, x22_1, x1037000_1, x1037001_1, x1037002_1, x1041000_1, x1041001_1, x1041002_1, x1042000_1, x1042001_1, x1042002_1, x1043000_1, x1043001_1, x1043002_1, rfl, HA, HK1, HO_7, BK1036, BK1040, BK1041, BK1042, HB⟩ := hrel
  cases gk with
  | zero => exact absurd HA.out (by simp [guarantee_Rates.l0])
  | succ k1 =>
   have H := HA.out
   clear HA
   simp only [guarantee_Rates.l0] at H
   obtain ⟨c21b0, H⟩ | ⟨c21b0, H⟩ := xOd H
   ·obtain ⟨c22b0, H⟩ := xQd H
    obtain ⟨c23b0, H⟩ := xQd H
    replace H := xH H; obtain ⟨⟨t1045, t1046, t1047⟩, A24, H⟩ := H
    dsimp only at H
    replace H := xH H; obtain ⟨⟨t1048, t1049, t1050⟩, A25, H⟩ := H
    dsimp only at H
    have HC26 := Aside0.mk H
    clear H
    obtain ⟨p1043, q1043, ad1043, e1043, hx1043_0, hx1043_1, hx1043_2⟩ := xA (at_T25 HR1.out x22_1)
    cases e1043
    (try replace hx1043_0 := xcl HB hx1043_0)
    (try replace hx1043_1 := xcl HB hx1043_1)
    (try replace hx1043_2 := xcl HB hx1043_2)
    try go_wp2_with (refine xF (N := 12) #[.bool false, .string (⟨#[]⟩ : ByteArray), .string (⟨#[]⟩ : ByteArray)] 25 HB ?_; clear HB; intro gb1044 hg w27 hb BK1044 GW1044 HB; replace HO_7 := Aside0.mk (Kd.R_below (Kd.R_elderB (xr HO_7.out) gb1044 (Nat.le_of_eq hg.symm)) hb); have NB1036_1044 := xL BK1036 hg; have NB1044_1036 := xR BK1036 hg; replace BK1036 := xB BK1036 hb; have NB1040_1044 := xL BK1040 hg; have NB1044_1040 := xR BK1040 hg; replace BK1040 := xB BK1040 hb; have NB1041_1044 := xL BK1041 hg; have NB1044_1041 := xR BK1041 hg; replace BK1041 := xB BK1041 hb; have NB1042_1044 := xL BK1042 hg; have NB1044_1042 := xR BK1042 hg; replace BK1042 := xB BK1042 hb; clear hb hg; have hnb28 := NB1044_1036.out; have hnc28 := NB1036_1044.out; have hnb29 := NB1044_1040.out; have hnc29 := NB1040_1044.out; have hnb30 := NB1044_1041.out; have hnc30 := NB1041_1044.out; have hnb31 := NB1044_1042.out; have hnc31 := NB1042_1044.out; obtain ⟨hcz32_0, hcz32_1, hcz32_2, hfz32_0, hfz32_1, hfz32_2⟩ := x6 BK1044)
    have n0_ : Aside0 (Kd.R k25 25 (((w27.setCell ⟨gb1044, 0, none⟩ (.bool ((rd_T25 l1 x22_1).f0))).setCell ⟨gb1044, 1, none⟩ (.string ((rd_T25 l1 x22_1).f1))).setCell ⟨gb1044, 2, none⟩ (.string ((rd_T25 l1 x22_1).f2))) w.heap.size (fun k_ => k_ ≠ gb1036 ∧ k_ ≠ gb1040 ∧ k_ ≠ gb1041 ∧ k_ ≠ gb1042 ∧ k_ ≠ gb1044) v1038 x7_1) := ⟨by exact Kd.R_mono (Kd.R_far (p := ⟨gb1044, 2, none⟩) (Kd.R_far (p := ⟨gb1044, 1, none⟩) (Kd.R_far (p := ⟨gb1044, 0, none⟩) (Kd.R_mono HO_7.out (fun k_ hk => (⟨hk, hk.2⟩ : _ ∧ k_ ≠ gb1044))) (fun _ hk => hk.2) (.bool ((rd_T25 l1 x22_1).f0))) (fun _ hk => hk.2) (.string ((rd_T25 l1 x22_1).f1))) (fun _ hk => hk.2) (.string ((rd_T25 l1 x22_1).f2))) (fun _ hk => ⟨hk.1.1.1, ⟨hk.1.1.2.1, ⟨hk.1.1.2.2.1, ⟨hk.1.1.2.2.2, hk.1.2⟩⟩⟩⟩)⟩
    have n1_ : Aside0 ((((w27.setCell ⟨gb1044, 0, none⟩ (.bool ((rd_T25 l1 x22_1).f0))).setCell ⟨gb1044, 1, none⟩ (.string ((rd_T25 l1 x22_1).f1))).setCell ⟨gb1044, 2, none⟩ (.string ((rd_T25 l1 x22_1).f2))).heap[gb1036]? = some (.cells #[.bool x1037000_1, .string x1037001_1, .string x1037002_1] 25 (0, 0))) := ⟨xb BK1036⟩
    have n2_ : Aside0 ((((w27.setCell ⟨gb1044, 0, none⟩ (.bool ((rd_T25 l1 x22_1).f0))).setCell ⟨gb1044, 1, none⟩ (.string ((rd_T25 l1 x22_1).f1))).setCell ⟨gb1044, 2, none⟩ (.string ((rd_T25 l1 x22_1).f2))).heap[gb1040]? = some (.cells #[.bool x1041000_1, .string x1041001_1, .string x1041002_1] 25 (0, 0))) := ⟨xb BK1040⟩
    have n3_ : Aside0 ((((w27.setCell ⟨gb1044, 0, none⟩ (.bool ((rd_T25 l1 x22_1).f0))).setCell ⟨gb1044, 1, none⟩ (.string ((rd_T25 l1 x22_1).f1))).setCell ⟨gb1044, 2, none⟩ (.string ((rd_T25 l1 x22_1).f2))).heap[gb1041]? = some (.cells #[.bool x1042000_1, .string x1042001_1, .string x1042002_1] 25 (0, 0))) := ⟨xb BK1041⟩
    have n4_ : Aside0 ((((w27.setCell ⟨gb1044, 0, none⟩ (.bool ((rd_T25 l1 x22_1).f0))).setCell ⟨gb1044, 1, none⟩ (.string ((rd_T25 l1 x22_1).f1))).setCell ⟨gb1044, 2, none⟩ (.string ((rd_T25 l1 x22_1).f2))).heap[gb1042]? = some (.cells #[.bool x1043000_1, .string x1043001_1, .string x1043002_1] 25 (0, 0))) := ⟨xb BK1042⟩
    have n5_ : Aside0 ((((w27.setCell ⟨gb1044, 0, none⟩ (.bool ((rd_T25 l1 x22_1).f0))).setCell ⟨gb1044, 1, none⟩ (.string ((rd_T25 l1 x22_1).f1))).setCell ⟨gb1044, 2, none⟩ (.string ((rd_T25 l1 x22_1).f2))).heap[gb1044]? = some (.cells #[.bool ((rd_T25 l1 x22_1).f0), .string ((rd_T25 l1 x22_1).f1), .string ((rd_T25 l1 x22_1).f2)] 25 (0, 0))) := ⟨xp BK1044⟩
    have n6_ : Aside0 (Below w.heap.size w (((w27.setCell ⟨gb1044, 0, none⟩ (.bool ((rd_T25 l1 x22_1).f0))).setCell ⟨gb1044, 1, none⟩ (.string ((rd_T25 l1 x22_1).f1))).setCell ⟨gb1044, 2, none⟩ (.string ((rd_T25 l1 x22_1).f2)))) := ⟨xs HB⟩
    clear HO_7 BK1036 BK1040 BK1041 BK1042 BK1044 HB
    generalize (((w27.setCell ⟨gb1044, 0, none⟩ (.bool ((rd_T25 l1 x22_1).f0))).setCell ⟨gb1044, 1, none⟩ (.string ((rd_T25 l1 x22_1).f1))).setCell ⟨gb1044, 2, none⟩ (.string ((rd_T25 l1 x22_1).f2))) = w33 at n0_ n1_ n2_ n3_ n4_ n5_ n6_ ⊢
    have HO_7 := n0_
    have BK1036 := n1_
    have BK1040 := n2_
    have BK1041 := n3_
    have BK1042 := n4_
    have BK1044 := n5_
    have HB := n6_
    clear n0_ n1_ n2_ n3_ n4_ n5_ n6_
    replace HO_7 := Aside0.mk (Kd.R_drew HO_7.out)
    replace BK1036 := xD BK1036
    replace BK1040 := xD BK1040
    replace BK1041 := xD BK1041
    replace BK1042 := xD BK1042
    replace BK1044 := xD BK1044
    replace HB := xW HB
    refine start_ (n := 5) (S := fun w' => w'.cell? ⟨gb1040, 0, none⟩ = some (.bool x1041000_1) ∧ w'.cell? ⟨gb1040, 1, none⟩ = some (.string x1041001_1) ∧ w'.cell? ⟨gb1040, 2, none⟩ = some (.string x1041002_1) ∧ w'.cell? ⟨gb1044, 0, none⟩ = some (.bool ((rd_T25 l1 x22_1).f0)) ∧ w'.cell? ⟨gb1044, 1, none⟩ = some (.string ((rd_T25 l1 x22_1).f1)) ∧ w'.cell? ⟨gb1044, 2, none⟩ = some (.string ((rd_T25 l1 x22_1).f2))) (ds := [4]) (b 5 0) (by kernel_rfl) rfl rfl xV (fun hHeld => ?_)
    generalize w33.drew = w34 at HO_7 BK1036 BK1040 BK1041 BK1042 BK1044 HB hHeld ⊢
    refine yT 0 (some 27) (b 5 1) hHeld ?_
    refine yT 1 (some 28) (b 5 3) hHeld ?_
    refine yO 2 (some 29) (b 5 7) fun K hK => ?_
    refine xc Tryd.func35 (guarantee_positive.calls k1 ((rd_T25 l1 x22_1).f0) ((rd_T25 l1 x22_1).f1) ((rd_T25 l1 x22_1).f2) t1045 t1046 t1047 _ A24.out) ?_
    rintro w35 hb
    replace HO_7 := xRb HO_7 hb
    replace BK1036 := xB BK1036 hb
    replace BK1040 := xB BK1040 hb
    replace BK1041 := xB BK1041 hb
    replace BK1042 := xB BK1042 hb
    replace BK1044 := xB BK1044 hb
    replace HB := xS HB hb
    clear hb
    refine hK.out _ _ xV (fun hHeld => ?_)
    clear hK K
    refine xN 29 ?_
    refine yO 3 (some 30) (b 5 15) fun K hK => ?_
    refine xc Tryd.func21 (rational_Add.calls k1 x1041000_1 x1041001_1 x1041002_1 t1045 t1046 t1047 t1048 t1049 t1050 _ A25.out) ?_
    rintro w36 hb
    replace HO_7 := xRb HO_7 hb
    replace BK1036 := xB BK1036 hb
    replace BK1040 := xB BK1040 hb
    replace BK1041 := xB BK1041 hb
    replace BK1042 := xB BK1042 hb
    replace BK1044 := xB BK1044 hb
    replace HB := xS HB hb
    clear hb
    refine hK.out _ _ xV (fun hHeld => ?_)
    clear hK K
    refine xN 30 ?_
    refine yZ 4 none (b 5 31) fun K hK => ?_
    obtain ⟨hs37, hs38, hs39, hfs37, hfs38, hfs39⟩ := x6 BK1040
    have hns37_0 := NB1036_1040.out
    have hns37_2 := NB1041_1040.out
    have hns37_3 := NB1042_1040.out
    have hns37_4 := NB1044_1040.out
    have hms37_0 := NB1040_1036.out
    have hms37_2 := NB1040_1041.out
    have hms37_3 := NB1040_1042.out
    have hms37_4 := NB1040_1044.out
    refine xk ?_
    refine hK.out _ _ ?_
    clear hK K
    refine done_ (by kernel_rfl) ?_
    go_upto_if 34 with (fail)
    repeat (go_quiet (fail); go_upto_if 34 with (fail))
    go_cut [] (fun wc => ∃ (kq : Nat) (x1042000_25 : Bool) (x1042001_25 : ByteArray) (x1042002_25 : ByteArray), Aside0 (guarantee_Rates.j1 kq l2 x7_1 x22_1 l1 (l1.length : Int) x22_1 x1037000_1 x1037001_1 x1037002_1 t1048 t1049 t1050 x1042000_25 x1042001_25 x1042002_25 x1043000_1 x1043001_1 x1043002_1 = some r) ∧ Aside0 (kq ≤ k1) ∧ Aside0 (Kd.R k25 25 wc w.heap.size (fun k_ => k_ ≠ gb1036 ∧ k_ ≠ gb1040 ∧ k_ ≠ gb1041 ∧ k_ ≠ gb1042 ∧ k_ ≠ gb1044) v1038 x7_1) ∧ Aside0 (wc.heap[gb1036]? = some (.cells #[.bool x1037000_1, .string x1037001_1, .string x1037002_1] 25 (0, 0))) ∧ Aside0 (wc.heap[gb1040]? = some (.cells #[.bool t1048, .string t1049, .string t1050] 25 (0, 0))) ∧ Aside0 (wc.heap[gb1041]? = some (.cells #[.bool x1042000_25, .string x1042001_25, .string x1042002_25] 25 (0, 0))) ∧ Aside0 (wc.heap[gb1042]? = some (.cells #[.bool x1043000_1, .string x1043001_1, .string x1043002_1] 25 (0, 0))) ∧ Aside0 (wc.heap[gb1044]? = some (.cells #[.bool ((rd_T25 l1 x22_1).f0), .string ((rd_T25 l1 x22_1).f1), .string ((rd_T25 l1 x22_1).f2)] 25 (0, 0))) ∧ Aside0 (Below w.heap.size w wc))
    case first =>
     have H := HC26.out
     clear HC26
     obtain ⟨c40b0, H⟩ | ⟨c40b0, H⟩ := xOd H
     ·rw [c40b0]
      replace H := xH H; obtain ⟨⟨t1052, t1053, t1054⟩, A41, H⟩ := H
      dsimp only at H
      replace H := xH H; obtain ⟨⟨t1055, t1056, t1057⟩, A42, H⟩ := H
      dsimp only at H
      have H' := Aside0.mk H
      clear H
      try go_wp2
      have n0_ : Aside0 (Kd.R k25 25 (((w36.setCell ⟨gb1040, 0, none⟩ (.bool t1048)).setCell ⟨gb1040, 1, none⟩ (.string t1049)).setCell ⟨gb1040, 2, none⟩ (.string t1050)) w.heap.size (fun k_ => k_ ≠ gb1036 ∧ k_ ≠ gb1040 ∧ k_ ≠ gb1041 ∧ k_ ≠ gb1042 ∧ k_ ≠ gb1044) v1038 x7_1) := ⟨by exact Kd.R_mono (Kd.R_far (p := ⟨gb1040, 2, none⟩) (Kd.R_far (p := ⟨gb1040, 1, none⟩) (Kd.R_far (p := ⟨gb1040, 0, none⟩) (Kd.R_mono HO_7.out (fun k_ hk => (⟨hk, hk.2.1⟩ : _ ∧ k_ ≠ gb1040))) (fun _ hk => hk.2) (.bool t1048)) (fun _ hk => hk.2) (.string t1049)) (fun _ hk => hk.2) (.string t1050)) (fun _ hk => ⟨hk.1.1, ⟨hk.1.2.1, ⟨hk.1.2.2.1, ⟨hk.1.2.2.2.1, hk.1.2.2.2.2⟩⟩⟩⟩)⟩
      have n1_ : Aside0 ((((w36.setCell ⟨gb1040, 0, none⟩ (.bool t1048)).setCell ⟨gb1040, 1, none⟩ (.string t1049)).setCell ⟨gb1040, 2, none⟩ (.string t1050)).heap[gb1036]? = some (.cells #[.bool x1037000_1, .string x1037001_1, .string x1037002_1] 25 (0, 0))) := ⟨xb BK1036⟩
      have n2_ : Aside0 ((((w36.setCell ⟨gb1040, 0, none⟩ (.bool t1048)).setCell ⟨gb1040, 1, none⟩ (.string t1049)).setCell ⟨gb1040, 2, none⟩ (.string t1050)).heap[gb1040]? = some (.cells #[.bool t1048, .string t1049, .string t1050] 25 (0, 0))) := ⟨xp BK1040⟩
      have n3_ : Aside0 ((((w36.setCell ⟨gb1040, 0, none⟩ (.bool t1048)).setCell ⟨gb1040, 1, none⟩ (.string t1049)).setCell ⟨gb1040, 2, none⟩ (.string t1050)).heap[gb1041]? = some (.cells #[.bool x1042000_1, .string x1042001_1, .string x1042002_1] 25 (0, 0))) := ⟨xb BK1041⟩
      have n4_ : Aside0 ((((w36.setCell ⟨gb1040, 0, none⟩ (.bool t1048)).setCell ⟨gb1040, 1, none⟩ (.string t1049)).setCell ⟨gb1040, 2, none⟩ (.string t1050)).heap[gb1042]? = some (.cells #[.bool x1043000_1, .string x1043001_1, .string x1043002_1] 25 (0, 0))) := ⟨xb BK1042⟩
      have n5_ : Aside0 ((((w36.setCell ⟨gb1040, 0, none⟩ (.bool t1048)).setCell ⟨gb1040, 1, none⟩ (.string t1049)).setCell ⟨gb1040, 2, none⟩ (.string t1050)).heap[gb1044]? = some (.cells #[.bool ((rd_T25 l1 x22_1).f0), .string ((rd_T25 l1 x22_1).f1), .string ((rd_T25 l1 x22_1).f2)] 25 (0, 0))) := ⟨xb BK1044⟩
      have n6_ : Aside0 (Below w.heap.size w (((w36.setCell ⟨gb1040, 0, none⟩ (.bool t1048)).setCell ⟨gb1040, 1, none⟩ (.string t1049)).setCell ⟨gb1040, 2, none⟩ (.string t1050))) := ⟨xs HB⟩
      clear HO_7 BK1036 BK1040 BK1041 BK1042 BK1044 HB
      generalize (((w36.setCell ⟨gb1040, 0, none⟩ (.bool t1048)).setCell ⟨gb1040, 1, none⟩ (.string t1049)).setCell ⟨gb1040, 2, none⟩ (.string t1050)) = w43 at n0_ n1_ n2_ n3_ n4_ n5_ n6_ ⊢
      have HO_7 := n0_
      have BK1036 := n1_
      have BK1040 := n2_
      have BK1041 := n3_
      have BK1042 := n4_
      have BK1044 := n5_
      have HB := n6_
      clear n0_ n1_ n2_ n3_ n4_ n5_ n6_
      replace HO_7 := Aside0.mk (Kd.R_drew HO_7.out)
      replace BK1036 := xD BK1036
      replace BK1040 := xD BK1040
      replace BK1041 := xD BK1041
      replace BK1042 := xD BK1042
      replace BK1044 := xD BK1044
      replace HB := xW HB
      obtain ⟨p1051, q1051, ad1051, e1051, hx1051_0, hx1051_1, hx1051_2⟩ := xA (at_T25 HR2.out x22_1)
      have hw1051_2 := hx1051_2
      have hw1051_1 := hx1051_1
      have hw1051_0 := hx1051_0
      cases e1051
      (try replace hx1051_0 := xcl HB hx1051_0)
      (try replace hx1051_1 := xcl HB hx1051_1)
      (try replace hx1051_2 := xcl HB hx1051_2)
      refine start_ (n := 8) (S := fun w' => w'.cell? ⟨gb1041, 0, none⟩ = some (.bool x1042000_1) ∧ w'.cell? ⟨gb1041, 1, none⟩ = some (.string x1042001_1) ∧ w'.cell? ⟨gb1041, 2, none⟩ = some (.string x1042002_1) ∧ w'.cell? (ad1051.add ((x22_1).toNat * 3)) = some (.bool ((rd_T25 l2 x22_1).f0)) ∧ w'.cell? ⟨(ad1051.add ((x22_1).toNat * 3)).block, (ad1051.add ((x22_1).toNat * 3)).off + 1, none⟩ = some (.string ((rd_T25 l2 x22_1).f1)) ∧ w'.cell? ⟨(ad1051.add ((x22_1).toNat * 3)).block, (ad1051.add ((x22_1).toNat * 3)).off + 2, none⟩ = some (.string ((rd_T25 l2 x22_1).f2))) (ds := [7]) (b 8 0) (by kernel_rfl) rfl rfl ⟨(blk_cell BK1041.out 0).trans rfl, (blk_cell BK1041.out 1).trans rfl, (blk_cell BK1041.out 2).trans rfl, ((HB.out.cell (World.block_lt_of_cell? w _ hw1051_0)).trans hw1051_0), ((HB.out.cell (World.block_lt_of_cell? w _ hw1051_1)).trans hw1051_1), ((HB.out.cell (World.block_lt_of_cell? w _ hw1051_2)).trans hw1051_2)⟩ (fun hHeld => ?_); refine with_tabW guarantee_Rates.tab8 guarantee_Rates.bits8 (fun HT_ HW_ => ?_)
      generalize w43.drew = w44 at HO_7 BK1036 BK1040 BK1041 BK1042 BK1044 HB hx1051_0 hx1051_1 hx1051_2 hHeld ⊢
      refine yP 1 (some 36) (b 8 2) ?_
      refine yP 2 (some 37) (b 8 6) ?_
      refine yP 3 (some 38) (b 8 14) ?_
      refine yT 0 (some 35) (b 8 15) hHeld ?_
      refine yT 4 (some 39) (b 8 31) hHeld ?_
      refine yO 5 (some 40) (b 8 63) fun K hK => ?_
      refine xc Tryd.func35 (guarantee_positive.calls k1 ((rd_T25 l2 x22_1).f0) ((rd_T25 l2 x22_1).f1) ((rd_T25 l2 x22_1).f2) t1052 t1053 t1054 _ A41.out) ?_
      rintro w45 hb
      replace HO_7 := xRb HO_7 hb
      replace BK1036 := xB BK1036 hb
      replace BK1040 := xB BK1040 hb
      replace BK1041 := xB BK1041 hb
      replace BK1042 := xB BK1042 hb
      replace BK1044 := xB BK1044 hb
      replace HB := xS HB hb
      clear hb
      refine hK.out _ _ ⟨(blk_cell BK1041.out 0).trans rfl, (blk_cell BK1041.out 1).trans rfl, (blk_cell BK1041.out 2).trans rfl, ((HB.out.cell (World.block_lt_of_cell? w _ hw1051_0)).trans hw1051_0), ((HB.out.cell (World.block_lt_of_cell? w _ hw1051_1)).trans hw1051_1), ((HB.out.cell (World.block_lt_of_cell? w _ hw1051_2)).trans hw1051_2)⟩ (fun hHeld => ?_)
      clear hK K
      refine xN 40 ?_
      refine yO 6 (some 41) (b 8 127) fun K hK => ?_
      refine xc Tryd.func21 (rational_Add.calls k1 x1042000_1 x1042001_1 x1042002_1 t1052 t1053 t1054 t1055 t1056 t1057 _ A42.out) ?_
      rintro w46 hb
      replace HO_7 := xRb HO_7 hb
      replace BK1036 := xB BK1036 hb
      replace BK1040 := xB BK1040 hb
      replace BK1041 := xB BK1041 hb
      replace BK1042 := xB BK1042 hb
      replace BK1044 := xB BK1044 hb
      replace HB := xS HB hb
      clear hb
      refine hK.out _ _ ⟨(blk_cell BK1041.out 0).trans rfl, (blk_cell BK1041.out 1).trans rfl, (blk_cell BK1041.out 2).trans rfl, ((HB.out.cell (World.block_lt_of_cell? w _ hw1051_0)).trans hw1051_0), ((HB.out.cell (World.block_lt_of_cell? w _ hw1051_1)).trans hw1051_1), ((HB.out.cell (World.block_lt_of_cell? w _ hw1051_2)).trans hw1051_2)⟩ (fun hHeld => ?_)
      clear hK K
      refine xN 41 ?_
      refine yZ 7 none (b 8 255) fun K hK => ?_
      obtain ⟨hs47, hs48, hs49, hfs47, hfs48, hfs49⟩ := x6 BK1041
      have hns47_0 := NB1036_1041.out
      have hns47_1 := NB1040_1041.out
      have hns47_3 := NB1042_1041.out
      have hns47_4 := NB1044_1041.out
      have hms47_0 := NB1041_1036.out
      have hms47_1 := NB1041_1040.out
      have hms47_3 := NB1041_1042.out
      have hms47_4 := NB1041_1044.out
      refine xk ?_
      refine hK.out _ _ ?_
      clear hK K
      refine done_ (done_of HT_.out (by kernel_rfl)) ?_
      try go_wp2
      go_meet
      case rel => exact ⟨_, (t1055), (t1056), (t1057), H', ⟨by have := HK1.out; omega⟩, ⟨by exact Kd.R_mono (Kd.R_far (p := ⟨gb1041, 2, none⟩) (Kd.R_far (p := ⟨gb1041, 1, none⟩) (Kd.R_far (p := ⟨gb1041, 0, none⟩) (Kd.R_mono HO_7.out (fun k_ hk => (⟨hk, hk.2.2.1⟩ : _ ∧ k_ ≠ gb1041))) (fun _ hk => hk.2) (.bool t1055)) (fun _ hk => hk.2) (.string t1056)) (fun _ hk => hk.2) (.string t1057)) (fun _ hk => ⟨hk.1.1, ⟨hk.1.2.1, ⟨hk.1.2.2.1, ⟨hk.1.2.2.2.1, hk.1.2.2.2.2⟩⟩⟩⟩)⟩, ⟨xb BK1036⟩, ⟨xb BK1040⟩, ⟨by refine blk_put (cs := #[.bool t1055, .string t1056, .string x1042002_1]) ?_ 2 _ (by rfl); refine blk_put (cs := #[.bool t1055, .string x1042001_1, .string x1042002_1]) ?_ 1 _ (by rfl); refine blk_put (cs := #[.bool x1042000_1, .string x1042001_1, .string x1042002_1]) ?_ 0 _ (by rfl); exact BK1041.out⟩, ⟨xb BK1042⟩, ⟨xb BK1044⟩, ⟨xs HB⟩⟩
     rw [c40b0]
     have H' := Aside0.mk H
     clear H
     go_wp2
     go_meet
     case rel => exact ⟨_, (x1042000_1), (x1042001_1), (x1042002_1), H', ⟨by have := HK1.out; omega⟩, ⟨by exact Kd.R_mono (Kd.R_far (p := ⟨gb1040, 2, none⟩) (Kd.R_far (p := ⟨gb1040, 1, none⟩) (Kd.R_far (p := ⟨gb1040, 0, none⟩) (Kd.R_mono HO_7.out (fun k_ hk => (⟨hk, hk.2.1⟩ : _ ∧ k_ ≠ gb1040))) (fun _ hk => hk.2) (.bool t1048)) (fun _ hk => hk.2) (.string t1049)) (fun _ hk => hk.2) (.string t1050)) (fun _ hk => ⟨hk.1.1, ⟨hk.1.2.1, ⟨hk.1.2.2.1, ⟨hk.1.2.2.2.1, hk.1.2.2.2.2⟩⟩⟩⟩)⟩, ⟨xb BK1036⟩, ⟨by refine blk_put (cs := #[.bool t1048, .string t1049, .string x1041002_1]) ?_ 2 _ (by rfl); refine blk_put (cs := #[.bool t1048, .string x1041001_1, .string x1041002_1]) ?_ 1 _ (by rfl); refine blk_put (cs := #[.bool x1041000_1, .string x1041001_1, .string x1041002_1]) ?_ 0 _ (by rfl); exact BK1040.out⟩, ⟨xb BK1041⟩, ⟨xb BK1042⟩, ⟨xb BK1044⟩, ⟨xs HB⟩⟩
    case rest =>
     clear HC26
     clear c21b0 c22b0 c23b0 hcz32_0 hcz32_1 hcz32_2 hfz32_0 hfz32_1 hfz32_2 hx1043_0 hx1043_1 hx1043_2 p1043 q1043
     obtain ⟨kq, x1042000_25, x1042001_25, x1042002_25, HA, HJ25, HO_7, BK1036, BK1040, BK1041, BK1042, BK1044, HB⟩ := hcut
     cases kq with
     | zero => exact absurd HA.out (by simp [guarantee_Rates.j1])
     | succ kj25 =>
      have H := HA.out
      clear HA
      simp only [guarantee_Rates.j1] at H
      replace H := xH H; obtain ⟨⟨t1059, t1060, t1061⟩, A50, H⟩ := H
      dsimp only at H
      replace H := xH H; obtain ⟨t1062, A51, H⟩ := H
      obtain ⟨c52b0, H⟩ | ⟨c52b0, H⟩ := xOd H
      ·replace H := xH H; obtain ⟨⟨t1063, t1064, t1065⟩, A53, H⟩ := H
       dsimp only at H
       obtain ⟨c54b0, H⟩ := xQd H
       obtain ⟨c55b0, H⟩ := xQd H
       generalize hy1066 : (x7_1.set (x22_1 : Int).toNat (⟨t1063, t1064, t1065⟩ : S25) : List (S25)) = y1066 at H
       have Ny1066 := Aside0.mk hy1066.symm
       clear hy1066
       have H' := Aside0.mk H
       clear H
       try go_wp2_with (refine xF (N := 13) #[.bool false, .string (⟨#[]⟩ : ByteArray), .string (⟨#[]⟩ : ByteArray)] 25 HB ?_; clear HB; intro gb1058 hg w57 hb BK1058 GW1058 HB; replace HO_7 := Aside0.mk (Kd.R_below (Kd.R_elderB (xr HO_7.out) gb1058 (Nat.le_of_eq hg.symm)) hb); have NB1036_1058 := xL BK1036 hg; have NB1058_1036 := xR BK1036 hg; replace BK1036 := xB BK1036 hb; have NB1040_1058 := xL BK1040 hg; have NB1058_1040 := xR BK1040 hg; replace BK1040 := xB BK1040 hb; have NB1041_1058 := xL BK1041 hg; have NB1058_1041 := xR BK1041 hg; replace BK1041 := xB BK1041 hb; have NB1042_1058 := xL BK1042 hg; have NB1058_1042 := xR BK1042 hg; replace BK1042 := xB BK1042 hb; have NB1044_1058 := xL BK1044 hg; have NB1058_1044 := xR BK1044 hg; replace BK1044 := xB BK1044 hb; clear hb hg; have hnb58 := NB1058_1036.out; have hnc58 := NB1036_1058.out; have hnb59 := NB1058_1040.out; have hnc59 := NB1040_1058.out; have hnb60 := NB1058_1041.out; have hnc60 := NB1041_1058.out; have hnb61 := NB1058_1042.out; have hnc61 := NB1042_1058.out; have hnb62 := NB1058_1044.out; have hnc62 := NB1044_1058.out; obtain ⟨hcz63_0, hcz63_1, hcz63_2, hfz63_0, hfz63_1, hfz63_2⟩ := x6 BK1058)
       have n0_ : Aside0 (Kd.R k25 25 (((w57.setCell ⟨gb1058, 0, none⟩ (.bool false)).setCell ⟨gb1058, 1, none⟩ (.string (⟨#[]⟩ : ByteArray))).setCell ⟨gb1058, 2, none⟩ (.string (⟨#[]⟩ : ByteArray))) w.heap.size (fun k_ => k_ ≠ gb1036 ∧ k_ ≠ gb1040 ∧ k_ ≠ gb1041 ∧ k_ ≠ gb1042 ∧ k_ ≠ gb1044 ∧ k_ ≠ gb1058) v1038 x7_1) := ⟨by exact Kd.R_mono (Kd.R_far (p := ⟨gb1058, 2, none⟩) (Kd.R_far (p := ⟨gb1058, 1, none⟩) (Kd.R_far (p := ⟨gb1058, 0, none⟩) (Kd.R_mono HO_7.out (fun k_ hk => (⟨hk, hk.2⟩ : _ ∧ k_ ≠ gb1058))) (fun _ hk => hk.2) (.bool false)) (fun _ hk => hk.2) (.string (⟨#[]⟩ : ByteArray))) (fun _ hk => hk.2) (.string (⟨#[]⟩ : ByteArray))) (fun _ hk => ⟨hk.1.1.1, ⟨hk.1.1.2.1, ⟨hk.1.1.2.2.1, ⟨hk.1.1.2.2.2.1, ⟨hk.1.1.2.2.2.2, hk.1.2⟩⟩⟩⟩⟩)⟩
       have n1_ : Aside0 ((((w57.setCell ⟨gb1058, 0, none⟩ (.bool false)).setCell ⟨gb1058, 1, none⟩ (.string (⟨#[]⟩ : ByteArray))).setCell ⟨gb1058, 2, none⟩ (.string (⟨#[]⟩ : ByteArray))).heap[gb1036]? = some (.cells #[.bool x1037000_1, .string x1037001_1, .string x1037002_1] 25 (0, 0))) := ⟨xb BK1036⟩
       have n2_ : Aside0 ((((w57.setCell ⟨gb1058, 0, none⟩ (.bool false)).setCell ⟨gb1058, 1, none⟩ (.string (⟨#[]⟩ : ByteArray))).setCell ⟨gb1058, 2, none⟩ (.string (⟨#[]⟩ : ByteArray))).heap[gb1040]? = some (.cells #[.bool t1048, .string t1049, .string t1050] 25 (0, 0))) := ⟨xb BK1040⟩
       have n3_ : Aside0 ((((w57.setCell ⟨gb1058, 0, none⟩ (.bool false)).setCell ⟨gb1058, 1, none⟩ (.string (⟨#[]⟩ : ByteArray))).setCell ⟨gb1058, 2, none⟩ (.string (⟨#[]⟩ : ByteArray))).heap[gb1041]? = some (.cells #[.bool x1042000_25, .string x1042001_25, .string x1042002_25] 25 (0, 0))) := ⟨xb BK1041⟩
       have n4_ : Aside0 ((((w57.setCell ⟨gb1058, 0, none⟩ (.bool false)).setCell ⟨gb1058, 1, none⟩ (.string (⟨#[]⟩ : ByteArray))).setCell ⟨gb1058, 2, none⟩ (.string (⟨#[]⟩ : ByteArray))).heap[gb1042]? = some (.cells #[.bool x1043000_1, .string x1043001_1, .string x1043002_1] 25 (0, 0))) := ⟨xb BK1042⟩
       have n5_ : Aside0 ((((w57.setCell ⟨gb1058, 0, none⟩ (.bool false)).setCell ⟨gb1058, 1, none⟩ (.string (⟨#[]⟩ : ByteArray))).setCell ⟨gb1058, 2, none⟩ (.string (⟨#[]⟩ : ByteArray))).heap[gb1044]? = some (.cells #[.bool ((rd_T25 l1 x22_1).f0), .string ((rd_T25 l1 x22_1).f1), .string ((rd_T25 l1 x22_1).f2)] 25 (0, 0))) := ⟨xb BK1044⟩
       have n6_ : Aside0 ((((w57.setCell ⟨gb1058, 0, none⟩ (.bool false)).setCell ⟨gb1058, 1, none⟩ (.string (⟨#[]⟩ : ByteArray))).setCell ⟨gb1058, 2, none⟩ (.string (⟨#[]⟩ : ByteArray))).heap[gb1058]? = some (.cells #[.bool false, .string (⟨#[]⟩ : ByteArray), .string (⟨#[]⟩ : ByteArray)] 25 (0, 0))) := ⟨xp BK1058⟩
       have n7_ : Aside0 (Below w.heap.size w (((w57.setCell ⟨gb1058, 0, none⟩ (.bool false)).setCell ⟨gb1058, 1, none⟩ (.string (⟨#[]⟩ : ByteArray))).setCell ⟨gb1058, 2, none⟩ (.string (⟨#[]⟩ : ByteArray)))) := ⟨xs HB⟩
       clear HO_7 BK1036 BK1040 BK1041 BK1042 BK1044 BK1058 HB
       generalize (((w57.setCell ⟨gb1058, 0, none⟩ (.bool false)).setCell ⟨gb1058, 1, none⟩ (.string (⟨#[]⟩ : ByteArray))).setCell ⟨gb1058, 2, none⟩ (.string (⟨#[]⟩ : ByteArray))) = w64 at n0_ n1_ n2_ n3_ n4_ n5_ n6_ n7_ ⊢
       have HO_7 := n0_
       have BK1036 := n1_
       have BK1040 := n2_
       have BK1041 := n3_
       have BK1042 := n4_
       have BK1044 := n5_
       have BK1058 := n6_
       have HB := n7_
       clear n0_ n1_ n2_ n3_ n4_ n5_ n6_ n7_
       replace HO_7 := Aside0.mk (Kd.R_drew HO_7.out)
       replace BK1036 := xD BK1036
       replace BK1040 := xD BK1040
       replace BK1041 := xD BK1041
       replace BK1042 := xD BK1042
       replace BK1044 := xD BK1044
       replace BK1058 := xD BK1058
       replace HB := xW HB
       refine start_ (n := 5) (S := fun w' => w'.cell? ⟨gb1040, 0, none⟩ = some (.bool t1048) ∧ w'.cell? ⟨gb1040, 1, none⟩ = some (.string t1049) ∧ w'.cell? ⟨gb1040, 2, none⟩ = some (.string t1050) ∧ w'.cell? ⟨gb1036, 0, none⟩ = some (.bool x1037000_1) ∧ w'.cell? ⟨gb1036, 1, none⟩ = some (.string x1037001_1) ∧ w'.cell? ⟨gb1036, 2, none⟩ = some (.string x1037002_1)) (ds := []) (b 5 0) (by kernel_rfl) rfl rfl xV (fun hHeld => ?_)
       generalize w64.drew = w65 at HO_7 BK1036 BK1040 BK1041 BK1042 BK1044 BK1058 HB hHeld ⊢
       refine yT 0 (some 43) (b 5 1) hHeld ?_
       refine yT 1 (some 44) (b 5 3) hHeld ?_
       refine yO 2 (some 45) (b 5 7) fun K hK => ?_
       refine xc Tryd.func35 (guarantee_positive.calls kj25 x1037000_1 x1037001_1 x1037002_1 t1059 t1060 t1061 _ A50.out) ?_
       rintro w66 hb
       replace HO_7 := xRb HO_7 hb
       replace BK1036 := xB BK1036 hb
       replace BK1040 := xB BK1040 hb
       replace BK1041 := xB BK1041 hb
       replace BK1042 := xB BK1042 hb
       replace BK1044 := xB BK1044 hb
       replace BK1058 := xB BK1058 hb
       replace HB := xS HB hb
       clear hb
       refine hK.out _ _ xV (fun hHeld => ?_)
       clear hK K
       refine xN 45 ?_
       refine yO 3 (some 46) (b 5 15) fun K hK => ?_
       refine xc Tryd.func22 (rational_Compare.calls kj25 t1048 t1049 t1050 t1059 t1060 t1061 t1062 _ A51.out) ?_
       rintro w67 hb
       replace HO_7 := xRb HO_7 hb
       replace BK1036 := xB BK1036 hb
       replace BK1040 := xB BK1040 hb
       replace BK1041 := xB BK1041 hb
       replace BK1042 := xB BK1042 hb
       replace BK1044 := xB BK1044 hb
       replace BK1058 := xB BK1058 hb
       replace HB := xS HB hb
       clear hb
       refine hK.out _ _ xV (fun hHeld => ?_)
       clear hK K
       refine xN 46 ?_
       refine yP 4 (some 47) (b 5 31) ?_
       refine done_ (by kernel_rfl) ?_
       have hnb68 := NB1041_1036.out
       have hnc68 := NB1036_1041.out
       have hnb69 := NB1041_1040.out
       have hnc69 := NB1040_1041.out
       have hnb70 := NB1041_1042.out
       have hnc70 := NB1042_1041.out
       have hnb71 := NB1041_1044.out
       have hnc71 := NB1044_1041.out
       obtain ⟨hcz72_0, hcz72_1, hcz72_2, hfz72_0, hfz72_1, hfz72_2⟩ := x6 BK1041
       obtain ⟨hcz73_0, hcz73_1, hcz73_2, hfz73_0, hfz73_1, hfz73_2⟩ := x6 BK1058
       have hnb74 := NB1042_1036.out
       have hnc74 := NB1036_1042.out
       have hnb75 := NB1042_1040.out
       have hnc75 := NB1040_1042.out
       have hnb76 := NB1042_1044.out
       have hnc76 := NB1044_1042.out
       obtain ⟨hcz77_0, hcz77_1, hcz77_2, hfz77_0, hfz77_1, hfz77_2⟩ := x6 BK1042
       try go_wp2_with (first | (refine xC Tryd.func36 (some 53) (rational_Subtract.calls kj25 x1042000_25 x1042001_25 x1042002_25 x1043000_1 x1043001_1 x1043002_1 t1063 t1064 t1065 _ A53.out) ?_; rintro w78 hb; replace HO_7 := Aside0.mk (Kd.R_below (by exact (Kd.R_mono (Kd.R_far (p := ⟨gb1058, 2, none⟩) (Kd.R_far (p := ⟨gb1058, 1, none⟩) (Kd.R_far (p := ⟨gb1058, 0, none⟩) (Kd.R_mono HO_7.out (fun k_ hk => (⟨hk, hk.2.2.2.2.2⟩ : _ ∧ k_ ≠ gb1058))) (fun _ hk => hk.2) (.bool x1042000_25)) (fun _ hk => hk.2) (.string x1042001_25)) (fun _ hk => hk.2) (.string x1042002_25)) (fun _ h_ => h_.1))) hb); replace BK1036 := xB BK1036 hb; replace BK1040 := xB BK1040 hb; replace BK1041 := xB BK1041 hb; replace BK1042 := xB BK1042 hb; replace BK1044 := xB BK1044 hb; replace BK1058 := Aside0.mk (blk_below (g := gb1058) (o := .cells #[.bool x1042000_25, .string x1042001_25, .string x1042002_25] 25 (0, 0)) (xp BK1058) hb); replace HB := xS HB hb; clear hb; have p56 : 0 ≤ (x22_1 : Int) := xa; have q56 : (x22_1 : Int) < ((x7_1.length : Int) : Int) := xa; obtain ⟨go56, co56, eo56, gb56, gl56, cl56, HG56⟩ := Kd.R_form HO_7.out (by omega); (cases eo56); have GB56 := Aside0.mk gb56; have GG56 := Aside0.mk HG56; clear gb56 gl56 HG56; obtain ⟨ce56, hcl56, hM56, hcc56, hfr56⟩ := Kd.R_elem HO_7.out z25 (x22_1 : Int) p56 q56; obtain rfl := k25_openM hM56; have hx56_0 : w78.cell? ⟨go56, (x22_1 : Int).toNat * 3, none⟩ = some (.bool ((rd_T25 x7_1 x22_1).f0)) := hcc56 0 _ rfl; have hx56_1 : w78.cell? ⟨go56, (x22_1 : Int).toNat * 3 + 1, none⟩ = some (.string ((rd_T25 x7_1 x22_1).f1)) := hcc56 1 _ rfl; have hx56_2 : w78.cell? ⟨go56, (x22_1 : Int).toNat * 3 + 2, none⟩ = some (.string ((rd_T25 x7_1 x22_1).f2)) := hcc56 2 _ rfl; have hf56_0 : w78.frozen? ⟨go56, (x22_1 : Int).toNat * 3, none⟩ = false := hfr56 0; have hf56_1 : w78.frozen? ⟨go56, (x22_1 : Int).toNat * 3 + 1, none⟩ = false := hfr56 1; have hf56_2 : w78.frozen? ⟨go56, (x22_1 : Int).toNat * 3 + 2, none⟩ = false := hfr56 2; clear hcl56 hcc56 hfr56 hM56; replace p56 := eq_true p56; replace q56 := eq_true q56; have HX79 := Aside0.mk (show Kd.R k25 25 w78 w.heap.size (fun k_ => k_ ≠ gb1036 ∧ k_ ≠ gb1040 ∧ k_ ≠ gb1041 ∧ k_ ≠ gb1042 ∧ k_ ≠ gb1044 ∧ k_ ≠ gb1058) (.slice (some ⟨go56, 0, none⟩) x7_1.length co56) x7_1 from (xr HO_7.out)); obtain ⟨ce79, hcl79, hM79, hcc79, hfr79⟩ := Kd.R_elem HX79.out z25 (x22_1 : Int) (xa) (by have h_ : (x22_1 : Int) < ((x7_1.length : Int) : Int) := xa; exact h_); obtain rfl := k25_openM hM79; have HP79 := Kd.R_seg HX79.out (x22_1 : Int) (xa) (by have h_ : (x22_1 : Int) < ((x7_1.length : Int) : Int) := xa; exact h_) (seg := [.bool t1063, .string t1064, .string t1065]) (j := 0) hcl79 hcc79 (show 3 ≤ 3 from by decide) (x' := (⟨t1063, t1064, t1065⟩ : S25)) (k25_mkM _ _ _ (⟨t1063, t1064, t1065⟩ : S25) ) (fun _ hk => hk); have hx79_0 := hcc79 0 _ rfl; (try simp only [show (k25).sz = 3 from rfl, Nat.mul_one, Nat.add_zero] at hx79_0); have hf79_0 := hfr79 0; (try simp only [show (k25).sz = 3 from rfl, Nat.mul_one, Nat.add_zero] at hf79_0); have hx79_1 := hcc79 1 _ rfl; (try simp only [show (k25).sz = 3 from rfl, Nat.mul_one, Nat.add_zero] at hx79_1); have hf79_1 := hfr79 1; (try simp only [show (k25).sz = 3 from rfl, Nat.mul_one, Nat.add_zero] at hf79_1); have hx79_2 := hcc79 2 _ rfl; (try simp only [show (k25).sz = 3 from rfl, Nat.mul_one, Nat.add_zero] at hx79_2); have hf79_2 := hfr79 2; (try simp only [show (k25).sz = 3 from rfl, Nat.mul_one, Nat.add_zero] at hf79_2); clear hcl79 hcc79 hfr79 hM79) | (refine xst 25 54 (((w78.setCell ⟨go56, (x22_1 : Int).toNat * 3, none⟩ (.bool t1063)).setCell ⟨go56, (x22_1 : Int).toNat * 3 + 1, none⟩ (.string t1064)).setCell ⟨go56, (x22_1 : Int).toNat * 3 + 2, none⟩ (.string t1065)) ?_; intro w80 hw; have hg : w78.grownBy w80 (some go56) := (by rw [hw]; exact HP79.2); have hp_ : Kd.R k25 25 w80 w.heap.size (fun k_ => k_ ≠ gb1036 ∧ k_ ≠ gb1040 ∧ k_ ≠ gb1041 ∧ k_ ≠ gb1042 ∧ k_ ≠ gb1044 ∧ k_ ≠ gb1058) (.slice (some ⟨go56, 0, none⟩) x7_1.length co56) y1066 := (by rw [hw, Ny1066.out]; exact HP79.1); clear HP79; replace BK1036 := xK BK1036 hg (Kd.R_away HO_7.out (fun _ hk => hk.1)); replace BK1040 := xK BK1040 hg (Kd.R_away HO_7.out (fun _ hk => hk.2.1)); replace BK1041 := xK BK1041 hg (Kd.R_away HO_7.out (fun _ hk => hk.2.2.1)); replace BK1042 := xK BK1042 hg (Kd.R_away HO_7.out (fun _ hk => hk.2.2.2.1)); replace BK1044 := xK BK1044 hg (Kd.R_away HO_7.out (fun _ hk => hk.2.2.2.2.1)); replace BK1058 := xK BK1058 hg (Kd.R_away HO_7.out (fun _ hk => hk.2.2.2.2.2)); replace HO_7 := Aside0.mk (hp_); replace HB := Aside0.mk (by rw [hw]; exact below_set (below_set (below_set (HB.out) GB56.out) GB56.out) GB56.out : Below w.heap.size w w80); clear hg hw hp_; obtain ⟨hcz81_0, hcz81_1, hcz81_2, hfz81_0, hfz81_1, hfz81_2⟩ := x6 BK1058; obtain ⟨hcz82_0, hcz82_1, hcz82_2, hfz82_0, hfz82_1, hfz82_2⟩ := x6 BK1042))
       go_roundg kj25
       case measure => have := HK1.out; have := HJ25.out; omega
       case rel => exact ⟨(y1066), (wrap64 (x22_1 + 1)), (x1037000_1), (x1037001_1), (x1037002_1), (t1048), (t1049), (t1050), (x1042000_25), (x1042001_25), (x1042002_25), (x1042000_25), (x1042001_25), (x1042002_25), xz, H', ⟨by have := HK1.out; have := HJ25.out; omega⟩, ⟨by exact Kd.R_mono (Kd.R_far (p := ⟨gb1042, 2, none⟩) (Kd.R_far (p := ⟨gb1042, 1, none⟩) (Kd.R_far (p := ⟨gb1042, 0, none⟩) (Kd.R_mono HO_7.out (fun k_ hk => (⟨hk, hk.2.2.2.1⟩ : _ ∧ k_ ≠ gb1042))) (fun _ hk => hk.2) (.bool x1042000_25)) (fun _ hk => hk.2) (.string x1042001_25)) (fun _ hk => hk.2) (.string x1042002_25)) (fun _ hk => ⟨hk.1.1, ⟨hk.1.2.1, ⟨hk.1.2.2.1, hk.1.2.2.2.1⟩⟩⟩)⟩, ⟨xb BK1036⟩, ⟨xb BK1040⟩, ⟨xb BK1041⟩, ⟨by refine blk_put (cs := #[.bool x1042000_25, .string x1042001_25, .string x1043002_1]) ?_ 2 _ (by rfl); refine blk_put (cs := #[.bool x1042000_25, .string x1043001_1, .string x1043002_1]) ?_ 1 _ (by rfl); refine blk_put (cs := #[.bool x1043000_1, .string x1043001_1, .string x1043002_1]) ?_ 0 _ (by rfl); exact BK1042.out⟩, ⟨xs HB⟩⟩
      replace H := xH H; obtain ⟨⟨t1067, t1068, t1069⟩, A83, H⟩ := H
      dsimp only at H
      obtain ⟨c84b0, H⟩ := xQd H
      obtain ⟨c85b0, H⟩ := xQd H
      generalize hy1070 : (x7_1.set (x22_1 : Int).toNat (⟨t1067, t1068, t1069⟩ : S25) : List (S25)) = y1070 at H
      have Ny1070 := Aside0.mk hy1070.symm
      clear hy1070
      have H' := Aside0.mk H
      clear H
      try go_wp2_with (refine xF (N := 13) #[.bool false, .string (⟨#[]⟩ : ByteArray), .string (⟨#[]⟩ : ByteArray)] 25 HB ?_; clear HB; intro gb1058 hg w87 hb BK1058 GW1058 HB; replace HO_7 := Aside0.mk (Kd.R_below (Kd.R_elderB (xr HO_7.out) gb1058 (Nat.le_of_eq hg.symm)) hb); have NB1036_1058 := xL BK1036 hg; have NB1058_1036 := xR BK1036 hg; replace BK1036 := xB BK1036 hb; have NB1040_1058 := xL BK1040 hg; have NB1058_1040 := xR BK1040 hg; replace BK1040 := xB BK1040 hb; have NB1041_1058 := xL BK1041 hg; have NB1058_1041 := xR BK1041 hg; replace BK1041 := xB BK1041 hb; have NB1042_1058 := xL BK1042 hg; have NB1058_1042 := xR BK1042 hg; replace BK1042 := xB BK1042 hb; have NB1044_1058 := xL BK1044 hg; have NB1058_1044 := xR BK1044 hg; replace BK1044 := xB BK1044 hb; clear hb hg; have hnb88 := NB1058_1036.out; have hnc88 := NB1036_1058.out; have hnb89 := NB1058_1040.out; have hnc89 := NB1040_1058.out; have hnb90 := NB1058_1041.out; have hnc90 := NB1041_1058.out; have hnb91 := NB1058_1042.out; have hnc91 := NB1042_1058.out; have hnb92 := NB1058_1044.out; have hnc92 := NB1044_1058.out; obtain ⟨hcz93_0, hcz93_1, hcz93_2, hfz93_0, hfz93_1, hfz93_2⟩ := x6 BK1058)
      have n0_ : Aside0 (Kd.R k25 25 (((w87.setCell ⟨gb1058, 0, none⟩ (.bool false)).setCell ⟨gb1058, 1, none⟩ (.string (⟨#[]⟩ : ByteArray))).setCell ⟨gb1058, 2, none⟩ (.string (⟨#[]⟩ : ByteArray))) w.heap.size (fun k_ => k_ ≠ gb1036 ∧ k_ ≠ gb1040 ∧ k_ ≠ gb1041 ∧ k_ ≠ gb1042 ∧ k_ ≠ gb1044 ∧ k_ ≠ gb1058) v1038 x7_1) := ⟨by exact Kd.R_mono (Kd.R_far (p := ⟨gb1058, 2, none⟩) (Kd.R_far (p := ⟨gb1058, 1, none⟩) (Kd.R_far (p := ⟨gb1058, 0, none⟩) (Kd.R_mono HO_7.out (fun k_ hk => (⟨hk, hk.2⟩ : _ ∧ k_ ≠ gb1058))) (fun _ hk => hk.2) (.bool false)) (fun _ hk => hk.2) (.string (⟨#[]⟩ : ByteArray))) (fun _ hk => hk.2) (.string (⟨#[]⟩ : ByteArray))) (fun _ hk => ⟨hk.1.1.1, ⟨hk.1.1.2.1, ⟨hk.1.1.2.2.1, ⟨hk.1.1.2.2.2.1, ⟨hk.1.1.2.2.2.2, hk.1.2⟩⟩⟩⟩⟩)⟩
      have n1_ : Aside0 ((((w87.setCell ⟨gb1058, 0, none⟩ (.bool false)).setCell ⟨gb1058, 1, none⟩ (.string (⟨#[]⟩ : ByteArray))).setCell ⟨gb1058, 2, none⟩ (.string (⟨#[]⟩ : ByteArray))).heap[gb1036]? = some (.cells #[.bool x1037000_1, .string x1037001_1, .string x1037002_1] 25 (0, 0))) := ⟨xb BK1036⟩
      have n2_ : Aside0 ((((w87.setCell ⟨gb1058, 0, none⟩ (.bool false)).setCell ⟨gb1058, 1, none⟩ (.string (⟨#[]⟩ : ByteArray))).setCell ⟨gb1058, 2, none⟩ (.string (⟨#[]⟩ : ByteArray))).heap[gb1040]? = some (.cells #[.bool t1048, .string t1049, .string t1050] 25 (0, 0))) := ⟨xb BK1040⟩
      have n3_ : Aside0 ((((w87.setCell ⟨gb1058, 0, none⟩ (.bool false)).setCell ⟨gb1058, 1, none⟩ (.string (⟨#[]⟩ : ByteArray))).setCell ⟨gb1058, 2, none⟩ (.string (⟨#[]⟩ : ByteArray))).heap[gb1041]? = some (.cells #[.bool x1042000_25, .string x1042001_25, .string x1042002_25] 25 (0, 0))) := ⟨xb BK1041⟩
      have n4_ : Aside0 ((((w87.setCell ⟨gb1058, 0, none⟩ (.bool false)).setCell ⟨gb1058, 1, none⟩ (.string (⟨#[]⟩ : ByteArray))).setCell ⟨gb1058, 2, none⟩ (.string (⟨#[]⟩ : ByteArray))).heap[gb1042]? = some (.cells #[.bool x1043000_1, .string x1043001_1, .string x1043002_1] 25 (0, 0))) := ⟨xb BK1042⟩
      have n5_ : Aside0 ((((w87.setCell ⟨gb1058, 0, none⟩ (.bool false)).setCell ⟨gb1058, 1, none⟩ (.string (⟨#[]⟩ : ByteArray))).setCell ⟨gb1058, 2, none⟩ (.string (⟨#[]⟩ : ByteArray))).heap[gb1044]? = some (.cells #[.bool ((rd_T25 l1 x22_1).f0), .string ((rd_T25 l1 x22_1).f1), .string ((rd_T25 l1 x22_1).f2)] 25 (0, 0))) := ⟨xb BK1044⟩
      have n6_ : Aside0 ((((w87.setCell ⟨gb1058, 0, none⟩ (.bool false)).setCell ⟨gb1058, 1, none⟩ (.string (⟨#[]⟩ : ByteArray))).setCell ⟨gb1058, 2, none⟩ (.string (⟨#[]⟩ : ByteArray))).heap[gb1058]? = some (.cells #[.bool false, .string (⟨#[]⟩ : ByteArray), .string (⟨#[]⟩ : ByteArray)] 25 (0, 0))) := ⟨xp BK1058⟩
      have n7_ : Aside0 (Below w.heap.size w (((w87.setCell ⟨gb1058, 0, none⟩ (.bool false)).setCell ⟨gb1058, 1, none⟩ (.string (⟨#[]⟩ : ByteArray))).setCell ⟨gb1058, 2, none⟩ (.string (⟨#[]⟩ : ByteArray)))) := ⟨xs HB⟩
      clear HO_7 BK1036 BK1040 BK1041 BK1042 BK1044 BK1058 HB
      generalize (((w87.setCell ⟨gb1058, 0, none⟩ (.bool false)).setCell ⟨gb1058, 1, none⟩ (.string (⟨#[]⟩ : ByteArray))).setCell ⟨gb1058, 2, none⟩ (.string (⟨#[]⟩ : ByteArray))) = w94 at n0_ n1_ n2_ n3_ n4_ n5_ n6_ n7_ ⊢
      have HO_7 := n0_
      have BK1036 := n1_
      have BK1040 := n2_
      have BK1041 := n3_
      have BK1042 := n4_
      have BK1044 := n5_
      have BK1058 := n6_
      have HB := n7_
      clear n0_ n1_ n2_ n3_ n4_ n5_ n6_ n7_
      replace HO_7 := Aside0.mk (Kd.R_drew HO_7.out)
      replace BK1036 := xD BK1036
      replace BK1040 := xD BK1040
      replace BK1041 := xD BK1041
      replace BK1042 := xD BK1042
      replace BK1044 := xD BK1044
      replace BK1058 := xD BK1058
      replace HB := xW HB
      refine start_ (n := 5) (S := fun w' => w'.cell? ⟨gb1040, 0, none⟩ = some (.bool t1048) ∧ w'.cell? ⟨gb1040, 1, none⟩ = some (.string t1049) ∧ w'.cell? ⟨gb1040, 2, none⟩ = some (.string t1050) ∧ w'.cell? ⟨gb1036, 0, none⟩ = some (.bool x1037000_1) ∧ w'.cell? ⟨gb1036, 1, none⟩ = some (.string x1037001_1) ∧ w'.cell? ⟨gb1036, 2, none⟩ = some (.string x1037002_1)) (ds := []) (b 5 0) (by kernel_rfl) rfl rfl xV (fun hHeld => ?_)
      generalize w94.drew = w95 at HO_7 BK1036 BK1040 BK1041 BK1042 BK1044 BK1058 HB hHeld ⊢
      refine yT 0 (some 43) (b 5 1) hHeld ?_
      refine yT 1 (some 44) (b 5 3) hHeld ?_
      refine yO 2 (some 45) (b 5 7) fun K hK => ?_
      refine xc Tryd.func35 (guarantee_positive.calls kj25 x1037000_1 x1037001_1 x1037002_1 t1059 t1060 t1061 _ A50.out) ?_
      rintro w96 hb
      replace HO_7 := xRb HO_7 hb
      replace BK1036 := xB BK1036 hb
      replace BK1040 := xB BK1040 hb
      replace BK1041 := xB BK1041 hb
      replace BK1042 := xB BK1042 hb
      replace BK1044 := xB BK1044 hb
      replace BK1058 := xB BK1058 hb
      replace HB := xS HB hb
      clear hb
      refine hK.out _ _ xV (fun hHeld => ?_)
      clear hK K
      refine xN 45 ?_
      refine yO 3 (some 46) (b 5 15) fun K hK => ?_
      refine xc Tryd.func22 (rational_Compare.calls kj25 t1048 t1049 t1050 t1059 t1060 t1061 t1062 _ A51.out) ?_
      rintro w97 hb
      replace HO_7 := xRb HO_7 hb
      replace BK1036 := xB BK1036 hb
      replace BK1040 := xB BK1040 hb
      replace BK1041 := xB BK1041 hb
      replace BK1042 := xB BK1042 hb
      replace BK1044 := xB BK1044 hb
      replace BK1058 := xB BK1058 hb
      replace HB := xS HB hb
      clear hb
      refine hK.out _ _ xV (fun hHeld => ?_)
      clear hK K
      refine xN 46 ?_
      refine yP 4 (some 47) (b 5 31) ?_
      refine done_ (by kernel_rfl) ?_
      obtain ⟨hcz98_0, hcz98_1, hcz98_2, hfz98_0, hfz98_1, hfz98_2⟩ := x6 BK1058
      have hnb99 := NB1042_1036.out
      have hnc99 := NB1036_1042.out
      have hnb100 := NB1042_1040.out
      have hnc100 := NB1040_1042.out
      have hnb101 := NB1042_1041.out
      have hnc101 := NB1041_1042.out
      have hnb102 := NB1042_1044.out
      have hnc102 := NB1044_1042.out
      obtain ⟨hcz103_0, hcz103_1, hcz103_2, hfz103_0, hfz103_1, hfz103_2⟩ := x6 BK1042
      try go_wp2_with (first | (refine xC Tryd.func36 (some 53) (rational_Subtract.calls kj25 false (⟨#[]⟩ : ByteArray) (⟨#[]⟩ : ByteArray) x1043000_1 x1043001_1 x1043002_1 t1067 t1068 t1069 _ A83.out) ?_; rintro w104 hb; replace HO_7 := xRb HO_7 hb; replace BK1036 := xB BK1036 hb; replace BK1040 := xB BK1040 hb; replace BK1041 := xB BK1041 hb; replace BK1042 := xB BK1042 hb; replace BK1044 := xB BK1044 hb; replace BK1058 := xB BK1058 hb; replace HB := xS HB hb; clear hb; have p86 : 0 ≤ (x22_1 : Int) := xa; have q86 : (x22_1 : Int) < ((x7_1.length : Int) : Int) := xa; obtain ⟨go86, co86, eo86, gb86, gl86, cl86, HG86⟩ := Kd.R_form HO_7.out (by omega); (cases eo86); have GB86 := Aside0.mk gb86; have GG86 := Aside0.mk HG86; clear gb86 gl86 HG86; obtain ⟨ce86, hcl86, hM86, hcc86, hfr86⟩ := Kd.R_elem HO_7.out z25 (x22_1 : Int) p86 q86; obtain rfl := k25_openM hM86; have hx86_0 : w104.cell? ⟨go86, (x22_1 : Int).toNat * 3, none⟩ = some (.bool ((rd_T25 x7_1 x22_1).f0)) := hcc86 0 _ rfl; have hx86_1 : w104.cell? ⟨go86, (x22_1 : Int).toNat * 3 + 1, none⟩ = some (.string ((rd_T25 x7_1 x22_1).f1)) := hcc86 1 _ rfl; have hx86_2 : w104.cell? ⟨go86, (x22_1 : Int).toNat * 3 + 2, none⟩ = some (.string ((rd_T25 x7_1 x22_1).f2)) := hcc86 2 _ rfl; have hf86_0 : w104.frozen? ⟨go86, (x22_1 : Int).toNat * 3, none⟩ = false := hfr86 0; have hf86_1 : w104.frozen? ⟨go86, (x22_1 : Int).toNat * 3 + 1, none⟩ = false := hfr86 1; have hf86_2 : w104.frozen? ⟨go86, (x22_1 : Int).toNat * 3 + 2, none⟩ = false := hfr86 2; clear hcl86 hcc86 hfr86 hM86; replace p86 := eq_true p86; replace q86 := eq_true q86; have HX105 := Aside0.mk (show Kd.R k25 25 w104 w.heap.size (fun k_ => k_ ≠ gb1036 ∧ k_ ≠ gb1040 ∧ k_ ≠ gb1041 ∧ k_ ≠ gb1042 ∧ k_ ≠ gb1044 ∧ k_ ≠ gb1058) (.slice (some ⟨go86, 0, none⟩) x7_1.length co86) x7_1 from (xr HO_7.out)); obtain ⟨ce105, hcl105, hM105, hcc105, hfr105⟩ := Kd.R_elem HX105.out z25 (x22_1 : Int) (xa) (by have h_ : (x22_1 : Int) < ((x7_1.length : Int) : Int) := xa; exact h_); obtain rfl := k25_openM hM105; have HP105 := Kd.R_seg HX105.out (x22_1 : Int) (xa) (by have h_ : (x22_1 : Int) < ((x7_1.length : Int) : Int) := xa; exact h_) (seg := [.bool t1067, .string t1068, .string t1069]) (j := 0) hcl105 hcc105 (show 3 ≤ 3 from by decide) (x' := (⟨t1067, t1068, t1069⟩ : S25)) (k25_mkM _ _ _ (⟨t1067, t1068, t1069⟩ : S25) ) (fun _ hk => hk); have hx105_0 := hcc105 0 _ rfl; (try simp only [show (k25).sz = 3 from rfl, Nat.mul_one, Nat.add_zero] at hx105_0); have hf105_0 := hfr105 0; (try simp only [show (k25).sz = 3 from rfl, Nat.mul_one, Nat.add_zero] at hf105_0); have hx105_1 := hcc105 1 _ rfl; (try simp only [show (k25).sz = 3 from rfl, Nat.mul_one, Nat.add_zero] at hx105_1); have hf105_1 := hfr105 1; (try simp only [show (k25).sz = 3 from rfl, Nat.mul_one, Nat.add_zero] at hf105_1); have hx105_2 := hcc105 2 _ rfl; (try simp only [show (k25).sz = 3 from rfl, Nat.mul_one, Nat.add_zero] at hx105_2); have hf105_2 := hfr105 2; (try simp only [show (k25).sz = 3 from rfl, Nat.mul_one, Nat.add_zero] at hf105_2); clear hcl105 hcc105 hfr105 hM105) | (refine xst 25 54 (((w104.setCell ⟨go86, (x22_1 : Int).toNat * 3, none⟩ (.bool t1067)).setCell ⟨go86, (x22_1 : Int).toNat * 3 + 1, none⟩ (.string t1068)).setCell ⟨go86, (x22_1 : Int).toNat * 3 + 2, none⟩ (.string t1069)) ?_; intro w106 hw; have hg : w104.grownBy w106 (some go86) := (by rw [hw]; exact HP105.2); have hp_ : Kd.R k25 25 w106 w.heap.size (fun k_ => k_ ≠ gb1036 ∧ k_ ≠ gb1040 ∧ k_ ≠ gb1041 ∧ k_ ≠ gb1042 ∧ k_ ≠ gb1044 ∧ k_ ≠ gb1058) (.slice (some ⟨go86, 0, none⟩) x7_1.length co86) y1070 := (by rw [hw, Ny1070.out]; exact HP105.1); clear HP105; replace BK1036 := xK BK1036 hg (Kd.R_away HO_7.out (fun _ hk => hk.1)); replace BK1040 := xK BK1040 hg (Kd.R_away HO_7.out (fun _ hk => hk.2.1)); replace BK1041 := xK BK1041 hg (Kd.R_away HO_7.out (fun _ hk => hk.2.2.1)); replace BK1042 := xK BK1042 hg (Kd.R_away HO_7.out (fun _ hk => hk.2.2.2.1)); replace BK1044 := xK BK1044 hg (Kd.R_away HO_7.out (fun _ hk => hk.2.2.2.2.1)); replace BK1058 := xK BK1058 hg (Kd.R_away HO_7.out (fun _ hk => hk.2.2.2.2.2)); replace HO_7 := Aside0.mk (hp_); replace HB := Aside0.mk (by rw [hw]; exact below_set (below_set (below_set (HB.out) GB86.out) GB86.out) GB86.out : Below w.heap.size w w106); clear hg hw hp_; obtain ⟨hcz107_0, hcz107_1, hcz107_2, hfz107_0, hfz107_1, hfz107_2⟩ := x6 BK1058; obtain ⟨hcz108_0, hcz108_1, hcz108_2, hfz108_0, hfz108_1, hfz108_2⟩ := x6 BK1042))
      go_roundg kj25
      case measure => have := HK1.out; have := HJ25.out; omega
      case rel => exact ⟨(y1070), (wrap64 (x22_1 + 1)), (x1037000_1), (x1037001_1), (x1037002_1), (t1048), (t1049), (t1050), (x1042000_25), (x1042001_25), (x1042002_25), (false), (⟨#[]⟩ : ByteArray), (⟨#[]⟩ : ByteArray), xz, H', ⟨by have := HK1.out; have := HJ25.out; omega⟩, ⟨by exact Kd.R_mono (Kd.R_far (p := ⟨gb1042, 2, none⟩) (Kd.R_far (p := ⟨gb1042, 1, none⟩) (Kd.R_far (p := ⟨gb1042, 0, none⟩) (Kd.R_mono HO_7.out (fun k_ hk => (⟨hk, hk.2.2.2.1⟩ : _ ∧ k_ ≠ gb1042))) (fun _ hk => hk.2) (.bool false)) (fun _ hk => hk.2) (.string (⟨#[]⟩ : ByteArray))) (fun _ hk => hk.2) (.string (⟨#[]⟩ : ByteArray))) (fun _ hk => ⟨hk.1.1, ⟨hk.1.2.1, ⟨hk.1.2.2.1, hk.1.2.2.2.1⟩⟩⟩)⟩, ⟨xb BK1036⟩, ⟨xb BK1040⟩, ⟨xb BK1041⟩, ⟨by refine blk_put (cs := #[.bool false, .string (⟨#[]⟩ : ByteArray), .string x1043002_1]) ?_ 2 _ (by rfl); refine blk_put (cs := #[.bool false, .string x1043001_1, .string x1043002_1]) ?_ 1 _ (by rfl); refine blk_put (cs := #[.bool x1043000_1, .string x1043001_1, .string x1043002_1]) ?_ 0 _ (by rfl); exact BK1042.out⟩, ⟨xs HB⟩⟩
   obtain rfl := Option.some.inj H
   go_wp2
   go_ret
   exact ⟨_, xy, by exact Kd.R_mono HO_7.out (fun _ hk => trivial), xs HB⟩
/-! ### insolvencyref17_Rates: function 24 -/
mutual
def insolvencyref17_Rates.l0 : Nat → List (S25) → List (S25) → List (S25) → Int → Bool → ByteArray → ByteArray → Bool → ByteArray → ByteArray → Bool → ByteArray → ByteArray → Bool → ByteArray → ByteArray → Option (List (S25))
 | 0, _, _, _, _, _, _, _, _, _, _, _, _, _, _, _, _ => none
 | k + 1, x1, x2, x8, x12, x1076000, x1076001, x1076002, x1077000, x1077001, x1077002, x1078000, x1078001, x1078002, x1079000, x1079001, x1079002 => if x12 < (x1.length : Int) then (if 0 ≤ x12 then ((insolvencyref17_amount.f k ((rd_T25 x1 x12).f0) ((rd_T25 x1 x12).f1) ((rd_T25 x1 x12).f2)).bind fun bt1080 => ((insolvencyref1_Plus.f k x1077000 x1077001 x1077002 bt1080.1 bt1080.2.1 bt1080.2.2).bind fun bt1083 => (if x12 < (x2.length : Int) then ((insolvencyref17_amount.f k ((rd_T25 x2 x12).f0) ((rd_T25 x2 x12).f1) ((rd_T25 x2 x12).f2)).bind fun bt1087 => ((insolvencyref1_Plus.f k x1078000 x1078001 x1078002 bt1087.1 bt1087.2.1 bt1087.2.2).bind fun bt1090 => (insolvencyref17_Rates.j1 k x1 x2 x8 x12 x1076000 x1076001 x1076002 bt1083.1 bt1083.2.1 bt1083.2.2 bt1090.1 bt1090.2.1 bt1090.2.2 x1079000 x1079001 x1079002))) else (insolvencyref17_Rates.j1 k x1 x2 x8 x12 x1076000 x1076001 x1076002 bt1083.1 bt1083.2.1 bt1083.2.2 x1078000 x1078001 x1078002 x1079000 x1079001 x1079002)))) else (none)) else (some x8)
def insolvencyref17_Rates.j1 : Nat → List (S25) → List (S25) → List (S25) → Int → Bool → ByteArray → ByteArray → Bool → ByteArray → ByteArray → Bool → ByteArray → ByteArray → Bool → ByteArray → ByteArray → Option (List (S25))
 | 0, _, _, _, _, _, _, _, _, _, _, _, _, _, _, _, _ => none
 | k + 1, x1, x2, x8, x12, x1076000, x1076001, x1076002, x1077000, x1077001, x1077002, x1078000, x1078001, x1078002, x1079000, x1079001, x1079002 => (insolvencyref1_Less.f k x1077000 x1077001 x1077002 x1076000 x1076001 x1076002).bind fun t1094 => (if t1094 = true then ((insolvencyref1_Minus.f k false (⟨#[]⟩ : ByteArray) (⟨#[]⟩ : ByteArray) x1079000 x1079001 x1079002).bind fun bt1095 => (if x8.length < 3518437208883 then (insolvencyref17_Rates.l0 k x1 x2 (x8 ++ [(⟨bt1095.1, bt1095.2.1, bt1095.2.2⟩ : S25)]) (wrap64 (x12 + 1)) x1076000 x1076001 x1076002 x1077000 x1077001 x1077002 x1078000 x1078001 x1078002 false (⟨#[]⟩ : ByteArray) (⟨#[]⟩ : ByteArray)) else (none))) else ((insolvencyref1_Minus.f k x1078000 x1078001 x1078002 x1079000 x1079001 x1079002).bind fun bt1101 => (if x8.length < 3518437208883 then (insolvencyref17_Rates.l0 k x1 x2 (x8 ++ [(⟨bt1101.1, bt1101.2.1, bt1101.2.2⟩ : S25)]) (wrap64 (x12 + 1)) x1076000 x1076001 x1076002 x1077000 x1077001 x1077002 x1078000 x1078001 x1078002 x1078000 x1078001 x1078002) else (none))))
end
def insolvencyref17_Rates.f (k : Nat) (a0_0 : Bool) (a0_1 : ByteArray) (a0_2 : ByteArray) (l1 : List (S25)) (l2 : List (S25)) : Option (List (S25)) := (insolvencyref17_amount.f k a0_0 a0_1 a0_2).bind fun bt1072 => (insolvencyref17_Rates.l0 k l1 l2 ([] : List (S25)) 0 bt1072.1 bt1072.2.1 bt1072.2.2 false (⟨#[]⟩ : ByteArray) (⟨#[]⟩ : ByteArray) false (⟨#[]⟩ : ByteArray) (⟨#[]⟩ : ByteArray) false (⟨#[]⟩ : ByteArray) (⟨#[]⟩ : ByteArray))
theorem insolvencyref17_Rates.mono_l : ∀ k, (∀ y0 y1 y2 y3 y4 y5 y6 y7 y8 y9 y10 y11 y12 y13 y14 y15, LeO (insolvencyref17_Rates.l0 k y0 y1 y2 y3 y4 y5 y6 y7 y8 y9 y10 y11 y12 y13 y14 y15) (insolvencyref17_Rates.l0 (k + 1) y0 y1 y2 y3 y4 y5 y6 y7 y8 y9 y10 y11 y12 y13 y14 y15)) ∧ (∀ y0 y1 y2 y3 y4 y5 y6 y7 y8 y9 y10 y11 y12 y13 y14 y15, LeO (insolvencyref17_Rates.j1 k y0 y1 y2 y3 y4 y5 y6 y7 y8 y9 y10 y11 y12 y13 y14 y15) (insolvencyref17_Rates.j1 (k + 1) y0 y1 y2 y3 y4 y5 y6 y7 y8 y9 y10 y11 y12 y13 y14 y15))
 | 0 => ⟨fun _ _ _ _ _ _ _ _ _ _ _ _ _ _ _ _ r h => by simp [insolvencyref17_Rates.l0] at h, fun _ _ _ _ _ _ _ _ _ _ _ _ _ _ _ _ r h => by simp [insolvencyref17_Rates.j1] at h⟩
 | k + 1 => by
  obtain ⟨ih0, ih1⟩ := insolvencyref17_Rates.mono_l k
  refine ⟨?_, ?_⟩
  ·intro y0 y1 y2 y3 y4 y5 y6 y7 y8 y9 y10 y11 y12 y13 y14 y15
   unfold insolvencyref17_Rates.l0
   have m0 := @ih0; have m1 := @ih1; have m2 := @insolvencyref17_amount.mono; have m3 := @insolvencyref1_Less.mono; have m4 := @insolvencyref1_Minus.mono; have m5 := @insolvencyref1_Plus.mono; exact xM
  ·intro y0 y1 y2 y3 y4 y5 y6 y7 y8 y9 y10 y11 y12 y13 y14 y15
   unfold insolvencyref17_Rates.j1
   have m0 := @ih0; have m1 := @ih1; have m2 := @insolvencyref17_amount.mono; have m3 := @insolvencyref1_Less.mono; have m4 := @insolvencyref1_Minus.mono; have m5 := @insolvencyref1_Plus.mono; exact xM
theorem insolvencyref17_Rates.mono : ∀ a0 a1 a2 a3 a4 k, LeO (insolvencyref17_Rates.f k a0 a1 a2 a3 a4) (insolvencyref17_Rates.f (k + 1) a0 a1 a2 a3 a4) := by
 intro a0 a1 a2 a3 a4 k
 obtain ⟨ih0, ih1⟩ := insolvencyref17_Rates.mono_l k
 unfold insolvencyref17_Rates.f
 have m0 := @ih0; have m1 := @ih1; have m2 := @insolvencyref17_amount.mono; have m3 := @insolvencyref1_Less.mono; have m4 := @insolvencyref1_Minus.mono; have m5 := @insolvencyref1_Plus.mono; exact xM
def insolvencyref17_Rates.T9 : Bool × List (List Nat × List Nat) := (true, [([], []), ([], []), ([], []), ([1, 2], [1, 2]), ([3], [3]), ([4], [4]), ([0, 5, 5], [0, 5]), ([6, 6, 0, 1, 2, 3, 4, 5, 6], [6])])
def insolvencyref17_Rates.B9 : List Nat := [0, 0, 0, 6, 14, 30, 63, 127]
theorem insolvencyref17_Rates.tab9 : rtab .any (opsOf Tryd.f24 9) = insolvencyref17_Rates.T9 := by kernel_rfl
theorem insolvencyref17_Rates.bits9 : waitsOk insolvencyref17_Rates.T9.2 insolvencyref17_Rates.B9 = true := by kernel_rfl
def insolvencyref17_Rates.T11 : Bool × List (List Nat × List Nat) := (true, [([], []), ([], []), ([], []), ([1, 2], [1, 2]), ([3], [3]), ([4], [4]), ([0, 5, 5], [0, 5]), ([6, 6, 0, 1, 2, 3, 4, 5, 6], [6])])
def insolvencyref17_Rates.B11 : List Nat := [0, 0, 0, 6, 14, 30, 63, 127]
theorem insolvencyref17_Rates.tab11 : rtab .any (opsOf Tryd.f24 11) = insolvencyref17_Rates.T11 := by kernel_rfl
theorem insolvencyref17_Rates.bits11 : waitsOk insolvencyref17_Rates.T11.2 insolvencyref17_Rates.B11 = true := by kernel_rfl
theorem insolvencyref17_Rates.calls (k : Nat) (a0_0 : Bool) (a0_1 : ByteArray) (a0_2 : ByteArray) (A1 : Option Addr) (c1 : Nat) (l1 : List (S25)) (A2 : Option Addr) (c2 : Nat) (l2 : List (S25)) (r : List (S25)) (w : World) (hr1 : Kd.C k25 w A1 l1.length l1) (hc1 : l1.length ≤ c1) (hr2 : Kd.C k25 w A2 l2.length l2) (hc2 : l2.length ≤ c2) (h : insolvencyref17_Rates.f k a0_0 a0_1 a0_2 l1 l2 = some r) :
  Calls Tryd.prog 24 #[.agg #[.bool a0_0, .string a0_1, .string a0_2], .slice A1 l1.length c1, .slice A2 l2.length c2] w fun e w' => ∃ v0_ : Value, e = .returned (v0_) ∧ Kd.R k25 25 w' w.heap.size (fun _ => True) v0_ r ∧ Below w.heap.size w w' := by
 have hu25 := Tryd.underlying25
 have HR1 := Aside0.mk hr1
 have HC1 := Aside0.mk hc1
 clear hr1 hc1
 have HR2 := Aside0.mk hr2
 have HC2 := Aside0.mk hc2
 clear hr2 hc2
 have HB := Aside0.mk (Below.refl w.heap.size w)
 have H := h; clear h
 unfold insolvencyref17_Rates.f at H
 replace H := xH H; obtain ⟨⟨t1072, t1073, t1074⟩, A4, H⟩ := H
 dsimp only at H
 have H' := Aside0.mk H
 clear H
 go_enter Tryd.func24, Tryd.ntmps24
 go_wp2_with (first | (refine xF (N := 3) #[.bool a0_0, .string a0_1, .string a0_2] 25 HB ?_; clear HB; intro gb1071 hg w5 hb BK1071 GW1071 HB; clear hb hg; obtain ⟨hcz6_0, hcz6_1, hcz6_2, hfz6_0, hfz6_1, hfz6_2⟩ := x6 BK1071) | (refine xC Tryd.func40 (some 15) (insolvencyref17_amount.calls k a0_0 a0_1 a0_2 t1072 t1073 t1074 _ A4.out) ?_; rintro w7 hb; replace BK1071 := xB BK1071 hb; replace HB := xS HB hb; clear hb) | (refine xF (N := 7) #[.bool false, .string (⟨#[]⟩ : ByteArray), .string (⟨#[]⟩ : ByteArray)] 25 HB ?_; clear HB; intro gb1075 hg w8 hb BK1075 GW1075 HB; have NB1071_1075 := xL BK1071 hg; have NB1075_1071 := xR BK1071 hg; replace BK1071 := xB BK1071 hb; clear hb hg; have hnb9 := NB1075_1071.out; have hnc9 := NB1071_1075.out; obtain ⟨hcz10_0, hcz10_1, hcz10_2, hfz10_0, hfz10_1, hfz10_2⟩ := x6 BK1075) | (refine xF (N := 9) #[.bool false, .string (⟨#[]⟩ : ByteArray), .string (⟨#[]⟩ : ByteArray)] 25 HB ?_; clear HB; intro gb1076 hg w11 hb BK1076 GW1076 HB; have NB1071_1076 := xL BK1071 hg; have NB1076_1071 := xR BK1071 hg; replace BK1071 := xB BK1071 hb; have NB1075_1076 := Aside0.mk (by rw [hg]; exact Nat.ne_of_lt (blk_lt (g := gb1075) (o := .cells #[.bool t1072, .string t1073, .string t1074] 25 (0, 0)) (xp BK1075)) : gb1075 ≠ gb1076); have NB1076_1075 := Aside0.mk (by rw [hg]; exact Nat.ne_of_gt (blk_lt (g := gb1075) (o := .cells #[.bool t1072, .string t1073, .string t1074] 25 (0, 0)) (xp BK1075)) : gb1076 ≠ gb1075); replace BK1075 := Aside0.mk (blk_below (g := gb1075) (o := .cells #[.bool t1072, .string t1073, .string t1074] 25 (0, 0)) (xp BK1075) hb); clear hb hg; have hnb12 := NB1076_1071.out; have hnc12 := NB1071_1076.out; have hnb13 := NB1076_1075.out; have hnc13 := NB1075_1076.out; obtain ⟨hcz14_0, hcz14_1, hcz14_2, hfz14_0, hfz14_1, hfz14_2⟩ := x6 BK1076) | (refine xF (N := 10) #[.bool false, .string (⟨#[]⟩ : ByteArray), .string (⟨#[]⟩ : ByteArray)] 25 HB ?_; clear HB; intro gb1077 hg w15 hb BK1077 GW1077 HB; have NB1071_1077 := xL BK1071 hg; have NB1077_1071 := xR BK1071 hg; replace BK1071 := xB BK1071 hb; have NB1075_1077 := xL BK1075 hg; have NB1077_1075 := xR BK1075 hg; replace BK1075 := xB BK1075 hb; have NB1076_1077 := Aside0.mk (by rw [hg]; exact Nat.ne_of_lt (blk_lt (g := gb1076) (o := .cells #[.bool false, .string (⟨#[]⟩ : ByteArray), .string (⟨#[]⟩ : ByteArray)] 25 (0, 0)) (xp BK1076)) : gb1076 ≠ gb1077); have NB1077_1076 := Aside0.mk (by rw [hg]; exact Nat.ne_of_gt (blk_lt (g := gb1076) (o := .cells #[.bool false, .string (⟨#[]⟩ : ByteArray), .string (⟨#[]⟩ : ByteArray)] 25 (0, 0)) (xp BK1076)) : gb1077 ≠ gb1076); replace BK1076 := Aside0.mk (blk_below (g := gb1076) (o := .cells #[.bool false, .string (⟨#[]⟩ : ByteArray), .string (⟨#[]⟩ : ByteArray)] 25 (0, 0)) (xp BK1076) hb); clear hb hg; have hnb16 := NB1077_1071.out; have hnc16 := NB1071_1077.out; have hnb17 := NB1077_1075.out; have hnc17 := NB1075_1077.out; have hnb18 := NB1077_1076.out; have hnc18 := NB1076_1077.out; obtain ⟨hcz19_0, hcz19_1, hcz19_2, hfz19_0, hfz19_1, hfz19_2⟩ := x6 BK1077) | (refine xF (N := 11) #[.bool false, .string (⟨#[]⟩ : ByteArray), .string (⟨#[]⟩ : ByteArray)] 25 HB ?_; clear HB; intro gb1078 hg w20 hb BK1078 GW1078 HB; have NB1071_1078 := xL BK1071 hg; have NB1078_1071 := xR BK1071 hg; replace BK1071 := xB BK1071 hb; have NB1075_1078 := xL BK1075 hg; have NB1078_1075 := xR BK1075 hg; replace BK1075 := xB BK1075 hb; have NB1076_1078 := xL BK1076 hg; have NB1078_1076 := xR BK1076 hg; replace BK1076 := xB BK1076 hb; have NB1077_1078 := Aside0.mk (by rw [hg]; exact Nat.ne_of_lt (blk_lt (g := gb1077) (o := .cells #[.bool false, .string (⟨#[]⟩ : ByteArray), .string (⟨#[]⟩ : ByteArray)] 25 (0, 0)) (xp BK1077)) : gb1077 ≠ gb1078); have NB1078_1077 := Aside0.mk (by rw [hg]; exact Nat.ne_of_gt (blk_lt (g := gb1077) (o := .cells #[.bool false, .string (⟨#[]⟩ : ByteArray), .string (⟨#[]⟩ : ByteArray)] 25 (0, 0)) (xp BK1077)) : gb1078 ≠ gb1077); replace BK1077 := Aside0.mk (blk_below (g := gb1077) (o := .cells #[.bool false, .string (⟨#[]⟩ : ByteArray), .string (⟨#[]⟩ : ByteArray)] 25 (0, 0)) (xp BK1077) hb); clear hb hg; have hnb21 := NB1078_1071.out; have hnc21 := NB1071_1078.out; have hnb22 := NB1078_1075.out; have hnc22 := NB1075_1078.out; have hnb23 := NB1078_1076.out; have hnc23 := NB1076_1078.out; have hnb24 := NB1078_1077.out; have hnc24 := NB1077_1078.out; obtain ⟨hcz25_0, hcz25_1, hcz25_2, hfz25_0, hfz25_1, hfz25_2⟩ := x6 BK1078))
 go_loopg [8, 12] k (fun kq v8 v12 w' => ∃ (x8_1 : List (S25)) (x12_1 : Int) (x1077000_1 : Bool) (x1077001_1 : ByteArray) (x1077002_1 : ByteArray) (x1078000_1 : Bool) (x1078001_1 : ByteArray) (x1078002_1 : ByteArray) (x1079000_1 : Bool) (x1079001_1 : ByteArray) (x1079002_1 : ByteArray), v12 = .int .i64 x12_1 ∧ Aside0 (insolvencyref17_Rates.l0 kq l1 l2 x8_1 x12_1 t1072 t1073 t1074 x1077000_1 x1077001_1 x1077002_1 x1078000_1 x1078001_1 x1078002_1 x1079000_1 x1079001_1 x1079002_1 = some r) ∧ Aside0 (kq ≤ k) ∧ Aside0 (Kd.R k25 25 w' w.heap.size (fun k_ => k_ ≠ gb1071 ∧ k_ ≠ gb1075 ∧ k_ ≠ gb1076 ∧ k_ ≠ gb1077 ∧ k_ ≠ gb1078) v8 x8_1) ∧ Aside0 (w'.heap[gb1071]? = some (.cells #[.bool a0_0, .string a0_1, .string a0_2] 25 (0, 0))) ∧ Aside0 (w'.heap[gb1075]? = some (.cells #[.bool t1072, .string t1073, .string t1074] 25 (0, 0))) ∧ Aside0 (w'.heap[gb1076]? = some (.cells #[.bool x1077000_1, .string x1077001_1, .string x1077002_1] 25 (0, 0))) ∧ Aside0 (w'.heap[gb1077]? = some (.cells #[.bool x1078000_1, .string x1078001_1, .string x1078002_1] 25 (0, 0))) ∧ Aside0 (w'.heap[gb1078]? = some (.cells #[.bool x1079000_1, .string x1079001_1, .string x1079002_1] 25 (0, 0))) ∧ Aside0 (Below w.heap.size w w'))
 case atStart => exact ⟨([] : List (S25)), (0), (false), (⟨#[]⟩ : ByteArray), (⟨#[]⟩ : ByteArray), (false), (⟨#[]⟩ : ByteArray), (⟨#[]⟩ : ByteArray), (false), (⟨#[]⟩ : ByteArray), (⟨#[]⟩ : ByteArray), xz, H', ⟨Nat.le_refl _⟩, ⟨by exact Kd.R_nil _ _ _ _ _⟩, ⟨xb BK1071⟩, ⟨xb BK1075⟩, ⟨xb BK1076⟩, ⟨xb BK1077⟩, ⟨by refine blk_put (cs := #[.bool false, .string (⟨#[]⟩ : ByteArray), .string (⟨#[]⟩ : ByteArray)]) ?_ 2 _ (by rfl); refine blk_put (cs := #[.bool false, .string (⟨#[]⟩ : ByteArray), .string (⟨#[]⟩ : ByteArray)]) ?_ 1 _ (by rfl); refine blk_put (cs := #[.bool false, .string (⟨#[]⟩ : ByteArray), .string (⟨#[]⟩ : ByteArray)]) ?_ 0 _ (by rfl); exact BK1078.out⟩, ⟨xs HB⟩⟩
 case round =>
  clear H'
  clear hcz10_0 hcz10_1 hcz10_2 hcz14_0 hcz14_1 hcz14_2 hcz19_0 hcz19_1 hcz19_2 hcz25_0 hcz25_1 hcz25_2 hcz6_0 hcz6_1 hcz6_2 hfz10_0 hfz10_1 hfz10_2 hfz14_0 hfz14_1 hfz14_2 hfz19_0 hfz19_1 hfz19_2 hfz25_0 hfz25_1 hfz25_2 hfz6_0 hfz6_1 hfz6_2
  obtain ⟨x8_1, x12_1, x1077000_1, x1077001_1, x1077002_1, x1078000_1, x1078001_1, x1078002_1, x1079000_1, x1079001_1, x1079002_1, rfl, HA, HK1, HO_8, BK1071, BK1075, BK1076, BK1077, BK1078, HB⟩ := hrel
  cases gk with
  | zero => exact absurd HA.out (by simp [insolvencyref17_Rates.l0])
  | succ k1 =>
   have H := HA.out
   clear HA
   simp only [insolvencyref17_Rates.l0] at H
   obtain ⟨c26b0, H⟩ | ⟨c26b0, H⟩ := xOd H
   ·obtain ⟨c27b0, H⟩ := xQd H
    replace H := xH H; obtain ⟨⟨t1080, t1081, t1082⟩, A28, H⟩ := H
    dsimp only at H
    replace H := xH H; obtain ⟨⟨t1083, t1084, t1085⟩, A29, H⟩ := H
    dsimp only at H
    have HC30 := Aside0.mk H
    clear H
    try go_wp2
    replace HO_8 := Aside0.mk (Kd.R_drew HO_8.out)
    replace BK1071 := xD BK1071
    replace BK1075 := xD BK1075
    replace BK1076 := xD BK1076
    replace BK1077 := xD BK1077
    replace BK1078 := xD BK1078
    replace HB := xW HB
    obtain ⟨p1079, q1079, ad1079, e1079, hx1079_0, hx1079_1, hx1079_2⟩ := xA (at_T25 HR1.out x12_1)
    have hw1079_2 := hx1079_2
    have hw1079_1 := hx1079_1
    have hw1079_0 := hx1079_0
    cases e1079
    (try replace hx1079_0 := xcl HB hx1079_0)
    (try replace hx1079_1 := xcl HB hx1079_1)
    (try replace hx1079_2 := xcl HB hx1079_2)
    refine start_ (n := 8) (S := fun w' => w'.cell? ⟨gb1076, 0, none⟩ = some (.bool x1077000_1) ∧ w'.cell? ⟨gb1076, 1, none⟩ = some (.string x1077001_1) ∧ w'.cell? ⟨gb1076, 2, none⟩ = some (.string x1077002_1) ∧ w'.cell? (ad1079.add ((x12_1).toNat * 3)) = some (.bool ((rd_T25 l1 x12_1).f0)) ∧ w'.cell? ⟨(ad1079.add ((x12_1).toNat * 3)).block, (ad1079.add ((x12_1).toNat * 3)).off + 1, none⟩ = some (.string ((rd_T25 l1 x12_1).f1)) ∧ w'.cell? ⟨(ad1079.add ((x12_1).toNat * 3)).block, (ad1079.add ((x12_1).toNat * 3)).off + 2, none⟩ = some (.string ((rd_T25 l1 x12_1).f2))) (ds := [7]) (b 8 0) (by kernel_rfl) rfl rfl ⟨(blk_cell BK1076.out 0).trans rfl, (blk_cell BK1076.out 1).trans rfl, (blk_cell BK1076.out 2).trans rfl, ((HB.out.cell (World.block_lt_of_cell? w _ hw1079_0)).trans hw1079_0), ((HB.out.cell (World.block_lt_of_cell? w _ hw1079_1)).trans hw1079_1), ((HB.out.cell (World.block_lt_of_cell? w _ hw1079_2)).trans hw1079_2)⟩ (fun hHeld => ?_); refine with_tabW insolvencyref17_Rates.tab9 insolvencyref17_Rates.bits9 (fun HT_ HW_ => ?_)
    generalize wr.drew = w31 at HO_8 BK1071 BK1075 BK1076 BK1077 BK1078 HB hx1079_0 hx1079_1 hx1079_2 hHeld ⊢
    refine yP 1 (some 26) (b 8 2) ?_
    refine yP 2 (some 27) (b 8 6) ?_
    refine yP 3 (some 28) (b 8 14) ?_
    refine yT 0 (some 25) (b 8 15) hHeld ?_
    refine yT 4 (some 29) (b 8 31) hHeld ?_
    refine yO 5 (some 30) (b 8 63) fun K hK => ?_
    refine xc Tryd.func40 (insolvencyref17_amount.calls k1 ((rd_T25 l1 x12_1).f0) ((rd_T25 l1 x12_1).f1) ((rd_T25 l1 x12_1).f2) t1080 t1081 t1082 _ A28.out) ?_
    rintro w32 hb
    replace HO_8 := xRb HO_8 hb
    replace BK1071 := xB BK1071 hb
    replace BK1075 := xB BK1075 hb
    replace BK1076 := xB BK1076 hb
    replace BK1077 := xB BK1077 hb
    replace BK1078 := xB BK1078 hb
    replace HB := xS HB hb
    clear hb
    refine hK.out _ _ ⟨(blk_cell BK1076.out 0).trans rfl, (blk_cell BK1076.out 1).trans rfl, (blk_cell BK1076.out 2).trans rfl, ((HB.out.cell (World.block_lt_of_cell? w _ hw1079_0)).trans hw1079_0), ((HB.out.cell (World.block_lt_of_cell? w _ hw1079_1)).trans hw1079_1), ((HB.out.cell (World.block_lt_of_cell? w _ hw1079_2)).trans hw1079_2)⟩ (fun hHeld => ?_)
    clear hK K
    refine xN 30 ?_
    refine yO 6 (some 31) (b 8 127) fun K hK => ?_
    refine xc Tryd.func43 (insolvencyref1_Plus.calls k1 x1077000_1 x1077001_1 x1077002_1 t1080 t1081 t1082 t1083 t1084 t1085 _ A29.out) ?_
    rintro w33 hb
    replace HO_8 := xRb HO_8 hb
    replace BK1071 := xB BK1071 hb
    replace BK1075 := xB BK1075 hb
    replace BK1076 := xB BK1076 hb
    replace BK1077 := xB BK1077 hb
    replace BK1078 := xB BK1078 hb
    replace HB := xS HB hb
    clear hb
    refine hK.out _ _ ⟨(blk_cell BK1076.out 0).trans rfl, (blk_cell BK1076.out 1).trans rfl, (blk_cell BK1076.out 2).trans rfl, ((HB.out.cell (World.block_lt_of_cell? w _ hw1079_0)).trans hw1079_0), ((HB.out.cell (World.block_lt_of_cell? w _ hw1079_1)).trans hw1079_1), ((HB.out.cell (World.block_lt_of_cell? w _ hw1079_2)).trans hw1079_2)⟩ (fun hHeld => ?_)
    clear hK K
    refine xN 31 ?_
    refine yZ 7 none (b 8 255) fun K hK => ?_
    obtain ⟨hs34, hs35, hs36, hfs34, hfs35, hfs36⟩ := x6 BK1076
    have hns34_0 := NB1071_1076.out
    have hns34_1 := NB1075_1076.out
    have hns34_3 := NB1077_1076.out
    have hns34_4 := NB1078_1076.out
    have hms34_0 := NB1076_1071.out
    have hms34_1 := NB1076_1075.out
    have hms34_3 := NB1076_1077.out
    have hms34_4 := NB1076_1078.out
    refine xk ?_
    refine hK.out _ _ ?_
    clear hK K
    refine done_ (done_of HT_.out (by kernel_rfl)) ?_
    go_upto_if 35 with (fail)
    repeat (go_quiet (fail); go_upto_if 35 with (fail))
    go_cut [] (fun wc => ∃ (kq : Nat) (x1078000_29 : Bool) (x1078001_29 : ByteArray) (x1078002_29 : ByteArray), Aside0 (insolvencyref17_Rates.j1 kq l1 l2 x8_1 x12_1 t1072 t1073 t1074 t1083 t1084 t1085 x1078000_29 x1078001_29 x1078002_29 x1079000_1 x1079001_1 x1079002_1 = some r) ∧ Aside0 (kq ≤ k1) ∧ Aside0 (Kd.R k25 25 wc w.heap.size (fun k_ => k_ ≠ gb1071 ∧ k_ ≠ gb1075 ∧ k_ ≠ gb1076 ∧ k_ ≠ gb1077 ∧ k_ ≠ gb1078) u8 x8_1) ∧ Aside0 (wc.heap[gb1071]? = some (.cells #[.bool a0_0, .string a0_1, .string a0_2] 25 (0, 0))) ∧ Aside0 (wc.heap[gb1075]? = some (.cells #[.bool t1072, .string t1073, .string t1074] 25 (0, 0))) ∧ Aside0 (wc.heap[gb1076]? = some (.cells #[.bool t1083, .string t1084, .string t1085] 25 (0, 0))) ∧ Aside0 (wc.heap[gb1077]? = some (.cells #[.bool x1078000_29, .string x1078001_29, .string x1078002_29] 25 (0, 0))) ∧ Aside0 (wc.heap[gb1078]? = some (.cells #[.bool x1079000_1, .string x1079001_1, .string x1079002_1] 25 (0, 0))) ∧ Aside0 (Below w.heap.size w wc))
    case first =>
     have H := HC30.out
     clear HC30
     obtain ⟨c37b0, H⟩ | ⟨c37b0, H⟩ := xOd H
     ·rw [c37b0]
      replace H := xH H; obtain ⟨⟨t1087, t1088, t1089⟩, A38, H⟩ := H
      dsimp only at H
      replace H := xH H; obtain ⟨⟨t1090, t1091, t1092⟩, A39, H⟩ := H
      dsimp only at H
      have H' := Aside0.mk H
      clear H
      try go_wp2
      have n0_ : Aside0 (Kd.R k25 25 (((w33.setCell ⟨gb1076, 0, none⟩ (.bool t1083)).setCell ⟨gb1076, 1, none⟩ (.string t1084)).setCell ⟨gb1076, 2, none⟩ (.string t1085)) w.heap.size (fun k_ => k_ ≠ gb1071 ∧ k_ ≠ gb1075 ∧ k_ ≠ gb1076 ∧ k_ ≠ gb1077 ∧ k_ ≠ gb1078) u8 x8_1) := ⟨by exact Kd.R_mono (Kd.R_far (p := ⟨gb1076, 2, none⟩) (Kd.R_far (p := ⟨gb1076, 1, none⟩) (Kd.R_far (p := ⟨gb1076, 0, none⟩) (Kd.R_mono HO_8.out (fun k_ hk => (⟨hk, hk.2.2.1⟩ : _ ∧ k_ ≠ gb1076))) (fun _ hk => hk.2) (.bool t1083)) (fun _ hk => hk.2) (.string t1084)) (fun _ hk => hk.2) (.string t1085)) (fun _ hk => ⟨hk.1.1, ⟨hk.1.2.1, ⟨hk.1.2.2.1, ⟨hk.1.2.2.2.1, hk.1.2.2.2.2⟩⟩⟩⟩)⟩
      have n1_ : Aside0 ((((w33.setCell ⟨gb1076, 0, none⟩ (.bool t1083)).setCell ⟨gb1076, 1, none⟩ (.string t1084)).setCell ⟨gb1076, 2, none⟩ (.string t1085)).heap[gb1071]? = some (.cells #[.bool a0_0, .string a0_1, .string a0_2] 25 (0, 0))) := ⟨xb BK1071⟩
      have n2_ : Aside0 ((((w33.setCell ⟨gb1076, 0, none⟩ (.bool t1083)).setCell ⟨gb1076, 1, none⟩ (.string t1084)).setCell ⟨gb1076, 2, none⟩ (.string t1085)).heap[gb1075]? = some (.cells #[.bool t1072, .string t1073, .string t1074] 25 (0, 0))) := ⟨xb BK1075⟩
      have n3_ : Aside0 ((((w33.setCell ⟨gb1076, 0, none⟩ (.bool t1083)).setCell ⟨gb1076, 1, none⟩ (.string t1084)).setCell ⟨gb1076, 2, none⟩ (.string t1085)).heap[gb1076]? = some (.cells #[.bool t1083, .string t1084, .string t1085] 25 (0, 0))) := ⟨xp BK1076⟩
      have n4_ : Aside0 ((((w33.setCell ⟨gb1076, 0, none⟩ (.bool t1083)).setCell ⟨gb1076, 1, none⟩ (.string t1084)).setCell ⟨gb1076, 2, none⟩ (.string t1085)).heap[gb1077]? = some (.cells #[.bool x1078000_1, .string x1078001_1, .string x1078002_1] 25 (0, 0))) := ⟨xb BK1077⟩
      have n5_ : Aside0 ((((w33.setCell ⟨gb1076, 0, none⟩ (.bool t1083)).setCell ⟨gb1076, 1, none⟩ (.string t1084)).setCell ⟨gb1076, 2, none⟩ (.string t1085)).heap[gb1078]? = some (.cells #[.bool x1079000_1, .string x1079001_1, .string x1079002_1] 25 (0, 0))) := ⟨xb BK1078⟩
      have n6_ : Aside0 (Below w.heap.size w (((w33.setCell ⟨gb1076, 0, none⟩ (.bool t1083)).setCell ⟨gb1076, 1, none⟩ (.string t1084)).setCell ⟨gb1076, 2, none⟩ (.string t1085))) := ⟨xs HB⟩
      clear HO_8 BK1071 BK1075 BK1076 BK1077 BK1078 HB
      generalize (((w33.setCell ⟨gb1076, 0, none⟩ (.bool t1083)).setCell ⟨gb1076, 1, none⟩ (.string t1084)).setCell ⟨gb1076, 2, none⟩ (.string t1085)) = w40 at n0_ n1_ n2_ n3_ n4_ n5_ n6_ ⊢
      have HO_8 := n0_
      have BK1071 := n1_
      have BK1075 := n2_
      have BK1076 := n3_
      have BK1077 := n4_
      have BK1078 := n5_
      have HB := n6_
      clear n0_ n1_ n2_ n3_ n4_ n5_ n6_
      replace HO_8 := Aside0.mk (Kd.R_drew HO_8.out)
      replace BK1071 := xD BK1071
      replace BK1075 := xD BK1075
      replace BK1076 := xD BK1076
      replace BK1077 := xD BK1077
      replace BK1078 := xD BK1078
      replace HB := xW HB
      obtain ⟨p1086, q1086, ad1086, e1086, hx1086_0, hx1086_1, hx1086_2⟩ := xA (at_T25 HR2.out x12_1)
      have hw1086_2 := hx1086_2
      have hw1086_1 := hx1086_1
      have hw1086_0 := hx1086_0
      cases e1086
      (try replace hx1086_0 := xcl HB hx1086_0)
      (try replace hx1086_1 := xcl HB hx1086_1)
      (try replace hx1086_2 := xcl HB hx1086_2)
      refine start_ (n := 8) (S := fun w' => w'.cell? ⟨gb1077, 0, none⟩ = some (.bool x1078000_1) ∧ w'.cell? ⟨gb1077, 1, none⟩ = some (.string x1078001_1) ∧ w'.cell? ⟨gb1077, 2, none⟩ = some (.string x1078002_1) ∧ w'.cell? (ad1086.add ((x12_1).toNat * 3)) = some (.bool ((rd_T25 l2 x12_1).f0)) ∧ w'.cell? ⟨(ad1086.add ((x12_1).toNat * 3)).block, (ad1086.add ((x12_1).toNat * 3)).off + 1, none⟩ = some (.string ((rd_T25 l2 x12_1).f1)) ∧ w'.cell? ⟨(ad1086.add ((x12_1).toNat * 3)).block, (ad1086.add ((x12_1).toNat * 3)).off + 2, none⟩ = some (.string ((rd_T25 l2 x12_1).f2))) (ds := [7]) (b 8 0) (by kernel_rfl) rfl rfl ⟨(blk_cell BK1077.out 0).trans rfl, (blk_cell BK1077.out 1).trans rfl, (blk_cell BK1077.out 2).trans rfl, ((HB.out.cell (World.block_lt_of_cell? w _ hw1086_0)).trans hw1086_0), ((HB.out.cell (World.block_lt_of_cell? w _ hw1086_1)).trans hw1086_1), ((HB.out.cell (World.block_lt_of_cell? w _ hw1086_2)).trans hw1086_2)⟩ (fun hHeld => ?_); refine with_tabW insolvencyref17_Rates.tab11 insolvencyref17_Rates.bits11 (fun HT_ HW_ => ?_)
      generalize w40.drew = w41 at HO_8 BK1071 BK1075 BK1076 BK1077 BK1078 HB hx1086_0 hx1086_1 hx1086_2 hHeld ⊢
      refine yP 1 (some 37) (b 8 2) ?_
      refine yP 2 (some 38) (b 8 6) ?_
      refine yP 3 (some 39) (b 8 14) ?_
      refine yT 0 (some 36) (b 8 15) hHeld ?_
      refine yT 4 (some 40) (b 8 31) hHeld ?_
      refine yO 5 (some 41) (b 8 63) fun K hK => ?_
      refine xc Tryd.func40 (insolvencyref17_amount.calls k1 ((rd_T25 l2 x12_1).f0) ((rd_T25 l2 x12_1).f1) ((rd_T25 l2 x12_1).f2) t1087 t1088 t1089 _ A38.out) ?_
      rintro w42 hb
      replace HO_8 := xRb HO_8 hb
      replace BK1071 := xB BK1071 hb
      replace BK1075 := xB BK1075 hb
      replace BK1076 := xB BK1076 hb
      replace BK1077 := xB BK1077 hb
      replace BK1078 := xB BK1078 hb
      replace HB := xS HB hb
      clear hb
      refine hK.out _ _ ⟨(blk_cell BK1077.out 0).trans rfl, (blk_cell BK1077.out 1).trans rfl, (blk_cell BK1077.out 2).trans rfl, ((HB.out.cell (World.block_lt_of_cell? w _ hw1086_0)).trans hw1086_0), ((HB.out.cell (World.block_lt_of_cell? w _ hw1086_1)).trans hw1086_1), ((HB.out.cell (World.block_lt_of_cell? w _ hw1086_2)).trans hw1086_2)⟩ (fun hHeld => ?_)
      clear hK K
      refine xN 41 ?_
      refine yO 6 (some 42) (b 8 127) fun K hK => ?_
      refine xc Tryd.func43 (insolvencyref1_Plus.calls k1 x1078000_1 x1078001_1 x1078002_1 t1087 t1088 t1089 t1090 t1091 t1092 _ A39.out) ?_
      rintro w43 hb
      replace HO_8 := xRb HO_8 hb
      replace BK1071 := xB BK1071 hb
      replace BK1075 := xB BK1075 hb
      replace BK1076 := xB BK1076 hb
      replace BK1077 := xB BK1077 hb
      replace BK1078 := xB BK1078 hb
      replace HB := xS HB hb
      clear hb
      refine hK.out _ _ ⟨(blk_cell BK1077.out 0).trans rfl, (blk_cell BK1077.out 1).trans rfl, (blk_cell BK1077.out 2).trans rfl, ((HB.out.cell (World.block_lt_of_cell? w _ hw1086_0)).trans hw1086_0), ((HB.out.cell (World.block_lt_of_cell? w _ hw1086_1)).trans hw1086_1), ((HB.out.cell (World.block_lt_of_cell? w _ hw1086_2)).trans hw1086_2)⟩ (fun hHeld => ?_)
      clear hK K
      refine xN 42 ?_
      refine yZ 7 none (b 8 255) fun K hK => ?_
      obtain ⟨hs44, hs45, hs46, hfs44, hfs45, hfs46⟩ := x6 BK1077
      have hns44_0 := NB1071_1077.out
      have hns44_1 := NB1075_1077.out
      have hns44_2 := NB1076_1077.out
      have hns44_4 := NB1078_1077.out
      have hms44_0 := NB1077_1071.out
      have hms44_1 := NB1077_1075.out
      have hms44_2 := NB1077_1076.out
      have hms44_4 := NB1077_1078.out
      refine xk ?_
      refine hK.out _ _ ?_
      clear hK K
      refine done_ (done_of HT_.out (by kernel_rfl)) ?_
      try go_wp2
      go_meet
      case rel => exact ⟨_, (t1090), (t1091), (t1092), H', ⟨by have := HK1.out; omega⟩, ⟨by exact Kd.R_mono (Kd.R_far (p := ⟨gb1077, 2, none⟩) (Kd.R_far (p := ⟨gb1077, 1, none⟩) (Kd.R_far (p := ⟨gb1077, 0, none⟩) (Kd.R_mono HO_8.out (fun k_ hk => (⟨hk, hk.2.2.2.1⟩ : _ ∧ k_ ≠ gb1077))) (fun _ hk => hk.2) (.bool t1090)) (fun _ hk => hk.2) (.string t1091)) (fun _ hk => hk.2) (.string t1092)) (fun _ hk => ⟨hk.1.1, ⟨hk.1.2.1, ⟨hk.1.2.2.1, ⟨hk.1.2.2.2.1, hk.1.2.2.2.2⟩⟩⟩⟩)⟩, ⟨xb BK1071⟩, ⟨xb BK1075⟩, ⟨xb BK1076⟩, ⟨by refine blk_put (cs := #[.bool t1090, .string t1091, .string x1078002_1]) ?_ 2 _ (by rfl); refine blk_put (cs := #[.bool t1090, .string x1078001_1, .string x1078002_1]) ?_ 1 _ (by rfl); refine blk_put (cs := #[.bool x1078000_1, .string x1078001_1, .string x1078002_1]) ?_ 0 _ (by rfl); exact BK1077.out⟩, ⟨xb BK1078⟩, ⟨xs HB⟩⟩
     rw [c37b0]
     have H' := Aside0.mk H
     clear H
     go_wp2
     go_meet
     case rel => exact ⟨_, (x1078000_1), (x1078001_1), (x1078002_1), H', ⟨by have := HK1.out; omega⟩, ⟨by exact Kd.R_mono (Kd.R_far (p := ⟨gb1076, 2, none⟩) (Kd.R_far (p := ⟨gb1076, 1, none⟩) (Kd.R_far (p := ⟨gb1076, 0, none⟩) (Kd.R_mono HO_8.out (fun k_ hk => (⟨hk, hk.2.2.1⟩ : _ ∧ k_ ≠ gb1076))) (fun _ hk => hk.2) (.bool t1083)) (fun _ hk => hk.2) (.string t1084)) (fun _ hk => hk.2) (.string t1085)) (fun _ hk => ⟨hk.1.1, ⟨hk.1.2.1, ⟨hk.1.2.2.1, ⟨hk.1.2.2.2.1, hk.1.2.2.2.2⟩⟩⟩⟩)⟩, ⟨xb BK1071⟩, ⟨xb BK1075⟩, ⟨by refine blk_put (cs := #[.bool t1083, .string t1084, .string x1077002_1]) ?_ 2 _ (by rfl); refine blk_put (cs := #[.bool t1083, .string x1077001_1, .string x1077002_1]) ?_ 1 _ (by rfl); refine blk_put (cs := #[.bool x1077000_1, .string x1077001_1, .string x1077002_1]) ?_ 0 _ (by rfl); exact BK1076.out⟩, ⟨xb BK1077⟩, ⟨xb BK1078⟩, ⟨xs HB⟩⟩
    case rest =>
     clear HC30
     clear c26b0 c27b0 hx1079_0 hx1079_1 hx1079_2 p1079 q1079
     obtain ⟨kq, x1078000_29, x1078001_29, x1078002_29, HA, HJ29, HO_8, BK1071, BK1075, BK1076, BK1077, BK1078, HB⟩ := hcut
     cases kq with
     | zero => exact absurd HA.out (by simp [insolvencyref17_Rates.j1])
     | succ kj29 =>
      have H := HA.out
      clear HA
      simp only [insolvencyref17_Rates.j1] at H
      replace H := xH H; obtain ⟨t1094, A47, H⟩ := H
      by_cases c48 : t1094 = true
      ·subst c48
       replace H := xI H
       replace H := xH H; obtain ⟨⟨t1095, t1096, t1097⟩, A49, H⟩ := H
       dsimp only at H
       obtain ⟨c50, H⟩ := xQ H
       have LMc50 := Aside0.mk c50
       clear c50
       generalize hy1098 : (x8_1 ++ [(⟨t1095, t1096, t1097⟩ : S25)] : List (S25)) = y1098 at H
       have Ny1098 := Aside0.mk hy1098.symm
       clear hy1098
       have H' := Aside0.mk H
       clear H
       go_wp2_with (first | (refine xF (N := 13) #[.bool false, .string (⟨#[]⟩ : ByteArray), .string (⟨#[]⟩ : ByteArray)] 25 HB ?_; clear HB; intro gb1093 hg w51 hb BK1093 GW1093 HB; replace HO_8 := Aside0.mk (Kd.R_below (Kd.R_elderB (xr HO_8.out) gb1093 (Nat.le_of_eq hg.symm)) hb); have NB1071_1093 := xL BK1071 hg; have NB1093_1071 := xR BK1071 hg; replace BK1071 := xB BK1071 hb; have NB1075_1093 := xL BK1075 hg; have NB1093_1075 := xR BK1075 hg; replace BK1075 := xB BK1075 hb; have NB1076_1093 := xL BK1076 hg; have NB1093_1076 := xR BK1076 hg; replace BK1076 := xB BK1076 hb; have NB1077_1093 := xL BK1077 hg; have NB1093_1077 := xR BK1077 hg; replace BK1077 := xB BK1077 hb; have NB1078_1093 := xL BK1078 hg; have NB1093_1078 := xR BK1078 hg; replace BK1078 := xB BK1078 hb; clear hb hg; have hnb52 := NB1093_1071.out; have hnc52 := NB1071_1093.out; have hnb53 := NB1093_1075.out; have hnc53 := NB1075_1093.out; have hnb54 := NB1093_1076.out; have hnc54 := NB1076_1093.out; have hnb55 := NB1093_1077.out; have hnc55 := NB1077_1093.out; have hnb56 := NB1093_1078.out; have hnc56 := NB1078_1093.out; obtain ⟨hcz57_0, hcz57_1, hcz57_2, hfz57_0, hfz57_1, hfz57_2⟩ := x6 BK1093; have hnb58 := NB1076_1071.out; have hnc58 := NB1071_1076.out; have hnb59 := NB1076_1075.out; have hnc59 := NB1075_1076.out; have hnb60 := NB1076_1077.out; have hnc60 := NB1077_1076.out; have hnb61 := NB1076_1078.out; have hnc61 := NB1078_1076.out; obtain ⟨hcz62_0, hcz62_1, hcz62_2, hfz62_0, hfz62_1, hfz62_2⟩ := x6 BK1076; have hnb63 := NB1075_1071.out; have hnc63 := NB1071_1075.out; have hnb64 := NB1075_1077.out; have hnc64 := NB1077_1075.out; have hnb65 := NB1075_1078.out; have hnc65 := NB1078_1075.out; obtain ⟨hcz66_0, hcz66_1, hcz66_2, hfz66_0, hfz66_1, hfz66_2⟩ := x6 BK1075) | (refine xC Tryd.func50 (some 46) (insolvencyref1_Less.calls kj29 t1083 t1084 t1085 t1072 t1073 t1074 true _ A47.out) ?_; rintro w67 hb; replace HO_8 := Aside0.mk (Kd.R_below (by exact (Kd.R_mono (Kd.R_far (p := ⟨gb1093, 2, none⟩) (Kd.R_far (p := ⟨gb1093, 1, none⟩) (Kd.R_far (p := ⟨gb1093, 0, none⟩) (Kd.R_mono HO_8.out (fun k_ hk => (⟨hk, hk.2⟩ : _ ∧ k_ ≠ gb1093))) (fun _ hk => hk.2) (.bool false)) (fun _ hk => hk.2) (.string (⟨#[]⟩ : ByteArray))) (fun _ hk => hk.2) (.string (⟨#[]⟩ : ByteArray))) (fun _ h_ => h_.1))) hb); replace BK1071 := xB BK1071 hb; replace BK1075 := xB BK1075 hb; replace BK1076 := xB BK1076 hb; replace BK1077 := xB BK1077 hb; replace BK1078 := xB BK1078 hb; replace BK1093 := Aside0.mk (blk_below (g := gb1093) (o := .cells #[.bool false, .string (⟨#[]⟩ : ByteArray), .string (⟨#[]⟩ : ByteArray)] 25 (0, 0)) (xp BK1093) hb); replace HB := xS HB hb; clear hb; obtain ⟨hcz68_0, hcz68_1, hcz68_2, hfz68_0, hfz68_1, hfz68_2⟩ := x6 BK1093; have hnb69 := NB1078_1071.out; have hnc69 := NB1071_1078.out; have hnb70 := NB1078_1077.out; have hnc70 := NB1077_1078.out; obtain ⟨hcz71_0, hcz71_1, hcz71_2, hfz71_0, hfz71_1, hfz71_2⟩ := x6 BK1078) | (refine xC Tryd.func42 (some 52) (insolvencyref1_Minus.calls kj29 false (⟨#[]⟩ : ByteArray) (⟨#[]⟩ : ByteArray) x1079000_1 x1079001_1 x1079002_1 t1095 t1096 t1097 _ A49.out) ?_; rintro w72 hb; replace HO_8 := xRb HO_8 hb; replace BK1071 := xB BK1071 hb; replace BK1075 := xB BK1075 hb; replace BK1076 := xB BK1076 hb; replace BK1077 := xB BK1077 hb; replace BK1078 := xB BK1078 hb; replace BK1093 := xB BK1093 hb; replace HB := xS HB hb; clear hb) | ((with_reducible refine gate_builtin (b := .append) (xs := #[.tmp 49, .tmp 53]) rfl ?_); at_builtin; refine Kd.R_append k25 (w0 := w) w.heap.size rfl (.tmp 49) (.tmp 53) 27 25 (.agg #[(.bool false), (.string ⟨#[]⟩), (.string ⟨#[]⟩)]) 40 rfl Tryd.underlying27 info25 rfl (by decide) (by omega) u8 x8_1 (⟨t1095, t1096, t1097⟩ : S25) [.bool t1095, .string t1096, .string t1097] (fun k_ => k_ ≠ gb1071 ∧ k_ ≠ gb1075 ∧ k_ ≠ gb1076 ∧ k_ ≠ gb1077 ∧ k_ ≠ gb1078 ∧ k_ ≠ gb1093) (fun _ => False) rfl rfl ?aP (fun _ hk => hk.elim) ?aF ?aO ?aB ?aS ?aL ?_; (case aP => exact k25_mkM _ _ _ (⟨t1095, t1096, t1097⟩ : S25)); (case aB => exact (xs HB)); (case aF => exact (fun k_ hk => ⟨Kd.freshB (g := gb1071) (o := .cells #[.bool a0_0, .string a0_1, .string a0_2] 25 (0, 0)) (xb BK1071) k_ hk, Kd.freshB (g := gb1075) (o := .cells #[.bool t1072, .string t1073, .string t1074] 25 (0, 0)) (xb BK1075) k_ hk, Kd.freshB (g := gb1076) (o := .cells #[.bool t1083, .string t1084, .string t1085] 25 (0, 0)) (xb BK1076) k_ hk, Kd.freshB (g := gb1077) (o := .cells #[.bool x1078000_29, .string x1078001_29, .string x1078002_29] 25 (0, 0)) (xb BK1077) k_ hk, Kd.freshB (g := gb1078) (o := .cells #[.bool x1079000_1, .string x1079001_1, .string x1079002_1] 25 (0, 0)) (xb BK1078) k_ hk, Kd.freshB (g := gb1093) (o := .cells #[.bool false, .string (⟨#[]⟩ : ByteArray), .string (⟨#[]⟩ : ByteArray)] 25 (0, 0)) (xb BK1093) k_ hk⟩)); (case aO => exact (by exact Kd.R_mono HO_8.out (fun _ hk => by exact ⟨hk.1.1, ⟨hk.1.2.1, ⟨hk.1.2.2.1, ⟨hk.1.2.2.2.1, ⟨hk.1.2.2.2.2, hk.2⟩⟩⟩⟩⟩))); (case aS => exact (below_size (xs HB))); (case aL => have := LMc50.out; omega); intro v1099 w73 ho hb hg hat; rw [← Ny1098.out] at ho; replace BK1071 := xK BK1071 hg (Kd.R_away HO_8.out (fun _ hk => hk.1.1)); replace BK1075 := xK BK1075 hg (Kd.R_away HO_8.out (fun _ hk => hk.1.2.1)); replace BK1076 := xK BK1076 hg (Kd.R_away HO_8.out (fun _ hk => hk.1.2.2.1)); replace BK1077 := xK BK1077 hg (Kd.R_away HO_8.out (fun _ hk => hk.1.2.2.2.1)); replace BK1078 := xK BK1078 hg (Kd.R_away HO_8.out (fun _ hk => hk.1.2.2.2.2)); replace BK1093 := xK BK1093 hg (Kd.R_away HO_8.out (fun _ hk => hk.2)); replace HB := Aside0.mk (hb); have HO1100 := Aside0.mk (ho); clear HO_8 ho hb hg hat; obtain ⟨hcz74_0, hcz74_1, hcz74_2, hfz74_0, hfz74_1, hfz74_2⟩ := x6 BK1093; obtain ⟨hcz75_0, hcz75_1, hcz75_2, hfz75_0, hfz75_1, hfz75_2⟩ := x6 BK1078))
       go_roundg kj29
       case measure => have := HK1.out; have := HJ29.out; omega
       case rel => exact ⟨(y1098), (wrap64 (x12_1 + 1)), (t1083), (t1084), (t1085), (x1078000_29), (x1078001_29), (x1078002_29), (false), (⟨#[]⟩ : ByteArray), (⟨#[]⟩ : ByteArray), xz, H', ⟨by have := HK1.out; have := HJ29.out; omega⟩, ⟨by exact Kd.R_mono (Kd.R_far (p := ⟨gb1078, 2, none⟩) (Kd.R_far (p := ⟨gb1078, 1, none⟩) (Kd.R_far (p := ⟨gb1078, 0, none⟩) (Kd.R_mono HO1100.out (fun k_ hk => (⟨hk, hk.2.2.2.2.1⟩ : _ ∧ k_ ≠ gb1078))) (fun _ hk => hk.2) (.bool false)) (fun _ hk => hk.2) (.string (⟨#[]⟩ : ByteArray))) (fun _ hk => hk.2) (.string (⟨#[]⟩ : ByteArray))) (fun _ hk => ⟨hk.1.1, ⟨hk.1.2.1, ⟨hk.1.2.2.1, ⟨hk.1.2.2.2.1, hk.1.2.2.2.2.1⟩⟩⟩⟩)⟩, ⟨xb BK1071⟩, ⟨xb BK1075⟩, ⟨xb BK1076⟩, ⟨xb BK1077⟩, ⟨by refine blk_put (cs := #[.bool false, .string (⟨#[]⟩ : ByteArray), .string x1079002_1]) ?_ 2 _ (by rfl); refine blk_put (cs := #[.bool false, .string x1079001_1, .string x1079002_1]) ?_ 1 _ (by rfl); refine blk_put (cs := #[.bool x1079000_1, .string x1079001_1, .string x1079002_1]) ?_ 0 _ (by rfl); exact BK1078.out⟩, ⟨xs HB⟩⟩
      replace c48 := Bool.eq_false_iff.mpr c48
      subst c48
      have H1 : ((insolvencyref1_Minus.f kj29 x1078000_29 x1078001_29 x1078002_29 x1079000_1 x1079001_1 x1079002_1).bind fun bt1101 => (if x8_1.length < 3518437208883 then (insolvencyref17_Rates.l0 kj29 l1 l2 (x8_1 ++ [(⟨bt1101.1, bt1101.2.1, bt1101.2.2⟩ : S25)]) (wrap64 (x12_1 + 1)) t1072 t1073 t1074 t1083 t1084 t1085 x1078000_29 x1078001_29 x1078002_29 x1078000_29 x1078001_29 x1078002_29) else (none))) = some r := by rw [if_neg (show ¬ (false = true) by decide)] at H; exact H
      clear H
      have H := H1
      clear H1
      replace H := xH H; obtain ⟨⟨t1101, t1102, t1103⟩, A76, H⟩ := H
      dsimp only at H
      obtain ⟨c77, H⟩ := xQ H
      have LMc77 := Aside0.mk c77
      clear c77
      generalize hy1104 : (x8_1 ++ [(⟨t1101, t1102, t1103⟩ : S25)] : List (S25)) = y1104 at H
      have Ny1104 := Aside0.mk hy1104.symm
      clear hy1104
      have H' := Aside0.mk H
      clear H
      go_wp2_with (first | (refine xF (N := 13) #[.bool false, .string (⟨#[]⟩ : ByteArray), .string (⟨#[]⟩ : ByteArray)] 25 HB ?_; clear HB; intro gb1093 hg w78 hb BK1093 GW1093 HB; replace HO_8 := Aside0.mk (Kd.R_below (Kd.R_elderB (xr HO_8.out) gb1093 (Nat.le_of_eq hg.symm)) hb); have NB1071_1093 := xL BK1071 hg; have NB1093_1071 := xR BK1071 hg; replace BK1071 := xB BK1071 hb; have NB1075_1093 := xL BK1075 hg; have NB1093_1075 := xR BK1075 hg; replace BK1075 := xB BK1075 hb; have NB1076_1093 := xL BK1076 hg; have NB1093_1076 := xR BK1076 hg; replace BK1076 := xB BK1076 hb; have NB1077_1093 := xL BK1077 hg; have NB1093_1077 := xR BK1077 hg; replace BK1077 := xB BK1077 hb; have NB1078_1093 := xL BK1078 hg; have NB1093_1078 := xR BK1078 hg; replace BK1078 := xB BK1078 hb; clear hb hg; have hnb79 := NB1093_1071.out; have hnc79 := NB1071_1093.out; have hnb80 := NB1093_1075.out; have hnc80 := NB1075_1093.out; have hnb81 := NB1093_1076.out; have hnc81 := NB1076_1093.out; have hnb82 := NB1093_1077.out; have hnc82 := NB1077_1093.out; have hnb83 := NB1093_1078.out; have hnc83 := NB1078_1093.out; obtain ⟨hcz84_0, hcz84_1, hcz84_2, hfz84_0, hfz84_1, hfz84_2⟩ := x6 BK1093; have hnb85 := NB1076_1071.out; have hnc85 := NB1071_1076.out; have hnb86 := NB1076_1075.out; have hnc86 := NB1075_1076.out; have hnb87 := NB1076_1077.out; have hnc87 := NB1077_1076.out; have hnb88 := NB1076_1078.out; have hnc88 := NB1078_1076.out; obtain ⟨hcz89_0, hcz89_1, hcz89_2, hfz89_0, hfz89_1, hfz89_2⟩ := x6 BK1076; have hnb90 := NB1075_1071.out; have hnc90 := NB1071_1075.out; have hnb91 := NB1075_1077.out; have hnc91 := NB1077_1075.out; have hnb92 := NB1075_1078.out; have hnc92 := NB1078_1075.out; obtain ⟨hcz93_0, hcz93_1, hcz93_2, hfz93_0, hfz93_1, hfz93_2⟩ := x6 BK1075) | (refine xC Tryd.func50 (some 46) (insolvencyref1_Less.calls kj29 t1083 t1084 t1085 t1072 t1073 t1074 false _ A47.out) ?_; rintro w94 hb; replace HO_8 := Aside0.mk (Kd.R_below (by exact (Kd.R_mono (Kd.R_far (p := ⟨gb1093, 2, none⟩) (Kd.R_far (p := ⟨gb1093, 1, none⟩) (Kd.R_far (p := ⟨gb1093, 0, none⟩) (Kd.R_mono HO_8.out (fun k_ hk => (⟨hk, hk.2⟩ : _ ∧ k_ ≠ gb1093))) (fun _ hk => hk.2) (.bool false)) (fun _ hk => hk.2) (.string (⟨#[]⟩ : ByteArray))) (fun _ hk => hk.2) (.string (⟨#[]⟩ : ByteArray))) (fun _ h_ => h_.1))) hb); replace BK1071 := xB BK1071 hb; replace BK1075 := xB BK1075 hb; replace BK1076 := xB BK1076 hb; replace BK1077 := xB BK1077 hb; replace BK1078 := xB BK1078 hb; replace BK1093 := Aside0.mk (blk_below (g := gb1093) (o := .cells #[.bool false, .string (⟨#[]⟩ : ByteArray), .string (⟨#[]⟩ : ByteArray)] 25 (0, 0)) (xp BK1093) hb); replace HB := xS HB hb; clear hb; have hnb95 := NB1077_1071.out; have hnc95 := NB1071_1077.out; have hnb96 := NB1077_1078.out; have hnc96 := NB1078_1077.out; obtain ⟨hcz97_0, hcz97_1, hcz97_2, hfz97_0, hfz97_1, hfz97_2⟩ := x6 BK1077; obtain ⟨hcz98_0, hcz98_1, hcz98_2, hfz98_0, hfz98_1, hfz98_2⟩ := x6 BK1093; have hnb99 := NB1078_1071.out; have hnc99 := NB1071_1078.out; obtain ⟨hcz100_0, hcz100_1, hcz100_2, hfz100_0, hfz100_1, hfz100_2⟩ := x6 BK1078) | (refine xC Tryd.func42 (some 52) (insolvencyref1_Minus.calls kj29 x1078000_29 x1078001_29 x1078002_29 x1079000_1 x1079001_1 x1079002_1 t1101 t1102 t1103 _ A76.out) ?_; rintro w101 hb; replace HO_8 := Aside0.mk (Kd.R_below (by exact (Kd.R_mono (Kd.R_far (p := ⟨gb1093, 2, none⟩) (Kd.R_far (p := ⟨gb1093, 1, none⟩) (Kd.R_far (p := ⟨gb1093, 0, none⟩) (Kd.R_mono HO_8.out (fun k_ hk => (⟨hk, hk.2⟩ : _ ∧ k_ ≠ gb1093))) (fun _ hk => hk.2) (.bool x1078000_29)) (fun _ hk => hk.2) (.string x1078001_29)) (fun _ hk => hk.2) (.string x1078002_29)) (fun _ h_ => h_.1))) hb); replace BK1071 := xB BK1071 hb; replace BK1075 := xB BK1075 hb; replace BK1076 := xB BK1076 hb; replace BK1077 := xB BK1077 hb; replace BK1078 := xB BK1078 hb; replace BK1093 := Aside0.mk (blk_below (g := gb1093) (o := .cells #[.bool x1078000_29, .string x1078001_29, .string x1078002_29] 25 (0, 0)) (xp BK1093) hb); replace HB := xS HB hb; clear hb) | ((with_reducible refine gate_builtin (b := .append) (xs := #[.tmp 49, .tmp 53]) rfl ?_); at_builtin; refine Kd.R_append k25 (w0 := w) w.heap.size rfl (.tmp 49) (.tmp 53) 27 25 (.agg #[(.bool false), (.string ⟨#[]⟩), (.string ⟨#[]⟩)]) 40 rfl Tryd.underlying27 info25 rfl (by decide) (by omega) u8 x8_1 (⟨t1101, t1102, t1103⟩ : S25) [.bool t1101, .string t1102, .string t1103] (fun k_ => k_ ≠ gb1071 ∧ k_ ≠ gb1075 ∧ k_ ≠ gb1076 ∧ k_ ≠ gb1077 ∧ k_ ≠ gb1078 ∧ k_ ≠ gb1093) (fun _ => False) rfl rfl ?aP (fun _ hk => hk.elim) ?aF ?aO ?aB ?aS ?aL ?_; (case aP => exact k25_mkM _ _ _ (⟨t1101, t1102, t1103⟩ : S25)); (case aB => exact (xs HB)); (case aF => exact (fun k_ hk => ⟨Kd.freshB (g := gb1071) (o := .cells #[.bool a0_0, .string a0_1, .string a0_2] 25 (0, 0)) (xb BK1071) k_ hk, Kd.freshB (g := gb1075) (o := .cells #[.bool t1072, .string t1073, .string t1074] 25 (0, 0)) (xb BK1075) k_ hk, Kd.freshB (g := gb1076) (o := .cells #[.bool t1083, .string t1084, .string t1085] 25 (0, 0)) (xb BK1076) k_ hk, Kd.freshB (g := gb1077) (o := .cells #[.bool x1078000_29, .string x1078001_29, .string x1078002_29] 25 (0, 0)) (xb BK1077) k_ hk, Kd.freshB (g := gb1078) (o := .cells #[.bool x1079000_1, .string x1079001_1, .string x1079002_1] 25 (0, 0)) (xb BK1078) k_ hk, Kd.freshB (g := gb1093) (o := .cells #[.bool x1078000_29, .string x1078001_29, .string x1078002_29] 25 (0, 0)) (xb BK1093) k_ hk⟩)); (case aO => exact (by exact Kd.R_mono HO_8.out (fun _ hk => by exact ⟨hk.1.1, ⟨hk.1.2.1, ⟨hk.1.2.2.1, ⟨hk.1.2.2.2.1, ⟨hk.1.2.2.2.2, hk.2⟩⟩⟩⟩⟩))); (case aS => exact (below_size (xs HB))); (case aL => have := LMc77.out; omega); intro v1105 w102 ho hb hg hat; rw [← Ny1104.out] at ho; replace BK1071 := xK BK1071 hg (Kd.R_away HO_8.out (fun _ hk => hk.1.1)); replace BK1075 := xK BK1075 hg (Kd.R_away HO_8.out (fun _ hk => hk.1.2.1)); replace BK1076 := xK BK1076 hg (Kd.R_away HO_8.out (fun _ hk => hk.1.2.2.1)); replace BK1077 := xK BK1077 hg (Kd.R_away HO_8.out (fun _ hk => hk.1.2.2.2.1)); replace BK1078 := xK BK1078 hg (Kd.R_away HO_8.out (fun _ hk => hk.1.2.2.2.2)); replace BK1093 := xK BK1093 hg (Kd.R_away HO_8.out (fun _ hk => hk.2)); replace HB := Aside0.mk (hb); have HO1106 := Aside0.mk (ho); clear HO_8 ho hb hg hat; obtain ⟨hcz103_0, hcz103_1, hcz103_2, hfz103_0, hfz103_1, hfz103_2⟩ := x6 BK1093; obtain ⟨hcz104_0, hcz104_1, hcz104_2, hfz104_0, hfz104_1, hfz104_2⟩ := x6 BK1078))
      go_roundg kj29
      case measure => have := HK1.out; have := HJ29.out; omega
      case rel => exact ⟨(y1104), (wrap64 (x12_1 + 1)), (t1083), (t1084), (t1085), (x1078000_29), (x1078001_29), (x1078002_29), (x1078000_29), (x1078001_29), (x1078002_29), xz, H', ⟨by have := HK1.out; have := HJ29.out; omega⟩, ⟨by exact Kd.R_mono (Kd.R_far (p := ⟨gb1078, 2, none⟩) (Kd.R_far (p := ⟨gb1078, 1, none⟩) (Kd.R_far (p := ⟨gb1078, 0, none⟩) (Kd.R_mono HO1106.out (fun k_ hk => (⟨hk, hk.2.2.2.2.1⟩ : _ ∧ k_ ≠ gb1078))) (fun _ hk => hk.2) (.bool x1078000_29)) (fun _ hk => hk.2) (.string x1078001_29)) (fun _ hk => hk.2) (.string x1078002_29)) (fun _ hk => ⟨hk.1.1, ⟨hk.1.2.1, ⟨hk.1.2.2.1, ⟨hk.1.2.2.2.1, hk.1.2.2.2.2.1⟩⟩⟩⟩)⟩, ⟨xb BK1071⟩, ⟨xb BK1075⟩, ⟨xb BK1076⟩, ⟨xb BK1077⟩, ⟨by refine blk_put (cs := #[.bool x1078000_29, .string x1078001_29, .string x1079002_1]) ?_ 2 _ (by rfl); refine blk_put (cs := #[.bool x1078000_29, .string x1079001_1, .string x1079002_1]) ?_ 1 _ (by rfl); refine blk_put (cs := #[.bool x1079000_1, .string x1079001_1, .string x1079002_1]) ?_ 0 _ (by rfl); exact BK1078.out⟩, ⟨xs HB⟩⟩
   obtain rfl := Option.some.inj H
   go_wp2
   go_ret
   exact ⟨_, xy, by exact Kd.R_mono HO_8.out (fun _ hk => trivial), xs HB⟩
/-! ### insolvencylaw18_GuaranteeRates: function 6 -/
def insolvencylaw18_GuaranteeRates.j0 : Nat → List (S25) → List (S25) → Bool → Bool → ByteArray → ByteArray → Option (Bool)
 | 0, _, _, _, _, _, _ => none
 | k + 1, x1, x2, x19, x1108000, x1108001, x1108002 => if x19 = true then ((insolvencylaw18_awake.f k).bind fun t1111 => (some t1111)) else ((insolvencylaw18_awake.f k).bind fun t1112 => (if t1112 = true then ((guarantee_Rates.f k x1108000 x1108001 x1108002 x1 x2).bind fun t1113 => ((insolvencyref17_Rates.f k x1108000 x1108001 x1108002 x1 x2).bind fun t1116 => ((insolvencyref1_SameRats.f k t1113 t1116).bind fun t1119 => (some t1119)))) else (some false)))
def insolvencylaw18_GuaranteeRates.f (k : Nat) (a0_0 : Bool) (a0_1 : ByteArray) (a0_2 : ByteArray) (l1 : List (S25)) (l2 : List (S25)) : Option (Bool) := (insolvencylaw0_Few.f a0_0 a0_1 a0_2).bind fun t1108 => (if t1108 = true then ((insolvencylaw0_FewRats.f k l1 10).bind fun t1109 => (if t1109 = true then ((insolvencylaw0_FewRats.f k l2 12).bind fun t1110 => (insolvencylaw18_GuaranteeRates.j0 k l1 l2 (!t1110) a0_0 a0_1 a0_2)) else (insolvencylaw18_GuaranteeRates.j0 k l1 l2 true a0_0 a0_1 a0_2))) else (insolvencylaw18_GuaranteeRates.j0 k l1 l2 true a0_0 a0_1 a0_2))
theorem insolvencylaw18_GuaranteeRates.mono_l : ∀ k, (∀ y0 y1 y2 y3 y4 y5, LeO (insolvencylaw18_GuaranteeRates.j0 k y0 y1 y2 y3 y4 y5) (insolvencylaw18_GuaranteeRates.j0 (k + 1) y0 y1 y2 y3 y4 y5))
 | 0 => fun _ _ _ _ _ _ r h => by simp [insolvencylaw18_GuaranteeRates.j0] at h
 | k + 1 => by
  have ih0 := insolvencylaw18_GuaranteeRates.mono_l k
  ·intro y0 y1 y2 y3 y4 y5
   unfold insolvencylaw18_GuaranteeRates.j0
   have m0 := @ih0; have m1 := @guarantee_Rates.mono; have m2 := @insolvencylaw0_FewRats.mono; have m3 := @insolvencylaw18_awake.mono; have m4 := @insolvencyref17_Rates.mono; have m5 := @insolvencyref1_SameRats.mono; exact xM
theorem insolvencylaw18_GuaranteeRates.mono : ∀ a0 a1 a2 a3 a4 k, LeO (insolvencylaw18_GuaranteeRates.f k a0 a1 a2 a3 a4) (insolvencylaw18_GuaranteeRates.f (k + 1) a0 a1 a2 a3 a4) := by
 intro a0 a1 a2 a3 a4 k
 have ih0 := insolvencylaw18_GuaranteeRates.mono_l k
 unfold insolvencylaw18_GuaranteeRates.f
 have m0 := @ih0; have m1 := @guarantee_Rates.mono; have m2 := @insolvencylaw0_FewRats.mono; have m3 := @insolvencylaw18_awake.mono; have m4 := @insolvencyref17_Rates.mono; have m5 := @insolvencyref1_SameRats.mono; exact xM
def insolvencylaw18_GuaranteeRates.T3 : Bool × List (List Nat × List Nat) := (true, [([], []), ([0, 0], [0]), ([1], [1]), ([1], [1]), ([1], [1]), ([2, 3, 4, 1, 1], [1, 2, 3, 4]), ([1], [1]), ([1], [1]), ([1], [1]), ([6, 7, 8, 5, 1], [1, 6, 7, 8]), ([5, 9, 9, 1], [1, 5, 9]), ([1, 10], [1, 10]), ([11, 10, 0, 1, 2, 3, 4, 5, 6, 7, 8, 9, 10, 11], [11])])
def insolvencylaw18_GuaranteeRates.B3 : List Nat := [0, 1, 3, 3, 3, 31, 3, 3, 3, 511, 1023, 2047, 4095]
theorem insolvencylaw18_GuaranteeRates.tab3 : rtab .any (opsOf Tryd.f6 3) = insolvencylaw18_GuaranteeRates.T3 := by kernel_rfl
theorem insolvencylaw18_GuaranteeRates.bits3 : waitsOk insolvencylaw18_GuaranteeRates.T3.2 insolvencylaw18_GuaranteeRates.B3 = true := by kernel_rfl
theorem insolvencylaw18_GuaranteeRates.calls (k : Nat) (a0_0 : Bool) (a0_1 : ByteArray) (a0_2 : ByteArray) (A1 : Option Addr) (c1 : Nat) (l1 : List (S25)) (A2 : Option Addr) (c2 : Nat) (l2 : List (S25)) (r : Bool) (w : World) (hr1 : Kd.C k25 w A1 l1.length l1) (hc1 : l1.length ≤ c1) (hr2 : Kd.C k25 w A2 l2.length l2) (hc2 : l2.length ≤ c2) (h : insolvencylaw18_GuaranteeRates.f k a0_0 a0_1 a0_2 l1 l2 = some r) :
  Calls Tryd.prog 6 #[.agg #[.bool a0_0, .string a0_1, .string a0_2], .slice A1 l1.length c1, .slice A2 l2.length c2] w fun e w' => e = .returned (.bool r) ∧ Below w.heap.size w w' := by
 have hu25 := Tryd.underlying25
 have HR1 := Aside0.mk hr1
 have HC1 := Aside0.mk hc1
 clear hr1 hc1
 have HR2 := Aside0.mk hr2
 have HC2 := Aside0.mk hc2
 clear hr2 hc2
 have HB := Aside0.mk (Below.refl w.heap.size w)
 have H := h; clear h
 unfold insolvencylaw18_GuaranteeRates.f at H
 have HC4 := Aside0.mk H
 clear H
 go_enter Tryd.func6, Tryd.ntmps6
 go_upto_region 1 with (refine xF (N := 3) #[.bool a0_0, .string a0_1, .string a0_2] 25 HB ?_; clear HB; intro gb1107 hg w5 hb BK1107 GW1107 HB; clear hb hg)
 go_cut [19] (fun v19 wc => ∃ (kq : Nat) (x19_3 : Bool), v19 = .bool x19_3 ∧ Aside0 (insolvencylaw18_GuaranteeRates.j0 kq l1 l2 x19_3 a0_0 a0_1 a0_2 = some r) ∧ Aside0 (kq ≤ k) ∧ Aside0 (wc.heap[gb1107]? = some (.cells #[.bool a0_0, .string a0_1, .string a0_2] 25 (0, 0))) ∧ Aside0 (Below w.heap.size w wc))
 case first =>
  have H := HC4.out
  clear HC4
  replace H := xH H; obtain ⟨t1108, A6, H⟩ := H
  by_cases c7 : t1108 = true
  ·subst c7
   replace H := xI H
   replace H := xH H; obtain ⟨t1109, A8, H⟩ := H
   by_cases c9 : t1109 = true
   ·subst c9
    replace H := xI H
    replace H := xH H; obtain ⟨t1110, A10, H⟩ := H
    have H' := Aside0.mk H
    clear H
    obtain ⟨hcz11_0, hcz11_1, hcz11_2, hfz11_0, hfz11_1, hfz11_2⟩ := x6 BK1107
    go_wp2_with (first | (refine xC Tryd.func15 (some 8) (insolvencylaw0_Few.calls a0_0 a0_1 a0_2 true _ A6.out) ?_; rintro w12 hb; replace BK1107 := xB BK1107 hb; replace HB := xS HB hb; clear hb) | (go_at_call 16; (with_reducible refine (insolvencylaw0_FewRats.calls k _ _ l1 10 true _ ?side1 ?side2 A8.out).mono ?_); (case side1 => repeat (exact (Kd.C_below HR1.out HB.out))); (case side2 => exact HC1.out); rintro e w13 ⟨rfl, hb⟩; replace BK1107 := xB BK1107 hb; replace HB := xS HB hb; clear hb) | (go_at_call 16; (with_reducible refine (insolvencylaw0_FewRats.calls k _ _ l2 12 t1110 _ ?side1 ?side2 A10.out).mono ?_); (case side1 => repeat (exact (Kd.C_below HR2.out HB.out))); (case side2 => exact HC2.out); rintro e w14 ⟨rfl, hb⟩; replace BK1107 := xB BK1107 hb; replace HB := xS HB hb; clear hb))
    go_meet
    case rel => exact ⟨_, (!t1110), xz, H', ⟨by omega⟩, ⟨xb BK1107⟩, ⟨xs HB⟩⟩
   replace c9 := Bool.eq_false_iff.mpr c9
   subst c9
   have H1 : (insolvencylaw18_GuaranteeRates.j0 k l1 l2 true a0_0 a0_1 a0_2) = some r := by rw [if_neg (show ¬ (false = true) by decide)] at H; exact H
   clear H
   have H := H1
   clear H1
   have H' := Aside0.mk H
   clear H
   obtain ⟨hcz15_0, hcz15_1, hcz15_2, hfz15_0, hfz15_1, hfz15_2⟩ := x6 BK1107
   go_wp2_with (first | (refine xC Tryd.func15 (some 8) (insolvencylaw0_Few.calls a0_0 a0_1 a0_2 true _ A6.out) ?_; rintro w16 hb; replace BK1107 := xB BK1107 hb; replace HB := xS HB hb; clear hb) | (go_at_call 16; (with_reducible refine (insolvencylaw0_FewRats.calls k _ _ l1 10 false _ ?side1 ?side2 A8.out).mono ?_); (case side1 => repeat (exact (Kd.C_below HR1.out HB.out))); (case side2 => exact HC1.out); rintro e w17 ⟨rfl, hb⟩; replace BK1107 := xB BK1107 hb; replace HB := xS HB hb; clear hb))
   go_meet
   case rel => exact ⟨_, (true), xz, H', ⟨by omega⟩, ⟨xb BK1107⟩, ⟨xs HB⟩⟩
  replace c7 := Bool.eq_false_iff.mpr c7
  subst c7
  have H1 : (insolvencylaw18_GuaranteeRates.j0 k l1 l2 true a0_0 a0_1 a0_2) = some r := by rw [if_neg (show ¬ (false = true) by decide)] at H; exact H
  clear H
  have H := H1
  clear H1
  have H' := Aside0.mk H
  clear H
  obtain ⟨hcz18_0, hcz18_1, hcz18_2, hfz18_0, hfz18_1, hfz18_2⟩ := x6 BK1107
  go_wp2_with (refine xC Tryd.func15 (some 8) (insolvencylaw0_Few.calls a0_0 a0_1 a0_2 false _ A6.out) ?_; rintro w19 hb; replace BK1107 := xB BK1107 hb; replace HB := xS HB hb; clear hb)
  go_meet
  case rel => exact ⟨_, (true), xz, H', ⟨by omega⟩, ⟨xb BK1107⟩, ⟨xs HB⟩⟩
 case rest =>
  clear HC4
  obtain ⟨kq, x19_3, rfl, HA, HJ3, BK1107, HB⟩ := hcut
  cases kq with
  | zero => exact absurd HA.out (by simp [insolvencylaw18_GuaranteeRates.j0])
  | succ kj3 =>
   have H := HA.out
   clear HA
   simp only [insolvencylaw18_GuaranteeRates.j0] at H
   by_cases c20 : x19_3 = true
   ·subst c20
    replace H := xI H
    replace H := xH H; obtain ⟨t1111, A21, H⟩ := H
    obtain rfl := Option.some.inj H
    go_wp2_with (refine xC Tryd.func14 (some 20) (insolvencylaw18_awake.calls kj3  t1111 _ A21.out) ?_; rintro w22 hb; replace BK1107 := xB BK1107 hb; replace HB := xS HB hb; clear hb)
    go_ret
    exact ⟨xy, xs HB⟩
   replace c20 := Bool.eq_false_iff.mpr c20
   subst c20
   have H1 : ((insolvencylaw18_awake.f kj3).bind fun t1112 => (if t1112 = true then ((guarantee_Rates.f kj3 a0_0 a0_1 a0_2 l1 l2).bind fun t1113 => ((insolvencyref17_Rates.f kj3 a0_0 a0_1 a0_2 l1 l2).bind fun t1116 => ((insolvencyref1_SameRats.f kj3 t1113 t1116).bind fun t1119 => (some t1119)))) else (some false))) = some r := by rw [if_neg (show ¬ (false = true) by decide)] at H; exact H
   clear H
   have H := H1
   clear H1
   replace H := xH H; obtain ⟨t1112, A23, H⟩ := H
   by_cases c24 : t1112 = true
   ·subst c24
    replace H := xI H
    replace H := xH H; obtain ⟨t1113, A25, H⟩ := H
    replace H := xH H; obtain ⟨t1116, A26, H⟩ := H
    replace H := xH H; obtain ⟨t1119, A27, H⟩ := H
    obtain rfl := Option.some.inj H
    try go_wp2
    replace BK1107 := xD BK1107
    replace HB := xW HB
    refine start_ (n := 13) (S := fun w' => w'.cell? ⟨gb1107, 0, none⟩ = some (.bool a0_0) ∧ w'.cell? ⟨gb1107, 1, none⟩ = some (.string a0_1) ∧ w'.cell? ⟨gb1107, 2, none⟩ = some (.string a0_2)) (ds := []) (b 13 0) (by kernel_rfl) rfl rfl xV (fun hHeld => ?_); refine with_tabW insolvencylaw18_GuaranteeRates.tab3 insolvencylaw18_GuaranteeRates.bits3 (fun HT_ HW_ => ?_)
    generalize wc.drew = w28 at BK1107 HB hHeld ⊢
    refine yO 0 (some 21) (b 13 1) fun K hK => ?_
    refine xc Tryd.func14 (insolvencylaw18_awake.calls kj3  true _ A23.out) ?_
    rintro w29 hb
    replace BK1107 := xB BK1107 hb
    replace HB := xS HB hb
    clear hb
    refine hK.out _ _ xV (fun hHeld => ?_)
    clear hK K
    refine xN 21 ?_
    refine yP 1 (some 22) (b 13 3) ?_
    refine yP 3 (some 24) (b 13 11) ?_
    refine yP 4 (some 25) (b 13 27) ?_
    refine yP 7 (some 28) (b 13 155) ?_
    refine yP 8 (some 29) (b 13 411) ?_
    refine yT 2 (some 23) (b 13 415) hHeld ?_
    refine yT 6 (some 27) (b 13 479) hHeld ?_
    refine yO 5 (some 26) (b 13 511) fun K hK => ?_
    refine goes_ Tryd.func23 (by kernel_rfl) rfl #[.agg #[.bool a0_0, .string a0_1, .string a0_2], .slice A1 l1.length c1, .slice A2 l2.length c2] (by rfl) rfl rfl (by (try simp only [List.map_toArray, List.map_cons, List.map_nil]); rfl) ?_
    with_reducible refine (guarantee_Rates.calls kj3 a0_0 a0_1 a0_2 _ _ l1 _ _ l2 t1113 _ ?side1 ?side2 ?side3 ?side4 A25.out).mono ?_
    (case side1 => repeat (exact (Kd.C_below HR1.out HB.out)))
    (case side2 => exact HC1.out)
    (case side3 => repeat (exact (Kd.C_below HR2.out HB.out)))
    (case side4 => exact HC2.out)
    rintro e w30 ⟨v1114, rfl, ho0, hb⟩
    refine ⟨_, rfl, ?_⟩
    have HO1115 := Aside0.mk (Kd.R_lower (Kd.R_newB ho0 (g := gb1107) (o := .cells #[.bool a0_0, .string a0_1, .string a0_2] 25 (0, 0)) (xb BK1107)) (below_size (xs HB)))
    replace BK1107 := xB BK1107 hb
    replace HB := xS HB hb
    clear hb
    clear ho0
    refine hK.out _ _ xV (fun hHeld => ?_)
    clear hK K
    refine xN 26 ?_
    refine yO 9 (some 30) (b 13 1023) fun K hK => ?_
    refine goes_ Tryd.func24 (by kernel_rfl) rfl #[.agg #[.bool a0_0, .string a0_1, .string a0_2], .slice A1 l1.length c1, .slice A2 l2.length c2] (by rfl) rfl rfl (by (try simp only [List.map_toArray, List.map_cons, List.map_nil]); rfl) ?_
    with_reducible refine (insolvencyref17_Rates.calls kj3 a0_0 a0_1 a0_2 _ _ l1 _ _ l2 t1116 _ ?side1 ?side2 ?side3 ?side4 A26.out).mono ?_
    (case side1 => repeat (exact (Kd.C_below HR1.out HB.out)))
    (case side2 => exact HC1.out)
    (case side3 => repeat (exact (Kd.C_below HR2.out HB.out)))
    (case side4 => exact HC2.out)
    rintro e w31 ⟨v1117, rfl, ho0, hb⟩
    refine ⟨_, rfl, ?_⟩
    have HO1118 := Aside0.mk (Kd.R_lower (Kd.R_newB (Kd.R_new' ho0 (Kd.R_lt (xr HO1115.out))) (g := gb1107) (o := .cells #[.bool a0_0, .string a0_1, .string a0_2] 25 (0, 0)) (xb BK1107)) (below_size (xs HB)))
    replace HO1115 := Aside0.mk (Kd.R_elder' (xr HO1115.out) (Kd.R_base ho0) hb)
    replace BK1107 := xB BK1107 hb
    replace HB := xS HB hb
    clear hb
    clear ho0
    obtain ⟨Ao32, co32, eo32⟩ := Kd.R_slice HO1115.out
    subst eo32
    obtain ⟨Ao33, co33, eo33⟩ := Kd.R_slice HO1118.out
    subst eo33
    refine hK.out _ _ xV (fun hHeld => ?_)
    clear hK K
    refine xN 30 ?_
    refine yO 10 (some 31) (b 13 2047) fun K hK => ?_
    refine goes_ Tryd.func17 (by kernel_rfl) rfl #[.slice Ao32 t1113.length co32, .slice Ao33 t1116.length co33] (by rfl) rfl rfl (by (try simp only [List.map_toArray, List.map_cons, List.map_nil]); rfl) ?_
    with_reducible refine (insolvencyref1_SameRats.calls kj3 _ _ t1113 _ _ t1116 t1119 _ ?side1 ?side2 ?side3 ?side4 A27.out).mono ?_
    (case side1 => repeat (exact (Kd.R_reads' HO1115.out).2.2))
    (case side2 => exact (Kd.R_reads' HO1115.out).2.1)
    (case side3 => repeat (exact (Kd.R_reads' HO1118.out).2.2))
    (case side4 => exact (Kd.R_reads' HO1118.out).2.1)
    rintro e w' ⟨rfl, ⟨nd, rfl⟩⟩
    refine ⟨_, rfl, ?_⟩
    refine hK.out _ _ xV (fun hHeld => ?_)
    clear hK K
    refine xN 31 ?_
    refine yP 11 (some 32) (b 13 4095) ?_
    refine yP 12 (some 6) (b 13 8191) ?_
    refine done_ (done_of HT_.out (by kernel_rfl)) ?_
    try go_wp2
    go_ret
    exact ⟨xy, xs HB⟩
   replace c24 := Bool.eq_false_iff.mpr c24
   subst c24
   have H1 : (some false) = some r := by rw [if_neg (show ¬ (false = true) by decide)] at H; exact H
   clear H
   have H := H1
   clear H1
   obtain rfl := Option.some.inj H
   try go_wp2
   replace BK1107 := xD BK1107
   replace HB := xW HB
   refine start_ (n := 13) (S := fun w' => True) (ds := []) (b 13 0) (by kernel_rfl) rfl rfl trivial (fun hHeld => ?_); refine with_tabW insolvencylaw18_GuaranteeRates.tab3 insolvencylaw18_GuaranteeRates.bits3 (fun HT_ HW_ => ?_)
   generalize wc.drew = w34 at BK1107 HB hHeld ⊢
   refine yO 0 (some 21) (b 13 1) fun K hK => ?_
   refine xc Tryd.func14 (insolvencylaw18_awake.calls kj3  false _ A23.out) ?_
   rintro w35 hb
   replace BK1107 := xB BK1107 hb
   replace HB := xS HB hb
   clear hb
   refine hK.out _ _ trivial (fun hHeld => ?_)
   clear hK K
   refine xN 21 ?_
   refine yP 1 (some 22) (b 13 3) ?_
   refine yU 2 (some 23) (b 13 7) ?_
   refine yU 3 (some 24) (b 13 15) ?_
   refine yU 4 (some 25) (b 13 31) ?_
   refine yU 5 (some 26) (b 13 63) ?_
   refine yU 6 (some 27) (b 13 127) ?_
   refine yU 7 (some 28) (b 13 255) ?_
   refine yU 8 (some 29) (b 13 511) ?_
   refine yU 9 (some 30) (b 13 1023) ?_
   refine yU 10 (some 31) (b 13 2047) ?_
   refine yP 11 (some 32) (b 13 4095) ?_
   refine yP 12 (some 6) (b 13 8191) ?_
   refine done_ (done_of HT_.out (by kernel_rfl)) ?_
   try go_wp2
   go_ret
   exact ⟨xy, xs HB⟩
end Go.Proofs.YtpoogjcgjpkbeaaDoor.XA
