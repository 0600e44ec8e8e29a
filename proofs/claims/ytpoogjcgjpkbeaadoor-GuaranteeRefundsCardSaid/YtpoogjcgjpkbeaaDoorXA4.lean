/- Walks of functions of the program: a plain Lean function for each, and a proof that a call answers as it says. Written by a program (the kit's print with changes, then shortened). -/
import Derived.Test.YtpoogjcgjpkbeaaDoorXA3
namespace Go.Proofs.YtpoogjcgjpkbeaaDoor.XA
open Go.RowKit Go.Proofs.YtpoogjcgjpkbeaaDoorW.PrintWords Go.Proofs.YtpoogjcgjpkbeaaDoorW.PrintLast Go.Proofs.YtpoogjcgjpkbeaaDoorW.PrintMore Go.Proofs.YtpoogjcgjpkbeaaDoorW.Sq Go.Proofs.YtpoogjcgjpkbeaaDoorW.Sr Go.Proofs.YtpoogjcgjpkbeaaDoorW.Ss
attribute [local go_sem] max2_int min2_int max_two min_two max_three min_three max_four min_four   -- for this text's walks alone
set_option linter.unusedVariables false
set_option linter.unusedSimpArgs false
set_option maxHeartbeats 8000000
set_option maxRecDepth 100000
open Go.RowKit Go.Proofs.YtpoogjcgjpkbeaaDoorW.PrintWords Go.Proofs.YtpoogjcgjpkbeaaDoorW.PrintLast Go.Proofs.YtpoogjcgjpkbeaaDoorW.PrintMore Go.Proofs.YtpoogjcgjpkbeaaDoorW.Sq Go.Proofs.YtpoogjcgjpkbeaaDoorW.Sr
/-! ### insolvencyref17_Refunds: function 18 -/
def insolvencyref17_Refunds.l0 : Nat → List (S25) → List (S25) → Int → Bool → ByteArray → ByteArray → Bool → ByteArray → ByteArray → Option (List (S25))
 | 0, _, _, _, _, _, _, _, _, _ => none
 | k + 1, x1, x6, x8, x903000, x903001, x903002, x904000, x904001, x904002 => if x8 < (x1.length : Int) then ((insolvencyref1_Minus.f k x904000 x904001 x904002 x903000 x903001 x903002).bind fun bt904 => ((insolvencyref1_Positive.f bt904.1 bt904.2.1 bt904.2.2).bind fun bt907 => (if 0 ≤ x8 then ((insolvencyref17_amount.f k ((rd_T25 x1 x8).f0) ((rd_T25 x1 x8).f1) ((rd_T25 x1 x8).f2)).bind fun bt912 => ((insolvencyref1_Plus.f k x904000 x904001 x904002 bt912.1 bt912.2.1 bt912.2.2).bind fun bt915 => ((insolvencyref1_Minus.f k bt915.1 bt915.2.1 bt915.2.2 x903000 x903001 x903002).bind fun bt918 => ((insolvencyref1_Positive.f bt918.1 bt918.2.1 bt918.2.2).bind fun bt921 => ((insolvencyref1_Minus.f k bt921.1 bt921.2.1 bt921.2.2 bt907.1 bt907.2.1 bt907.2.2).bind fun bt924 => (if x6.length < 3518437208883 then (insolvencyref17_Refunds.l0 k x1 (x6 ++ [(⟨bt924.1, bt924.2.1, bt924.2.2⟩ : S25)]) (wrap64 (x8 + 1)) x903000 x903001 x903002 bt915.1 bt915.2.1 bt915.2.2) else (none))))))) else (none)))) else (some x6)
def insolvencyref17_Refunds.f (k : Nat) (a0_0 : Bool) (a0_1 : ByteArray) (a0_2 : ByteArray) (l1 : List (S25)) : Option (List (S25)) := (insolvencyref17_amount.f k a0_0 a0_1 a0_2).bind fun bt899 => (insolvencyref17_Refunds.l0 k l1 ([] : List (S25)) 0 bt899.1 bt899.2.1 bt899.2.2 false (⟨#[]⟩ : ByteArray) (⟨#[]⟩ : ByteArray))
theorem insolvencyref17_Refunds.mono_l : ∀ k, (∀ y0 y1 y2 y3 y4 y5 y6 y7 y8, LeO (insolvencyref17_Refunds.l0 k y0 y1 y2 y3 y4 y5 y6 y7 y8) (insolvencyref17_Refunds.l0 (k + 1) y0 y1 y2 y3 y4 y5 y6 y7 y8))
 | 0 => fun _ _ _ _ _ _ _ _ _ r h => by simp [insolvencyref17_Refunds.l0] at h
 | k + 1 => by
  have ih0 := insolvencyref17_Refunds.mono_l k
  ·intro y0 y1 y2 y3 y4 y5 y6 y7 y8
   unfold insolvencyref17_Refunds.l0
   have m0 := @ih0; have m1 := @insolvencyref17_amount.mono; have m2 := @insolvencyref1_Minus.mono; have m3 := @insolvencyref1_Plus.mono; exact xM
theorem insolvencyref17_Refunds.mono : ∀ a0 a1 a2 a3 k, LeO (insolvencyref17_Refunds.f k a0 a1 a2 a3) (insolvencyref17_Refunds.f (k + 1) a0 a1 a2 a3) := by
 intro a0 a1 a2 a3 k
 have ih0 := insolvencyref17_Refunds.mono_l k
 unfold insolvencyref17_Refunds.f
 have m0 := @ih0; have m1 := @insolvencyref17_amount.mono; have m2 := @insolvencyref1_Minus.mono; have m3 := @insolvencyref1_Plus.mono; exact xM
def insolvencyref17_Refunds.T8 : Bool × List (List Nat × List Nat) := (true, [([], []), ([], []), ([], []), ([1, 2], [1, 2]), ([3], [3]), ([4], [4]), ([0, 5, 5], [0, 5]), ([6, 6, 0, 1, 2, 3, 4, 5, 6], [6])])
def insolvencyref17_Refunds.B8 : List Nat := [0, 0, 0, 6, 14, 30, 63, 127]
theorem insolvencyref17_Refunds.tab8 : rtab .any (opsOf Tryd.f18 8) = insolvencyref17_Refunds.T8 := by kernel_rfl
theorem insolvencyref17_Refunds.bits8 : waitsOk insolvencyref17_Refunds.T8.2 insolvencyref17_Refunds.B8 = true := by kernel_rfl
def insolvencyref17_Refunds.T9 : Bool × List (List Nat × List Nat) := (true, [([], []), ([], []), ([], []), ([1, 2], [1, 2]), ([3, 3], [3]), ([], []), ([4, 5, 4], [4, 5]), ([6], [6]), ([0, 7, 6], [0, 7]), ([8, 8, 0, 1, 2, 3, 4, 5, 6, 7, 8], [0, 8])])
def insolvencyref17_Refunds.B9 : List Nat := [0, 0, 0, 6, 14, 0, 62, 126, 255, 511]
theorem insolvencyref17_Refunds.tab9 : rtab .any (opsOf Tryd.f18 9) = insolvencyref17_Refunds.T9 := by kernel_rfl
theorem insolvencyref17_Refunds.bits9 : waitsOk insolvencyref17_Refunds.T9.2 insolvencyref17_Refunds.B9 = true := by kernel_rfl
theorem insolvencyref17_Refunds.calls (k : Nat) (a0_0 : Bool) (a0_1 : ByteArray) (a0_2 : ByteArray) (A1 : Option Addr) (c1 : Nat) (l1 : List (S25)) (r : List (S25)) (w : World) (hr1 : Kd.C k25 w A1 l1.length l1) (hc1 : l1.length ≤ c1) (h : insolvencyref17_Refunds.f k a0_0 a0_1 a0_2 l1 = some r) :
  Calls Tryd.prog 18 #[.agg #[.bool a0_0, .string a0_1, .string a0_2], .slice A1 l1.length c1] w fun e w' => ∃ v0_ : Value, e = .returned (v0_) ∧ Kd.R k25 25 w' w.heap.size (fun _ => True) v0_ r ∧ Below w.heap.size w w' := by
 have hu25 := Tryd.underlying25
 have HR1 := Aside0.mk hr1
 have HC1 := Aside0.mk hc1
 clear hr1 hc1
 have HB := Aside0.mk (Below.refl w.heap.size w)
 have H := h; clear h
 unfold insolvencyref17_Refunds.f at H
 replace H := xH H; obtain ⟨⟨t899, t900, t901⟩, A3, H⟩ := H
 dsimp only at H
 have H' := Aside0.mk H
 clear H
 go_enter Tryd.func18, Tryd.ntmps18
 go_wp2_with (first | (refine xF (N := 2) #[.bool a0_0, .string a0_1, .string a0_2] 25 HB ?_; clear HB; intro gb898 hg w4 hb BK898 GW898 HB; clear hb hg; obtain ⟨hcz5_0, hcz5_1, hcz5_2, hfz5_0, hfz5_1, hfz5_2⟩ := x6 BK898) | (refine xC Tryd.func40 (some 11) (insolvencyref17_amount.calls k a0_0 a0_1 a0_2 t899 t900 t901 _ A3.out) ?_; rintro w6 hb; replace BK898 := xB BK898 hb; replace HB := xS HB hb; clear hb) | (refine xF (N := 5) #[.bool false, .string (⟨#[]⟩ : ByteArray), .string (⟨#[]⟩ : ByteArray)] 25 HB ?_; clear HB; intro gb902 hg w7 hb BK902 GW902 HB; have NB898_902 := xL BK898 hg; have NB902_898 := xR BK898 hg; replace BK898 := xB BK898 hb; clear hb hg; have hnb8 := NB902_898.out; have hnc8 := NB898_902.out; obtain ⟨hcz9_0, hcz9_1, hcz9_2, hfz9_0, hfz9_1, hfz9_2⟩ := x6 BK902) | (refine xF (N := 7) #[.bool false, .string (⟨#[]⟩ : ByteArray), .string (⟨#[]⟩ : ByteArray)] 25 HB ?_; clear HB; intro gb903 hg w10 hb BK903 GW903 HB; have NB898_903 := xL BK898 hg; have NB903_898 := xR BK898 hg; replace BK898 := xB BK898 hb; have NB902_903 := Aside0.mk (by rw [hg]; exact Nat.ne_of_lt (blk_lt (g := gb902) (o := .cells #[.bool t899, .string t900, .string t901] 25 (0, 0)) (xp BK902)) : gb902 ≠ gb903); have NB903_902 := Aside0.mk (by rw [hg]; exact Nat.ne_of_gt (blk_lt (g := gb902) (o := .cells #[.bool t899, .string t900, .string t901] 25 (0, 0)) (xp BK902)) : gb903 ≠ gb902); replace BK902 := Aside0.mk (blk_below (g := gb902) (o := .cells #[.bool t899, .string t900, .string t901] 25 (0, 0)) (xp BK902) hb); clear hb hg; have hnb11 := NB903_898.out; have hnc11 := NB898_903.out; have hnb12 := NB903_902.out; have hnc12 := NB902_903.out; obtain ⟨hcz13_0, hcz13_1, hcz13_2, hfz13_0, hfz13_1, hfz13_2⟩ := x6 BK903))
 go_loopg [6, 8] k (fun kq v6 v8 w' => ∃ (x6_1 : List (S25)) (x8_1 : Int) (x904000_1 : Bool) (x904001_1 : ByteArray) (x904002_1 : ByteArray), v8 = .int .i64 x8_1 ∧ Aside0 (insolvencyref17_Refunds.l0 kq l1 x6_1 x8_1 t899 t900 t901 x904000_1 x904001_1 x904002_1 = some r) ∧ Aside0 (kq ≤ k) ∧ Aside0 (Kd.R k25 25 w' w.heap.size (fun k_ => k_ ≠ gb898 ∧ k_ ≠ gb902 ∧ k_ ≠ gb903) v6 x6_1) ∧ Aside0 (w'.heap[gb898]? = some (.cells #[.bool a0_0, .string a0_1, .string a0_2] 25 (0, 0))) ∧ Aside0 (w'.heap[gb902]? = some (.cells #[.bool t899, .string t900, .string t901] 25 (0, 0))) ∧ Aside0 (w'.heap[gb903]? = some (.cells #[.bool x904000_1, .string x904001_1, .string x904002_1] 25 (0, 0))) ∧ Aside0 (Below w.heap.size w w'))
 case atStart => exact ⟨([] : List (S25)), (0), (false), (⟨#[]⟩ : ByteArray), (⟨#[]⟩ : ByteArray), xz, H', ⟨Nat.le_refl _⟩, ⟨by exact Kd.R_nil _ _ _ _ _⟩, ⟨xb BK898⟩, ⟨xb BK902⟩, ⟨by refine blk_put (cs := #[.bool false, .string (⟨#[]⟩ : ByteArray), .string (⟨#[]⟩ : ByteArray)]) ?_ 2 _ (by rfl); refine blk_put (cs := #[.bool false, .string (⟨#[]⟩ : ByteArray), .string (⟨#[]⟩ : ByteArray)]) ?_ 1 _ (by rfl); refine blk_put (cs := #[.bool false, .string (⟨#[]⟩ : ByteArray), .string (⟨#[]⟩ : ByteArray)]) ?_ 0 _ (by rfl); exact BK903.out⟩, ⟨xs HB⟩⟩
 case round =>
  clear H'
  clear hcz13_0 hcz13_1 hcz13_2 hcz5_0 hcz5_1 hcz5_2 hcz9_0 hcz9_1 hcz9_2 hfz13_0 hfz13_1 hfz13_2 hfz5_0 hfz5_1 hfz5_2 hfz9_0 hfz9_1 hfz9_2
  obtain ⟨x6_1, x8_1, x904000_1, x904001_1, x904002_1, rfl, HA, HK1, HO_6, BK898, BK902, BK903, HB⟩ := hrel
  cases gk with
  | zero => exact absurd HA.out (by simp [insolvencyref17_Refunds.l0])
  | succ k1 =>
   have H := HA.out
   clear HA
   simp only [insolvencyref17_Refunds.l0] at H
   obtain ⟨c14b0, H⟩ | ⟨c14b0, H⟩ := xOd H
   ·replace H := xH H; obtain ⟨⟨t904, t905, t906⟩, A15, H⟩ := H
    dsimp only at H
    replace H := xH H; obtain ⟨⟨t907, t908, t909⟩, A16, H⟩ := H
    dsimp only at H
    obtain ⟨c17b0, H⟩ := xQd H
    replace H := xH H; obtain ⟨⟨t912, t913, t914⟩, A18, H⟩ := H
    dsimp only at H
    replace H := xH H; obtain ⟨⟨t915, t916, t917⟩, A19, H⟩ := H
    dsimp only at H
    replace H := xH H; obtain ⟨⟨t918, t919, t920⟩, A20, H⟩ := H
    dsimp only at H
    replace H := xH H; obtain ⟨⟨t921, t922, t923⟩, A21, H⟩ := H
    dsimp only at H
    replace H := xH H; obtain ⟨⟨t924, t925, t926⟩, A22, H⟩ := H
    dsimp only at H
    obtain ⟨c23, H⟩ := xQ H
    have LMc23 := Aside0.mk c23
    clear c23
    generalize hy927 : (x6_1 ++ [(⟨t924, t925, t926⟩ : S25)] : List (S25)) = y927 at H
    have Ny927 := Aside0.mk hy927.symm
    clear hy927
    have H' := Aside0.mk H
    clear H
    have hnb24 := NB903_898.out
    have hnc24 := NB898_903.out
    have hnb25 := NB903_902.out
    have hnc25 := NB902_903.out
    obtain ⟨hcz26_0, hcz26_1, hcz26_2, hfz26_0, hfz26_1, hfz26_2⟩ := x6 BK903
    have hnb27 := NB902_898.out
    have hnc27 := NB898_902.out
    obtain ⟨hcz28_0, hcz28_1, hcz28_2, hfz28_0, hfz28_1, hfz28_2⟩ := x6 BK902
    try go_wp2_with (first | (refine xC Tryd.func42 (some 21) (insolvencyref1_Minus.calls k1 x904000_1 x904001_1 x904002_1 t899 t900 t901 t904 t905 t906 _ A15.out) ?_; rintro w29 hb; replace HO_6 := xRb HO_6 hb; replace BK898 := xB BK898 hb; replace BK902 := xB BK902 hb; replace BK903 := xB BK903 hb; replace HB := xS HB hb; clear hb) | (refine xC Tryd.func41 (some 22) (insolvencyref1_Positive.calls t904 t905 t906 t907 t908 t909 _ A16.out) ?_; rintro w30 hb; replace HO_6 := xRb HO_6 hb; replace BK898 := xB BK898 hb; replace BK902 := xB BK902 hb; replace BK903 := xB BK903 hb; replace HB := xS HB hb; clear hb) | (refine xF (N := 9) #[.bool false, .string (⟨#[]⟩ : ByteArray), .string (⟨#[]⟩ : ByteArray)] 25 HB ?_; clear HB; intro gb910 hg w31 hb BK910 GW910 HB; replace HO_6 := Aside0.mk (Kd.R_below (Kd.R_elderB (xr HO_6.out) gb910 (Nat.le_of_eq hg.symm)) hb); have NB898_910 := xL BK898 hg; have NB910_898 := xR BK898 hg; replace BK898 := xB BK898 hb; have NB902_910 := xL BK902 hg; have NB910_902 := xR BK902 hg; replace BK902 := xB BK902 hb; have NB903_910 := xL BK903 hg; have NB910_903 := xR BK903 hg; replace BK903 := xB BK903 hb; clear hb hg; have hnb32 := NB910_898.out; have hnc32 := NB898_910.out; have hnb33 := NB910_902.out; have hnc33 := NB902_910.out; have hnb34 := NB910_903.out; have hnc34 := NB903_910.out; obtain ⟨hcz35_0, hcz35_1, hcz35_2, hfz35_0, hfz35_1, hfz35_2⟩ := x6 BK910))
    have n0_ : Aside0 (Kd.R k25 25 (((w31.setCell ⟨gb910, 0, none⟩ (.bool t907)).setCell ⟨gb910, 1, none⟩ (.string t908)).setCell ⟨gb910, 2, none⟩ (.string t909)) w.heap.size (fun k_ => k_ ≠ gb898 ∧ k_ ≠ gb902 ∧ k_ ≠ gb903 ∧ k_ ≠ gb910) u6 x6_1) := ⟨by exact Kd.R_mono (Kd.R_far (p := ⟨gb910, 2, none⟩) (Kd.R_far (p := ⟨gb910, 1, none⟩) (Kd.R_far (p := ⟨gb910, 0, none⟩) (Kd.R_mono HO_6.out (fun k_ hk => (⟨hk, hk.2⟩ : _ ∧ k_ ≠ gb910))) (fun _ hk => hk.2) (.bool t907)) (fun _ hk => hk.2) (.string t908)) (fun _ hk => hk.2) (.string t909)) (fun _ hk => ⟨hk.1.1.1, ⟨hk.1.1.2.1, ⟨hk.1.1.2.2, hk.1.2⟩⟩⟩)⟩
    have n1_ : Aside0 ((((w31.setCell ⟨gb910, 0, none⟩ (.bool t907)).setCell ⟨gb910, 1, none⟩ (.string t908)).setCell ⟨gb910, 2, none⟩ (.string t909)).heap[gb898]? = some (.cells #[.bool a0_0, .string a0_1, .string a0_2] 25 (0, 0))) := ⟨xb BK898⟩
    have n2_ : Aside0 ((((w31.setCell ⟨gb910, 0, none⟩ (.bool t907)).setCell ⟨gb910, 1, none⟩ (.string t908)).setCell ⟨gb910, 2, none⟩ (.string t909)).heap[gb902]? = some (.cells #[.bool t899, .string t900, .string t901] 25 (0, 0))) := ⟨xb BK902⟩
    have n3_ : Aside0 ((((w31.setCell ⟨gb910, 0, none⟩ (.bool t907)).setCell ⟨gb910, 1, none⟩ (.string t908)).setCell ⟨gb910, 2, none⟩ (.string t909)).heap[gb903]? = some (.cells #[.bool x904000_1, .string x904001_1, .string x904002_1] 25 (0, 0))) := ⟨xb BK903⟩
    have n4_ : Aside0 ((((w31.setCell ⟨gb910, 0, none⟩ (.bool t907)).setCell ⟨gb910, 1, none⟩ (.string t908)).setCell ⟨gb910, 2, none⟩ (.string t909)).heap[gb910]? = some (.cells #[.bool t907, .string t908, .string t909] 25 (0, 0))) := ⟨xp BK910⟩
    have n5_ : Aside0 (Below w.heap.size w (((w31.setCell ⟨gb910, 0, none⟩ (.bool t907)).setCell ⟨gb910, 1, none⟩ (.string t908)).setCell ⟨gb910, 2, none⟩ (.string t909))) := ⟨xs HB⟩
    clear HO_6 BK898 BK902 BK903 BK910 HB
    generalize (((w31.setCell ⟨gb910, 0, none⟩ (.bool t907)).setCell ⟨gb910, 1, none⟩ (.string t908)).setCell ⟨gb910, 2, none⟩ (.string t909)) = w36 at n0_ n1_ n2_ n3_ n4_ n5_ ⊢
    have HO_6 := n0_
    have BK898 := n1_
    have BK902 := n2_
    have BK903 := n3_
    have BK910 := n4_
    have HB := n5_
    clear n0_ n1_ n2_ n3_ n4_ n5_
    replace HO_6 := Aside0.mk (Kd.R_drew HO_6.out)
    replace BK898 := xD BK898
    replace BK902 := xD BK902
    replace BK903 := xD BK903
    replace BK910 := xD BK910
    replace HB := xW HB
    obtain ⟨p911, q911, ad911, e911, hx911_0, hx911_1, hx911_2⟩ := xA (at_T25 HR1.out x8_1)
    have hw911_2 := hx911_2
    have hw911_1 := hx911_1
    have hw911_0 := hx911_0
    cases e911
    (try replace hx911_0 := xcl HB hx911_0)
    (try replace hx911_1 := xcl HB hx911_1)
    (try replace hx911_2 := xcl HB hx911_2)
    refine start_ (n := 8) (S := fun w' => w'.cell? ⟨gb903, 0, none⟩ = some (.bool x904000_1) ∧ w'.cell? ⟨gb903, 1, none⟩ = some (.string x904001_1) ∧ w'.cell? ⟨gb903, 2, none⟩ = some (.string x904002_1) ∧ w'.cell? (ad911.add ((x8_1).toNat * 3)) = some (.bool ((rd_T25 l1 x8_1).f0)) ∧ w'.cell? ⟨(ad911.add ((x8_1).toNat * 3)).block, (ad911.add ((x8_1).toNat * 3)).off + 1, none⟩ = some (.string ((rd_T25 l1 x8_1).f1)) ∧ w'.cell? ⟨(ad911.add ((x8_1).toNat * 3)).block, (ad911.add ((x8_1).toNat * 3)).off + 2, none⟩ = some (.string ((rd_T25 l1 x8_1).f2))) (ds := [7]) (b 8 0) (by kernel_rfl) rfl rfl ⟨(blk_cell BK903.out 0).trans rfl, (blk_cell BK903.out 1).trans rfl, (blk_cell BK903.out 2).trans rfl, ((HB.out.cell (World.block_lt_of_cell? w _ hw911_0)).trans hw911_0), ((HB.out.cell (World.block_lt_of_cell? w _ hw911_1)).trans hw911_1), ((HB.out.cell (World.block_lt_of_cell? w _ hw911_2)).trans hw911_2)⟩ (fun hHeld => ?_); refine with_tabW insolvencyref17_Refunds.tab8 insolvencyref17_Refunds.bits8 (fun HT_ HW_ => ?_)
    generalize w36.drew = w37 at HO_6 BK898 BK902 BK903 BK910 HB hx911_0 hx911_1 hx911_2 hHeld ⊢
    refine yP 1 (some 24) (b 8 2) ?_
    refine yP 2 (some 25) (b 8 6) ?_
    refine yP 3 (some 26) (b 8 14) ?_
    refine yT 0 (some 23) (b 8 15) hHeld ?_
    refine yT 4 (some 27) (b 8 31) hHeld ?_
    refine yO 5 (some 28) (b 8 63) fun K hK => ?_
    refine xc Tryd.func40 (insolvencyref17_amount.calls k1 ((rd_T25 l1 x8_1).f0) ((rd_T25 l1 x8_1).f1) ((rd_T25 l1 x8_1).f2) t912 t913 t914 _ A18.out) ?_
    rintro w38 hb
    replace HO_6 := xRb HO_6 hb
    replace BK898 := xB BK898 hb
    replace BK902 := xB BK902 hb
    replace BK903 := xB BK903 hb
    replace BK910 := xB BK910 hb
    replace HB := xS HB hb
    clear hb
    refine hK.out _ _ ⟨(blk_cell BK903.out 0).trans rfl, (blk_cell BK903.out 1).trans rfl, (blk_cell BK903.out 2).trans rfl, ((HB.out.cell (World.block_lt_of_cell? w _ hw911_0)).trans hw911_0), ((HB.out.cell (World.block_lt_of_cell? w _ hw911_1)).trans hw911_1), ((HB.out.cell (World.block_lt_of_cell? w _ hw911_2)).trans hw911_2)⟩ (fun hHeld => ?_)
    clear hK K
    refine xN 28 ?_
    refine yO 6 (some 29) (b 8 127) fun K hK => ?_
    refine xc Tryd.func43 (insolvencyref1_Plus.calls k1 x904000_1 x904001_1 x904002_1 t912 t913 t914 t915 t916 t917 _ A19.out) ?_
    rintro w39 hb
    replace HO_6 := xRb HO_6 hb
    replace BK898 := xB BK898 hb
    replace BK902 := xB BK902 hb
    replace BK903 := xB BK903 hb
    replace BK910 := xB BK910 hb
    replace HB := xS HB hb
    clear hb
    refine hK.out _ _ ⟨(blk_cell BK903.out 0).trans rfl, (blk_cell BK903.out 1).trans rfl, (blk_cell BK903.out 2).trans rfl, ((HB.out.cell (World.block_lt_of_cell? w _ hw911_0)).trans hw911_0), ((HB.out.cell (World.block_lt_of_cell? w _ hw911_1)).trans hw911_1), ((HB.out.cell (World.block_lt_of_cell? w _ hw911_2)).trans hw911_2)⟩ (fun hHeld => ?_)
    clear hK K
    refine xN 29 ?_
    refine yZ 7 none (b 8 255) fun K hK => ?_
    obtain ⟨hs40, hs41, hs42, hfs40, hfs41, hfs42⟩ := x6 BK903
    have hns40_0 := NB898_903.out
    have hns40_1 := NB902_903.out
    have hns40_3 := NB910_903.out
    have hms40_0 := NB903_898.out
    have hms40_1 := NB903_902.out
    have hms40_3 := NB903_910.out
    refine xk ?_
    refine hK.out _ _ ?_
    clear hK K
    refine done_ (done_of HT_.out (by kernel_rfl)) ?_
    try go_wp2
    have n0_ : Aside0 (Kd.R k25 25 (((w39.setCell ⟨gb903, 0, none⟩ (.bool t915)).setCell ⟨gb903, 1, none⟩ (.string t916)).setCell ⟨gb903, 2, none⟩ (.string t917)) w.heap.size (fun k_ => k_ ≠ gb898 ∧ k_ ≠ gb902 ∧ k_ ≠ gb903 ∧ k_ ≠ gb910) u6 x6_1) := ⟨by exact Kd.R_mono (Kd.R_far (p := ⟨gb903, 2, none⟩) (Kd.R_far (p := ⟨gb903, 1, none⟩) (Kd.R_far (p := ⟨gb903, 0, none⟩) (Kd.R_mono HO_6.out (fun k_ hk => (⟨hk, hk.2.2.1⟩ : _ ∧ k_ ≠ gb903))) (fun _ hk => hk.2) (.bool t915)) (fun _ hk => hk.2) (.string t916)) (fun _ hk => hk.2) (.string t917)) (fun _ hk => ⟨hk.1.1, ⟨hk.1.2.1, ⟨hk.1.2.2.1, hk.1.2.2.2⟩⟩⟩)⟩
    have n1_ : Aside0 ((((w39.setCell ⟨gb903, 0, none⟩ (.bool t915)).setCell ⟨gb903, 1, none⟩ (.string t916)).setCell ⟨gb903, 2, none⟩ (.string t917)).heap[gb898]? = some (.cells #[.bool a0_0, .string a0_1, .string a0_2] 25 (0, 0))) := ⟨xb BK898⟩
    have n2_ : Aside0 ((((w39.setCell ⟨gb903, 0, none⟩ (.bool t915)).setCell ⟨gb903, 1, none⟩ (.string t916)).setCell ⟨gb903, 2, none⟩ (.string t917)).heap[gb902]? = some (.cells #[.bool t899, .string t900, .string t901] 25 (0, 0))) := ⟨xb BK902⟩
    have n3_ : Aside0 ((((w39.setCell ⟨gb903, 0, none⟩ (.bool t915)).setCell ⟨gb903, 1, none⟩ (.string t916)).setCell ⟨gb903, 2, none⟩ (.string t917)).heap[gb903]? = some (.cells #[.bool t915, .string t916, .string t917] 25 (0, 0))) := ⟨xp BK903⟩
    have n4_ : Aside0 ((((w39.setCell ⟨gb903, 0, none⟩ (.bool t915)).setCell ⟨gb903, 1, none⟩ (.string t916)).setCell ⟨gb903, 2, none⟩ (.string t917)).heap[gb910]? = some (.cells #[.bool t907, .string t908, .string t909] 25 (0, 0))) := ⟨xb BK910⟩
    have n5_ : Aside0 (Below w.heap.size w (((w39.setCell ⟨gb903, 0, none⟩ (.bool t915)).setCell ⟨gb903, 1, none⟩ (.string t916)).setCell ⟨gb903, 2, none⟩ (.string t917))) := ⟨xs HB⟩
    clear HO_6 BK898 BK902 BK903 BK910 HB
    generalize (((w39.setCell ⟨gb903, 0, none⟩ (.bool t915)).setCell ⟨gb903, 1, none⟩ (.string t916)).setCell ⟨gb903, 2, none⟩ (.string t917)) = w43 at n0_ n1_ n2_ n3_ n4_ n5_ ⊢
    have HO_6 := n0_
    have BK898 := n1_
    have BK902 := n2_
    have BK903 := n3_
    have BK910 := n4_
    have HB := n5_
    clear n0_ n1_ n2_ n3_ n4_ n5_
    replace HO_6 := Aside0.mk (Kd.R_drew HO_6.out)
    replace BK898 := xD BK898
    replace BK902 := xD BK902
    replace BK903 := xD BK903
    replace BK910 := xD BK910
    replace HB := xW HB
    refine start_ (n := 10) (S := fun w' => w'.cell? ⟨gb903, 0, none⟩ = some (.bool t915) ∧ w'.cell? ⟨gb903, 1, none⟩ = some (.string t916) ∧ w'.cell? ⟨gb903, 2, none⟩ = some (.string t917) ∧ w'.cell? ⟨gb902, 0, none⟩ = some (.bool t899) ∧ w'.cell? ⟨gb902, 1, none⟩ = some (.string t900) ∧ w'.cell? ⟨gb902, 2, none⟩ = some (.string t901) ∧ w'.cell? ⟨gb910, 0, none⟩ = some (.bool t907) ∧ w'.cell? ⟨gb910, 1, none⟩ = some (.string t908) ∧ w'.cell? ⟨gb910, 2, none⟩ = some (.string t909)) (ds := []) (b 10 0) (by kernel_rfl) rfl rfl xV (fun hHeld => ?_); refine with_tabW insolvencyref17_Refunds.tab9 insolvencyref17_Refunds.bits9 (fun HT_ HW_ => ?_)
    generalize w43.drew = w44 at HO_6 BK898 BK902 BK903 BK910 HB hHeld ⊢
    refine yP 0 (some 30) (b 10 1) ?_
    refine yT 1 (some 31) (b 10 3) hHeld ?_
    refine yT 2 (some 32) (b 10 7) hHeld ?_
    refine yT 5 (some 35) (b 10 39) hHeld ?_
    refine yO 3 (some 33) (b 10 47) fun K hK => ?_
    refine xc Tryd.func42 (insolvencyref1_Minus.calls k1 t915 t916 t917 t899 t900 t901 t918 t919 t920 _ A20.out) ?_
    rintro w45 hb
    replace HO_6 := xRb HO_6 hb
    replace BK898 := xB BK898 hb
    replace BK902 := xB BK902 hb
    replace BK903 := xB BK903 hb
    replace BK910 := xB BK910 hb
    replace HB := xS HB hb
    clear hb
    refine hK.out _ _ xV (fun hHeld => ?_)
    clear hK K
    refine xN 33 ?_
    refine yO 4 (some 34) (b 10 63) fun K hK => ?_
    refine xc Tryd.func41 (insolvencyref1_Positive.calls t918 t919 t920 t921 t922 t923 _ A21.out) ?_
    rintro w46 hb
    replace HO_6 := xRb HO_6 hb
    replace BK898 := xB BK898 hb
    replace BK902 := xB BK902 hb
    replace BK903 := xB BK903 hb
    replace BK910 := xB BK910 hb
    replace HB := xS HB hb
    clear hb
    refine hK.out _ _ xV (fun hHeld => ?_)
    clear hK K
    refine xN 34 ?_
    refine yO 6 (some 36) (b 10 127) fun K hK => ?_
    refine xc Tryd.func42 (insolvencyref1_Minus.calls k1 t921 t922 t923 t907 t908 t909 t924 t925 t926 _ A22.out) ?_
    rintro w47 hb
    replace HO_6 := xRb HO_6 hb
    replace BK898 := xB BK898 hb
    replace BK902 := xB BK902 hb
    replace BK903 := xB BK903 hb
    replace BK910 := xB BK910 hb
    replace HB := xS HB hb
    clear hb
    refine hK.out _ _ xV (fun hHeld => ?_)
    clear hK K
    refine xN 36 ?_
    refine yO 7 (some 37) (b 10 255) fun K hK => ?_
    refine value_ (w1 := ?_) (v := ?_) (by rfl) rfl ?_ ?_
    rotate_left 2
    ·go_simp
     constructor
     ·rfl
     ·rfl
    refine hK.out _ _ ⟨(blk_cell (blk_alloc BK903.out _) 0).trans rfl, (blk_cell (blk_alloc BK903.out _) 1).trans rfl, (blk_cell (blk_alloc BK903.out _) 2).trans rfl, (blk_cell (blk_alloc BK902.out _) 0).trans rfl, (blk_cell (blk_alloc BK902.out _) 1).trans rfl, (blk_cell (blk_alloc BK902.out _) 2).trans rfl, (blk_cell (blk_alloc BK910.out _) 0).trans rfl, (blk_cell (blk_alloc BK910.out _) 1).trans rfl, (blk_cell (blk_alloc BK910.out _) 2).trans rfl⟩ (fun hHeld => ?_)
    clear hK K
    refine xN 37 ?_
    refine yO 8 (some 38) (b 10 511) fun K hK => ?_
    refine Kd.R_append_step k25 (w0 := w) w.heap.size (by rfl) (.tmp 30) (.tmp 37) 27 25 (.agg #[(.bool false), (.string ⟨#[]⟩), (.string ⟨#[]⟩)]) 40 rfl Tryd.underlying27 info25 rfl (by decide) (by omega) u6 x6_1 (⟨t924, t925, t926⟩ : S25) [.bool t924, .string t925, .string t926] (fun k_ => k_ ≠ gb898 ∧ k_ ≠ gb902 ∧ k_ ≠ gb903 ∧ k_ ≠ gb910) (fun _ => False) rfl rfl ?aP (fun _ hk => hk.elim) ?aF ?aO ?aB ?aS ?aL ?_
    (case aP => exact k25_mkM _ _ _ (⟨t924, t925, t926⟩ : S25))
    (case aB => exact (xs HB))
    (case aF => exact (fun k_ hk => ⟨Kd.freshB (g := gb898) (o := .cells #[.bool a0_0, .string a0_1, .string a0_2] 25 (0, 0)) (xb BK898) k_ hk, Kd.freshB (g := gb902) (o := .cells #[.bool t899, .string t900, .string t901] 25 (0, 0)) (xb BK902) k_ hk, Kd.freshB (g := gb903) (o := .cells #[.bool t915, .string t916, .string t917] 25 (0, 0)) (xb BK903) k_ hk, Kd.freshB (g := gb910) (o := .cells #[.bool t907, .string t908, .string t909] 25 (0, 0)) (xb BK910) k_ hk⟩))
    (case aO => exact (xr HO_6.out))
    (case aS => exact (below_size (xs HB)))
    (case aL => have := LMc23.out; omega)
    intro v928 w48 ho hb hg hat
    rw [← Ny927.out] at ho
    replace BK898 := xK BK898 hg (Kd.R_away HO_6.out (fun _ hk => hk.1))
    replace BK902 := xK BK902 hg (Kd.R_away HO_6.out (fun _ hk => hk.2.1))
    replace BK903 := xK BK903 hg (Kd.R_away HO_6.out (fun _ hk => hk.2.2.1))
    replace BK910 := xK BK910 hg (Kd.R_away HO_6.out (fun _ hk => hk.2.2.2))
    replace HB := Aside0.mk (hb)
    have HO929 := Aside0.mk (ho)
    clear HO_6
    clear ho hb hg hat
    refine hK.out _ _ xV (fun hHeld => ?_)
    clear hK K
    refine xN 38 ?_
    refine yP 9 (some 6) (b 10 1023) ?_
    refine done_ (done_of HT_.out (by kernel_rfl)) ?_
    try go_wp2
    go_roundg k1
    case measure => have := HK1.out; omega
    case rel => exact ⟨(y927), (wrap64 (x8_1 + 1)), (t915), (t916), (t917), xz, H', ⟨by have := HK1.out; omega⟩, ⟨by exact Kd.R_mono HO929.out (fun _ hk => by exact ⟨hk.1, ⟨hk.2.1, hk.2.2.1⟩⟩)⟩, ⟨xb BK898⟩, ⟨xb BK902⟩, ⟨xb BK903⟩, ⟨xs HB⟩⟩
   obtain rfl := Option.some.inj H
   go_wp2
   go_ret
   exact ⟨_, xy, by exact Kd.R_mono HO_6.out (fun _ hk => trivial), xs HB⟩
/-! ### rational_Min: function 44 -/
def rational_Min.f (k : Nat) (a0_0 : Bool) (a0_1 : ByteArray) (a0_2 : ByteArray) (a1_0 : Bool) (a1_1 : ByteArray) (a1_2 : ByteArray) : Option (Bool × ByteArray × ByteArray) := (rational_Compare.f k a0_0 a0_1 a0_2 a1_0 a1_1 a1_2).bind fun t933 => (if t933 ≤ 0 then ((rational_clean.f k a0_0 a0_1 a0_2).bind fun bt934 => (some (bt934.1, bt934.2.1, bt934.2.2))) else ((rational_clean.f k a1_0 a1_1 a1_2).bind fun bt937 => (some (bt937.1, bt937.2.1, bt937.2.2))))
theorem rational_Min.mono : ∀ a0 a1 a2 a3 a4 a5 k, LeO (rational_Min.f k a0 a1 a2 a3 a4 a5) (rational_Min.f (k + 1) a0 a1 a2 a3 a4 a5) := by
 intro a0 a1 a2 a3 a4 a5 k
 unfold rational_Min.f
 have m0 := @rational_Compare.mono; have m1 := @rational_clean.mono; exact xM
theorem rational_Min.calls (k : Nat) (a0_0 : Bool) (a0_1 : ByteArray) (a0_2 : ByteArray) (a1_0 : Bool) (a1_1 : ByteArray) (a1_2 : ByteArray) (r1 : Bool) (r2 : ByteArray) (r3 : ByteArray) (w : World) (h : rational_Min.f k a0_0 a0_1 a0_2 a1_0 a1_1 a1_2 = some (r1, r2, r3)) :
  Calls Tryd.prog 44 #[.agg #[.bool a0_0, .string a0_1, .string a0_2], .agg #[.bool a1_0, .string a1_1, .string a1_2]] w fun e w' => e = .returned (.agg #[.bool r1, .string r2, .string r3]) ∧ Below w.heap.size w w' := by
 have hu25 := Tryd.underlying25
 have HB := Aside0.mk (Below.refl w.heap.size w)
 have H := h; clear h
 unfold rational_Min.f at H
 replace H := xH H; obtain ⟨t933, A3, H⟩ := H
 obtain ⟨c4b0, H⟩ | ⟨c4b0, H⟩ := xOd H
 ·replace H := xH H; obtain ⟨⟨t934, t935, t936⟩, A5, H⟩ := H
  dsimp only at H
  simp only [Option.some.injEq, Prod.mk.injEq] at H
  obtain ⟨rfl, rfl, rfl⟩ := H
  go_enter Tryd.func44, Tryd.ntmps44
  go_wp2_with (first | (refine xF (N := 2) #[.bool a0_0, .string a0_1, .string a0_2] 25 HB ?_; clear HB; intro gb930 hg w6 hb BK930 GW930 HB; clear hb hg) | (refine xF (N := 3) #[.bool a1_0, .string a1_1, .string a1_2] 25 HB ?_; clear HB; intro gb931 hg w7 hb BK931 GW931 HB; have NB930_931 := xL BK930 hg; have NB931_930 := xR BK930 hg; replace BK930 := xB BK930 hb; clear hb hg) | (refine xF (N := 4) #[.bool false, .string (⟨#[]⟩ : ByteArray), .string (⟨#[]⟩ : ByteArray)] 25 HB ?_; clear HB; intro gb932 hg w8 hb BK932 GW932 HB; have NB930_932 := xL BK930 hg; have NB932_930 := xR BK930 hg; replace BK930 := xB BK930 hb; have NB931_932 := xL BK931 hg; have NB932_931 := xR BK931 hg; replace BK931 := xB BK931 hb; clear hb hg; have hnb9 := NB930_931.out; have hnc9 := NB931_930.out; have hnb10 := NB930_932.out; have hnc10 := NB932_930.out; obtain ⟨hcz11_0, hcz11_1, hcz11_2, hfz11_0, hfz11_1, hfz11_2⟩ := x6 BK930; have hnb12 := NB931_932.out; have hnc12 := NB932_931.out; obtain ⟨hcz13_0, hcz13_1, hcz13_2, hfz13_0, hfz13_1, hfz13_2⟩ := x6 BK931) | (refine xC Tryd.func22 (some 7) (rational_Compare.calls k a0_0 a0_1 a0_2 a1_0 a1_1 a1_2 t933 _ A3.out) ?_; rintro w14 hb; replace BK930 := xB BK930 hb; replace BK931 := xB BK931 hb; replace BK932 := xB BK932 hb; replace HB := xS HB hb; clear hb; obtain ⟨hcz15_0, hcz15_1, hcz15_2, hfz15_0, hfz15_1, hfz15_2⟩ := x6 BK930) | (refine xC Tryd.func38 (some 10) (rational_clean.calls k a0_0 a0_1 a0_2 t934 t935 t936 _ A5.out) ?_; rintro w16 hb; replace BK930 := xB BK930 hb; replace BK931 := xB BK931 hb; replace BK932 := xB BK932 hb; replace HB := xS HB hb; clear hb; obtain ⟨hcz17_0, hcz17_1, hcz17_2, hfz17_0, hfz17_1, hfz17_2⟩ := x6 BK932))
  refine bodyPost_ret (results_cell_row rfl _ _ gb932 25 #[.bool t934, .string t935, .string t936] (0, 0) _ rfl (xp BK932) Tryd.underlying25 rfl (by kernel_rfl)) rfl ?_
  exact ⟨xy, xs HB⟩
 replace H := xH H; obtain ⟨⟨t937, t938, t939⟩, A18, H⟩ := H
 dsimp only at H
 simp only [Option.some.injEq, Prod.mk.injEq] at H
 obtain ⟨rfl, rfl, rfl⟩ := H
 go_enter Tryd.func44, Tryd.ntmps44
 go_wp2_with (first | (refine xF (N := 2) #[.bool a0_0, .string a0_1, .string a0_2] 25 HB ?_; clear HB; intro gb930 hg w19 hb BK930 GW930 HB; clear hb hg) | (refine xF (N := 3) #[.bool a1_0, .string a1_1, .string a1_2] 25 HB ?_; clear HB; intro gb931 hg w20 hb BK931 GW931 HB; have NB930_931 := xL BK930 hg; have NB931_930 := xR BK930 hg; replace BK930 := xB BK930 hb; clear hb hg) | (refine xF (N := 4) #[.bool false, .string (⟨#[]⟩ : ByteArray), .string (⟨#[]⟩ : ByteArray)] 25 HB ?_; clear HB; intro gb932 hg w21 hb BK932 GW932 HB; have NB930_932 := xL BK930 hg; have NB932_930 := xR BK930 hg; replace BK930 := xB BK930 hb; have NB931_932 := xL BK931 hg; have NB932_931 := xR BK931 hg; replace BK931 := xB BK931 hb; clear hb hg; have hnb22 := NB930_931.out; have hnc22 := NB931_930.out; have hnb23 := NB930_932.out; have hnc23 := NB932_930.out; obtain ⟨hcz24_0, hcz24_1, hcz24_2, hfz24_0, hfz24_1, hfz24_2⟩ := x6 BK930; have hnb25 := NB931_932.out; have hnc25 := NB932_931.out; obtain ⟨hcz26_0, hcz26_1, hcz26_2, hfz26_0, hfz26_1, hfz26_2⟩ := x6 BK931) | (refine xC Tryd.func22 (some 7) (rational_Compare.calls k a0_0 a0_1 a0_2 a1_0 a1_1 a1_2 t933 _ A3.out) ?_; rintro w27 hb; replace BK930 := xB BK930 hb; replace BK931 := xB BK931 hb; replace BK932 := xB BK932 hb; replace HB := xS HB hb; clear hb; obtain ⟨hcz28_0, hcz28_1, hcz28_2, hfz28_0, hfz28_1, hfz28_2⟩ := x6 BK931) | (refine xC Tryd.func38 (some 12) (rational_clean.calls k a1_0 a1_1 a1_2 t937 t938 t939 _ A18.out) ?_; rintro w29 hb; replace BK930 := xB BK930 hb; replace BK931 := xB BK931 hb; replace BK932 := xB BK932 hb; replace HB := xS HB hb; clear hb; obtain ⟨hcz30_0, hcz30_1, hcz30_2, hfz30_0, hfz30_1, hfz30_2⟩ := x6 BK932))
 refine bodyPost_ret (results_cell_row rfl _ _ gb932 25 #[.bool t937, .string t938, .string t939] (0, 0) _ rfl (xp BK932) Tryd.underlying25 rfl (by kernel_rfl)) rfl ?_
 exact ⟨xy, xs HB⟩
/-! ### guarantee_Kept: function 19 -/
def guarantee_Kept.l0 : Nat → List (S25) → Int → Int → Bool → ByteArray → ByteArray → Bool → ByteArray → ByteArray → Option (Bool × ByteArray × ByteArray)
 | 0, _, _, _, _, _, _, _, _, _ => none
 | k + 1, x9, x10, x11, x941000, x941001, x941002, x943000, x943001, x943002 => if x11 < x10 then (if 0 ≤ x11 then (if x11 < (x9.length : Int) then ((guarantee_positive.f k ((rd_T25 x9 x11).f0) ((rd_T25 x9 x11).f1) ((rd_T25 x9 x11).f2)).bind fun bt945 => ((rational_Add.f k x943000 x943001 x943002 bt945.1 bt945.2.1 bt945.2.2).bind fun bt948 => (guarantee_Kept.l0 k x9 x10 (wrap64 (x11 + 1)) x941000 x941001 x941002 bt948.1 bt948.2.1 bt948.2.2))) else (none)) else (none)) else ((guarantee_positive.f k x941000 x941001 x941002).bind fun bt951 => ((rational_Min.f k bt951.1 bt951.2.1 bt951.2.2 x943000 x943001 x943002).bind fun bt954 => (some (bt954.1, bt954.2.1, bt954.2.2))))
def guarantee_Kept.f (k : Nat) (a0_0 : Bool) (a0_1 : ByteArray) (a0_2 : ByteArray) (l1 : List (S25)) : Option (Bool × ByteArray × ByteArray) := guarantee_Kept.l0 k l1 (l1.length : Int) 0 a0_0 a0_1 a0_2 false (⟨#[]⟩ : ByteArray) (⟨#[]⟩ : ByteArray)
theorem guarantee_Kept.mono_l : ∀ k, (∀ y0 y1 y2 y3 y4 y5 y6 y7 y8, LeO (guarantee_Kept.l0 k y0 y1 y2 y3 y4 y5 y6 y7 y8) (guarantee_Kept.l0 (k + 1) y0 y1 y2 y3 y4 y5 y6 y7 y8))
 | 0 => fun _ _ _ _ _ _ _ _ _ r h => by simp [guarantee_Kept.l0] at h
 | k + 1 => by
  have ih0 := guarantee_Kept.mono_l k
  ·intro y0 y1 y2 y3 y4 y5 y6 y7 y8
   unfold guarantee_Kept.l0
   have m0 := @ih0; have m1 := @guarantee_positive.mono; have m2 := @rational_Add.mono; have m3 := @rational_Min.mono; exact xM
theorem guarantee_Kept.mono : ∀ a0 a1 a2 a3 k, LeO (guarantee_Kept.f k a0 a1 a2 a3) (guarantee_Kept.f (k + 1) a0 a1 a2 a3) := by
 intro a0 a1 a2 a3 k
 have ih0 := guarantee_Kept.mono_l k
 unfold guarantee_Kept.f
 have m0 := @ih0; have m1 := @guarantee_positive.mono; have m2 := @rational_Add.mono; have m3 := @rational_Min.mono; exact xM
theorem guarantee_Kept.calls (k : Nat) (a0_0 : Bool) (a0_1 : ByteArray) (a0_2 : ByteArray) (A1 : Option Addr) (c1 : Nat) (l1 : List (S25)) (r1 : Bool) (r2 : ByteArray) (r3 : ByteArray) (w : World) (hr1 : Kd.C k25 w A1 l1.length l1) (hc1 : l1.length ≤ c1) (h : guarantee_Kept.f k a0_0 a0_1 a0_2 l1 = some (r1, r2, r3)) :
  Calls Tryd.prog 19 #[.agg #[.bool a0_0, .string a0_1, .string a0_2], .slice A1 l1.length c1] w fun e w' => e = .returned (.agg #[.bool r1, .string r2, .string r3]) ∧ Below w.heap.size w w' := by
 have hu25 := Tryd.underlying25
 have HR1 := Aside0.mk hr1
 have HC1 := Aside0.mk hc1
 clear hr1 hc1
 have HB := Aside0.mk (Below.refl w.heap.size w)
 have H := h; clear h
 unfold guarantee_Kept.f at H
 have H' := Aside0.mk H
 clear H
 go_enter Tryd.func19, Tryd.ntmps19
 go_wp2_with (first | (refine xF (N := 2) #[.bool a0_0, .string a0_1, .string a0_2] 25 HB ?_; clear HB; intro gb940 hg w3 hb BK940 GW940 HB; clear hb hg) | (refine xF (N := 4) #[.bool false, .string (⟨#[]⟩ : ByteArray), .string (⟨#[]⟩ : ByteArray)] 25 HB ?_; clear HB; intro gb941 hg w4 hb BK941 GW941 HB; have NB940_941 := xL BK940 hg; have NB941_940 := xR BK940 hg; replace BK940 := xB BK940 hb; clear hb hg) | (refine xF (N := 5) #[.bool false, .string (⟨#[]⟩ : ByteArray), .string (⟨#[]⟩ : ByteArray)] 25 HB ?_; clear HB; intro gb942 hg w5 hb BK942 GW942 HB; have NB940_942 := xL BK940 hg; have NB942_940 := xR BK940 hg; replace BK940 := xB BK940 hb; have NB941_942 := xL BK941 hg; have NB942_941 := xR BK941 hg; replace BK941 := xB BK941 hb; clear hb hg; have hnb6 := NB942_940.out; have hnc6 := NB940_942.out; have hnb7 := NB942_941.out; have hnc7 := NB941_942.out; obtain ⟨hcz8_0, hcz8_1, hcz8_2, hfz8_0, hfz8_1, hfz8_2⟩ := x6 BK942))
 go_loopg [11] k (fun kq v11 w' => ∃ (x11_1 : Int) (x943000_1 : Bool) (x943001_1 : ByteArray) (x943002_1 : ByteArray), v11 = .int .i64 x11_1 ∧ Aside0 (guarantee_Kept.l0 kq l1 (l1.length : Int) x11_1 a0_0 a0_1 a0_2 x943000_1 x943001_1 x943002_1 = some (r1, r2, r3)) ∧ Aside0 (kq ≤ k) ∧ Aside0 (w'.heap[gb940]? = some (.cells #[.bool a0_0, .string a0_1, .string a0_2] 25 (0, 0))) ∧ Aside0 (w'.heap[gb941]? = some (.cells #[.bool false, .string (⟨#[]⟩ : ByteArray), .string (⟨#[]⟩ : ByteArray)] 25 (0, 0))) ∧ Aside0 (w'.heap[gb942]? = some (.cells #[.bool x943000_1, .string x943001_1, .string x943002_1] 25 (0, 0))) ∧ Aside0 (Below w.heap.size w w'))
 case atStart => exact ⟨(0), (false), (⟨#[]⟩ : ByteArray), (⟨#[]⟩ : ByteArray), xz, H', ⟨Nat.le_refl _⟩, ⟨xb BK940⟩, ⟨xb BK941⟩, ⟨by refine blk_put (cs := #[.bool false, .string (⟨#[]⟩ : ByteArray), .string (⟨#[]⟩ : ByteArray)]) ?_ 2 _ (by rfl); refine blk_put (cs := #[.bool false, .string (⟨#[]⟩ : ByteArray), .string (⟨#[]⟩ : ByteArray)]) ?_ 1 _ (by rfl); refine blk_put (cs := #[.bool false, .string (⟨#[]⟩ : ByteArray), .string (⟨#[]⟩ : ByteArray)]) ?_ 0 _ (by rfl); exact BK942.out⟩, ⟨xs HB⟩⟩
 case round =>
  clear H'
  clear hcz8_0 hcz8_1 hcz8_2 hfz8_0 hfz8_1 hfz8_2
  obtain ⟨x11_1, x943000_1, x943001_1, x943002_1, rfl, HA, HK1, BK940, BK941, BK942, HB⟩ := hrel
  cases gk with
  | zero => exact absurd HA.out (by simp [guarantee_Kept.l0])
  | succ k1 =>
   have H := HA.out
   clear HA
   simp only [guarantee_Kept.l0] at H
   obtain ⟨c9b0, H⟩ | ⟨c9b0, H⟩ := xOd H
   ·obtain ⟨c10b0, H⟩ := xQd H
    obtain ⟨c11b0, H⟩ := xQd H
    replace H := xH H; obtain ⟨⟨t945, t946, t947⟩, A12, H⟩ := H
    dsimp only at H
    replace H := xH H; obtain ⟨⟨t948, t949, t950⟩, A13, H⟩ := H
    dsimp only at H
    have H' := Aside0.mk H
    clear H
    obtain ⟨p943, q943, ad943, e943, hx943_0, hx943_1, hx943_2⟩ := xA (at_T25 HR1.out x11_1)
    cases e943
    (try replace hx943_0 := xcl HB hx943_0)
    (try replace hx943_1 := xcl HB hx943_1)
    (try replace hx943_2 := xcl HB hx943_2)
    try go_wp2_with (refine xF (N := 7) #[.bool false, .string (⟨#[]⟩ : ByteArray), .string (⟨#[]⟩ : ByteArray)] 25 HB ?_; clear HB; intro gb944 hg w14 hb BK944 GW944 HB; have NB940_944 := xL BK940 hg; have NB944_940 := xR BK940 hg; replace BK940 := xB BK940 hb; have NB941_944 := xL BK941 hg; have NB944_941 := xR BK941 hg; replace BK941 := xB BK941 hb; have NB942_944 := xL BK942 hg; have NB944_942 := xR BK942 hg; replace BK942 := xB BK942 hb; clear hb hg; have hnb15 := NB944_940.out; have hnc15 := NB940_944.out; have hnb16 := NB944_941.out; have hnc16 := NB941_944.out; have hnb17 := NB944_942.out; have hnc17 := NB942_944.out; obtain ⟨hcz18_0, hcz18_1, hcz18_2, hfz18_0, hfz18_1, hfz18_2⟩ := x6 BK944)
    have n0_ : Aside0 ((((w14.setCell ⟨gb944, 0, none⟩ (.bool ((rd_T25 l1 x11_1).f0))).setCell ⟨gb944, 1, none⟩ (.string ((rd_T25 l1 x11_1).f1))).setCell ⟨gb944, 2, none⟩ (.string ((rd_T25 l1 x11_1).f2))).heap[gb940]? = some (.cells #[.bool a0_0, .string a0_1, .string a0_2] 25 (0, 0))) := ⟨xb BK940⟩
    have n1_ : Aside0 ((((w14.setCell ⟨gb944, 0, none⟩ (.bool ((rd_T25 l1 x11_1).f0))).setCell ⟨gb944, 1, none⟩ (.string ((rd_T25 l1 x11_1).f1))).setCell ⟨gb944, 2, none⟩ (.string ((rd_T25 l1 x11_1).f2))).heap[gb941]? = some (.cells #[.bool false, .string (⟨#[]⟩ : ByteArray), .string (⟨#[]⟩ : ByteArray)] 25 (0, 0))) := ⟨xb BK941⟩
    have n2_ : Aside0 ((((w14.setCell ⟨gb944, 0, none⟩ (.bool ((rd_T25 l1 x11_1).f0))).setCell ⟨gb944, 1, none⟩ (.string ((rd_T25 l1 x11_1).f1))).setCell ⟨gb944, 2, none⟩ (.string ((rd_T25 l1 x11_1).f2))).heap[gb942]? = some (.cells #[.bool x943000_1, .string x943001_1, .string x943002_1] 25 (0, 0))) := ⟨xb BK942⟩
    have n3_ : Aside0 ((((w14.setCell ⟨gb944, 0, none⟩ (.bool ((rd_T25 l1 x11_1).f0))).setCell ⟨gb944, 1, none⟩ (.string ((rd_T25 l1 x11_1).f1))).setCell ⟨gb944, 2, none⟩ (.string ((rd_T25 l1 x11_1).f2))).heap[gb944]? = some (.cells #[.bool ((rd_T25 l1 x11_1).f0), .string ((rd_T25 l1 x11_1).f1), .string ((rd_T25 l1 x11_1).f2)] 25 (0, 0))) := ⟨xp BK944⟩
    have n4_ : Aside0 (Below w.heap.size w (((w14.setCell ⟨gb944, 0, none⟩ (.bool ((rd_T25 l1 x11_1).f0))).setCell ⟨gb944, 1, none⟩ (.string ((rd_T25 l1 x11_1).f1))).setCell ⟨gb944, 2, none⟩ (.string ((rd_T25 l1 x11_1).f2)))) := ⟨xs HB⟩
    clear BK940 BK941 BK942 BK944 HB
    generalize (((w14.setCell ⟨gb944, 0, none⟩ (.bool ((rd_T25 l1 x11_1).f0))).setCell ⟨gb944, 1, none⟩ (.string ((rd_T25 l1 x11_1).f1))).setCell ⟨gb944, 2, none⟩ (.string ((rd_T25 l1 x11_1).f2))) = w19 at n0_ n1_ n2_ n3_ n4_ ⊢
    have BK940 := n0_
    have BK941 := n1_
    have BK942 := n2_
    have BK944 := n3_
    have HB := n4_
    clear n0_ n1_ n2_ n3_ n4_
    replace BK940 := xD BK940
    replace BK941 := xD BK941
    replace BK942 := xD BK942
    replace BK944 := xD BK944
    replace HB := xW HB
    refine start_ (n := 5) (S := fun w' => w'.cell? ⟨gb942, 0, none⟩ = some (.bool x943000_1) ∧ w'.cell? ⟨gb942, 1, none⟩ = some (.string x943001_1) ∧ w'.cell? ⟨gb942, 2, none⟩ = some (.string x943002_1) ∧ w'.cell? ⟨gb944, 0, none⟩ = some (.bool ((rd_T25 l1 x11_1).f0)) ∧ w'.cell? ⟨gb944, 1, none⟩ = some (.string ((rd_T25 l1 x11_1).f1)) ∧ w'.cell? ⟨gb944, 2, none⟩ = some (.string ((rd_T25 l1 x11_1).f2))) (ds := [4]) (b 5 0) (by kernel_rfl) rfl rfl xV (fun hHeld => ?_)
    generalize w19.drew = w20 at BK940 BK941 BK942 BK944 HB hHeld ⊢
    refine yT 0 (some 15) (b 5 1) hHeld ?_
    refine yT 1 (some 16) (b 5 3) hHeld ?_
    refine yO 2 (some 17) (b 5 7) fun K hK => ?_
    refine xc Tryd.func35 (guarantee_positive.calls k1 ((rd_T25 l1 x11_1).f0) ((rd_T25 l1 x11_1).f1) ((rd_T25 l1 x11_1).f2) t945 t946 t947 _ A12.out) ?_
    rintro w21 hb
    replace BK940 := xB BK940 hb
    replace BK941 := xB BK941 hb
    replace BK942 := xB BK942 hb
    replace BK944 := xB BK944 hb
    replace HB := xS HB hb
    clear hb
    refine hK.out _ _ xV (fun hHeld => ?_)
    clear hK K
    refine xN 17 ?_
    refine yO 3 (some 18) (b 5 15) fun K hK => ?_
    refine xc Tryd.func21 (rational_Add.calls k1 x943000_1 x943001_1 x943002_1 t945 t946 t947 t948 t949 t950 _ A13.out) ?_
    rintro w22 hb
    replace BK940 := xB BK940 hb
    replace BK941 := xB BK941 hb
    replace BK942 := xB BK942 hb
    replace BK944 := xB BK944 hb
    replace HB := xS HB hb
    clear hb
    refine hK.out _ _ xV (fun hHeld => ?_)
    clear hK K
    refine xN 18 ?_
    refine yZ 4 none (b 5 31) fun K hK => ?_
    obtain ⟨hs23, hs24, hs25, hfs23, hfs24, hfs25⟩ := x6 BK942
    have hns23_0 := NB940_942.out
    have hns23_1 := NB941_942.out
    have hns23_3 := NB944_942.out
    have hms23_0 := NB942_940.out
    have hms23_1 := NB942_941.out
    have hms23_3 := NB942_944.out
    refine xk ?_
    refine hK.out _ _ ?_
    clear hK K
    refine done_ (by kernel_rfl) ?_
    try go_wp2
    go_roundg k1
    case measure => have := HK1.out; omega
    case rel => exact ⟨(wrap64 (x11_1 + 1)), (t948), (t949), (t950), xz, H', ⟨by have := HK1.out; omega⟩, ⟨xb BK940⟩, ⟨xb BK941⟩, ⟨by refine blk_put (cs := #[.bool t948, .string t949, .string x943002_1]) ?_ 2 _ (by rfl); refine blk_put (cs := #[.bool t948, .string x943001_1, .string x943002_1]) ?_ 1 _ (by rfl); refine blk_put (cs := #[.bool x943000_1, .string x943001_1, .string x943002_1]) ?_ 0 _ (by rfl); exact BK942.out⟩, ⟨xs HB⟩⟩
   replace H := xH H; obtain ⟨⟨t951, t952, t953⟩, A26, H⟩ := H
   dsimp only at H
   replace H := xH H; obtain ⟨⟨t954, t955, t956⟩, A27, H⟩ := H
   dsimp only at H
   simp only [Option.some.injEq, Prod.mk.injEq] at H
   obtain ⟨rfl, rfl, rfl⟩ := H
   try go_wp2
   replace BK940 := xD BK940
   replace BK941 := xD BK941
   replace BK942 := xD BK942
   replace HB := xW HB
   refine start_ (n := 5) (S := fun w' => w'.cell? ⟨gb940, 0, none⟩ = some (.bool a0_0) ∧ w'.cell? ⟨gb940, 1, none⟩ = some (.string a0_1) ∧ w'.cell? ⟨gb940, 2, none⟩ = some (.string a0_2) ∧ w'.cell? ⟨gb942, 0, none⟩ = some (.bool x943000_1) ∧ w'.cell? ⟨gb942, 1, none⟩ = some (.string x943001_1) ∧ w'.cell? ⟨gb942, 2, none⟩ = some (.string x943002_1)) (ds := []) (b 5 0) (by kernel_rfl) rfl rfl xV (fun hHeld => ?_)
   generalize wr.drew = w28 at BK940 BK941 BK942 HB hHeld ⊢
   refine yT 0 (some 20) (b 5 1) hHeld ?_
   refine yT 2 (some 22) (b 5 5) hHeld ?_
   refine yO 1 (some 21) (b 5 7) fun K hK => ?_
   refine xc Tryd.func35 (guarantee_positive.calls k1 a0_0 a0_1 a0_2 t951 t952 t953 _ A26.out) ?_
   rintro w29 hb
   replace BK940 := xB BK940 hb
   replace BK941 := xB BK941 hb
   replace BK942 := xB BK942 hb
   replace HB := xS HB hb
   clear hb
   refine hK.out _ _ xV (fun hHeld => ?_)
   clear hK K
   refine xN 21 ?_
   refine yO 3 (some 23) (b 5 15) fun K hK => ?_
   refine xc Tryd.func44 (rational_Min.calls k1 t951 t952 t953 x943000_1 x943001_1 x943002_1 t954 t955 t956 _ A27.out) ?_
   rintro w30 hb
   replace BK940 := xB BK940 hb
   replace BK941 := xB BK941 hb
   replace BK942 := xB BK942 hb
   replace HB := xS HB hb
   clear hb
   refine hK.out _ _ xV (fun hHeld => ?_)
   clear hK K
   refine xN 23 ?_
   refine yO 4 none (b 5 31) fun K hK => ?_
   obtain ⟨hs31, hs32, hs33, hfs31, hfs32, hfs33⟩ := x6 BK941
   have hns31_0 := NB940_941.out
   have hns31_2 := NB942_941.out
   have hms31_0 := NB941_940.out
   have hms31_2 := NB941_942.out
   refine xk ?_
   refine hK.out _ _ ⟨((cell_far (p := ⟨gb941, _, none⟩) NB940_941.out _).trans ((cell_far (p := ⟨gb941, _, none⟩) NB940_941.out _).trans ((cell_far (p := ⟨gb941, _, none⟩) NB940_941.out _).trans (hHeld.1)))), ((cell_far (p := ⟨gb941, _, none⟩) NB940_941.out _).trans ((cell_far (p := ⟨gb941, _, none⟩) NB940_941.out _).trans ((cell_far (p := ⟨gb941, _, none⟩) NB940_941.out _).trans (hHeld.2.1)))), ((cell_far (p := ⟨gb941, _, none⟩) NB940_941.out _).trans ((cell_far (p := ⟨gb941, _, none⟩) NB940_941.out _).trans ((cell_far (p := ⟨gb941, _, none⟩) NB940_941.out _).trans (hHeld.2.2.1)))), ((cell_far (p := ⟨gb941, _, none⟩) NB942_941.out _).trans ((cell_far (p := ⟨gb941, _, none⟩) NB942_941.out _).trans ((cell_far (p := ⟨gb941, _, none⟩) NB942_941.out _).trans (hHeld.2.2.2.1)))), ((cell_far (p := ⟨gb941, _, none⟩) NB942_941.out _).trans ((cell_far (p := ⟨gb941, _, none⟩) NB942_941.out _).trans ((cell_far (p := ⟨gb941, _, none⟩) NB942_941.out _).trans (hHeld.2.2.2.2.1)))), ((cell_far (p := ⟨gb941, _, none⟩) NB942_941.out _).trans ((cell_far (p := ⟨gb941, _, none⟩) NB942_941.out _).trans ((cell_far (p := ⟨gb941, _, none⟩) NB942_941.out _).trans (hHeld.2.2.2.2.2))))⟩ (fun hHeld => ?_)
   clear hK K
   refine done_ (by kernel_rfl) ?_
   try go_wp2
   refine bodyPost_ret (results_cell_row rfl _ _ gb941 25 #[.bool t954, .string t955, .string t956] (0, 0) _ rfl (xp BK941) Tryd.underlying25 rfl (by kernel_rfl)) rfl ?_
   exact ⟨xy, xs HB⟩
/-! ### insolvencyref1_Signum: function 79 -/
def insolvencyref1_Signum.f (a0_0 : Bool) (a0_1 : ByteArray) (a0_2 : ByteArray) : Option (Int) := if a0_1.toList = ([] : List UInt8) then (some 0) else (if a0_0 = true then (some (-1)) else (some 1))
theorem insolvencyref1_Signum.calls (a0_0 : Bool) (a0_1 : ByteArray) (a0_2 : ByteArray) (r : Int) (w : World) (h : insolvencyref1_Signum.f a0_0 a0_1 a0_2 = some r) :
  Calls Tryd.prog 79 #[.agg #[.bool a0_0, .string a0_1, .string a0_2]] w fun e w' => e = .returned (.int .i64 r) ∧ Below w.heap.size w w' := by
 have hu25 := Tryd.underlying25
 have HB := Aside0.mk (Below.refl w.heap.size w)
 have H := h; clear h
 unfold insolvencyref1_Signum.f at H
 obtain ⟨c2, H⟩ | ⟨c2, H⟩ := xO H
 ·have c2b0 := beq_iff_eq.mpr c2
  have c2b1 := bne_eq_false_iff_eq.mpr c2
  clear c2
  obtain rfl := Option.some.inj H
  go_enter Tryd.func79, Tryd.ntmps79
  go_wp2_with (refine xF (N := 1) #[.bool a0_0, .string a0_1, .string a0_2] 25 HB ?_; clear HB; intro gb957 hg w3 hb BK957 GW957 HB; clear hb hg; obtain ⟨hcz4_0, hcz4_1, hcz4_2, hfz4_0, hfz4_1, hfz4_2⟩ := x6 BK957)
  go_ret
  exact ⟨xy, xs HB⟩
 have c2b0 := beq_eq_false_iff_ne.mpr c2
 have c2b1 := bne_iff_ne.mpr c2
 by_cases c5 : a0_0 = true
 ·subst c5
  replace H := xI H
  obtain rfl := Option.some.inj H
  go_enter Tryd.func79, Tryd.ntmps79
  go_wp2_with (refine xF (N := 1) #[.bool true, .string a0_1, .string a0_2] 25 HB ?_; clear HB; intro gb957 hg w6 hb BK957 GW957 HB; clear hb hg; obtain ⟨hcz7_0, hcz7_1, hcz7_2, hfz7_0, hfz7_1, hfz7_2⟩ := x6 BK957)
  go_ret
  exact ⟨xy, xs HB⟩
 replace c5 := Bool.eq_false_iff.mpr c5
 subst c5
 have H1 : (some 1) = some r := by rw [if_neg (show ¬ (false = true) by decide)] at H; exact H
 clear H
 have H := H1
 clear H1
 obtain rfl := Option.some.inj H
 go_enter Tryd.func79, Tryd.ntmps79
 go_wp2_with (refine xF (N := 1) #[.bool false, .string a0_1, .string a0_2] 25 HB ?_; clear HB; intro gb957 hg w8 hb BK957 GW957 HB; clear hb hg; obtain ⟨hcz9_0, hcz9_1, hcz9_2, hfz9_0, hfz9_1, hfz9_2⟩ := x6 BK957)
 go_ret
 exact ⟨xy, xs HB⟩
/-! ### insolvencyref1_Less: function 50 -/
def insolvencyref1_Less.f (k : Nat) (a0_0 : Bool) (a0_1 : ByteArray) (a0_2 : ByteArray) (a1_0 : Bool) (a1_1 : ByteArray) (a1_2 : ByteArray) : Option (Bool) := (insolvencyref1_Minus.f k a0_0 a0_1 a0_2 a1_0 a1_1 a1_2).bind fun bt960 => ((insolvencyref1_Signum.f bt960.1 bt960.2.1 bt960.2.2).bind fun t963 => (some (decide (t963 < 0))))
theorem insolvencyref1_Less.mono : ∀ a0 a1 a2 a3 a4 a5 k, LeO (insolvencyref1_Less.f k a0 a1 a2 a3 a4 a5) (insolvencyref1_Less.f (k + 1) a0 a1 a2 a3 a4 a5) := by
 intro a0 a1 a2 a3 a4 a5 k
 unfold insolvencyref1_Less.f
 have m0 := @insolvencyref1_Minus.mono; exact xM
theorem insolvencyref1_Less.calls (k : Nat) (a0_0 : Bool) (a0_1 : ByteArray) (a0_2 : ByteArray) (a1_0 : Bool) (a1_1 : ByteArray) (a1_2 : ByteArray) (r : Bool) (w : World) (h : insolvencyref1_Less.f k a0_0 a0_1 a0_2 a1_0 a1_1 a1_2 = some r) :
  Calls Tryd.prog 50 #[.agg #[.bool a0_0, .string a0_1, .string a0_2], .agg #[.bool a1_0, .string a1_1, .string a1_2]] w fun e w' => e = .returned (.bool r) ∧ Below w.heap.size w w' := by
 have hu25 := Tryd.underlying25
 have HB := Aside0.mk (Below.refl w.heap.size w)
 have H := h; clear h
 unfold insolvencyref1_Less.f at H
 replace H := xH H; obtain ⟨⟨t960, t961, t962⟩, A3, H⟩ := H
 dsimp only at H
 replace H := xH H; obtain ⟨t963, A4, H⟩ := H
 obtain rfl := Option.some.inj H
 go_enter Tryd.func50, Tryd.ntmps50
 go_wp2_with (first | (refine xF (N := 2) #[.bool a0_0, .string a0_1, .string a0_2] 25 HB ?_; clear HB; intro gb958 hg w5 hb BK958 GW958 HB; clear hb hg) | (refine xF (N := 3) #[.bool a1_0, .string a1_1, .string a1_2] 25 HB ?_; clear HB; intro gb959 hg w6 hb BK959 GW959 HB; have NB958_959 := xL BK958 hg; have NB959_958 := xR BK958 hg; replace BK958 := xB BK958 hb; clear hb hg; have hnb7 := NB958_959.out; have hnc7 := NB959_958.out; obtain ⟨hcz8_0, hcz8_1, hcz8_2, hfz8_0, hfz8_1, hfz8_2⟩ := x6 BK958; obtain ⟨hcz9_0, hcz9_1, hcz9_2, hfz9_0, hfz9_1, hfz9_2⟩ := x6 BK959) | (refine xC Tryd.func42 (some 7) (insolvencyref1_Minus.calls k a0_0 a0_1 a0_2 a1_0 a1_1 a1_2 t960 t961 t962 _ A3.out) ?_; rintro w10 hb; replace BK958 := xB BK958 hb; replace BK959 := xB BK959 hb; replace HB := xS HB hb; clear hb) | (refine xC Tryd.func79 (some 8) (insolvencyref1_Signum.calls t960 t961 t962 t963 _ A4.out) ?_; rintro w11 hb; replace BK958 := xB BK958 hb; replace BK959 := xB BK959 hb; replace HB := xS HB hb; clear hb))
 go_ret
 exact ⟨xy, xs HB⟩
/-! ### insolvencyref1_Lesser: function 45 -/
def insolvencyref1_Lesser.f (k : Nat) (a0_0 : Bool) (a0_1 : ByteArray) (a0_2 : ByteArray) (a1_0 : Bool) (a1_1 : ByteArray) (a1_2 : ByteArray) : Option (Bool × ByteArray × ByteArray) := (insolvencyref1_Less.f k a1_0 a1_1 a1_2 a0_0 a0_1 a0_2).bind fun t967 => (if t967 = true then (some (a1_0, a1_1, a1_2)) else (some (a0_0, a0_1, a0_2)))
theorem insolvencyref1_Lesser.mono : ∀ a0 a1 a2 a3 a4 a5 k, LeO (insolvencyref1_Lesser.f k a0 a1 a2 a3 a4 a5) (insolvencyref1_Lesser.f (k + 1) a0 a1 a2 a3 a4 a5) := by
 intro a0 a1 a2 a3 a4 a5 k
 unfold insolvencyref1_Lesser.f
 have m0 := @insolvencyref1_Less.mono; exact xM
theorem insolvencyref1_Lesser.calls (k : Nat) (a0_0 : Bool) (a0_1 : ByteArray) (a0_2 : ByteArray) (a1_0 : Bool) (a1_1 : ByteArray) (a1_2 : ByteArray) (r1 : Bool) (r2 : ByteArray) (r3 : ByteArray) (w : World) (h : insolvencyref1_Lesser.f k a0_0 a0_1 a0_2 a1_0 a1_1 a1_2 = some (r1, r2, r3)) :
  Calls Tryd.prog 45 #[.agg #[.bool a0_0, .string a0_1, .string a0_2], .agg #[.bool a1_0, .string a1_1, .string a1_2]] w fun e w' => e = .returned (.agg #[.bool r1, .string r2, .string r3]) ∧ Below w.heap.size w w' := by
 have hu25 := Tryd.underlying25
 have HB := Aside0.mk (Below.refl w.heap.size w)
 have H := h; clear h
 unfold insolvencyref1_Lesser.f at H
 replace H := xH H; obtain ⟨t967, A3, H⟩ := H
 by_cases c4 : t967 = true
 ·subst c4
  replace H := xI H
  simp only [Option.some.injEq, Prod.mk.injEq] at H
  obtain ⟨rfl, rfl, rfl⟩ := H
  go_enter Tryd.func45, Tryd.ntmps45
  go_wp2_with (first | (refine xF (N := 2) #[.bool a0_0, .string a0_1, .string a0_2] 25 HB ?_; clear HB; intro gb964 hg w5 hb BK964 GW964 HB; clear hb hg) | (refine xF (N := 3) #[.bool a1_0, .string a1_1, .string a1_2] 25 HB ?_; clear HB; intro gb965 hg w6 hb BK965 GW965 HB; have NB964_965 := xL BK964 hg; have NB965_964 := xR BK964 hg; replace BK964 := xB BK964 hb; clear hb hg) | (refine xF (N := 4) #[.bool false, .string (⟨#[]⟩ : ByteArray), .string (⟨#[]⟩ : ByteArray)] 25 HB ?_; clear HB; intro gb966 hg w7 hb BK966 GW966 HB; have NB964_966 := xL BK964 hg; have NB966_964 := xR BK964 hg; replace BK964 := xB BK964 hb; have NB965_966 := xL BK965 hg; have NB966_965 := xR BK965 hg; replace BK965 := xB BK965 hb; clear hb hg; have hnb8 := NB965_964.out; have hnc8 := NB964_965.out; have hnb9 := NB965_966.out; have hnc9 := NB966_965.out; obtain ⟨hcz10_0, hcz10_1, hcz10_2, hfz10_0, hfz10_1, hfz10_2⟩ := x6 BK965; have hnb11 := NB964_966.out; have hnc11 := NB966_964.out; obtain ⟨hcz12_0, hcz12_1, hcz12_2, hfz12_0, hfz12_1, hfz12_2⟩ := x6 BK964) | (refine xC Tryd.func50 (some 7) (insolvencyref1_Less.calls k a1_0 a1_1 a1_2 a0_0 a0_1 a0_2 true _ A3.out) ?_; rintro w13 hb; replace BK964 := xB BK964 hb; replace BK965 := xB BK965 hb; replace BK966 := xB BK966 hb; replace HB := xS HB hb; clear hb; obtain ⟨hcz14_0, hcz14_1, hcz14_2, hfz14_0, hfz14_1, hfz14_2⟩ := x6 BK965; obtain ⟨hcz15_0, hcz15_1, hcz15_2, hfz15_0, hfz15_1, hfz15_2⟩ := x6 BK966))
  refine bodyPost_ret (results_cell_row rfl _ _ gb966 25 #[.bool a1_0, .string a1_1, .string a1_2] (0, 0) _ rfl (xp BK966) Tryd.underlying25 rfl (by kernel_rfl)) rfl ?_
  exact ⟨xy, xs HB⟩
 replace c4 := Bool.eq_false_iff.mpr c4
 subst c4
 have H1 : (some (a0_0, a0_1, a0_2)) = some (r1, r2, r3) := by rw [if_neg (show ¬ (false = true) by decide)] at H; exact H
 clear H
 have H := H1
 clear H1
 simp only [Option.some.injEq, Prod.mk.injEq] at H
 obtain ⟨rfl, rfl, rfl⟩ := H
 go_enter Tryd.func45, Tryd.ntmps45
 go_wp2_with (first | (refine xF (N := 2) #[.bool a0_0, .string a0_1, .string a0_2] 25 HB ?_; clear HB; intro gb964 hg w16 hb BK964 GW964 HB; clear hb hg) | (refine xF (N := 3) #[.bool a1_0, .string a1_1, .string a1_2] 25 HB ?_; clear HB; intro gb965 hg w17 hb BK965 GW965 HB; have NB964_965 := xL BK964 hg; have NB965_964 := xR BK964 hg; replace BK964 := xB BK964 hb; clear hb hg) | (refine xF (N := 4) #[.bool false, .string (⟨#[]⟩ : ByteArray), .string (⟨#[]⟩ : ByteArray)] 25 HB ?_; clear HB; intro gb966 hg w18 hb BK966 GW966 HB; have NB964_966 := xL BK964 hg; have NB966_964 := xR BK964 hg; replace BK964 := xB BK964 hb; have NB965_966 := xL BK965 hg; have NB966_965 := xR BK965 hg; replace BK965 := xB BK965 hb; clear hb hg; have hnb19 := NB965_964.out; have hnc19 := NB964_965.out; have hnb20 := NB965_966.out; have hnc20 := NB966_965.out; obtain ⟨hcz21_0, hcz21_1, hcz21_2, hfz21_0, hfz21_1, hfz21_2⟩ := x6 BK965; have hnb22 := NB964_966.out; have hnc22 := NB966_964.out; obtain ⟨hcz23_0, hcz23_1, hcz23_2, hfz23_0, hfz23_1, hfz23_2⟩ := x6 BK964) | (refine xC Tryd.func50 (some 7) (insolvencyref1_Less.calls k a1_0 a1_1 a1_2 a0_0 a0_1 a0_2 false _ A3.out) ?_; rintro w24 hb; replace BK964 := xB BK964 hb; replace BK965 := xB BK965 hb; replace BK966 := xB BK966 hb; replace HB := xS HB hb; clear hb; obtain ⟨hcz25_0, hcz25_1, hcz25_2, hfz25_0, hfz25_1, hfz25_2⟩ := x6 BK964; obtain ⟨hcz26_0, hcz26_1, hcz26_2, hfz26_0, hfz26_1, hfz26_2⟩ := x6 BK966))
 refine bodyPost_ret (results_cell_row rfl _ _ gb966 25 #[.bool a0_0, .string a0_1, .string a0_2] (0, 0) _ rfl (xp BK966) Tryd.underlying25 rfl (by kernel_rfl)) rfl ?_
 exact ⟨xy, xs HB⟩
/-! ### insolvencyref17_Kept: function 20 -/
def insolvencyref17_Kept.l0 : Nat → List (S25) → Int → Bool → ByteArray → ByteArray → Bool → ByteArray → ByteArray → Option (Bool × ByteArray × ByteArray)
 | 0, _, _, _, _, _, _, _, _ => none
 | k + 1, x1, x6, x969000, x969001, x969002, x971000, x971001, x971002 => if x6 < (x1.length : Int) then (if 0 ≤ x6 then ((insolvencyref17_amount.f k ((rd_T25 x1 x6).f0) ((rd_T25 x1 x6).f1) ((rd_T25 x1 x6).f2)).bind fun bt972 => ((insolvencyref1_Plus.f k x971000 x971001 x971002 bt972.1 bt972.2.1 bt972.2.2).bind fun bt975 => (insolvencyref17_Kept.l0 k x1 (wrap64 (x6 + 1)) x969000 x969001 x969002 bt975.1 bt975.2.1 bt975.2.2))) else (none)) else ((insolvencyref17_amount.f k x969000 x969001 x969002).bind fun bt978 => ((insolvencyref1_Lesser.f k bt978.1 bt978.2.1 bt978.2.2 x971000 x971001 x971002).bind fun bt981 => (some (bt981.1, bt981.2.1, bt981.2.2))))
def insolvencyref17_Kept.f (k : Nat) (a0_0 : Bool) (a0_1 : ByteArray) (a0_2 : ByteArray) (l1 : List (S25)) : Option (Bool × ByteArray × ByteArray) := insolvencyref17_Kept.l0 k l1 0 a0_0 a0_1 a0_2 false (⟨#[]⟩ : ByteArray) (⟨#[]⟩ : ByteArray)
theorem insolvencyref17_Kept.mono_l : ∀ k, (∀ y0 y1 y2 y3 y4 y5 y6 y7, LeO (insolvencyref17_Kept.l0 k y0 y1 y2 y3 y4 y5 y6 y7) (insolvencyref17_Kept.l0 (k + 1) y0 y1 y2 y3 y4 y5 y6 y7))
 | 0 => fun _ _ _ _ _ _ _ _ r h => by simp [insolvencyref17_Kept.l0] at h
 | k + 1 => by
  have ih0 := insolvencyref17_Kept.mono_l k
  ·intro y0 y1 y2 y3 y4 y5 y6 y7
   unfold insolvencyref17_Kept.l0
   have m0 := @ih0; have m1 := @insolvencyref17_amount.mono; have m2 := @insolvencyref1_Lesser.mono; have m3 := @insolvencyref1_Plus.mono; exact xM
theorem insolvencyref17_Kept.mono : ∀ a0 a1 a2 a3 k, LeO (insolvencyref17_Kept.f k a0 a1 a2 a3) (insolvencyref17_Kept.f (k + 1) a0 a1 a2 a3) := by
 intro a0 a1 a2 a3 k
 have ih0 := insolvencyref17_Kept.mono_l k
 unfold insolvencyref17_Kept.f
 have m0 := @ih0; have m1 := @insolvencyref17_amount.mono; have m2 := @insolvencyref1_Lesser.mono; have m3 := @insolvencyref1_Plus.mono; exact xM
def insolvencyref17_Kept.T5 : Bool × List (List Nat × List Nat) := (true, [([], []), ([], []), ([], []), ([1, 2], [1, 2]), ([3], [3]), ([4], [4]), ([0, 5, 5], [0, 5]), ([6, 6, 0, 1, 2, 3, 4, 5, 6], [6])])
def insolvencyref17_Kept.B5 : List Nat := [0, 0, 0, 6, 14, 30, 63, 127]
theorem insolvencyref17_Kept.tab5 : rtab .any (opsOf Tryd.f20 5) = insolvencyref17_Kept.T5 := by kernel_rfl
theorem insolvencyref17_Kept.bits5 : waitsOk insolvencyref17_Kept.T5.2 insolvencyref17_Kept.B5 = true := by kernel_rfl
theorem insolvencyref17_Kept.calls (k : Nat) (a0_0 : Bool) (a0_1 : ByteArray) (a0_2 : ByteArray) (A1 : Option Addr) (c1 : Nat) (l1 : List (S25)) (r1 : Bool) (r2 : ByteArray) (r3 : ByteArray) (w : World) (hr1 : Kd.C k25 w A1 l1.length l1) (hc1 : l1.length ≤ c1) (h : insolvencyref17_Kept.f k a0_0 a0_1 a0_2 l1 = some (r1, r2, r3)) :
  Calls Tryd.prog 20 #[.agg #[.bool a0_0, .string a0_1, .string a0_2], .slice A1 l1.length c1] w fun e w' => e = .returned (.agg #[.bool r1, .string r2, .string r3]) ∧ Below w.heap.size w w' := by
 have hu25 := Tryd.underlying25
 have HR1 := Aside0.mk hr1
 have HC1 := Aside0.mk hc1
 clear hr1 hc1
 have HB := Aside0.mk (Below.refl w.heap.size w)
 have H := h; clear h
 unfold insolvencyref17_Kept.f at H
 have H' := Aside0.mk H
 clear H
 go_enter Tryd.func20, Tryd.ntmps20
 go_wp2_with (first | (refine xF (N := 2) #[.bool a0_0, .string a0_1, .string a0_2] 25 HB ?_; clear HB; intro gb968 hg w3 hb BK968 GW968 HB; clear hb hg) | (refine xF (N := 4) #[.bool false, .string (⟨#[]⟩ : ByteArray), .string (⟨#[]⟩ : ByteArray)] 25 HB ?_; clear HB; intro gb969 hg w4 hb BK969 GW969 HB; have NB968_969 := xL BK968 hg; have NB969_968 := xR BK968 hg; replace BK968 := xB BK968 hb; clear hb hg) | (refine xF (N := 5) #[.bool false, .string (⟨#[]⟩ : ByteArray), .string (⟨#[]⟩ : ByteArray)] 25 HB ?_; clear HB; intro gb970 hg w5 hb BK970 GW970 HB; have NB968_970 := xL BK968 hg; have NB970_968 := xR BK968 hg; replace BK968 := xB BK968 hb; have NB969_970 := xL BK969 hg; have NB970_969 := xR BK969 hg; replace BK969 := xB BK969 hb; clear hb hg; have hnb6 := NB970_968.out; have hnc6 := NB968_970.out; have hnb7 := NB970_969.out; have hnc7 := NB969_970.out; obtain ⟨hcz8_0, hcz8_1, hcz8_2, hfz8_0, hfz8_1, hfz8_2⟩ := x6 BK970))
 go_loopg [6] k (fun kq v6 w' => ∃ (x6_1 : Int) (x971000_1 : Bool) (x971001_1 : ByteArray) (x971002_1 : ByteArray), v6 = .int .i64 x6_1 ∧ Aside0 (insolvencyref17_Kept.l0 kq l1 x6_1 a0_0 a0_1 a0_2 x971000_1 x971001_1 x971002_1 = some (r1, r2, r3)) ∧ Aside0 (kq ≤ k) ∧ Aside0 (w'.heap[gb968]? = some (.cells #[.bool a0_0, .string a0_1, .string a0_2] 25 (0, 0))) ∧ Aside0 (w'.heap[gb969]? = some (.cells #[.bool false, .string (⟨#[]⟩ : ByteArray), .string (⟨#[]⟩ : ByteArray)] 25 (0, 0))) ∧ Aside0 (w'.heap[gb970]? = some (.cells #[.bool x971000_1, .string x971001_1, .string x971002_1] 25 (0, 0))) ∧ Aside0 (Below w.heap.size w w'))
 case atStart => exact ⟨(0), (false), (⟨#[]⟩ : ByteArray), (⟨#[]⟩ : ByteArray), xz, H', ⟨Nat.le_refl _⟩, ⟨xb BK968⟩, ⟨xb BK969⟩, ⟨by refine blk_put (cs := #[.bool false, .string (⟨#[]⟩ : ByteArray), .string (⟨#[]⟩ : ByteArray)]) ?_ 2 _ (by rfl); refine blk_put (cs := #[.bool false, .string (⟨#[]⟩ : ByteArray), .string (⟨#[]⟩ : ByteArray)]) ?_ 1 _ (by rfl); refine blk_put (cs := #[.bool false, .string (⟨#[]⟩ : ByteArray), .string (⟨#[]⟩ : ByteArray)]) ?_ 0 _ (by rfl); exact BK970.out⟩, ⟨xs HB⟩⟩
 case round =>
  clear H'
  clear hcz8_0 hcz8_1 hcz8_2 hfz8_0 hfz8_1 hfz8_2
  obtain ⟨x6_1, x971000_1, x971001_1, x971002_1, rfl, HA, HK1, BK968, BK969, BK970, HB⟩ := hrel
  cases gk with
  | zero => exact absurd HA.out (by simp [insolvencyref17_Kept.l0])
  | succ k1 =>
   have H := HA.out
   clear HA
   simp only [insolvencyref17_Kept.l0] at H
   obtain ⟨c9b0, H⟩ | ⟨c9b0, H⟩ := xOd H
   ·obtain ⟨c10b0, H⟩ := xQd H
    replace H := xH H; obtain ⟨⟨t972, t973, t974⟩, A11, H⟩ := H
    dsimp only at H
    replace H := xH H; obtain ⟨⟨t975, t976, t977⟩, A12, H⟩ := H
    dsimp only at H
    have H' := Aside0.mk H
    clear H
    try go_wp2
    replace BK968 := xD BK968
    replace BK969 := xD BK969
    replace BK970 := xD BK970
    replace HB := xW HB
    obtain ⟨p971, q971, ad971, e971, hx971_0, hx971_1, hx971_2⟩ := xA (at_T25 HR1.out x6_1)
    have hw971_2 := hx971_2
    have hw971_1 := hx971_1
    have hw971_0 := hx971_0
    cases e971
    (try replace hx971_0 := xcl HB hx971_0)
    (try replace hx971_1 := xcl HB hx971_1)
    (try replace hx971_2 := xcl HB hx971_2)
    refine start_ (n := 8) (S := fun w' => w'.cell? ⟨gb970, 0, none⟩ = some (.bool x971000_1) ∧ w'.cell? ⟨gb970, 1, none⟩ = some (.string x971001_1) ∧ w'.cell? ⟨gb970, 2, none⟩ = some (.string x971002_1) ∧ w'.cell? (ad971.add ((x6_1).toNat * 3)) = some (.bool ((rd_T25 l1 x6_1).f0)) ∧ w'.cell? ⟨(ad971.add ((x6_1).toNat * 3)).block, (ad971.add ((x6_1).toNat * 3)).off + 1, none⟩ = some (.string ((rd_T25 l1 x6_1).f1)) ∧ w'.cell? ⟨(ad971.add ((x6_1).toNat * 3)).block, (ad971.add ((x6_1).toNat * 3)).off + 2, none⟩ = some (.string ((rd_T25 l1 x6_1).f2))) (ds := [7]) (b 8 0) (by kernel_rfl) rfl rfl ⟨(blk_cell BK970.out 0).trans rfl, (blk_cell BK970.out 1).trans rfl, (blk_cell BK970.out 2).trans rfl, ((HB.out.cell (World.block_lt_of_cell? w _ hw971_0)).trans hw971_0), ((HB.out.cell (World.block_lt_of_cell? w _ hw971_1)).trans hw971_1), ((HB.out.cell (World.block_lt_of_cell? w _ hw971_2)).trans hw971_2)⟩ (fun hHeld => ?_); refine with_tabW insolvencyref17_Kept.tab5 insolvencyref17_Kept.bits5 (fun HT_ HW_ => ?_)
    generalize wr.drew = w13 at BK968 BK969 BK970 HB hx971_0 hx971_1 hx971_2 hHeld ⊢
    refine yP 1 (some 15) (b 8 2) ?_
    refine yP 2 (some 16) (b 8 6) ?_
    refine yP 3 (some 17) (b 8 14) ?_
    refine yT 0 (some 14) (b 8 15) hHeld ?_
    refine yT 4 (some 18) (b 8 31) hHeld ?_
    refine yO 5 (some 19) (b 8 63) fun K hK => ?_
    refine xc Tryd.func40 (insolvencyref17_amount.calls k1 ((rd_T25 l1 x6_1).f0) ((rd_T25 l1 x6_1).f1) ((rd_T25 l1 x6_1).f2) t972 t973 t974 _ A11.out) ?_
    rintro w14 hb
    replace BK968 := xB BK968 hb
    replace BK969 := xB BK969 hb
    replace BK970 := xB BK970 hb
    replace HB := xS HB hb
    clear hb
    refine hK.out _ _ ⟨(blk_cell BK970.out 0).trans rfl, (blk_cell BK970.out 1).trans rfl, (blk_cell BK970.out 2).trans rfl, ((HB.out.cell (World.block_lt_of_cell? w _ hw971_0)).trans hw971_0), ((HB.out.cell (World.block_lt_of_cell? w _ hw971_1)).trans hw971_1), ((HB.out.cell (World.block_lt_of_cell? w _ hw971_2)).trans hw971_2)⟩ (fun hHeld => ?_)
    clear hK K
    refine xN 19 ?_
    refine yO 6 (some 20) (b 8 127) fun K hK => ?_
    refine xc Tryd.func43 (insolvencyref1_Plus.calls k1 x971000_1 x971001_1 x971002_1 t972 t973 t974 t975 t976 t977 _ A12.out) ?_
    rintro w15 hb
    replace BK968 := xB BK968 hb
    replace BK969 := xB BK969 hb
    replace BK970 := xB BK970 hb
    replace HB := xS HB hb
    clear hb
    refine hK.out _ _ ⟨(blk_cell BK970.out 0).trans rfl, (blk_cell BK970.out 1).trans rfl, (blk_cell BK970.out 2).trans rfl, ((HB.out.cell (World.block_lt_of_cell? w _ hw971_0)).trans hw971_0), ((HB.out.cell (World.block_lt_of_cell? w _ hw971_1)).trans hw971_1), ((HB.out.cell (World.block_lt_of_cell? w _ hw971_2)).trans hw971_2)⟩ (fun hHeld => ?_)
    clear hK K
    refine xN 20 ?_
    refine yZ 7 none (b 8 255) fun K hK => ?_
    obtain ⟨hs16, hs17, hs18, hfs16, hfs17, hfs18⟩ := x6 BK970
    have hns16_0 := NB968_970.out
    have hns16_1 := NB969_970.out
    have hms16_0 := NB970_968.out
    have hms16_1 := NB970_969.out
    refine xk ?_
    refine hK.out _ _ ?_
    clear hK K
    refine done_ (done_of HT_.out (by kernel_rfl)) ?_
    try go_wp2
    go_roundg k1
    case measure => have := HK1.out; omega
    case rel => exact ⟨(wrap64 (x6_1 + 1)), (t975), (t976), (t977), xz, H', ⟨by have := HK1.out; omega⟩, ⟨xb BK968⟩, ⟨xb BK969⟩, ⟨by refine blk_put (cs := #[.bool t975, .string t976, .string x971002_1]) ?_ 2 _ (by rfl); refine blk_put (cs := #[.bool t975, .string x971001_1, .string x971002_1]) ?_ 1 _ (by rfl); refine blk_put (cs := #[.bool x971000_1, .string x971001_1, .string x971002_1]) ?_ 0 _ (by rfl); exact BK970.out⟩, ⟨xs HB⟩⟩
   replace H := xH H; obtain ⟨⟨t978, t979, t980⟩, A19, H⟩ := H
   dsimp only at H
   replace H := xH H; obtain ⟨⟨t981, t982, t983⟩, A20, H⟩ := H
   dsimp only at H
   simp only [Option.some.injEq, Prod.mk.injEq] at H
   obtain ⟨rfl, rfl, rfl⟩ := H
   try go_wp2
   replace BK968 := xD BK968
   replace BK969 := xD BK969
   replace BK970 := xD BK970
   replace HB := xW HB
   refine start_ (n := 5) (S := fun w' => w'.cell? ⟨gb968, 0, none⟩ = some (.bool a0_0) ∧ w'.cell? ⟨gb968, 1, none⟩ = some (.string a0_1) ∧ w'.cell? ⟨gb968, 2, none⟩ = some (.string a0_2) ∧ w'.cell? ⟨gb970, 0, none⟩ = some (.bool x971000_1) ∧ w'.cell? ⟨gb970, 1, none⟩ = some (.string x971001_1) ∧ w'.cell? ⟨gb970, 2, none⟩ = some (.string x971002_1)) (ds := []) (b 5 0) (by kernel_rfl) rfl rfl xV (fun hHeld => ?_)
   generalize wr.drew = w21 at BK968 BK969 BK970 HB hHeld ⊢
   refine yT 0 (some 21) (b 5 1) hHeld ?_
   refine yT 2 (some 23) (b 5 5) hHeld ?_
   refine yO 1 (some 22) (b 5 7) fun K hK => ?_
   refine xc Tryd.func40 (insolvencyref17_amount.calls k1 a0_0 a0_1 a0_2 t978 t979 t980 _ A19.out) ?_
   rintro w22 hb
   replace BK968 := xB BK968 hb
   replace BK969 := xB BK969 hb
   replace BK970 := xB BK970 hb
   replace HB := xS HB hb
   clear hb
   refine hK.out _ _ xV (fun hHeld => ?_)
   clear hK K
   refine xN 22 ?_
   refine yO 3 (some 24) (b 5 15) fun K hK => ?_
   refine xc Tryd.func45 (insolvencyref1_Lesser.calls k1 t978 t979 t980 x971000_1 x971001_1 x971002_1 t981 t982 t983 _ A20.out) ?_
   rintro w23 hb
   replace BK968 := xB BK968 hb
   replace BK969 := xB BK969 hb
   replace BK970 := xB BK970 hb
   replace HB := xS HB hb
   clear hb
   refine hK.out _ _ xV (fun hHeld => ?_)
   clear hK K
   refine xN 24 ?_
   refine yO 4 none (b 5 31) fun K hK => ?_
   obtain ⟨hs24, hs25, hs26, hfs24, hfs25, hfs26⟩ := x6 BK969
   have hns24_0 := NB968_969.out
   have hns24_2 := NB970_969.out
   have hms24_0 := NB969_968.out
   have hms24_2 := NB969_970.out
   refine xk ?_
   refine hK.out _ _ ⟨((cell_far (p := ⟨gb969, _, none⟩) NB968_969.out _).trans ((cell_far (p := ⟨gb969, _, none⟩) NB968_969.out _).trans ((cell_far (p := ⟨gb969, _, none⟩) NB968_969.out _).trans (hHeld.1)))), ((cell_far (p := ⟨gb969, _, none⟩) NB968_969.out _).trans ((cell_far (p := ⟨gb969, _, none⟩) NB968_969.out _).trans ((cell_far (p := ⟨gb969, _, none⟩) NB968_969.out _).trans (hHeld.2.1)))), ((cell_far (p := ⟨gb969, _, none⟩) NB968_969.out _).trans ((cell_far (p := ⟨gb969, _, none⟩) NB968_969.out _).trans ((cell_far (p := ⟨gb969, _, none⟩) NB968_969.out _).trans (hHeld.2.2.1)))), ((cell_far (p := ⟨gb969, _, none⟩) NB970_969.out _).trans ((cell_far (p := ⟨gb969, _, none⟩) NB970_969.out _).trans ((cell_far (p := ⟨gb969, _, none⟩) NB970_969.out _).trans (hHeld.2.2.2.1)))), ((cell_far (p := ⟨gb969, _, none⟩) NB970_969.out _).trans ((cell_far (p := ⟨gb969, _, none⟩) NB970_969.out _).trans ((cell_far (p := ⟨gb969, _, none⟩) NB970_969.out _).trans (hHeld.2.2.2.2.1)))), ((cell_far (p := ⟨gb969, _, none⟩) NB970_969.out _).trans ((cell_far (p := ⟨gb969, _, none⟩) NB970_969.out _).trans ((cell_far (p := ⟨gb969, _, none⟩) NB970_969.out _).trans (hHeld.2.2.2.2.2))))⟩ (fun hHeld => ?_)
   clear hK K
   refine done_ (by kernel_rfl) ?_
   try go_wp2
   refine bodyPost_ret (results_cell_row rfl _ _ gb969 25 #[.bool t981, .string t982, .string t983] (0, 0) _ rfl (xp BK969) Tryd.underlying25 rfl (by kernel_rfl)) rfl ?_
   exact ⟨xy, xs HB⟩
section
attribute [local go_sem high] eqA25
/-! ### insolvencylaw18_GuaranteeRefunds: function 4 -/
def insolvencylaw18_GuaranteeRefunds.j0 : Nat → List (S25) → Bool → Bool → ByteArray → ByteArray → Option (Bool)
 | 0, _, _, _, _, _ => none
 | k + 1, x1, x12, x985000, x985001, x985002 => if x12 = true then ((insolvencylaw18_awake.f k).bind fun t987 => (some t987)) else ((insolvencylaw18_awake.f k).bind fun t988 => (if t988 = true then ((guarantee_Refunds.f k x985000 x985001 x985002 x1).bind fun t989 => ((insolvencyref17_Refunds.f k x985000 x985001 x985002 x1).bind fun t992 => ((insolvencyref1_SameRats.f k t989 t992).bind fun t995 => (if t995 = true then ((guarantee_Kept.f k x985000 x985001 x985002 x1).bind fun bt996 => ((insolvencyref17_Kept.f k x985000 x985001 x985002 x1).bind fun bt999 => (some (bt996.1 == bt999.1 && (bt996.2.1.toList == bt999.2.1.toList && (bt996.2.2.toList == bt999.2.2.toList)))))) else (some false))))) else (some false)))
def insolvencylaw18_GuaranteeRefunds.f (k : Nat) (a0_0 : Bool) (a0_1 : ByteArray) (a0_2 : ByteArray) (l1 : List (S25)) : Option (Bool) := (insolvencylaw0_Few.f a0_0 a0_1 a0_2).bind fun t985 => (if t985 = true then ((insolvencylaw0_FewRats.f k l1 10).bind fun t986 => (insolvencylaw18_GuaranteeRefunds.j0 k l1 (!t986) a0_0 a0_1 a0_2)) else (insolvencylaw18_GuaranteeRefunds.j0 k l1 true a0_0 a0_1 a0_2))
theorem insolvencylaw18_GuaranteeRefunds.mono_l : ∀ k, (∀ y0 y1 y2 y3 y4, LeO (insolvencylaw18_GuaranteeRefunds.j0 k y0 y1 y2 y3 y4) (insolvencylaw18_GuaranteeRefunds.j0 (k + 1) y0 y1 y2 y3 y4))
 | 0 => fun _ _ _ _ _ r h => by simp [insolvencylaw18_GuaranteeRefunds.j0] at h
 | k + 1 => by
  have ih0 := insolvencylaw18_GuaranteeRefunds.mono_l k
  ·intro y0 y1 y2 y3 y4
   unfold insolvencylaw18_GuaranteeRefunds.j0
   have m0 := @ih0; have m1 := @guarantee_Kept.mono; have m2 := @guarantee_Refunds.mono; have m3 := @insolvencylaw0_FewRats.mono; have m4 := @insolvencylaw18_awake.mono; have m5 := @insolvencyref17_Kept.mono; have m6 := @insolvencyref17_Refunds.mono; have m7 := @insolvencyref1_SameRats.mono; exact xM
theorem insolvencylaw18_GuaranteeRefunds.mono : ∀ a0 a1 a2 a3 k, LeO (insolvencylaw18_GuaranteeRefunds.f k a0 a1 a2 a3) (insolvencylaw18_GuaranteeRefunds.f (k + 1) a0 a1 a2 a3) := by
 intro a0 a1 a2 a3 k
 have ih0 := insolvencylaw18_GuaranteeRefunds.mono_l k
 unfold insolvencylaw18_GuaranteeRefunds.f
 have m0 := @ih0; have m1 := @guarantee_Kept.mono; have m2 := @guarantee_Refunds.mono; have m3 := @insolvencylaw0_FewRats.mono; have m4 := @insolvencylaw18_awake.mono; have m5 := @insolvencyref17_Kept.mono; have m6 := @insolvencyref17_Refunds.mono; have m7 := @insolvencyref1_SameRats.mono; exact xM
def insolvencylaw18_GuaranteeRefunds.T3 : Bool × List (List Nat × List Nat) := (true, [([], []), ([0, 0], [0]), ([1], [1]), ([1], [1]), ([2, 3, 1, 1], [1, 2, 3]), ([1], [1]), ([1], [1]), ([5, 6, 4, 1], [1, 5, 6]), ([4, 7, 7, 1], [1, 4, 7]), ([1, 8], [1, 8]), ([9, 8], [9]), ([10], [10]), ([10], [10]), ([11, 12, 10, 10], [10, 11, 12]), ([10], [10]), ([10], [10]), ([14, 15, 13, 10], [10, 14, 15]), ([13, 16, 10], [10, 13, 16]), ([10, 17], [10, 17]), ([18, 16, 0, 1, 2, 3, 4, 5, 6, 7, 8, 9, 10, 11, 12, 13, 14, 15, 16, 17, 18], [18])])
def insolvencylaw18_GuaranteeRefunds.B3 : List Nat := [0, 1, 3, 3, 15, 3, 3, 127, 255, 511, 1023, 2047, 2047, 8191, 2047, 2047, 65535, 131071, 262143, 524287]
theorem insolvencylaw18_GuaranteeRefunds.tab3 : rtab .any (opsOf Tryd.f4 3) = insolvencylaw18_GuaranteeRefunds.T3 := by kernel_rfl
theorem insolvencylaw18_GuaranteeRefunds.bits3 : waitsOk insolvencylaw18_GuaranteeRefunds.T3.2 insolvencylaw18_GuaranteeRefunds.B3 = true := by kernel_rfl
theorem insolvencylaw18_GuaranteeRefunds.calls (k : Nat) (a0_0 : Bool) (a0_1 : ByteArray) (a0_2 : ByteArray) (A1 : Option Addr) (c1 : Nat) (l1 : List (S25)) (r : Bool) (w : World) (hr1 : Kd.C k25 w A1 l1.length l1) (hc1 : l1.length ≤ c1) (h : insolvencylaw18_GuaranteeRefunds.f k a0_0 a0_1 a0_2 l1 = some r) :
  Calls Tryd.prog 4 #[.agg #[.bool a0_0, .string a0_1, .string a0_2], .slice A1 l1.length c1] w fun e w' => e = .returned (.bool r) ∧ Below w.heap.size w w' := by
 have hu25 := Tryd.underlying25
 have HR1 := Aside0.mk hr1
 have HC1 := Aside0.mk hc1
 clear hr1 hc1
 have HB := Aside0.mk (Below.refl w.heap.size w)
 have H := h; clear h
 unfold insolvencylaw18_GuaranteeRefunds.f at H
 have HC3 := Aside0.mk H
 clear H
 go_enter Tryd.func4, Tryd.ntmps4
 go_upto_region 1 with (refine xF (N := 2) #[.bool a0_0, .string a0_1, .string a0_2] 25 HB ?_; clear HB; intro gb984 hg w4 hb BK984 GW984 HB; clear hb hg)
 go_cut [12] (fun v12 wc => ∃ (kq : Nat) (x12_2 : Bool), v12 = .bool x12_2 ∧ Aside0 (insolvencylaw18_GuaranteeRefunds.j0 kq l1 x12_2 a0_0 a0_1 a0_2 = some r) ∧ Aside0 (kq ≤ k) ∧ Aside0 (wc.heap[gb984]? = some (.cells #[.bool a0_0, .string a0_1, .string a0_2] 25 (0, 0))) ∧ Aside0 (Below w.heap.size w wc))
 case first =>
  have H := HC3.out
  clear HC3
  replace H := xH H; obtain ⟨t985, A5, H⟩ := H
  by_cases c6 : t985 = true
  ·subst c6
   replace H := xI H
   replace H := xH H; obtain ⟨t986, A7, H⟩ := H
   have H' := Aside0.mk H
   clear H
   obtain ⟨hcz8_0, hcz8_1, hcz8_2, hfz8_0, hfz8_1, hfz8_2⟩ := x6 BK984
   go_wp2_with (first | (refine xC Tryd.func15 (some 6) (insolvencylaw0_Few.calls a0_0 a0_1 a0_2 true _ A5.out) ?_; rintro w9 hb; replace BK984 := xB BK984 hb; replace HB := xS HB hb; clear hb) | (go_at_call 16; (with_reducible refine (insolvencylaw0_FewRats.calls k _ _ l1 10 t986 _ ?side1 ?side2 A7.out).mono ?_); (case side1 => repeat (exact (Kd.C_below HR1.out HB.out))); (case side2 => exact HC1.out); rintro e w10 ⟨rfl, hb⟩; replace BK984 := xB BK984 hb; replace HB := xS HB hb; clear hb))
   go_meet
   case rel => exact ⟨_, (!t986), xz, H', ⟨by omega⟩, ⟨xb BK984⟩, ⟨xs HB⟩⟩
  replace c6 := Bool.eq_false_iff.mpr c6
  subst c6
  have H1 : (insolvencylaw18_GuaranteeRefunds.j0 k l1 true a0_0 a0_1 a0_2) = some r := by rw [if_neg (show ¬ (false = true) by decide)] at H; exact H
  clear H
  have H := H1
  clear H1
  have H' := Aside0.mk H
  clear H
  obtain ⟨hcz11_0, hcz11_1, hcz11_2, hfz11_0, hfz11_1, hfz11_2⟩ := x6 BK984
  go_wp2_with (refine xC Tryd.func15 (some 6) (insolvencylaw0_Few.calls a0_0 a0_1 a0_2 false _ A5.out) ?_; rintro w12 hb; replace BK984 := xB BK984 hb; replace HB := xS HB hb; clear hb)
  go_meet
  case rel => exact ⟨_, (true), xz, H', ⟨by omega⟩, ⟨xb BK984⟩, ⟨xs HB⟩⟩
 case rest =>
  clear HC3
  obtain ⟨kq, x12_2, rfl, HA, HJ2, BK984, HB⟩ := hcut
  cases kq with
  | zero => exact absurd HA.out (by simp [insolvencylaw18_GuaranteeRefunds.j0])
  | succ kj2 =>
   have H := HA.out
   clear HA
   simp only [insolvencylaw18_GuaranteeRefunds.j0] at H
   by_cases c13 : x12_2 = true
   ·subst c13
    replace H := xI H
    replace H := xH H; obtain ⟨t987, A14, H⟩ := H
    obtain rfl := Option.some.inj H
    go_wp2_with (refine xC Tryd.func14 (some 13) (insolvencylaw18_awake.calls kj2  t987 _ A14.out) ?_; rintro w15 hb; replace BK984 := xB BK984 hb; replace HB := xS HB hb; clear hb)
    go_ret
    exact ⟨xy, xs HB⟩
   replace c13 := Bool.eq_false_iff.mpr c13
   subst c13
   have H1 : ((insolvencylaw18_awake.f kj2).bind fun t988 => (if t988 = true then ((guarantee_Refunds.f kj2 a0_0 a0_1 a0_2 l1).bind fun t989 => ((insolvencyref17_Refunds.f kj2 a0_0 a0_1 a0_2 l1).bind fun t992 => ((insolvencyref1_SameRats.f kj2 t989 t992).bind fun t995 => (if t995 = true then ((guarantee_Kept.f kj2 a0_0 a0_1 a0_2 l1).bind fun bt996 => ((insolvencyref17_Kept.f kj2 a0_0 a0_1 a0_2 l1).bind fun bt999 => (some (bt996.1 == bt999.1 && (bt996.2.1.toList == bt999.2.1.toList && (bt996.2.2.toList == bt999.2.2.toList)))))) else (some false))))) else (some false))) = some r := by rw [if_neg (show ¬ (false = true) by decide)] at H; exact H
   clear H
   have H := H1
   clear H1
   replace H := xH H; obtain ⟨t988, A16, H⟩ := H
   by_cases c17 : t988 = true
   ·subst c17
    replace H := xI H
    replace H := xH H; obtain ⟨t989, A18, H⟩ := H
    replace H := xH H; obtain ⟨t992, A19, H⟩ := H
    replace H := xH H; obtain ⟨t995, A20, H⟩ := H
    by_cases c21 : t995 = true
    ·subst c21
     replace H := xI H
     replace H := xH H; obtain ⟨⟨t996, t997, t998⟩, A22, H⟩ := H
     dsimp only at H
     replace H := xH H; obtain ⟨⟨t999, t1000, t1001⟩, A23, H⟩ := H
     dsimp only at H
     obtain rfl := Option.some.inj H
     try go_wp2
     replace BK984 := xD BK984
     replace HB := xW HB
     refine start_ (n := 20) (S := fun w' => w'.cell? ⟨gb984, 0, none⟩ = some (.bool a0_0) ∧ w'.cell? ⟨gb984, 1, none⟩ = some (.string a0_1) ∧ w'.cell? ⟨gb984, 2, none⟩ = some (.string a0_2)) (ds := []) (b 20 0) (by kernel_rfl) rfl rfl xV (fun hHeld => ?_); refine with_tabW insolvencylaw18_GuaranteeRefunds.tab3 insolvencylaw18_GuaranteeRefunds.bits3 (fun HT_ HW_ => ?_)
     generalize wc.drew = w24 at BK984 HB hHeld ⊢
     refine yO 0 (some 14) (b 20 1) fun K hK => ?_
     refine xc Tryd.func14 (insolvencylaw18_awake.calls kj2  true _ A16.out) ?_
     rintro w25 hb
     replace BK984 := xB BK984 hb
     replace HB := xS HB hb
     clear hb
     refine hK.out _ _ xV (fun hHeld => ?_)
     clear hK K
     refine xN 14 ?_
     refine yP 1 (some 15) (b 20 3) ?_
     refine yP 3 (some 17) (b 20 11) ?_
     refine yP 6 (some 20) (b 20 75) ?_
     refine yT 2 (some 16) (b 20 79) hHeld ?_
     refine yT 5 (some 19) (b 20 111) hHeld ?_
     refine yO 4 (some 18) (b 20 127) fun K hK => ?_
     refine goes_ Tryd.func12 (by kernel_rfl) rfl #[.agg #[.bool a0_0, .string a0_1, .string a0_2], .slice A1 l1.length c1] (by rfl) rfl rfl (by (try simp only [List.map_toArray, List.map_cons, List.map_nil]); rfl) ?_
     with_reducible refine (guarantee_Refunds.calls kj2 a0_0 a0_1 a0_2 _ _ l1 t989 _ ?side1 ?side2 A18.out).mono ?_
     (case side1 => repeat (exact (Kd.C_below HR1.out HB.out)))
     (case side2 => exact HC1.out)
     rintro e w26 ⟨v990, rfl, ho0, hb⟩
     refine ⟨_, rfl, ?_⟩
     have HO991 := Aside0.mk (Kd.R_lower (Kd.R_newB ho0 (g := gb984) (o := .cells #[.bool a0_0, .string a0_1, .string a0_2] 25 (0, 0)) (xb BK984)) (below_size (xs HB)))
     replace BK984 := xB BK984 hb
     replace HB := xS HB hb
     clear hb
     clear ho0
     refine hK.out _ _ xV (fun hHeld => ?_)
     clear hK K
     refine xN 18 ?_
     refine yO 7 (some 21) (b 20 255) fun K hK => ?_
     refine goes_ Tryd.func18 (by kernel_rfl) rfl #[.agg #[.bool a0_0, .string a0_1, .string a0_2], .slice A1 l1.length c1] (by rfl) rfl rfl (by (try simp only [List.map_toArray, List.map_cons, List.map_nil]); rfl) ?_
     with_reducible refine (insolvencyref17_Refunds.calls kj2 a0_0 a0_1 a0_2 _ _ l1 t992 _ ?side1 ?side2 A19.out).mono ?_
     (case side1 => repeat (exact (Kd.C_below HR1.out HB.out)))
     (case side2 => exact HC1.out)
     rintro e w27 ⟨v993, rfl, ho0, hb⟩
     refine ⟨_, rfl, ?_⟩
     have HO994 := Aside0.mk (Kd.R_lower (Kd.R_newB (Kd.R_new' ho0 (Kd.R_lt (xr HO991.out))) (g := gb984) (o := .cells #[.bool a0_0, .string a0_1, .string a0_2] 25 (0, 0)) (xb BK984)) (below_size (xs HB)))
     replace HO991 := Aside0.mk (Kd.R_elder' (xr HO991.out) (Kd.R_base ho0) hb)
     replace BK984 := xB BK984 hb
     replace HB := xS HB hb
     clear hb
     clear ho0
     obtain ⟨Ao28, co28, eo28⟩ := Kd.R_slice HO991.out
     subst eo28
     obtain ⟨Ao29, co29, eo29⟩ := Kd.R_slice HO994.out
     subst eo29
     refine hK.out _ _ xV (fun hHeld => ?_)
     clear hK K
     refine xN 21 ?_
     refine yO 8 (some 22) (b 20 511) fun K hK => ?_
     refine goes_ Tryd.func17 (by kernel_rfl) rfl #[.slice Ao28 t989.length co28, .slice Ao29 t992.length co29] (by rfl) rfl rfl (by (try simp only [List.map_toArray, List.map_cons, List.map_nil]); rfl) ?_
     with_reducible refine (insolvencyref1_SameRats.calls kj2 _ _ t989 _ _ t992 true _ ?side1 ?side2 ?side3 ?side4 A20.out).mono ?_
     (case side1 => repeat (exact (Kd.R_reads' HO991.out).2.2))
     (case side2 => exact (Kd.R_reads' HO991.out).2.1)
     (case side3 => repeat (exact (Kd.R_reads' HO994.out).2.2))
     (case side4 => exact (Kd.R_reads' HO994.out).2.1)
     rintro e w' ⟨rfl, ⟨nd, rfl⟩⟩
     refine ⟨_, rfl, ?_⟩
     refine hK.out _ _ xV (fun hHeld => ?_)
     clear hK K
     refine xN 22 ?_
     refine yP 9 (some 23) (b 20 1023) ?_
     refine yP 10 (some 24) (b 20 2047) ?_
     refine yP 12 (some 26) (b 20 6143) ?_
     refine yP 15 (some 29) (b 20 38911) ?_
     refine yT 11 (some 25) (b 20 40959) hHeld ?_
     refine yT 14 (some 28) (b 20 57343) hHeld ?_
     refine yO 13 (some 27) (b 20 65535) fun K hK => ?_
     refine goes_ Tryd.func19 (by kernel_rfl) rfl #[.agg #[.bool a0_0, .string a0_1, .string a0_2], .slice A1 l1.length c1] (by rfl) rfl rfl (by (try simp only [List.map_toArray, List.map_cons, List.map_nil]); rfl) ?_
     with_reducible refine (guarantee_Kept.calls kj2 a0_0 a0_1 a0_2 _ _ l1 t996 t997 t998 _ ?side1 ?side2 A22.out).mono ?_
     (case side1 => repeat (exact (Kd.C_below HR1.out (xs HB))))
     (case side2 => exact HC1.out)
     rintro e w30 ⟨rfl, hb⟩
     refine ⟨_, rfl, ?_⟩
     replace HO991 := xRb HO991 hb
     replace HO994 := xRb HO994 hb
     replace BK984 := xB BK984 hb
     replace HB := xS HB hb
     clear hb
     refine hK.out _ _ xV (fun hHeld => ?_)
     clear hK K
     refine xN 27 ?_
     refine yO 16 (some 30) (b 20 131071) fun K hK => ?_
     refine goes_ Tryd.func20 (by kernel_rfl) rfl #[.agg #[.bool a0_0, .string a0_1, .string a0_2], .slice A1 l1.length c1] (by rfl) rfl rfl (by (try simp only [List.map_toArray, List.map_cons, List.map_nil]); rfl) ?_
     with_reducible refine (insolvencyref17_Kept.calls kj2 a0_0 a0_1 a0_2 _ _ l1 t999 t1000 t1001 _ ?side1 ?side2 A23.out).mono ?_
     (case side1 => repeat (exact (Kd.C_below HR1.out HB.out)))
     (case side2 => exact HC1.out)
     rintro e w31 ⟨rfl, hb⟩
     refine ⟨_, rfl, ?_⟩
     replace HO991 := xRb HO991 hb
     replace HO994 := xRb HO994 hb
     replace BK984 := xB BK984 hb
     replace HB := xS HB hb
     clear hb
     refine hK.out _ _ xV (fun hHeld => ?_)
     clear hK K
     refine xN 30 ?_
     refine yP 17 (some 31) (b 20 262143) ?_
     refine yP 18 (some 32) (b 20 524287) ?_
     refine yP 19 (some 4) (b 20 1048575) ?_
     refine done_ (done_of HT_.out (by kernel_rfl)) ?_
     try go_wp2
     go_ret
     exact ⟨xy, xs HB⟩
    replace c21 := Bool.eq_false_iff.mpr c21
    subst c21
    have H1 : (some false) = some r := by rw [if_neg (show ¬ (false = true) by decide)] at H; exact H
    clear H
    have H := H1
    clear H1
    obtain rfl := Option.some.inj H
    try go_wp2
    replace BK984 := xD BK984
    replace HB := xW HB
    refine start_ (n := 20) (S := fun w' => w'.cell? ⟨gb984, 0, none⟩ = some (.bool a0_0) ∧ w'.cell? ⟨gb984, 1, none⟩ = some (.string a0_1) ∧ w'.cell? ⟨gb984, 2, none⟩ = some (.string a0_2)) (ds := []) (b 20 0) (by kernel_rfl) rfl rfl xV (fun hHeld => ?_); refine with_tabW insolvencylaw18_GuaranteeRefunds.tab3 insolvencylaw18_GuaranteeRefunds.bits3 (fun HT_ HW_ => ?_)
    generalize wc.drew = w32 at BK984 HB hHeld ⊢
    refine yO 0 (some 14) (b 20 1) fun K hK => ?_
    refine xc Tryd.func14 (insolvencylaw18_awake.calls kj2  true _ A16.out) ?_
    rintro w33 hb
    replace BK984 := xB BK984 hb
    replace HB := xS HB hb
    clear hb
    refine hK.out _ _ xV (fun hHeld => ?_)
    clear hK K
    refine xN 14 ?_
    refine yP 1 (some 15) (b 20 3) ?_
    refine yP 3 (some 17) (b 20 11) ?_
    refine yP 6 (some 20) (b 20 75) ?_
    refine yT 2 (some 16) (b 20 79) hHeld ?_
    refine yT 5 (some 19) (b 20 111) hHeld ?_
    refine yO 4 (some 18) (b 20 127) fun K hK => ?_
    refine goes_ Tryd.func12 (by kernel_rfl) rfl #[.agg #[.bool a0_0, .string a0_1, .string a0_2], .slice A1 l1.length c1] (by rfl) rfl rfl (by (try simp only [List.map_toArray, List.map_cons, List.map_nil]); rfl) ?_
    with_reducible refine (guarantee_Refunds.calls kj2 a0_0 a0_1 a0_2 _ _ l1 t989 _ ?side1 ?side2 A18.out).mono ?_
    (case side1 => repeat (exact (Kd.C_below HR1.out HB.out)))
    (case side2 => exact HC1.out)
    rintro e w34 ⟨v990, rfl, ho0, hb⟩
    refine ⟨_, rfl, ?_⟩
    have HO991 := Aside0.mk (Kd.R_lower (Kd.R_newB ho0 (g := gb984) (o := .cells #[.bool a0_0, .string a0_1, .string a0_2] 25 (0, 0)) (xb BK984)) (below_size (xs HB)))
    replace BK984 := xB BK984 hb
    replace HB := xS HB hb
    clear hb
    clear ho0
    refine hK.out _ _ xV (fun hHeld => ?_)
    clear hK K
    refine xN 18 ?_
    refine yO 7 (some 21) (b 20 255) fun K hK => ?_
    refine goes_ Tryd.func18 (by kernel_rfl) rfl #[.agg #[.bool a0_0, .string a0_1, .string a0_2], .slice A1 l1.length c1] (by rfl) rfl rfl (by (try simp only [List.map_toArray, List.map_cons, List.map_nil]); rfl) ?_
    with_reducible refine (insolvencyref17_Refunds.calls kj2 a0_0 a0_1 a0_2 _ _ l1 t992 _ ?side1 ?side2 A19.out).mono ?_
    (case side1 => repeat (exact (Kd.C_below HR1.out HB.out)))
    (case side2 => exact HC1.out)
    rintro e w35 ⟨v993, rfl, ho0, hb⟩
    refine ⟨_, rfl, ?_⟩
    have HO994 := Aside0.mk (Kd.R_lower (Kd.R_newB (Kd.R_new' ho0 (Kd.R_lt (xr HO991.out))) (g := gb984) (o := .cells #[.bool a0_0, .string a0_1, .string a0_2] 25 (0, 0)) (xb BK984)) (below_size (xs HB)))
    replace HO991 := Aside0.mk (Kd.R_elder' (xr HO991.out) (Kd.R_base ho0) hb)
    replace BK984 := xB BK984 hb
    replace HB := xS HB hb
    clear hb
    clear ho0
    obtain ⟨Ao36, co36, eo36⟩ := Kd.R_slice HO991.out
    subst eo36
    obtain ⟨Ao37, co37, eo37⟩ := Kd.R_slice HO994.out
    subst eo37
    refine hK.out _ _ xV (fun hHeld => ?_)
    clear hK K
    refine xN 21 ?_
    refine yO 8 (some 22) (b 20 511) fun K hK => ?_
    refine goes_ Tryd.func17 (by kernel_rfl) rfl #[.slice Ao36 t989.length co36, .slice Ao37 t992.length co37] (by rfl) rfl rfl (by (try simp only [List.map_toArray, List.map_cons, List.map_nil]); rfl) ?_
    with_reducible refine (insolvencyref1_SameRats.calls kj2 _ _ t989 _ _ t992 false _ ?side1 ?side2 ?side3 ?side4 A20.out).mono ?_
    (case side1 => repeat (exact (Kd.R_reads' HO991.out).2.2))
    (case side2 => exact (Kd.R_reads' HO991.out).2.1)
    (case side3 => repeat (exact (Kd.R_reads' HO994.out).2.2))
    (case side4 => exact (Kd.R_reads' HO994.out).2.1)
    rintro e w' ⟨rfl, ⟨nd, rfl⟩⟩
    refine ⟨_, rfl, ?_⟩
    refine hK.out _ _ xV (fun hHeld => ?_)
    clear hK K
    refine xN 22 ?_
    refine yP 9 (some 23) (b 20 1023) ?_
    refine yP 10 (some 24) (b 20 2047) ?_
    refine yU 11 (some 25) (b 20 4095) ?_
    refine yU 12 (some 26) (b 20 8191) ?_
    refine yU 13 (some 27) (b 20 16383) ?_
    refine yU 14 (some 28) (b 20 32767) ?_
    refine yU 15 (some 29) (b 20 65535) ?_
    refine yU 16 (some 30) (b 20 131071) ?_
    refine yU 17 (some 31) (b 20 262143) ?_
    refine yP 18 (some 32) (b 20 524287) ?_
    refine yP 19 (some 4) (b 20 1048575) ?_
    refine done_ (done_of HT_.out (by kernel_rfl)) ?_
    try go_wp2
    go_ret
    exact ⟨xy, xs HB⟩
   replace c17 := Bool.eq_false_iff.mpr c17
   subst c17
   have H1 : (some false) = some r := by rw [if_neg (show ¬ (false = true) by decide)] at H; exact H
   clear H
   have H := H1
   clear H1
   obtain rfl := Option.some.inj H
   try go_wp2
   replace BK984 := xD BK984
   replace HB := xW HB
   refine start_ (n := 20) (S := fun w' => True) (ds := []) (b 20 0) (by kernel_rfl) rfl rfl trivial (fun hHeld => ?_); refine with_tabW insolvencylaw18_GuaranteeRefunds.tab3 insolvencylaw18_GuaranteeRefunds.bits3 (fun HT_ HW_ => ?_)
   generalize wc.drew = w38 at BK984 HB hHeld ⊢
   refine yO 0 (some 14) (b 20 1) fun K hK => ?_
   refine xc Tryd.func14 (insolvencylaw18_awake.calls kj2  false _ A16.out) ?_
   rintro w39 hb
   replace BK984 := xB BK984 hb
   replace HB := xS HB hb
   clear hb
   refine hK.out _ _ trivial (fun hHeld => ?_)
   clear hK K
   refine xN 14 ?_
   refine yP 1 (some 15) (b 20 3) ?_
   refine yU 2 (some 16) (b 20 7) ?_
   refine yU 3 (some 17) (b 20 15) ?_
   refine yU 4 (some 18) (b 20 31) ?_
   refine yU 5 (some 19) (b 20 63) ?_
   refine yU 6 (some 20) (b 20 127) ?_
   refine yU 7 (some 21) (b 20 255) ?_
   refine yU 8 (some 22) (b 20 511) ?_
   refine yP 9 (some 23) (b 20 1023) ?_
   refine yP 10 (some 24) (b 20 2047) ?_
   refine yU 11 (some 25) (b 20 4095) ?_
   refine yU 12 (some 26) (b 20 8191) ?_
   refine yU 13 (some 27) (b 20 16383) ?_
   refine yU 14 (some 28) (b 20 32767) ?_
   refine yU 15 (some 29) (b 20 65535) ?_
   refine yU 16 (some 30) (b 20 131071) ?_
   refine yU 17 (some 31) (b 20 262143) ?_
   refine yP 18 (some 32) (b 20 524287) ?_
   refine yP 19 (some 4) (b 20 1048575) ?_
   refine done_ (done_of HT_.out (by kernel_rfl)) ?_
   try go_wp2
   go_ret
   exact ⟨xy, xs HB⟩
end
end Go.Proofs.YtpoogjcgjpkbeaaDoor.XA
