/- Words of my own: a window (whole numbers of 32 bits) of a row of the call's own, read and written. -/
import Derived.Test.YtpoogjcgjpkbeaaDoorWMine
import Derived.Test.YtpoogjcgjpkbeaaDoorWKept
import Derived.Test.YtpoogjcgjpkbeaaDoorWMore
import Derived.Test.YtpoogjcgjpkbeaaDoorWAt
namespace Go.Proofs.YtpoogjcgjpkbeaaDoorW.PrintWords
open Go.RowKit
open Go.Proofs.YtpoogjcgjpkbeaaDoorW.PrintLast Go.Proofs.YtpoogjcgjpkbeaaDoorW.PrintMore
namespace Kd
/-- v is the part xs, behind pre and ahead of post, of a row of the call's own. -/
def Wn (u : Value) (pre post : List Int) (e : Nat) (w : World) (base : Nat) (ok : Nat → Prop) (v : Value) (xs : List Int) : Prop :=
  ∃ g c N C, u = .slice (some ⟨g, 0, none⟩) N C ∧ v = .slice (some ⟨g, pre.length, none⟩) xs.length c ∧ xs.length ≤ c ∧ 0 < xs.length ∧ (Kd.int .u32).R e w base ok u (pre ++ xs ++ post)
section
variable {pre post xs : List Int} {e : Nat} {w w' : World} {base : Nat} {ok ok' : Nat → Prop} {u v : Value}
theorem add_at (g a j : Nat) : (⟨g, a, none⟩ : Addr).add j = ⟨g, a + j, none⟩ := by unfold Addr.add; split <;> simp_all
theorem add_block (ad : Addr) (j : Nat) : (ad.add j).block = ad.block := by unfold Addr.add; split <;> rfl
end
/-- A row that lies apart from a block is in no cell of it. -/
theorem V_blk {k : IntKind} {e base n c g : Nat} {W : World} {ok : Nat → Prop} {ad : Addr} {xs : List Int} (h : Kd.V (Kd.int k) e W base ok (.slice (some ad) n c) xs) {i : Int} (h0 : 0 ≤ i) (h1 : i < (xs.length : Int)) (hok : ∀ k, ok k → k ≠ g) : ad.block ≠ g := by
  intro hg
  obtain ⟨ad1, e1, hc⟩ := Kd.at_int (V_reads' h).2.2 i h0 h1
  cases e1
  have hb : (ad.add i.toNat).block = g := by rw [add_block]; exact hg
  have h2 := V_far h (p := ad.add i.toNat) (fun k hk => by rw [hb]; exact hok k hk) (Value.bool true)
  obtain ⟨ad2, e2, hc2⟩ := Kd.at_int (V_reads' h2).2.2 i h0 h1
  cases e2
  rw [World.cell?_setCell_same (h := hc)] at hc2
  cases hc2
end Kd
end Go.Proofs.YtpoogjcgjpkbeaaDoorW.PrintWords
