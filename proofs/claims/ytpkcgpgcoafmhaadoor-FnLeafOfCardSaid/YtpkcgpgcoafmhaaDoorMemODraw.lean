/- the draw of values and leaves -/
import Derived.Test.YtpkcgpgcoafmhaaDoorDrawN
import Derived.Test.YtpkcgpgcoafmhaaDoorLaw
import Derived.Test.YtpkcgpgcoafmhaaDoorInts
import Derived.Test.YtpkcgpgcoafmhaaDoorRes
import Derived.Test.YtpkcgpgcoafmhaaDoorApp
namespace Go.Proofs.YtpkcgpgcoafmhaaDoor
open Go.RowKit
def DrawnOf (w : World) (e : Ending) (w' : World) : Prop :=
  ∃ u v xs ys, e = .returned (.tuple #[u, v]) ∧ Ints w' u xs ∧ Ints w' v ys ∧ xs.length ≤ 8 ∧ ys.length ≤ 9 ∧ Below w.heap.size w w'
theorem ints_drop {w : World} {g k c : Nat} {xs : List Int} (h : View w 1 (.slice (some ⟨g, 0, none⟩) (k + 1) c) (k + 1) (ints xs)) (hl : xs.length = k + 1) (hk : 0 < k) : Ints w (.slice (some ⟨g, 1, none⟩) k (c - 1)) (xs.drop 1) := by
  obtain ⟨h1, h2, h3⟩ := h
  have hdl : (xs.drop 1).length = k := by rw [List.length_drop]; omega
  unfold Ints
  rw [hdl]
  refine ⟨by rw [ints_length, hdl]; omega, by omega, ?_⟩
  rcases h3 with ⟨h3, _⟩ | ⟨h3, b, off, c, hv, hc, hcell⟩
  · omega
  · cases hv
    refine .inr ⟨by omega, g, 1, _, rfl, by omega, fun i u hu => ?_⟩
    have hu' : (ints xs)[1 + i]? = some u := by
      unfold ints at hu ⊢
      rw [List.map_drop, List.getElem?_drop] at hu; exact hu
    have := hcell _ u hu'
    rwa [show 0 + (1 + i) = 1 + i by omega] at this
end Go.Proofs.YtpkcgpgcoafmhaaDoor
