/- draws of lists: numbers, marks; the reader kept over other writing -/
import Derived.Test.YtajgghifamebkaaDoorDraw
import Derived.Test.YtajgghifamebkaaDoorApp
import Derived.Test.YtajgghifamebkaaDoorInts
namespace Go.Proofs.YtajgghifamebkaaDoor
set_option linter.unusedSimpArgs false
set_option linter.unusedVariables false
open Go.RowKit
theorem Rd.low {w : World} {R v bs p} (h : Rd w R v bs p) : R < w.heap.size ∧ (0 < bs.length → ∀ g, v.ownBlock = some g → g < w.heap.size) := by
  obtain ⟨hr, hb, hl, hne⟩ := h
  refine ⟨hr.lt, fun h0 g hg => ?_⟩
  obtain ⟨h1, h2, ⟨h3, _⟩ | ⟨h3, b, off, c, hv, hc, hcell⟩⟩ := hb.1
  · omega
  · rw [hv] at hg
    cases hg
    exact World.block_lt_of_cell? w _ (hcell 0 _ (List.getElem?_eq_getElem (by simp [u8s]; omega)))
/-- what is written from B on leaves the reader -/
theorem Rd.below {w w' : World} {R v bs p} (h : Rd w R v bs p) {B : Nat} (hb : Below B w w') (hR : R < B) (hv : 0 < bs.length → ∀ g, v.ownBlock = some g → g < B) : Rd w' R v bs p := by
  obtain ⟨hr, hbs, hl, hne⟩ := h
  refine ⟨hr.mono hb hR, ⟨?_, hbs.2⟩, hl, hne⟩
  obtain ⟨h1, h2, h3 | ⟨h3, b, off, c, hvv, hc, hcell⟩⟩ := hbs.1
  · exact ⟨h1, h2, .inl h3⟩
  · refine ⟨h1, h2, .inr ⟨h3, b, off, c, hvv, hc, fun i u hu => ?_⟩⟩
    rw [hb.cell (p := ⟨b, off + i, none⟩) (hv h3 b (by rw [hvv]; rfl))]
    exact hcell i u hu
/-- a draw of one number below n -/
def PickN (n : Nat) (R : Nat) (v : Value) (bs : List Int) (p : Nat) (w : World) (e : Ending) (w' : World) : Prop :=
  ∃ x : Nat, e = .returned (.int .i64 x) ∧ x < n ∧ Rd w' R v bs ((p + 1 : Nat) : Int) ∧ w.grownBy w' (some R)
theorem pick_nat (R : Nat) (v : Value) (bs : List Int) (n p : Nat) (w : World) (h : Rd w R v bs p) (hp : p ≤ 1000000000000) (hn : 0 < n) :
    Calls Tryd.prog 26 #[.pointer (some ⟨R, 0, none⟩), .int .i64 n] w (PickN n R v bs p w) :=
  (pick_any R v bs n p w h hp).mono fun e w' ⟨x, he, x0, x1, _, hr, hg, _⟩ => by
    obtain ⟨y, rfl⟩ := Int.eq_ofNat_of_zero_le x0
    exact ⟨y, he, by have := x1 (by omega); omega, h.next hr hg, hg⟩
end Go.Proofs.YtajgghifamebkaaDoor
