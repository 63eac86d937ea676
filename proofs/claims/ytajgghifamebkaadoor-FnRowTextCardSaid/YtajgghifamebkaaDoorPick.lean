/- what the draws share: a number out of a written list -/
import Derived.Test.YtajgghifamebkaaDoorDrawN
import Derived.Test.YtajgghifamebkaaDoorRes
import Derived.Test.YtajgghifamebkaaDoorLaw
namespace Go.Proofs.YtajgghifamebkaaDoor
set_option linter.unusedSimpArgs false
set_option linter.unusedVariables false
open Go.RowKit
theorem some_ne {a b : Nat} (h : a ≠ b) : (some a : Option Nat) ≠ some b := fun e => h (Option.some.inj e)
theorem grown_drew {w w' : World} {b : Option Nat} (h : w.drew.grownBy w' b) : w.grownBy w' b := ⟨h.os, h.tape, h.output, h.size, h.block⟩
theorem row_at {w : World} {g : Nat} {e : TypeId} {l : List Int} (h : Row w g e (ints l)) {P : Int → Prop} (hP : ∀ x ∈ l, P x) {i : Nat} (hi : i < l.length) : ∃ y, w.cell? ⟨g, i, none⟩ = some (.int .i64 y) ∧ P y := by
  refine ⟨l[i], h.cell (by simp [ints, hi]), hP _ (List.getElem_mem hi)⟩
/-- the same, the number natural and below n -/
theorem row_nat {w : World} {g : Nat} {e : TypeId} {l : List Int} (h : Row w g e (ints l)) {n : Nat} (hP : ∀ x ∈ l, 0 ≤ x ∧ x < n) {i : Nat} (hi : i < l.length) : ∃ y : Nat, w.cell? ⟨g, i, none⟩ = some (.int .i64 y) ∧ y < n := by
  obtain ⟨y, h1, h2, h3⟩ := row_at h hP hi
  obtain ⟨z, rfl⟩ := Int.eq_ofNat_of_zero_le h2
  exact ⟨z, h1, by omega⟩
theorem gr_cellI {w : World} {B : Nat} {e : TypeId} {g c n : Nat} {xs : List Int} (h : Gr w B e 1 (.slice (some ⟨g, 0, none⟩) n c) n (ints xs)) {P : Int → Prop} (hP : ∀ x ∈ xs, P x) {i : Nat} (hi : i < n) : ∃ y, w.cell? ⟨g, i, none⟩ = some (.int .i64 y) ∧ P y := by
  have hl := h.len
  rw [ints_length, Nat.mul_one] at hl
  obtain ⟨g', c', hv, _, _, _, _, hcl, _⟩ := h.at (by omega)
  cases hv
  have hi' : i < xs.length := by omega
  exact ⟨xs[i], hcl i _ (by simp [ints, hi']), hP _ (List.getElem_mem hi')⟩
/-- one number drawn -/
def DrawnInt (lo hi : Int) (w : World) (e : Ending) (w' : World) : Prop := ∃ m : Int, e = .returned (.int .i64 m) ∧ lo ≤ m ∧ m ≤ hi ∧ Below w.heap.size w w'
end Go.Proofs.YtajgghifamebkaaDoor
