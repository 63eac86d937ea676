/- how many blocks a memory has -/
import Derived.Test.YtbnplohlfiefhaaDoorRun
namespace Go.Proofs.YtbnplohlfiefhaaDoor
open Go.RowKit
def many (X : Nat → List (Int × Int × Int)) : Nat → Nat
  | 0 => (X 0).length
  | k + 1 => many X k + (X (k + 2)).length
theorem many_all {X : Nat → List (Int × Int × Int)} (h : RunOk X) : many X 7 = 8 := by
  have h8 : (allL X).length = 8 := h.valid.eight
  rw [allL_eq] at h8
  simp only [List.length_append] at h8
  have e : many X 7 = (X 0).length + (X 2).length + (X 3).length + (X 4).length + (X 5).length + (X 6).length + (X 7).length + (X 8).length := rfl
  rw [e]; omega
theorem many_le {X : Nat → List (Int × Int × Int)} (h : RunOk X) : ∀ k, k ≤ 7 → many X k ≤ 8 := fun k hk => by
  have h7 := many_all h
  have hm : ∀ a b, a ≤ b → many X a ≤ many X b := fun a b hab => by
    induction b with
    | zero =>
      obtain rfl : a = 0 := by omega
      exact Nat.le_refl _
    | succ b ih =>
      by_cases e : a = b + 1
      · subst e; exact Nat.le_refl _
      · exact Nat.le_trans (ih (by omega)) (Nat.le_add_right _ _)
  exact Nat.le_trans (hm k 7 hk) (Nat.le_of_eq h7)
end Go.Proofs.YtbnplohlfiefhaaDoor
