/- contracts of small functions on numbers: ranges, widths, switches -/
import Derived.Test.YtajgghifamebkaaDoorChecked
import Derived.Test.YtajgghifamebkaaDoorMem
namespace Go.Proofs.YtajgghifamebkaaDoor
set_option linter.unusedSimpArgs false
set_option linter.unusedVariables false
open Go.RowKit
def inB (n lo hi : Int) : Bool := decide (lo ≤ n ∧ n ≤ hi)
theorem inB_true {n lo hi : Int} (h1 : lo ≤ n) (h2 : n ≤ hi) : inB n lo hi = true := by simp [inB, h1, h2]
theorem inB_lo {n lo hi : Int} (h1 : n < lo) : inB n lo hi = false := by simp [inB]; omega
theorem inB_hi {n lo hi : Int} (h1 : hi < n) : inB n lo hi = false := by simp [inB]; omega
theorem inB_iff {n lo hi : Int} : inB n lo hi = true ↔ lo ≤ n ∧ n ≤ hi := by simp [inB]
theorem inB_not {n lo hi : Int} : inB n lo hi = false ↔ n < lo ∨ hi < n := by simp [inB]; omega
theorem in_any (n lo hi : Int) (w : World) : Calls Tryd.prog 46 #[.int .i64 n, .int .i64 lo, .int .i64 hi] w fun e w' => e = .returned (.bool (inB n lo hi)) ∧ w = w' := by
  by_cases h1 : lo ≤ n
  · by_cases h2 : n ≤ hi
    · rw [inB_true h1 h2]
      go_enter Tryd.func46, Tryd.ntmps46
      go_wp2
      go_ret
      exact ⟨rfl, rfl⟩
    · rw [inB_hi (by omega)]
      have h3 : decide (n ≤ hi) = false := by simpa using h2
      go_enter Tryd.func46, Tryd.ntmps46
      go_wp2
      go_ret
      exact ⟨rfl, rfl⟩
  · rw [inB_lo (by omega)]
    have h3 : decide (lo ≤ n) = false := by simpa using h1
    go_enter Tryd.func46, Tryd.ntmps46
    go_wp2
    go_ret
    exact ⟨rfl, rfl⟩
theorem l1In_any (n lo hi : Int) (w : World) : Calls Tryd.prog 29 #[.int .i64 n, .int .i64 lo, .int .i64 hi] w fun e w' => e = .returned (.bool (inB n lo hi)) ∧ w = w' := by
  by_cases h1 : lo ≤ n
  · by_cases h2 : n ≤ hi
    · rw [inB_true h1 h2]
      go_enter Tryd.func29, Tryd.ntmps29
      go_wp2
      go_ret
      exact ⟨rfl, rfl⟩
    · rw [inB_hi (by omega)]
      have h3 : decide (n ≤ hi) = false := by simpa using h2
      go_enter Tryd.func29, Tryd.ntmps29
      go_wp2
      go_ret
      exact ⟨rfl, rfl⟩
  · rw [inB_lo (by omega)]
    have h3 : decide (lo ≤ n) = false := by simpa using h1
    go_enter Tryd.func29, Tryd.ntmps29
    go_wp2
    go_ret
    exact ⟨rfl, rfl⟩
/-- 1, 2, 4 or 8 -/
def wideB (n : Int) : Bool := n == 1 || n == 2 || n == 4 || n == 8
def swc (n : Int) : Int := if n = 1 then 0 else if n = 2 then 1 else if n = 4 then 6 else if n = 8 then 20 else -1
theorem wide_cases (n : Int) : n = 1 ∨ n = 2 ∨ n = 4 ∨ n = 8 ∨ ((n == 1) = false ∧ (n == 2) = false ∧ (n == 4) = false ∧ (n == 8) = false) := by
  simp; omega
theorem wide_no {n : Int} (h : (n == 1) = false ∧ (n == 2) = false ∧ (n == 4) = false ∧ (n == 8) = false) : wideB n = false ∧ swc n = -1 := by
  obtain ⟨h1, h2, h3, h4⟩ := h
  refine ⟨by simp [wideB, h1, h2, h3, h4], ?_⟩
  simp at h1 h2 h3 h4
  simp [swc, h1, h2, h3, h4]
end Go.Proofs.YtajgghifamebkaaDoor
