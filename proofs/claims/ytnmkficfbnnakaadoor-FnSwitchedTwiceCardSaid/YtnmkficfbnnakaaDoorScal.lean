/- contracts of small functions on numbers: ranges, widths, switches -/
import Derived.Test.YtnmkficfbnnakaaDoorChecked
import Derived.Test.YtnmkficfbnnakaaDoorMem
namespace Go.Proofs.YtnmkficfbnnakaaDoor
open Go.RowKit
def inB (n lo hi : Int) : Bool := decide (lo ≤ n ∧ n ≤ hi)
theorem inB_true {n lo hi : Int} (h1 : lo ≤ n) (h2 : n ≤ hi) : inB n lo hi = true := by simp [inB, h1, h2]
theorem inB_lo {n lo hi : Int} (h1 : n < lo) : inB n lo hi = false := by simp [inB]; omega
theorem inB_hi {n lo hi : Int} (h1 : hi < n) : inB n lo hi = false := by simp [inB]; omega
theorem inB_iff {n lo hi : Int} : inB n lo hi = true ↔ lo ≤ n ∧ n ≤ hi := by simp [inB]
theorem inB_not {n lo hi : Int} : inB n lo hi = false ↔ n < lo ∨ hi < n := by simp [inB]; omega
theorem in_any (n lo hi : Int) (w : World) : Calls Tryd.prog 32 #[.int .i64 n, .int .i64 lo, .int .i64 hi] w fun e w' => e = .returned (.bool (inB n lo hi)) ∧ w = w' := by
  by_cases h1 : lo ≤ n
  · by_cases h2 : n ≤ hi
    · rw [inB_true h1 h2]
      go_enter Tryd.func32, Tryd.ntmps32
      go_wp2
      go_ret
      exact ⟨rfl, rfl⟩
    · rw [inB_hi (by omega)]
      have h3 : decide (n ≤ hi) = false := by simpa using h2
      go_enter Tryd.func32, Tryd.ntmps32
      go_wp2
      go_ret
      exact ⟨rfl, rfl⟩
  · rw [inB_lo (by omega)]
    have h3 : decide (lo ≤ n) = false := by simpa using h1
    go_enter Tryd.func32, Tryd.ntmps32
    go_wp2
    go_ret
    exact ⟨rfl, rfl⟩
theorem l1In_any (n lo hi : Int) (w : World) : Calls Tryd.prog 28 #[.int .i64 n, .int .i64 lo, .int .i64 hi] w fun e w' => e = .returned (.bool (inB n lo hi)) ∧ w = w' := by
  by_cases h1 : lo ≤ n
  · by_cases h2 : n ≤ hi
    · rw [inB_true h1 h2]
      go_enter Tryd.func28, Tryd.ntmps28
      go_wp2
      go_ret
      exact ⟨rfl, rfl⟩
    · rw [inB_hi (by omega)]
      have h3 : decide (n ≤ hi) = false := by simpa using h2
      go_enter Tryd.func28, Tryd.ntmps28
      go_wp2
      go_ret
      exact ⟨rfl, rfl⟩
  · rw [inB_lo (by omega)]
    have h3 : decide (lo ≤ n) = false := by simpa using h1
    go_enter Tryd.func28, Tryd.ntmps28
    go_wp2
    go_ret
    exact ⟨rfl, rfl⟩
/-- 1, 2, 4 or 8 -/
def wideB (n : Int) : Bool := n == 1 || n == 2 || n == 4 || n == 8
def swc (n : Int) : Int := if n = 1 then 0 else if n = 2 then 1 else if n = 4 then 6 else if n = 8 then 20 else -1
theorem wide_cases (n : Int) : n = 1 ∨ n = 2 ∨ n = 4 ∨ n = 8 ∨ ((n == 1) = false ∧ (n == 2) = false ∧ (n == 4) = false ∧ (n == 8) = false) := by
  simp; omega
theorem wide_no {n : Int} (h : (n == 1) = false ∧ (n == 2) = false ∧ (n == 4) = false ∧ (n == 8) = false) : wideB n = false ∧ swc n = -1 := by
  obtain ⟨h1, h2, h3, h4⟩ := h
  refine ⟨by simp [wideB, h1, h2, h3, h4], ?_⟩
  simp at h1 h2 h3 h4
  simp [swc, h1, h2, h3, h4]
theorem isWide_any (n : Int) (w : World) : Calls Tryd.prog 20 #[.int .i64 n] w fun e w' => e = .returned (.bool (wideB n)) ∧ w = w' := by
  rcases wide_cases n with rfl | rfl | rfl | rfl | h
  case inr.inr.inr.inr =>
    rw [(wide_no h).1]
    obtain ⟨h1, h2, h3, h4⟩ := h
    go_enter Tryd.func20, Tryd.ntmps20
    go_wp2
    go_ret
    exact ⟨rfl, rfl⟩
  all_goals
    go_enter Tryd.func20, Tryd.ntmps20
    go_wp2
    go_ret
    exact ⟨rfl, rfl⟩
theorem spec_sw_1 (w : World) : Calls Tryd.prog 19 #[.int .i64 1] w fun e w' => e = .returned (.int .i64 0) ∧ w = w' := by
  go_enter Tryd.func19, Tryd.ntmps19
  go_wp2
  go_ret
  exact ⟨rfl, rfl⟩
theorem spec_sw_2 (w : World) : Calls Tryd.prog 19 #[.int .i64 2] w fun e w' => e = .returned (.int .i64 1) ∧ w = w' := by
  go_enter Tryd.func19, Tryd.ntmps19
  go_wp2
  go_ret
  exact ⟨rfl, rfl⟩
theorem spec_sw_4 (w : World) : Calls Tryd.prog 19 #[.int .i64 4] w fun e w' => e = .returned (.int .i64 6) ∧ w = w' := by
  go_enter Tryd.func19, Tryd.ntmps19
  go_wp2_with (go_at_call 19; refine (spec_sw_2 _).mono ?_; rintro e w' ⟨rfl, rfl⟩)
  go_ret
  exact ⟨rfl, rfl⟩
theorem spec_sw_8 (w : World) : Calls Tryd.prog 19 #[.int .i64 8] w fun e w' => e = .returned (.int .i64 20) ∧ w = w' := by
  go_enter Tryd.func19, Tryd.ntmps19
  go_wp2_with (go_at_call 19; refine (spec_sw_4 _).mono ?_; rintro e w' ⟨rfl, rfl⟩)
  go_ret
  exact ⟨rfl, rfl⟩
theorem spec_sw_any (n : Int) (w : World) : Calls Tryd.prog 19 #[.int .i64 n] w fun e w' => e = .returned (.int .i64 (swc n)) ∧ w = w' := by
  rcases wide_cases n with rfl | rfl | rfl | rfl | h
  · exact spec_sw_1 w
  · exact spec_sw_2 w
  · exact spec_sw_4 w
  · exact spec_sw_8 w
  · rw [(wide_no h).2]
    obtain ⟨h1, h2, h3, h4⟩ := h
    go_enter Tryd.func19, Tryd.ntmps19
    go_wp2
    go_ret
    exact ⟨rfl, rfl⟩
theorem switches_1 (w : World) : Calls Tryd.prog 29 #[.int .i64 1] w fun e w' => e = .returned (.int .i64 0) ∧ w = w' := by
  go_enter Tryd.func29, Tryd.ntmps29
  go_wp2
  go_ret
  exact ⟨rfl, rfl⟩
theorem switches_2 (w : World) : Calls Tryd.prog 29 #[.int .i64 2] w fun e w' => e = .returned (.int .i64 1) ∧ w = w' := by
  go_enter Tryd.func29, Tryd.ntmps29
  go_wp2
  go_ret
  exact ⟨rfl, rfl⟩
theorem switches_4 (w : World) : Calls Tryd.prog 29 #[.int .i64 4] w fun e w' => e = .returned (.int .i64 6) ∧ w = w' := by
  go_enter Tryd.func29, Tryd.ntmps29
  go_wp2_with (go_at_call 29; refine (switches_2 _).mono ?_; rintro e w' ⟨rfl, rfl⟩)
  go_ret
  exact ⟨rfl, rfl⟩
theorem switches_8 (w : World) : Calls Tryd.prog 29 #[.int .i64 8] w fun e w' => e = .returned (.int .i64 20) ∧ w = w' := by
  go_enter Tryd.func29, Tryd.ntmps29
  go_wp2_with (go_at_call 29; refine (switches_4 _).mono ?_; rintro e w' ⟨rfl, rfl⟩)
  go_ret
  exact ⟨rfl, rfl⟩
theorem switches_wide (n : Int) (w : World) (h : wideB n = true) : Calls Tryd.prog 29 #[.int .i64 n] w fun e w' => e = .returned (.int .i64 (swc n)) ∧ w = w' := by
  rcases wide_cases n with rfl | rfl | rfl | rfl | h'
  · exact switches_1 w
  · exact switches_2 w
  · exact switches_4 w
  · exact switches_8 w
  · rw [(wide_no h').1] at h; cases h
theorem impl_sw_any (n : Int) (w : World) : Calls Tryd.prog 16 #[.int .i64 n] w fun e w' => e = .returned (.int .i64 (swc n)) ∧ w = w' := by
  cases hb : wideB n
  · have hs : swc n = -1 := by
      rcases wide_cases n with rfl | rfl | rfl | rfl | h
      · cases hb
      · cases hb
      · cases hb
      · cases hb
      · exact (wide_no h).2
    rw [hs]
    have H := Lib.hid hb
    clear hb hs
    go_enter Tryd.func16, Tryd.ntmps16
    go_wp2_with (go_at_call 20; refine (isWide_any _ _).mono ?_; rw [H.out]; rintro e w' ⟨rfl, rfl⟩)
    go_ret
    exact ⟨rfl, rfl⟩
  · have H := Lib.hid hb
    clear hb
    go_enter Tryd.func16, Tryd.ntmps16
    go_wp2_with (first | (go_at_call 20; refine (isWide_any _ _).mono ?_; rw [H.out]; rintro e w' ⟨rfl, rfl⟩) | (go_at_call 29; refine (switches_wide _ _ H.out).mono ?_; rintro e w' ⟨rfl, rfl⟩))
    go_ret
    exact ⟨rfl, rfl⟩
end Go.Proofs.YtnmkficfbnnakaaDoor
