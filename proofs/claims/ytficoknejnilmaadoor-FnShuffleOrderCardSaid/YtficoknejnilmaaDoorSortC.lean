/- contracts of cmp.Compare at ints and of the comparison of tags -/
import Derived.Test.YtficoknejnilmaaDoorSortP
import Derived.Test.YtficoknejnilmaaDoorRes
import Derived.Shelf.Abstract
namespace Go.Proofs.YtficoknejnilmaaDoor
open Go.RowKit
def cmpI (x y : Int) : Int := if x < y then -1 else if y < x then 1 else 0
theorem cmpI_neg {x y : Int} : cmpI x y < 0 ↔ x < y := by unfold cmpI; split <;> (try split) <;> omega
theorem isNaN_int (x : Int) (w : World) : Calls Tryd.prog 29 #[.int .i64 x] w fun e w' => e = .returned (.bool false) ∧ w = w' := by
  have h : (x != x) = false := by simp
  go_enter Tryd.func29, Tryd.ntmps29
  go_wp2
  go_ret
  exact ⟨rfl, rfl⟩
theorem compare_int (x y : Int) (w : World) : Calls Tryd.prog 24 #[.int .i64 x, .int .i64 y] w fun e w' => e = .returned (.int .i64 (cmpI x y)) ∧ w = w' := by
  by_cases h1 : x < y
  · have HC : Hid (cmpI x y = -1) := by unfold Hid cmpI; rw [if_pos h1]
    go_enter Tryd.func24, Tryd.ntmps24
    go_wp2_with (go_at_call 29; refine (isNaN_int _ _).mono ?_; rintro e w' ⟨rfl, rfl⟩)
    go_ret
    exact ⟨ret_int HC.out.symm, rfl⟩
  · have h1' : decide (x < y) = false := by simpa using h1
    by_cases h2 : y < x
    · have HC : Hid (cmpI x y = 1) := by unfold Hid cmpI; rw [if_neg h1, if_pos h2]
      go_enter Tryd.func24, Tryd.ntmps24
      go_wp2_with (go_at_call 29; refine (isNaN_int _ _).mono ?_; rintro e w' ⟨rfl, rfl⟩)
      go_ret
      exact ⟨ret_int HC.out.symm, rfl⟩
    · have h2' : decide (y < x) = false := by simpa using h2
      have HC : Hid (cmpI x y = 0) := by unfold Hid cmpI; rw [if_neg h1, if_neg h2]
      go_enter Tryd.func24, Tryd.ntmps24
      go_wp2_with (go_at_call 29; refine (isNaN_int _ _).mono ?_; rintro e w' ⟨rfl, rfl⟩)
      go_ret
      exact ⟨ret_int HC.out.symm, rfl⟩
/-- the tag of a place -/
def tg (T : List Int) (x : Nat) : Int := T[x]?.getD 0
theorem iv_tg (T : List Int) (x : Nat) : iv T x = .int .i64 (tg T x) := rfl
theorem quiet_at {P : Program} {f : FuncId} {args : Array Value} {w : World} {n : Nat} {v v' : Value}
    (h : Calls P f args (w.drewN n) fun e w' => e = .returned v ∧ w.drewN n = w') (hv : v = v') : Calls P f args (w.drewN n) fun e w'' => e = .returned v' ∧ ∃ m, w'' = w.drewN m :=
  h.mono fun _ _ ⟨he, hm⟩ => ⟨by rw [he, hv], n, hm.symm⟩
theorem closure_any (bt : Nat) (tv : Value) (T : List Int) (x y : Nat) (w : World) (hb : w.cell? ⟨bt, 0, none⟩ = some tv) (hT : Ints w tv T) (hx : x < T.length) (hy : y < T.length) :
    Calls Tryd.prog 23 #[.int .i64 x, .int .i64 y, .pointer (some ⟨bt, 0, none⟩)] w fun e w' => e = .returned (.int .i64 (cmpI (tg T x) (tg T y))) ∧ ∃ q, w' = w.drewN q := by
  obtain ⟨ad, c, rfl, hmax, hop⟩ := hT.open
  unfold maxLen at hmax
  obtain ⟨b, off, rfl, hcell⟩ := hop x hx
  have c1 := hcell x hx
  have c2 := hcell y hy
  rw [iv_tg] at c1 c2
  clear hcell hop hT
  have h1 : (x : Int) < T.length := by omega
  have h2 : (y : Int) < T.length := by omega
  go_enter Tryd.func23, Tryd.ntmps23
  go_wp2
  go_quiet (first | exact quiet_at (compare_int _ _ _) rfl)
  go_wp2
  go_ret
  exact ⟨rfl, _, rfl⟩
end Go.Proofs.YtficoknejnilmaaDoor
