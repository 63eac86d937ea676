/- the walk of FnExactLookupValue -/
import Derived.Test.YtgapjgmkkmdadaaLook
import Derived.Test.YtgapjgmkkmdadaaMem
namespace Go.Proofs.Ytgapjgmkkmdadaa
open Go.RowKit
set_option maxHeartbeats 1000000 in
theorem walk_FnExactLookupValue (w : World) (a : Int) (ha : Fit a) (b : Int) (hb : Fit b) :
    Calls Try.prog 4 #[.int .i64 a, .int .i64 b] w fun e w' => e = .returned (.bool true) ∧ Below w.heap.size w w' := by
  clear ha
  clear hb
  have B0 := Lib.hid (Below.refl w.heap.size w)
  go_enter Try.func4, Try.ntmps4
  have hs0 : ((lookV a b) != (lookV a b)) = false := by simp
  go_wp2_with fail
  refine (spec_LookupValue_own a b _ ).mono ?_
  rintro e w1 ⟨rfl, hb⟩
  have B1 := nxt B0 hb
  clear hb B0
  go_wp2_with fail
  refine (impl_LookupValue_own a b _ ).mono ?_
  rintro e w2 ⟨rfl, hb⟩
  have B2 := nxt B1 hb
  clear hb B1
  go_wp2
  go_ret
  exact ⟨rfl, B2.out⟩
end Go.Proofs.Ytgapjgmkkmdadaa
