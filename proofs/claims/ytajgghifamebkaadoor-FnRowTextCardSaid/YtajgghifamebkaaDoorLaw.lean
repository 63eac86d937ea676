/- what the walks of the drawn laws share -/
import Derived.Test.YtajgghifamebkaaDoorDraw
import Derived.Test.YtajgghifamebkaaDoorInts
namespace Go.Proofs.YtajgghifamebkaaDoor
set_option linter.unusedSimpArgs false
set_option linter.unusedVariables false
open Go.RowKit
def LawOk (w : World) (e : Ending) (w' : World) : Prop := e = .returned (.bool true) ∧ Below w.heap.size w w'
theorem bts_lit {w : World} {v : Value} {bs : List Int} (h : Bts w v bs) : ∃ ad c, v = .slice ad bs.length c ∧ bs.length ≤ 9223372036854775807 := by
  obtain ⟨ad, c, hv⟩ := h.open
  refine ⟨ad, c, ?_, ?_⟩
  · rcases hv with ⟨hv, _⟩ | ⟨rfl, hv⟩
    · exact hv
    · exact hv
  · rcases hv with ⟨_, hm, _⟩ | ⟨rfl, _⟩
    · unfold maxLen at hm; omega
    · simp
theorem Ints.drewN {w : World} {v : Value} {xs : List Int} (h : Ints w v xs) (n : Nat) : Ints (w.drewN n) v xs := h.mono (below_drewN (Below.refl _ _) n) (Nat.le_refl _)
theorem Bools.drewN {w : World} {v : Value} {xs : List Bool} (h : Bools w v xs) (n : Nat) : Bools (w.drewN n) v xs := h.mono (below_drewN (Below.refl _ _) n) (Nat.le_refl _)
/-- a callee that only reads, inside a region that draws -/
theorem quiet_of {P : Program} {f : FuncId} {args : Array Value} {w : World} {n : Nat} {v v' : Value}
    (h : Calls P f args (w.drewN n) fun e w' => e = .returned v ∧ w.drewN n = w') (hv : v = v') : Calls P f args (w.drewN n) fun e w'' => e = .returned v' ∧ ∃ m, w'' = w.drewN m :=
  h.mono fun _ _ ⟨he, hm⟩ => ⟨by rw [he, hv], n, hm.symm⟩
end Go.Proofs.YtajgghifamebkaaDoor
