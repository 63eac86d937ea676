/- the posts of functions that make one list -/
import Derived.Test.YtajgghifamebkaaDoorApp
import Derived.Test.YtajgghifamebkaaDoorInts
import Derived.StillTailTactics
namespace Go.Proofs.YtajgghifamebkaaDoor
set_option linter.unusedSimpArgs false
set_option linter.unusedVariables false
open Go.RowKit
/-- one list of ints of the call's own; nothing that was there has turned -/
def IntsPost (xs : List Int) (w : World) (e : Ending) (w' : World) : Prop := ∃ u, e = .returned u ∧ Gr w' w.heap.size 3 1 u xs.length (ints xs) ∧ Below w.heap.size w w'
theorem ints_own {xs : List Int} {w w' : World} {e : Ending} (h : IntsPost xs w e w') : ∃ v b, e = .returned v ∧ OwnI w' b v xs ∧ From w.heap.size b ∧ Below w.heap.size w w' := by
  obtain ⟨u, he, hg, hb⟩ := h
  obtain ⟨b, h1, h2, _⟩ := hg.own
  exact ⟨u, b, he, h1, h2, hb⟩
/-- .. and a bool -/
def IntsBoolPost (xs : List Int) (t : Bool) (w : World) (e : Ending) (w' : World) : Prop := ∃ u, e = .returned (.tuple #[u, .bool t]) ∧ Gr w' w.heap.size 3 1 u xs.length (ints xs) ∧ Below w.heap.size w w'
theorem intsBool_own {xs : List Int} {t : Bool} {w w' : World} {e : Ending} (h : IntsBoolPost xs t w e w') : ∃ v b, e = .returned (.tuple #[v, .bool t]) ∧ OwnI w' b v xs ∧ From w.heap.size b ∧ Below w.heap.size w w' := by
  obtain ⟨u, he, hg, hb⟩ := h
  obtain ⟨b, h1, h2, _⟩ := hg.own
  exact ⟨u, b, he, h1, h2, hb⟩
theorem Gr.ints {w : World} {B u n} {xs : List Int} (h : Gr w B 3 1 u n (ints xs)) (hn : n = xs.length) : Ints w u xs := by
  subst hn; exact h.view
theorem Gr.block {w : World} {B e sz : Nat} {v : Value} {m : Nat} {cs : List Value} (h : Gr w B e sz v m cs) (hm : 0 < m) : ∀ a n c, v = .slice (some a) n c → B ≤ a.block := by
  rintro a n c rfl
  rcases h with ⟨_, ⟨_, h0⟩ | ⟨g, cap, cur, hv, hB, _⟩⟩ | ⟨h0, _⟩
  · omega
  · cases hv; exact hB
  · omega
theorem tabI_snoc {n : Nat} {f : Nat → Int} {x : Int} (h : f n = x) : ints (tab n f) ++ [.int .i64 x] = ints (tab (n + 1) f) := by
  subst h; simp [ints, tab, List.range_succ]
theorem iv_tab {n i : Nat} (f : Nat → Int) (h : i < n) : iv (tab n f) i = .int .i64 (f i) := by simp [iv, tab_get _ h]
theorem bools_tabf (n : Nat) (f : Nat → Bool) : bools (tab n f) = tab n (fun i => .bool (f i)) := by simp [bools, tab]
theorem ints_tabf (n : Nat) (f : Nat → Int) : ints (tab n f) = tab n (fun i => .int .i64 (f i)) := by simp [ints, tab]
end Go.Proofs.YtajgghifamebkaaDoor
