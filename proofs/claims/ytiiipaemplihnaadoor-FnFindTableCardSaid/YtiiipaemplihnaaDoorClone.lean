/- the contract of slices.Clone at ints -/
import Derived.Test.YtiiipaemplihnaaDoorRes
import Derived.Lib.SliceRun
namespace Go.Proofs.YtiiipaemplihnaaDoor
open Go.RowKit
theorem clone_any (v : Value) (xs : List Int) (w : World) (h : Ints w v xs) (hn : xs.length ≤ 1048576) : Calls Tryd.prog 38 #[v] w (IntsPost xs w) := by
  have HH := Lib.hid h
  obtain ⟨ad, c, rfl, hmax, hop⟩ := h.open
  cases ad with
  | none =>
    have h0 : xs.length = 0 := by
      by_cases h : xs.length = 0
      · exact h
      · obtain ⟨b, off, hb, _⟩ := hop 0 (by omega); cases hb
    obtain rfl : xs = [] := List.eq_nil_of_length_eq_zero h0
    have HF : Hid (IntsPost [] w (.returned (.slice none 0 0)) w) := ⟨_, rfl, Gr.nil _ _ _ _, Below.refl _ _⟩
    clear hop h h0
    have hq := Lib.run_eql_slice_nil (P := Tryd.prog) w 58 3 none 0 c 0 0 Tryd.underlying58
    go_enter Tryd.func38, Tryd.ntmps38
    go_wp2
    go_ret
    exact HF.out
  | some a =>
    clear hop h
    have HF : Hid (∀ u w', Gr w' w.heap.size 3 1 u (0 + xs.length) ([] ++ ints xs) → Below w.heap.size w w' → IntsPost xs w (.returned u) w') := fun u w' hg hb => ⟨u, rfl, by simpa using hg, hb⟩
    have hq := Lib.run_eql_slice_nil (P := Tryd.prog) w 58 3 (some a) xs.length c 0 0 Tryd.underlying58
    have HB0 : Hid (Below w.heap.size w (w.alloc (.cells #[] 3))) := (Below.refl w.heap.size w).alloc (Nat.le_refl _) (.cells #[] 3)
    unfold maxLen at hmax
    go_enter Tryd.func38, Tryd.ntmps38
    go_wp2_with (at_builtin; refine wpList_app _ rfl (.tmp 5) (.tmp 6) 58 rfl w.heap.size 3 (.int .i64 0) 1 8 Tryd.underlying58 Tryd.infoInt rfl (by omega) (.slice (some ⟨w.heap.size, 0, none⟩) 0 0) 0 [] rfl (Gr.none0 _ _ _ _ _) _ xs.length (ints xs) rfl (HH.out.mono HB0.out (Nat.le_refl _)) (one_ints _) (by unfold maxLen; omega) (by omega) (by simp) ?_; intro v1 w1 g1 r1 k1; have G1 := Lib.hid g1; have R1 := Lib.hid r1; clear g1 r1 k1)
    go_ret
    exact HF.out _ _ G1.out (HB0.out.grown R1.out (by simp) (fun g hg => by simp [gBlock] at hg))
end Go.Proofs.YtiiipaemplihnaaDoor
