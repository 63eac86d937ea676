/- plain law of ApplySwitches: nothing is lost -/
import Derived.Test.YtnmkficfbnnakaaDoorApply
namespace Go.Proofs.YtnmkficfbnnakaaDoor
theorem tab_succ' (n : Nat) (f : Nat → Int) : tab (n + 1) f = tab n f ++ [f n] := by simp [tab, List.range_succ]
theorem pair_count {F u v : Nat → Int} (x : Int) : ∀ h, (∀ k, k < h → (F (2 * k) = u k ∧ F (2 * k + 1) = v k) ∨ (F (2 * k) = v k ∧ F (2 * k + 1) = u k)) → (tab (2 * h) F).count x = (tab h u).count x + (tab h v).count x
  | 0, _ => by simp [tab]
  | h + 1, hF => by
    have ih := pair_count x h fun k hk => hF k (by omega)
    rw [show 2 * (h + 1) = 2 * h + 1 + 1 by omega, tab_succ', tab_succ', tab_succ' h u, tab_succ' h v]
    simp only [List.count_append, List.count_singleton]
    rw [ih]
    rcases hF h (by omega) with ⟨e1, e2⟩ | ⟨e1, e2⟩ <;> rw [e1, e2] <;> omega
theorem tab_self (l : List Int) : tab l.length (iI l) = l := by
  apply List.ext_getElem?
  intro i
  by_cases h : i < l.length
  · rw [tab_get _ h]; simp [iI, h]
  · rw [List.getElem?_eq_none (by simp; omega), List.getElem?_eq_none (by omega)]
theorem step_count {h c : Nat} {g : List Bool → List Int → List Int} {s : List Bool} {l : List Int} {x : Int} (hg : ∀ s l, l.length = h → (g s l).length = h ∧ (g s l).count x = l.count x) (hl : l.length = 2 * h) : (stepV h c g s l).count x = l.count x := by
  unfold stepV
  obtain ⟨p1, p2⟩ := hg ((s.drop h).take c) (tab h (hv s l 0)) (by simp)
  obtain ⟨q1, q2⟩ := hg ((s.drop (h + c)).take c) (tab h (hv s l 1)) (by simp)
  obtain ⟨P, hP⟩ : ∃ P, g ((s.drop h).take c) (tab h (hv s l 0)) = P := ⟨_, rfl⟩
  obtain ⟨Q, hQ⟩ : ∃ Q, g ((s.drop (h + c)).take c) (tab h (hv s l 1)) = Q := ⟨_, rfl⟩
  rw [hP] at p1 p2 ⊢
  rw [hQ] at q1 q2 ⊢
  rw [pair_count (u := iI P) (v := iI Q) x h fun k _ => by
    rw [mix_even, mix_odd]
    cases bI s (h + 2 * c + k)
    · exact .inl ⟨rfl, rfl⟩
    · exact .inr ⟨rfl, rfl⟩]
  have eP := tab_self P
  have eQ := tab_self Q
  rw [p1] at eP
  rw [q1] at eQ
  rw [eP, eQ, p2, q2]
  have := pair_count (F := iI l) (u := hv s l 0) (v := hv s l 1) x h fun k _ => by
    unfold hv
    cases bI s k
    · exact .inl ⟨rfl, rfl⟩
    · exact .inr ⟨rfl, rfl⟩
  rw [← this, ← hl, tab_self]
theorem swap_count (x : Int) (s : List Bool) (l : List Int) (h : l.length = 2) : (swap1 s l).length = 2 ∧ (swap1 s l).count x = l.count x := by
  refine ⟨swap1_len s l h, ?_⟩
  obtain ⟨a, b, rfl⟩ : ∃ a b, l = [a, b] := by
    match l, h with
    | [a, b], _ => exact ⟨a, b, rfl⟩
  unfold swap1
  split
  · simp only [iI, List.getElem?_cons_succ, List.getElem?_cons_zero, Option.getD_some, List.count_cons, List.count_nil]; omega
  · rfl
theorem send4_count (x : Int) (s : List Bool) (l : List Int) (h : l.length = 4) : (send4 s l).length = 4 ∧ (send4 s l).count x = l.count x := ⟨stepV_len _ _ _ _ _, step_count (swap_count x) h⟩
/-- every value is there as often as before -/
theorem send_count {s : List Bool} {l : List Int} (hk : applyOk s l = true) (x : Int) : (sendV s l).length = l.length ∧ (sendV s l).count x = l.count x := by
  have hc : l.length = 1 ∨ l.length = 2 ∨ l.length = 4 ∨ l.length = 8 := by
    unfold applyOk at hk
    simp only [decide_eq_true_eq] at hk
    rcases wide_cases (l.length : Int) with h | h | h | h | h
    · omega
    · omega
    · omega
    · omega
    · have := (wide_no h).2; omega
  unfold sendV
  rcases hc with h | h | h | h
  · rw [if_pos h]; exact ⟨rfl, rfl⟩
  · rw [if_neg (by omega), if_pos h, h]; exact swap_count x s l h
  · rw [if_neg (by omega), if_neg (by omega), if_pos h, h]; exact send4_count x s l h
  · rw [if_neg (by omega), if_neg (by omega), if_neg (by omega), h]
    exact ⟨stepV_len _ _ _ _ _, step_count (send4_count x) h⟩
theorem take_count {l : List Int} {y z : Int} {j : Nat} (h : j < l.length) (hz : iI l j = z) : (l.take (j + 1)).count y = (l.take j).count y + (if z = y then 1 else 0) := by
  have : l[j] = z := by simpa [iI, h] using hz
  rw [List.take_succ_eq_append_getElem h, this, List.count_append, List.count_singleton]
  by_cases e : z = y <;> simp [e]
end Go.Proofs.YtnmkficfbnnakaaDoor
