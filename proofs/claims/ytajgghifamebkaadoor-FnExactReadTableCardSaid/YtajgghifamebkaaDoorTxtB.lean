/- words of a table's text, as the reference reads them one after the other -/
import Derived.Test.YtajgghifamebkaaDoorTxtY
namespace Go.Proofs.YtajgghifamebkaaDoor
set_option linter.unusedSimpArgs false
set_option linter.unusedVariables false
open Go
section
variable {s : List UInt8} {ns ns' : List (List UInt8)} {n n' k r j : Nat} {f f' : Nat → List Int} {x : List UInt8} {row : List Int}
theorem itoa_no47 {m : Int} (h : NumOk m) : Lib.itoa m ≠ [47] := fun e => (itoa_PW h).2.2 (by rw [e]; simp)
theorem Canon.wlen (h : Canon s ns n f) : (wordsL s).length = ns.length + n * (ns.length + 1) := by rw [h.words, tabW_len h.1]
theorem Canon.nameW (h : Canon s ns n f) (hk : k < ns.length) : (wordsL s)[k]? ≠ some [47] := fun e => by
  rw [h.words, tabW_name hk] at e
  exact ((tabB_parts h.1).2.2.1 _ (List.mem_of_getElem? e)).2.2 (by simp)
theorem Canon.bar (h : Canon s ns n f) (hr : r < n) : (wordsL s)[ns.length + r * (ns.length + 1)]? = some [47] := by
  have := tabW_at h.1 (j := 0) hr (by omega)
  rw [h.words]
  exact this
theorem Canon.num (h : Canon s ns n f) (hr : r < n) (hj : j < ns.length) : ∃ m, NumOk m ∧ (f r)[j]? = some m ∧ (wordsL s)[ns.length + r * (ns.length + 1) + 1 + j]? = some (Lib.itoa m) := by
  have h1 := tabW_at h.1 (j := j + 1) hr (by omega)
  obtain ⟨h2, h3⟩ := (tabB_parts h.1).2.2.2 r hr
  have h4 : (f r)[j]? = some ((f r)[j]'(by omega)) := List.getElem?_eq_getElem (by omega)
  refine ⟨_, h2.2.2 _ (List.mem_of_getElem? h4), h4, ?_⟩
  rw [h.words, show ns.length + r * (ns.length + 1) + 1 + j = ns.length + (r * (ns.length + 1) + (j + 1)) by omega, h1, List.getElem?_cons_succ, List.getElem?_map, h4]; rfl
/-- the words end here -/
def Stop (s : List UInt8) (k : Nat) : Prop := (wordsL s).length ≤ k ∨ (wordsL s)[k]? = some [47]
/-- names are read -/
def PN (s : List UInt8) (k : Nat) : Prop := ∀ ns' n' f', Canon s ns' n' f' → k ≤ ns'.length
/-- rows are read -/
def PR (s : List UInt8) (ns : List (List UInt8)) (r : Nat) (f : Nat → List Int) (k : Nat) : Prop :=
  ∀ ns' n' f', Canon s ns' n' f' → ns' = ns ∧ r ≤ n' ∧ k = ns.length + r * (ns.length + 1) ∧ ∀ i, i < r → f' i = f i
/-- a row's values are read -/
def PJ (s : List UInt8) (ns : List (List UInt8)) (r : Nat) (f : Nat → List Int) (k : Nat) (row : List Int) : Prop :=
  ∀ ns' n' f', Canon s ns' n' f' → ns' = ns ∧ r < n' ∧ k = ns.length + r * (ns.length + 1) + 1 + row.length ∧ row.length ≤ ns.length ∧ row = (f' r).take row.length ∧ ∀ i, i < r → f' i = f i
theorem wlt (hx : (wordsL s)[k]? = some x) : k < (wordsL s).length := (List.getElem?_eq_some_iff.1 hx).1
theorem PN.step (h : PN s k) (hx : (wordsL s)[k]? = some x) (hne : x ≠ [47]) : PN s (k + 1) := fun ns' n' f' hc => by
  have h1 := h _ _ _ hc
  have h2 := wlt hx
  have h3 := hc.wlen
  by_cases hk : k < ns'.length
  · omega
  · obtain rfl : k = ns'.length := by omega
    cases n' with
    | zero => rw [Nat.zero_mul] at h3; omega
    | succ n' =>
      have h4 := hc.bar (r := 0) (by omega)
      rw [Nat.zero_mul, Nat.add_zero, hx] at h4
      exact absurd (Option.some.inj h4) hne
theorem PN.stop (h : PN s k) (hs : Stop s k) (f : Nat → List Int) : PR s ((wordsL s).take k) 0 f k := fun ns' n' f' hc => by
  have h1 := h _ _ _ hc
  have h3 := hc.wlen
  have hk : k = ns'.length := by
    by_cases hk : k < ns'.length
    · rcases hs with hs | hs
      · have := Nat.zero_le (n' * (ns'.length + 1)); omega
      · exact absurd hs (hc.nameW hk)
    · omega
  have h4 : ns' = (wordsL s).take k := by rw [hc.words, hk]; unfold tabW; rw [List.take_left']; rfl
  exact ⟨h4, Nat.zero_le _, by rw [← h4, hk]; simp, fun i hi => absurd hi (Nat.not_lt_zero _)⟩
theorem PR.start (h : PR s ns r f k) (hk : k < (wordsL s).length) : PJ s ns r f (k + 1) [] := fun ns' n' f' hc => by
  obtain ⟨rfl, h2, h3, h4⟩ := h _ _ _ hc
  have h5 := hc.wlen
  refine ⟨rfl, ?_, by rw [h3]; rfl, Nat.zero_le _, by simp, h4⟩
  by_cases hr : r < n'
  · exact hr
  · obtain rfl : r = n' := by omega
    omega
theorem PJ.lt (h : PJ s ns r f k row) (hc : Canon s ns' n' f') (hx : (wordsL s)[k]? = some x) (hne : x ≠ [47]) : row.length < ns.length := by
  obtain ⟨rfl, h2, h3, h4, -, -⟩ := h _ _ _ hc
  have h5 := hc.wlen
  have h6 := wlt hx
  by_cases hj : row.length < ns'.length
  · exact hj
  · have hj : row.length = ns'.length := by omega
    have hk : k = ns'.length + (r + 1) * (ns'.length + 1) := by rw [h3, hj, Nat.add_mul]; omega
    have hr : r + 1 < n' := by
      by_cases e : r + 1 < n'
      · exact e
      · obtain rfl : r + 1 = n' := by omega
        omega
    have h7 := hc.bar hr
    rw [← hk, hx] at h7
    exact absurd (Option.some.inj h7) hne
theorem PJ.step {m : Int} (h : PJ s ns r f k row) (hx : (wordsL s)[k]? = some x) (hne : x ≠ [47]) (hm : NumOk m) (hi : Lib.itoa m = x) : PJ s ns r f (k + 1) (row ++ [m]) := fun ns' n' f' hc => by
  have hj := h.lt hc hx hne
  obtain ⟨rfl, h2, h3, h4, h5, h6⟩ := h _ _ _ hc
  obtain ⟨m', g1, g2, g3⟩ := hc.num h2 hj
  rw [← h3, hx] at g3
  obtain rfl : m = m' := itoa_inj hm g1 (by rw [hi]; exact Option.some.inj g3)
  refine ⟨rfl, h2, by rw [List.length_append, h3]; simp; omega, by rw [List.length_append]; simp; omega, ?_, h6⟩
  rw [List.length_append]
  show row ++ [m] = (f' r).take (row.length + 1)
  rw [List.take_add_one, g2, ← h5]; rfl
theorem PJ.bad (h : PJ s ns r f k row) (hx : (wordsL s)[k]? = some x) (hne : x ≠ [47]) (hno : ∀ m, NumOk m → Lib.itoa m ≠ x) : ∀ ns n f, ¬ Canon s ns n f := fun ns' n' f' hc => by
  have hj := h.lt hc hx hne
  obtain ⟨rfl, h2, h3, -, -, -⟩ := h _ _ _ hc
  obtain ⟨m', g1, g2, g3⟩ := hc.num h2 hj
  rw [← h3, hx] at g3
  exact hno m' g1 (Option.some.inj g3).symm
theorem PJ.stop (h : PJ s ns r f k row) (hs : Stop s k) : PR s ns (r + 1) (upd f r row) k := fun ns' n' f' hc => by
  obtain ⟨rfl, h2, h3, h4, h5, h6⟩ := h _ _ _ hc
  have hj : row.length = ns'.length := by
    by_cases hj : row.length < ns'.length
    · obtain ⟨m', g1, g2, g3⟩ := hc.num h2 hj
      rw [← h3] at g3
      rcases hs with hs | hs
      · have := wlt g3; omega
      · rw [hs] at g3
        exact absurd (Option.some.inj g3).symm (itoa_no47 g1)
    · omega
  have h7 := ((tabB_parts hc.1).2.2.2 r h2).2
  refine ⟨rfl, h2, by rw [h3, hj, Nat.add_mul]; omega, fun i hi => ?_⟩
  by_cases e : i = r
  · subst e
    rw [upd_same, h5, hj, ← h7, List.take_length]
  · rw [upd_other _ _ e]
    exact h6 i (by omega)
theorem PR.many (h : PR s ns r f k) (hr : 16 < r) : ∀ ns n f, ¬ Canon s ns n f := fun ns' n' f' hc => by
  obtain ⟨-, h2, -, -⟩ := h _ _ _ hc
  have := (tabB_parts hc.1).2.1
  omega
theorem PR.fin (h : PR s ns r f k) (hk : (wordsL s).length ≤ k) (hc : Canon s ns' n' f') : Canon s ns r f := by
  obtain ⟨rfl, h2, h3, h4⟩ := h _ _ _ hc
  have h5 := hc.wlen
  have hr : r = n' := by
    by_cases e : r < n'
    · have := Nat.mul_le_mul_right (ns'.length + 1) (show r + 1 ≤ n' from e)
      rw [Nat.add_mul] at this
      omega
    · omega
  subst hr
  exact ⟨by rw [← tabB_congr h4]; exact hc.1, by rw [← tabT_congr h4]; exact hc.2⟩
end
end Go.Proofs.YtajgghifamebkaaDoor
