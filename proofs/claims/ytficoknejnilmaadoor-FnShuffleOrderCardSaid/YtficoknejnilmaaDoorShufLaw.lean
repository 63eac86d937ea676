/- laws of the shuffles: plain -/
import Derived.Test.YtficoknejnilmaaDoorShuf
namespace Go.Proofs.YtficoknejnilmaaDoor
theorem tg_tab {n i : Nat} (f : Nat → Int) (h : i < n) : tg (tab n f) i = f i := by unfold tg; rw [tab_get _ h]; rfl
theorem tab_tg (xs : List Int) : tab xs.length (tg xs) = xs := by
  refine (tab_ext rfl fun i hi => ?_).symm
  simp [tg, hi]
theorem idx_lt {ys : List Int} {i : Nat} (h : i < ys.length) : (ordI (tg ys) ys.length).idxOf i < ys.length := by
  have := List.idxOf_lt_length_of_mem (ordI_mem (t := tg ys).2 h)
  rwa [ordI_length] at this
theorem oF_of {ys : List Int} {i : Nat} (h : i < ys.length) : oF ys ((ordI (tg ys) ys.length).idxOf i) = i := by
  have hm := ordI_mem (t := tg ys).2 h
  unfold oF
  rw [List.getD_eq_getElem?_getD, List.getElem?_eq_getElem (List.idxOf_lt_length_of_mem hm), Option.getD_some, List.getElem_idxOf]
theorem shufOk_len {xs ys : List Int} (h : shufOk xs ys = true) : xs.length = ys.length ∧ ys.length ≤ 32 := by simp [shufOk] at h; omega
theorem shufOk_of {xs ys : List Int} (h : xs.length = ys.length) (h2 : ys.length ≤ 32) : shufOk xs ys = true := by simp [shufOk]; omega
theorem shuf_back (xs ys : List Int) (h : shufOk xs ys = true) : shufOk (shufV xs ys) ys = true ∧ unshV (shufV xs ys) ys = xs := by
  obtain ⟨h1, h2⟩ := shufOk_len h
  have hs : shufV xs ys = tab xs.length (fun k => tg xs (oF ys k)) := if_pos h
  have hk : shufOk (shufV xs ys) ys = true := shufOk_of (by rw [hs, tab_length]; exact h1) h2
  refine ⟨hk, ?_⟩
  unfold unshV
  rw [if_pos hk, hs, tab_length]
  conv => rhs; rw [← tab_tg xs]
  refine tab_congr fun i hi => ?_
  have hi2 := idx_lt (ys := ys) (i := i) (by omega)
  unfold uF
  rw [if_pos (by omega), tg_tab _ (by omega), oF_of (by omega)]
theorem unsh_back (xs ys : List Int) (h : shufOk xs ys = true) : shufOk (unshV xs ys) ys = true ∧ shufV (unshV xs ys) ys = xs := by
  obtain ⟨h1, h2⟩ := shufOk_len h
  have hs : unshV xs ys = tab xs.length (uF xs ys xs.length) := if_pos h
  have hk : shufOk (unshV xs ys) ys = true := shufOk_of (by rw [hs, tab_length]; exact h1) h2
  refine ⟨hk, ?_⟩
  unfold shufV
  rw [if_pos hk, hs, tab_length]
  conv => rhs; rw [← tab_tg xs]
  refine tab_congr fun k hk => ?_
  have hol := oF_lt (ys := ys) (k := k) (by omega)
  rw [tg_tab _ (by omega)]
  unfold uF
  rw [oF_idx (by omega), if_pos hk]
/-- tags that do not descend mix nothing -/
theorem shuf_asc (xs ys : List Int) (h : shufOk xs ys = true) (ha : ∀ i j, i < j → j < ys.length → tg ys i ≤ tg ys j) : shufV xs ys = xs := by
  obtain ⟨h1, h2⟩ := shufOk_len h
  unfold shufV
  rw [if_pos h]
  conv => rhs; rw [← tab_tg xs]
  refine tab_congr fun k hk => ?_
  unfold oF
  rw [ordI_range ha]
  congr 1
  simp [show k < ys.length by omega]
end Go.Proofs.YtficoknejnilmaaDoor
