/- contracts of slices.Index, slices.Contains at ints, and of PermValid, both -/
import Derived.Test.YtbnplohlfiefhaaDoorChecked
import Derived.Test.YtbnplohlfiefhaaDoorMem
import Derived.Test.YtbnplohlfiefhaaDoorInts
import Derived.Test.YtbnplohlfiefhaaDoorScal
namespace Go.Proofs.YtbnplohlfiefhaaDoor
open Go.RowKit
theorem Ints.mk {w : World} {b off n c : Nat} {xs : List Int} (hl : xs.length = n) (hm : n ≤ maxLen) (hc : n ≤ c) (h : ∀ i, i < n → w.cell? ⟨b, off + i, none⟩ = some (iv xs i)) : Ints w (.slice (some ⟨b, off, none⟩) n c) xs := by
  subst hl
  refine ⟨by simp, hm, ?_⟩
  by_cases h0 : xs.length = 0
  · rw [h0]; exact .inl ⟨rfl, _, _, rfl⟩
  · refine .inr ⟨by omega, b, off, c, rfl, hc, fun i u hu => ?_⟩
    have hi : i < xs.length := by
      have := (List.getElem?_eq_some_iff.1 hu).1
      simpa using this
    rw [ints_get hi] at hu
    cases hu
    exact h i hi
theorem iv_take (xs : List Int) {i k : Nat} (h : i < k) : iv (xs.take k) i = iv xs i := by simp [iv, List.getElem?_take, h]
/-- the first place of a number, or -1 -/
def indexI (xs : List Int) (v : Int) : Int := if v ∈ xs then (xs.idxOf v : Int) else -1
theorem indexI_at {xs : List Int} {v : Int} {k : Nat} (h : k < xs.length) (hk : xs[k]?.getD 0 = v) (hn : v ∉ xs.take k) : indexI xs v = k := by
  have hv : xs[k] = v := by simpa [h] using hk
  have hm : v ∈ xs := hv ▸ List.getElem_mem h
  have e : xs = xs.take k ++ v :: xs.drop (k + 1) := by
    rw [← hv, List.getElem_cons_drop, List.take_append_drop]
  unfold indexI
  rw [if_pos hm]
  have : xs.idxOf v = k := by
    rw [e, List.idxOf_append, if_neg hn, List.idxOf_cons_self]
    simp [Nat.le_of_lt h]
  omega
theorem indexI_none {xs : List Int} {v : Int} (h : v ∉ xs) : indexI xs v = -1 := if_neg h
theorem not_take_succ {xs : List Int} {v : Int} {k : Nat} (h : k < xs.length) (hn : v ∉ xs.take k) (hk : ¬ xs[k]?.getD 0 = v) : v ∉ xs.take (k + 1) := by
  rw [List.take_succ_eq_append_getElem h]
  simp only [List.mem_append, List.mem_singleton, not_or]
  exact ⟨hn, fun e => hk (by simp [h, e])⟩
theorem indexI_ge (xs : List Int) (v : Int) : decide (0 ≤ indexI xs v) = xs.contains v := by
  unfold indexI
  by_cases h : v ∈ xs
  · rw [if_pos h]; simp [h]
  · rw [if_neg h]; simp [h]
theorem indexI_bd (xs : List Int) (v : Int) : -1 ≤ indexI xs v ∧ indexI xs v < xs.length ∨ xs = [] ∧ indexI xs v = -1 := by
  unfold indexI
  by_cases h : v ∈ xs
  · rw [if_pos h]; have := List.idxOf_lt_length_of_mem h; omega
  · rw [if_neg h]; cases xs with
    | nil => exact .inr ⟨rfl, rfl⟩
    | cons a l => left; simp; omega

theorem index_any (v : Value) (xs : List Int) (x : Int) (w : World) (h : Ints w v xs) :
    Calls Tryd.prog 52 #[v, .int .i64 x] w fun e w' => e = .returned (.int .i64 (indexI xs x)) ∧ w = w' := by
  obtain ⟨ad, c, rfl, hmax, hop⟩ := h.open
  unfold maxLen at hmax
  have HOP := Lib.hid hop
  clear hop h
  go_enter Tryd.func52, Tryd.ntmps52
  go_wp2
  go_loop [8] (fun i => ∃ k : Nat, k ≤ xs.length ∧ i = .int .i64 k ∧ Hid (x ∉ xs.take k)) (fun i => xs.length - (intOf i).toNat)
  case atStart => exact ⟨0, Nat.zero_le _, rfl, by simp [Hid]⟩
  case round =>
    obtain ⟨k, hk, rfl, hN⟩ := hrel
    by_cases hlt : k < xs.length
    · obtain ⟨b, off, rfl, hcell⟩ := HOP.out k hlt
      have hc1 := hcell k hlt
      clear hcell
      obtain ⟨y, hy⟩ : ∃ y, xs[k]?.getD 0 = y := ⟨_, rfl⟩
      have hx : iv xs k = .int .i64 y := by rw [iv, hy]
      rw [hx] at hc1
      clear hx
      have HY := Lib.hid hy
      clear hy
      by_cases hxy : x = y
      · subst hxy
        have hxx : (x == x) = true := by simp
        have HF : Hid (indexI xs x = k) := indexI_at hlt HY.out hN.out
        go_wp2
        go_ret
        exact ⟨ret_int HF.out.symm, rfl⟩
      · have hxx : (x == y) = false := by simpa using hxy
        have HF : Hid (x ∉ xs.take (k + 1)) := not_take_succ hlt hN.out (by rw [HY.out]; exact fun e => hxy e.symm)
        clear hxy
        go_wp2
        go_round
        case rel => exact ⟨k + 1, hlt, by go_num, HF⟩
        case measure => simp [intOf]; omega
    · obtain rfl : k = xs.length := by omega
      have HF : Hid (indexI xs x = -1) := indexI_none (by have := hN.out; rwa [List.take_length] at this)
      go_wp2
      go_ret
      exact ⟨ret_int HF.out.symm, rfl⟩
theorem contains_any (v : Value) (xs : List Int) (x : Int) (w : World) (h : Ints w v xs) :
    Calls Tryd.prog 38 #[v, .int .i64 x] w fun e w' => e = .returned (.bool (xs.contains x)) ∧ w = w' := by
  have H := Lib.hid h
  clear h
  go_enter Tryd.func38, Tryd.ntmps38
  go_wp2_with (go_at_call 52; refine (index_any _ _ _ _ H.out).mono ?_; rintro e w' ⟨rfl, rfl⟩)
  go_ret
  exact ⟨ret_bool (indexI_ge _ _), rfl⟩
def okAt (p : List Int) (k : Nat) : Bool := inB (p[k]?.getD 0) 0 ((p.length : Int) - 1) && !(p.take k).contains (p[k]?.getD 0)
/-- 1, 2, 4 or 8 numbers, each from 0 on and less than how many there are, and each once -/
def permB (p : List Int) : Bool := (List.range p.length).all (okAt p) && wideB p.length
theorem permB_bad {p : List Int} {k : Nat} (hk : k < p.length) (h : okAt p k = false) : permB p = false := by
  unfold permB
  rw [Bool.and_eq_false_iff]
  left
  rw [List.all_eq_false]
  exact ⟨k, by simpa using hk, by simp [h]⟩
theorem permB_end {p : List Int} (h : ∀ k, k < p.length → okAt p k = true) : permB p = wideB p.length := by
  unfold permB
  have : (List.range p.length).all (okAt p) = true := by
    rw [List.all_eq_true]
    intro k hk
    exact h k (by simpa using hk)
  rw [this, Bool.true_and]
theorem swc_wide (n : Int) : decide (0 ≤ swc n) = wideB n := by
  rcases wide_cases n with rfl | rfl | rfl | rfl | h
  · rfl
  · rfl
  · rfl
  · rfl
  · rw [(wide_no h).1, (wide_no h).2]; rfl
end Go.Proofs.YtbnplohlfiefhaaDoor
