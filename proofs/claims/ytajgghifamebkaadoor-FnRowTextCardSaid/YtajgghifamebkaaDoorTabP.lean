/- tables: views of names and rows; what is valid; plain lemmas -/
import Derived.Test.YtajgghifamebkaaDoorName
import Derived.Test.YtajgghifamebkaaDoorIntSS
import Derived.Test.YtajgghifamebkaaDoorLaw
namespace Go.Proofs.YtajgghifamebkaaDoor
set_option linter.unusedSimpArgs false
set_option linter.unusedVariables false
open Go.RowKit
/-- texts of moderate size -/
def SmallS (ss : List ByteArray) : Prop := ∀ s ∈ ss, s.size ≤ 4000000
theorem SmallS.at {ss : List ByteArray} (h : SmallS ss) (k : Nat) : (ss[k]?.getD ByteArray.empty).size ≤ 4000000 := by
  by_cases hk : k < ss.length
  · rw [List.getElem?_eq_getElem hk]; exact h _ (List.getElem_mem hk)
  · rw [List.getElem?_eq_none (by omega)]; exact Nat.zero_le _
theorem viewTk {w : World} {ab : Option Addr} {k cb a : Nat} {cs : List Value} (h : View w 1 (.slice ab k cb) k cs) (ha : a ≤ k) : View w 1 (.slice ab a cb) a (cs.take a) := by
  obtain ⟨h1, h2, h3⟩ := h
  refine ⟨by rw [List.length_take]; omega, by omega, ?_⟩
  by_cases h0 : a = 0
  · subst h0; exact .inl ⟨rfl, _, _, rfl⟩
  · rcases h3 with ⟨h3, _⟩ | ⟨h3, b, off, c, hv, hc, hcell⟩
    · omega
    · cases hv
      refine .inr ⟨by omega, b, off, cb, rfl, by omega, fun i u hu => hcell i u ?_⟩
      rw [List.getElem?_take] at hu
      split at hu
      · exact hu
      · cases hu
theorem strs_take {w : World} {ad : Option Addr} {c k : Nat} {ss : List ByteArray} (h : Strs w (.slice ad ss.length c) ss) (hk : k ≤ ss.length) : Strs w (.slice ad k c) (ss.take k) := by
  have := viewTk h hk
  unfold Strs
  rw [List.length_take, Nat.min_eq_left hk, show strs (ss.take k) = (strs ss).take k by simp [strs, List.map_take]]
  exact this
theorem Strs.cap {w : World} {ad : Option Addr} {n c : Nat} {ss : List ByteArray} (h : Strs w (.slice ad n c) ss) : ss.length ≤ c := by
  obtain ⟨_, _, ⟨h3, a, c', hv⟩ | ⟨h3, b, off, c', hv, hc, _⟩⟩ := h
  · omega
  · cases hv; exact hc
theorem txs_take (ss : List ByteArray) (k : Nat) : txs (ss.take k) = (txs ss).take k := by simp [txs, List.map_take]
/-- the name at place j is one, and none ahead of it is the same -/
def gdN (ns : List (List UInt8)) (j : Nat) : Bool := nameB (ns[j]?.getD []) && !decide ((ns[j]?.getD []) ∈ ns.take j)
def colB (ns : List (List UInt8)) : Bool := (List.range ns.length).all (gdN ns) && inB ns.length 1 6
theorem gdN_at {ns : List (List UInt8)} {k : Nat} {y : List UInt8} (h : ns[k]? = some y) : gdN ns k = (nameB y && !decide (y ∈ ns.take k)) := by unfold gdN; rw [h]; rfl
theorem colB_bad {ns : List (List UInt8)} {j : Nat} (h : j < ns.length) (hb : gdN ns j = false) : colB ns = false := by
  unfold colB
  have : (List.range ns.length).all (gdN ns) = false := by rw [List.all_eq_false]; exact ⟨j, List.mem_range.2 h, by simp [hb]⟩
  rw [this, Bool.false_and]
theorem colB_end {ns : List (List UInt8)} (h : ∀ j, j < ns.length → gdN ns j = true) : colB ns = inB ns.length 1 6 := by
  unfold colB
  have : (List.range ns.length).all (gdN ns) = true := by rw [List.all_eq_true]; intro x hx; exact h x (List.mem_range.1 hx)
  rw [this, Bool.true_and]
theorem colB_nodup {ns : List (List UInt8)} (h : colB ns = true) : ns.Nodup ∧ (∀ n ∈ ns, nameB n = true) ∧ 1 ≤ ns.length ∧ ns.length ≤ 6 := by
  unfold colB at h
  rw [Bool.and_eq_true, List.all_eq_true, inB_iff] at h
  obtain ⟨h1, h2⟩ := h
  have hg : ∀ j, j < ns.length → nameB (ns[j]?.getD []) = true ∧ (ns[j]?.getD []) ∉ ns.take j := fun j hj => by
    have := h1 j (List.mem_range.2 hj)
    unfold gdN at this
    simpa using this
  refine ⟨?_, fun n hn => ?_, by omega, by omega⟩
  · refine List.pairwise_iff_getElem.2 fun i j hi hj hij he => ?_
    have := (hg j hj).2
    rw [List.getElem?_eq_getElem hj] at this
    exact this (List.mem_take_iff_getElem.2 ⟨i, by omega, he⟩)
  · obtain ⟨j, hj, rfl⟩ := List.mem_iff_getElem.1 hn
    have := (hg j hj).1
    rwa [List.getElem?_eq_getElem hj] at this
def okV (x : Int) : Bool := inB x (-100000) 100000
/-- a row of m values -/
def rowB (m : Nat) (r : List Int) : Bool := decide (r.length = m) && r.all okV
def rowsB (m n : Nat) (f : Nat → List Int) : Bool := (List.range n).all fun i => rowB m (f i)
theorem rowsB_bad {m n i : Nat} {f : Nat → List Int} (h : i < n) (hb : rowB m (f i) = false) : rowsB m n f = false := by
  unfold rowsB
  rw [List.all_eq_false]; exact ⟨i, List.mem_range.2 h, by simp [hb]⟩
theorem rowsB_end {m n : Nat} {f : Nat → List Int} (h : ∀ i, i < n → rowB m (f i) = true) : rowsB m n f = true := by
  unfold rowsB
  rw [List.all_eq_true]; intro x hx; exact h x (List.mem_range.1 hx)
theorem rowsB_at {m n : Nat} {f : Nat → List Int} (h : rowsB m n f = true) {i : Nat} (hi : i < n) : (f i).length = m ∧ ∀ x ∈ f i, okV x = true := by
  unfold rowsB at h
  rw [List.all_eq_true] at h
  have := h i (List.mem_range.2 hi)
  unfold rowB at this
  rw [Bool.and_eq_true, decide_eq_true_eq, List.all_eq_true] at this
  exact this
def tabB (ns : List (List UInt8)) (n : Nat) (f : Nat → List Int) : Bool := colB ns && (decide (n ≤ 16) && rowsB ns.length n f)
/-- a table: its names and its rows -/
def TabIn (w : World) (v : Value) (ns : List ByteArray) (n : Nat) (f : Nat → List Int) : Prop := ∃ nv rv, v = .agg #[nv, rv] ∧ Strs w nv ns ∧ IntSS w rv n f
theorem TabIn.mono {w w' : World} {v ns n f} (h : TabIn w v ns n f) {B : Nat} (hb : Below B w w') (hB : w.heap.size ≤ B) : TabIn w' v ns n f := by
  obtain ⟨nv, rv, h1, h2, h3⟩ := h
  exact ⟨nv, rv, h1, h2.mono hb hB, h3.mono hb hB⟩
theorem ints_at {w : World} {ad : Option Addr} {n c : Nat} {xs : List Int} (h : Ints w (.slice ad n c) xs) (hn : xs.length = n) {k : Nat} {x : Int} (hk : xs[k]? = some x) : ∃ b off, ad = some ⟨b, off, none⟩ ∧ w.cell? ⟨b, off + k, none⟩ = some (.int .i64 x) := by
  have hl := (List.getElem?_eq_some_iff.1 hk).1
  obtain ⟨ad', c', hv, _, hop⟩ := h.open
  cases hv
  obtain ⟨b, off, he, hc⟩ := hop k hl
  have := hc k hl
  rw [iv, hk] at this
  exact ⟨b, off, he, this⟩
/-- the first place where p holds, or -1 -/
def idxB {α : Type} (p : α → Bool) (xs : List α) : Int := if xs.any p then (xs.findIdx p : Int) else -1
theorem idxB_none {α : Type} {p : α → Bool} {xs : List α} (h : ∀ b ∈ xs, p b = false) : idxB p xs = -1 := by
  unfold idxB
  rw [if_neg]
  rw [Bool.not_eq_true, List.any_eq_false]
  exact fun b hb => by rw [h b hb]; simp
theorem idxB_at {α : Type} {p : α → Bool} {xs : List α} {k : Nat} {y : α} (hk : xs[k]? = some y) (hp : p y = true) (hn : ∀ b ∈ xs.take k, p b = false) : idxB p xs = k := by
  obtain ⟨hlt, hv⟩ := List.getElem?_eq_some_iff.1 hk
  unfold idxB
  rw [if_pos (List.any_eq_true.2 ⟨_, List.mem_of_getElem? hk, hp⟩)]
  have : xs.findIdx p = k := by
    rw [List.findIdx_eq hlt]
    refine ⟨by rw [hv]; exact hp, fun j hj => hn _ ?_⟩
    exact List.mem_take_iff_getElem.2 ⟨j, by omega, rfl⟩
  rw [this]
theorem idxB_ge {α : Type} (p : α → Bool) (xs : List α) : decide (0 ≤ idxB p xs) = xs.any p := by
  unfold idxB
  cases h : xs.any p <;> simp
theorem take_next {α : Type} {xs : List α} {k : Nat} {y : α} (hk : xs[k]? = some y) : xs.take (k + 1) = xs.take k ++ [y] := by
  obtain ⟨hlt, hv⟩ := List.getElem?_eq_some_iff.1 hk
  rw [List.take_succ_eq_append_getElem hlt, hv]
theorem take_false {α : Type} {p : α → Bool} {xs : List α} {k : Nat} {y : α} (hk : xs[k]? = some y) (hp : p y = false) (h : ∀ b ∈ xs.take k, p b = false) : ∀ b ∈ xs.take (k + 1), p b = false := fun b hb => by
  rw [take_next hk] at hb
  rcases List.mem_append.1 hb with hb | hb
  · exact h b hb
  · obtain rfl : b = y := by simpa using hb
    exact hp
theorem any_not {xs : List Int} : (xs.any fun x => !okV x) = !xs.all okV := by
  rw [Bool.eq_iff_iff]; simp
end Go.Proofs.YtajgghifamebkaaDoor
