/- Views of slices in memory, kept under calls that make new blocks only. Plain lemmas on worlds; no program. -/
import Derived.WalkKit
import Derived.Handy
import Derived.Lib.Hide
import Derived.BigQuiet
import Derived.WalkLawsBesides
import Derived.WalkSpells
import Derived.Deep.LoopGhost
namespace Go.Proofs.YtajgghifamebkaaDoor
set_option linter.unusedSimpArgs false
set_option linter.unusedVariables false
open Go.RowKit

/-- the whole block g holds the cells cs of type e, and none is frozen -/
def Row (w : World) (g : Nat) (e : TypeId) (cs : List Value) : Prop := w.heap[g]? = some (.cells cs.toArray e (0, 0))

theorem Row.lt {w : World} {g e cs} (h : Row w g e cs) : g < w.heap.size := (Array.getElem?_eq_some_iff.1 h).1
theorem Row.cell {w : World} {g e cs} (h : Row w g e cs) {i : Nat} {u : Value} (hu : cs[i]? = some u) : w.cell? ⟨g, i, none⟩ = some u := by
  unfold Row at h
  simp only [World.cell?, h]
  simpa using hu
theorem Row.free {w : World} {g e cs} (h : Row w g e cs) (i : Nat) : w.frozen? ⟨g, i, none⟩ = false := by
  unfold Row at h
  simp only [World.frozen?, h]; simp
theorem Row.set {w : World} {g e cs} (h : Row w g e cs) (i : Nat) (u : Value) : Row (w.setCell ⟨g, i, none⟩ u) g e (cs.set i u) := by
  unfold Row World.setCell
  rw [Array.getElem?_modify]
  simp only [if_true]
  unfold Row at h
  rw [h]
  simp
theorem Row.mono {w w' : World} {B g e cs} (h : Row w g e cs) (hb : Below B w w') (hg : g < B) : Row w' g e cs := (hb.block g hg).trans h
theorem Row.setOther {w : World} {g e cs} (h : Row w g e cs) {p : Addr} (hp : g ≠ p.block) (u : Value) : Row (w.setCell p u) g e cs :=
  (Below.heap_setCell w p u g hp).trans h
theorem Row.alloc {w : World} {g e cs} (h : Row w g e cs) (o : Obj) : Row (w.alloc o) g e cs := (Below.heap_alloc w o g h.lt).trans h
theorem Row.new (w : World) (e : TypeId) (cs : List Value) : Row (w.alloc (.cells cs.toArray e)) w.heap.size e cs := heap_alloc_new w _
theorem Row.drew {w : World} {g e cs} (h : Row w g e cs) : Row w.drew g e cs := h
theorem row_of_own {w : World} {B e sz g n cs} (h : w.ownsRow B e sz (.slice (some ⟨g, 0, none⟩) n n) n cs) : Row w g e cs ∧ B ≤ g := by
  obtain ⟨h1, h2 | ⟨g', cap, cur, hv, hB, hg, _, _, hs, ht⟩⟩ := h
  · simp at h2
  · simp only [Value.slice.injEq, Option.some.injEq, Addr.mk.injEq] at hv
    obtain ⟨⟨rfl, _⟩, _, rfl⟩ := hv
    refine ⟨?_, hB⟩
    unfold Row
    rw [hg, ← ht, List.take_of_length_le (by simp [hs])]

/-- the slice value v, of n elements of sz cells each, reads in w as the cells cs -/
def View (w : World) (sz : Nat) (v : Value) (n : Nat) (cs : List Value) : Prop :=
  cs.length = n * sz ∧ n ≤ maxLen ∧
  ((n = 0 ∧ ∃ a c, v = .slice a 0 c) ∨ (0 < n ∧ ∃ b off c, v = .slice (some ⟨b, off, none⟩) n c ∧ n ≤ c ∧ ∀ i u, cs[i]? = some u → w.cell? ⟨b, off + i, none⟩ = some u))

theorem View.mono {w w' : World} {sz v n cs} (h : View w sz v n cs) {B : Nat} (hb : Below B w w') (hB : w.heap.size ≤ B) : View w' sz v n cs := by
  obtain ⟨h1, h2, h3 | ⟨h3, b, off, c, hv, hc, hcell⟩⟩ := h
  · exact ⟨h1, h2, .inl h3⟩
  · refine ⟨h1, h2, .inr ⟨h3, b, off, c, hv, hc, fun i u hu => ?_⟩⟩
    have := hcell i u hu
    rw [hb.cell (p := ⟨b, off + i, none⟩) (Nat.lt_of_lt_of_le (World.block_lt_of_cell? w _ this) hB)]
    exact this

theorem View.of_row {w : World} {g e cs sz n c} (h : Row w g e cs) (hl : cs.length = n * sz) (hn : n ≤ maxLen) (hc : n ≤ c) : View w sz (.slice (some ⟨g, 0, none⟩) n c) n cs := by
  refine ⟨hl, hn, ?_⟩
  by_cases h0 : n = 0
  · subst h0; exact .inl ⟨rfl, _, _, rfl⟩
  · exact .inr ⟨by omega, g, 0, c, rfl, hc, fun i u hu => by rw [Nat.zero_add]; exact h.cell hu⟩

/-- the slice value v, of n elements of sz cells (type e), holds the cells cs, which begin the block b; none is frozen; where n is 0 there may be no block -/
def Own (w : World) (b : Option Nat) (e : TypeId) (sz : Nat) (v : Value) (n : Nat) (cs : List Value) : Prop :=
  cs.length = n * sz ∧ n ≤ maxLen ∧
  ((n = 0 ∧ b = none ∧ ∃ a c, v = .slice a 0 c) ∨ (0 < n ∧ ∃ g c tail, b = some g ∧ v = .slice (some ⟨g, 0, none⟩) n c ∧ n ≤ c ∧ Row w g e (cs ++ tail)))
/-- the block is one from B on -/
def From (B : Nat) (b : Option Nat) : Prop := ∀ g, b = some g → B ≤ g
theorem From.mono {B B' b} (h : From B b) (hB : B' ≤ B) : From B' b := fun g hg => Nat.le_trans hB (h g hg)
theorem From.none (B : Nat) : From B none := fun _ h => by cases h

theorem Own.view {w : World} {b e sz v n cs} (h : Own w b e sz v n cs) : View w sz v n cs := by
  obtain ⟨h1, h2, ⟨h3, _, h4⟩ | ⟨h3, g, c, tail, _, hv, hc, hr⟩⟩ := h
  · exact ⟨h1, h2, .inl ⟨h3, h4⟩⟩
  · refine ⟨h1, h2, .inr ⟨h3, g, 0, c, hv, hc, fun i u hu => ?_⟩⟩
    rw [Nat.zero_add]
    refine hr.cell ?_
    rw [List.getElem?_append_left (List.getElem?_eq_some_iff.1 hu).1]
    exact hu
theorem Own.lt {w : World} {b e sz v n cs} (h : Own w b e sz v n cs) : ∀ g, b = some g → g < w.heap.size := by
  obtain ⟨h1, h2, ⟨h3, rfl, h4⟩ | ⟨h3, g, c, tail, rfl, hv, hc, hr⟩⟩ := h
  · intro g hg; cases hg
  · intro g' hg; cases hg; exact hr.lt
theorem Own.mono {w w' : World} {b e sz v n cs} (h : Own w b e sz v n cs) {B : Nat} (hb : Below B w w') (hB : w.heap.size ≤ B) : Own w' b e sz v n cs := by
  obtain ⟨h1, h2, h3 | ⟨h3, g, c, tail, hbb, hv, hc, hr⟩⟩ := h
  · exact ⟨h1, h2, .inl h3⟩
  · exact ⟨h1, h2, .inr ⟨h3, g, c, tail, hbb, hv, hc, hr.mono hb (Nat.lt_of_lt_of_le hr.lt hB)⟩⟩
/-- what another block's writing leaves -/
theorem Own.grown {w w' : World} {b b' e sz v n cs} (h : Own w b e sz v n cs) (hg : w.grownBy w' b') (hne : ∀ g, b = some g → b' ≠ some g) : Own w' b e sz v n cs := by
  obtain ⟨h1, h2, h3 | ⟨h3, g, c, tail, hbb, hv, hc, hr⟩⟩ := h
  · exact ⟨h1, h2, .inl h3⟩
  · exact ⟨h1, h2, .inr ⟨h3, g, c, tail, hbb, hv, hc, (hg.block g hr.lt (fun x => hne g hbb x.symm)).trans hr⟩⟩
theorem Own.of_row {w : World} {g e sz n c cs} (h : Row w g e cs) (hl : cs.length = n * sz) (hn : n ≤ maxLen) (hc : n ≤ c) (h0 : 0 < n) : Own w (some g) e sz (.slice (some ⟨g, 0, none⟩) n c) n cs :=
  ⟨hl, hn, .inr ⟨h0, g, c, [], rfl, rfl, hc, by simpa using h⟩⟩
/-- a copy that make has laid -/
theorem Own.of_made {w : World} {g e sz n cs} (h : Row w g e cs) (hl : cs.length = n * sz) (hn : n ≤ maxLen) {B : Nat} (hB : B ≤ g) : ∃ b, Own w b e sz (.slice (some ⟨g, 0, none⟩) n n) n cs ∧ From B b := by
  by_cases h0 : n = 0
  · subst h0; exact ⟨none, ⟨hl, hn, .inl ⟨rfl, rfl, _, _, rfl⟩⟩, From.none _⟩
  · exact ⟨some g, .of_row h hl hn (Nat.le_refl _) (by omega), fun g' h => by cases h; exact hB⟩
theorem Own.of_owns {w : World} {B e sz v n cs} (h : w.ownsRow B e sz v n cs) : ∃ b, Own w b e sz v n cs ∧ From B b ∧ ∀ g, b = some g → v.ownBlock = some g := by
  obtain ⟨h1, ⟨hv, hn⟩ | ⟨g, cap, cur, hv, hB, hg, hc, hm, hs, ht⟩⟩ := h
  · subst hn; exact ⟨none, ⟨h1, Nat.zero_le _, .inl ⟨rfl, rfl, _, _, hv⟩⟩, From.none _, fun _ h => by cases h⟩
  · by_cases h0 : n = 0
    · subst h0; exact ⟨none, ⟨h1, Nat.zero_le _, .inl ⟨rfl, rfl, _, _, hv⟩⟩, From.none _, fun _ h => by cases h⟩
    · refine ⟨some g, ⟨h1, Nat.le_trans hc hm, .inr ⟨by omega, g, cap, cur.toList.drop (n * sz), rfl, hv, hc, ?_⟩⟩, fun g' h => by cases h; exact hB, fun g' h => by cases h; rw [hv]; rfl⟩
      unfold Row
      rw [hg, ← ht, List.take_append_drop]
/-- Below over a store's block -/
theorem below_grown {B : Nat} {w w' : World} {b} (hg : w.grownBy w' b) (hb : From B b) (hB : B ≤ w.heap.size) : Below B w w' :=
  (Below.refl B w).grown hg hB (fun k hk => hb k hk)

/-- the cell of place j -/
def iv (xs : List Int) (j : Nat) : Value := .int .i64 (xs[j]?.getD 0)
def bv (xs : List Bool) (j : Nat) : Value := .bool (xs[j]?.getD false)
/-- a number that an int holds -/
def Fit (x : Int) : Prop := -9223372036854775808 ≤ x ∧ x ≤ 9223372036854775807
def FitL (xs : List Int) : Prop := ∀ x ∈ xs, Fit x
theorem FitL.at {xs : List Int} (h : FitL xs) (k : Nat) : Fit (xs[k]?.getD 0) := by
  by_cases hk : k < xs.length
  · have := h xs[k] (List.getElem_mem hk)
    simpa [hk] using this
  · simp [List.getElem?_eq_none (Nat.le_of_not_lt hk), Fit]
def ints (xs : List Int) : List Value := xs.map (Value.int .i64)
def bools (xs : List Bool) : List Value := xs.map Value.bool
@[simp] theorem ints_length (xs : List Int) : (ints xs).length = xs.length := by simp [ints]
@[simp] theorem bools_length (xs : List Bool) : (bools xs).length = xs.length := by simp [bools]
theorem ints_get {xs : List Int} {i : Nat} (h : i < xs.length) : (ints xs)[i]? = some (iv xs i) := by simp [ints, iv, h]
theorem bools_get {xs : List Bool} {i : Nat} (h : i < xs.length) : (bools xs)[i]? = some (bv xs i) := by simp [bools, bv, h]
/-- a slice of ints, of bools -/
def Ints (w : World) (v : Value) (xs : List Int) : Prop := View w 1 v xs.length (ints xs)
def Bools (w : World) (v : Value) (xs : List Bool) : Prop := View w 1 v xs.length (bools xs)
theorem Ints.mono {w w' : World} {v xs} (h : Ints w v xs) {B : Nat} (hb : Below B w w') (hB : w.heap.size ≤ B) : Ints w' v xs := View.mono h hb hB
theorem Bools.mono {w w' : World} {v xs} (h : Bools w v xs) {B : Nat} (hb : Below B w w') (hB : w.heap.size ≤ B) : Bools w' v xs := View.mono h hb hB

theorem Ints.open {w : World} {v xs} (h : Ints w v xs) : ∃ ad c, v = .slice ad xs.length c ∧ xs.length ≤ maxLen ∧ ∀ i, i < xs.length → ∃ b off, ad = some ⟨b, off, none⟩ ∧ ∀ i, i < xs.length → w.cell? ⟨b, off + i, none⟩ = some (iv xs i) := by
  obtain ⟨h1, h2, ⟨h3, a, c, hv⟩ | ⟨h3, b, off, c, hv, hc, hcell⟩⟩ := h
  · rw [h3]; exact ⟨a, c, hv, Nat.zero_le _, fun i hi => by omega⟩
  · exact ⟨_, c, hv, h2, fun i hi => ⟨b, off, rfl, fun i hi => hcell i _ (ints_get hi)⟩⟩
theorem Bools.open {w : World} {v xs} (h : Bools w v xs) : ∃ ad c, v = .slice ad xs.length c ∧ xs.length ≤ maxLen ∧ ∀ i, i < xs.length → ∃ b off, ad = some ⟨b, off, none⟩ ∧ ∀ i, i < xs.length → w.cell? ⟨b, off + i, none⟩ = some (bv xs i) := by
  obtain ⟨h1, h2, ⟨h3, a, c, hv⟩ | ⟨h3, b, off, c, hv, hc, hcell⟩⟩ := h
  · rw [h3]; exact ⟨a, c, hv, Nat.zero_le _, fun i hi => by omega⟩
  · exact ⟨_, c, hv, h2, fun i hi => ⟨b, off, rfl, fun i hi => hcell i _ (bools_get hi)⟩⟩

theorem Ints.of_row {w : World} {g e xs n c} (h : Row w g e (ints xs)) (hl : xs.length = n) (hn : n ≤ maxLen) (hc : n ≤ c) : Ints w (.slice (some ⟨g, 0, none⟩) n c) xs := by
  subst hl; exact View.of_row h (by simp) hn hc
theorem Bools.of_row {w : World} {g e xs n c} (h : Row w g e (bools xs)) (hl : xs.length = n) (hn : n ≤ maxLen) (hc : n ≤ c) : Bools w (.slice (some ⟨g, 0, none⟩) n c) xs := by
  subst hl; exact View.of_row h (by simp) hn hc

theorem ret_int {k : IntKind} {a b : Int} (h : a = b) : Ending.returned (.int k a) = .returned (.int k b) := by rw [h]
theorem ret_bool {a b : Bool} (h : a = b) : Ending.returned (.bool a) = .returned (.bool b) := by rw [h]
/-- the old memory over one call more -/
theorem nxt {w w1 w2 : World} (h1 : Hid (Below w.heap.size w w1)) (h2 : Below w1.heap.size w1 w2) : Hid (Below w.heap.size w w2) := h1.out.trans (h2.mono h1.out.size)
theorem nxtG {w w1 w2 : World} {b : Option Nat} (h1 : Hid (Below w.heap.size w w1)) (h2 : w1.grownBy w2 b) (hb : From w.heap.size b) : Hid (Below w.heap.size w w2) := h1.out.trans (below_grown h2 hb h1.out.size)
theorem From.up {w w1 : World} {b} (h1 : Hid (Below w.heap.size w w1)) (h : From w1.heap.size b) : From w.heap.size b := h.mono h1.out.size
/-- n cells, given place by place -/
def tab {α : Type} (n : Nat) (f : Nat → α) : List α := (List.range n).map f
@[simp] theorem tab_length {α : Type} (n : Nat) (f : Nat → α) : (tab n f).length = n := by simp [tab]
theorem tab_get {α : Type} {n i : Nat} (f : Nat → α) (h : i < n) : (tab n f)[i]? = some (f i) := by simp [tab, h]
theorem tab_ext {α : Type} {n : Nat} {l : List α} {f : Nat → α} (hl : l.length = n) (h : ∀ i, i < n → l[i]? = some (f i)) : l = tab n f := by
  apply List.ext_getElem?
  intro i
  by_cases hi : i < n
  · rw [h i hi, tab_get f hi]
  · rw [List.getElem?_eq_none (by omega), List.getElem?_eq_none (by simp; omega)]
theorem tab_congr {α : Type} {n : Nat} {f g : Nat → α} (h : ∀ i, i < n → f i = g i) : tab n f = tab n g :=
  tab_ext (by simp) fun i hi => by rw [tab_get f hi, h i hi]
theorem tab_set {α : Type} (n k : Nat) (f : Nat → α) (v : α) : (tab n f).set k v = tab n (fun i => if i = k then v else f i) := by
  refine tab_ext (by simp) fun i hi => ?_
  rw [List.getElem?_set]
  by_cases h : k = i
  · subst h; simp [hi]
  · rw [if_neg h, tab_get f hi, if_neg (fun e => h e.symm)]
theorem ints_tab (xs : List Int) : ints xs = tab xs.length (iv xs) := tab_ext (by simp) fun _ hi => ints_get hi
theorem bools_tab (xs : List Bool) : bools xs = tab xs.length (bv xs) := tab_ext (by simp) fun _ hi => bools_get hi
theorem made_tab (z : Value) (n : Nat) : (madeCells #[z] n).toList = tab n (fun _ => z) := by
  refine tab_ext (by simp [madeCells]) fun i hi => ?_
  simp [madeCells, hi, Nat.mod_one]
/-- a loop that writes place after place: the first k places are done -/
def mix (k : Nat) (f g : Nat → Value) (i : Nat) : Value := if i < k then f i else g i
theorem mix_zero (n : Nat) (f g : Nat → Value) : tab n (mix 0 f g) = tab n g := tab_congr fun i _ => by simp [mix]
theorem mix_full (n : Nat) (f g : Nat → Value) : tab n (mix n f g) = tab n f := tab_congr fun i hi => by simp [mix, hi]
theorem mix_at (n k : Nat) (f g : Nat → Value) (h : k < n) : (tab n (mix k f g))[k]? = some (g k) := by rw [tab_get _ h]; simp [mix]
theorem mix_step (n k : Nat) (f g : Nat → Value) : (tab n (mix k f g)).set k (f k) = tab n (mix (k + 1) f g) := by
  rw [tab_set]
  refine tab_congr fun i _ => ?_
  unfold mix
  by_cases h : i = k
  · subst h; simp
  · rw [if_neg h]; by_cases h2 : i < k
    · rw [if_pos h2, if_pos (by omega)]
    · rw [if_neg h2, if_neg (by omega)]
theorem mix_at' (n k : Nat) (f g : Nat → Value) (t : List Value) (h : k < n) : (tab n (mix k f g) ++ t)[k]? = some (g k) := by
  rw [List.getElem?_append_left (by simpa using h)]; exact mix_at n k f g h
theorem mix_step' (n k : Nat) (f g : Nat → Value) (t : List Value) (h : k < n) : (tab n (mix k f g) ++ t).set k (f k) = tab n (mix (k + 1) f g) ++ t := by
  rw [List.set_append_left _ _ (by simpa using h), mix_step]
/-- the numbers from k on -/
def marks (k : Int) (n : Nat) : List Int := tab n (fun j => k + j)
@[simp] theorem marks_length (k : Int) (n : Nat) : (marks k n).length = n := by simp [marks]
theorem iv_marks (k : Int) (n j : Nat) (h : j < n) : iv (marks k n) j = .int .i64 (k + j) := by simp [iv, marks, tab_get _ h]
def marksB (k : Int) (n : Nat) : List Bool := tab n (fun j => (k + j) % 3 == 0)
@[simp] theorem marksB_length (k : Int) (n : Nat) : (marksB k n).length = n := by simp [marksB]
theorem bv_marks (k : Int) (n j : Nat) (h : j < n) : bv (marksB k n) j = .bool ((k + j) % 3 == 0) := by simp [bv, marksB, tab_get _ h]
/-- a store into a block of one's own turns that block alone -/
theorem grown_set {w w' : World} {g : Nat} (h : w.grownBy w' (some g)) (i : Nat) (u : Value) : w.grownBy (w'.setCell ⟨g, i, none⟩ u) (some g) :=
  ⟨h.os, h.tape, h.output, by simpa [World.setCell] using h.size, fun k hk hne => (Below.heap_setCell _ _ _ _ (fun e => hne (by rw [e]))).trans (h.block k hk hne)⟩
theorem grown_refl (w : World) (b : Option Nat) : w.grownBy w b := ⟨rfl, rfl, rfl, Nat.le_refl _, fun _ _ _ => rfl⟩
end Go.Proofs.YtajgghifamebkaaDoor
