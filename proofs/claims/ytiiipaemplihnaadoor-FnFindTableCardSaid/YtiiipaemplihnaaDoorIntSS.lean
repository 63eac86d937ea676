/- slices of slices of ints: views, rows of the call's own, and the helpers of the laws at them -/
import Derived.Test.YtiiipaemplihnaaDoorRes
import Derived.Test.YtiiipaemplihnaaDoorScal
import Derived.StillTailTactics
namespace Go.Proofs.YtiiipaemplihnaaDoor
open Go.RowKit
theorem Tryd.infoInts : (Tryd.prog.info? 58).map (fun i => (i.zero, i.size, i.bytes)) = some (some (.slice none 0 0), 1, 24) := by kernel_rfl
theorem View.cells {w : World} {v : Value} {n : Nat} {vs : Nat → Value} (h : View w 1 v n (tab n vs)) : ∃ ad c, v = .slice ad n c ∧ n ≤ maxLen ∧ ∀ i, i < n → ∃ b off, ad = some ⟨b, off, none⟩ ∧ ∀ i, i < n → w.cell? ⟨b, off + i, none⟩ = some (vs i) := by
  obtain ⟨h1, h2, ⟨h3, a, c, hv⟩ | ⟨h3, b, off, c, hv, hc, hcell⟩⟩ := h
  · rw [h3]; exact ⟨a, c, hv, Nat.zero_le _, fun i hi => by omega⟩
  · exact ⟨_, c, hv, h2, fun i hi => ⟨b, off, rfl, fun i hi => hcell i _ (tab_get _ hi)⟩⟩
/-- n rows, row i reads as f i -/
def IntSS (w : World) (v : Value) (n : Nat) (f : Nat → List Int) : Prop := ∃ vs : Nat → Value, View w 1 v n (tab n vs) ∧ ∀ i, i < n → Ints w (vs i) (f i)
theorem IntSS.mono {w w' : World} {v n f} (h : IntSS w v n f) {B : Nat} (hb : Below B w w') (hB : w.heap.size ≤ B) : IntSS w' v n f := by
  obtain ⟨vs, h1, h2⟩ := h
  exact ⟨vs, h1.mono hb hB, fun i hi => (h2 i hi).mono hb hB⟩
theorem IntSS.open {w : World} {v n f} (h : IntSS w v n f) : ∃ ad c, v = .slice ad n c ∧ n ≤ maxLen ∧ ∀ i, i < n → ∃ b off, ad = some ⟨b, off, none⟩ ∧ ∀ i, i < n → ∃ a' c', w.cell? ⟨b, off + i, none⟩ = some (.slice a' (f i).length c') ∧ Ints w (.slice a' (f i).length c') (f i) := by
  obtain ⟨vs, h1, h2⟩ := h
  obtain ⟨ad, c, hv, hm, hc⟩ := h1.cells
  refine ⟨ad, c, hv, hm, fun i hi => ?_⟩
  obtain ⟨b, off, hb, hcell⟩ := hc i hi
  refine ⟨b, off, hb, fun i hi => ?_⟩
  have h3 := hcell i hi
  have h4 := h2 i hi
  obtain ⟨a', c', he, _⟩ := h4.open
  rw [he] at h3 h4
  exact ⟨a', c', h3, h4⟩
/-- the rows are the call's own, each in a block of its own, all from B on -/
def OwnSS (w : World) (B : Nat) (v : Value) (n : Nat) (f : Nat → List Int) : Prop := ∃ (vs : Nat → Value) (gs : Nat → Option Nat) (b : Option Nat), Own w b 58 1 v n (tab n vs) ∧ From B b ∧
  ∀ i, i < n → OwnI w (gs i) (vs i) (f i) ∧ From B (gs i) ∧ (∀ g, b = some g → gs i ≠ some g) ∧ ∀ j, j < n → j ≠ i → ∀ g, gs j = some g → gs i ≠ some g
theorem OwnSS.view {w B v n f} (h : OwnSS w B v n f) : IntSS w v n f := by
  obtain ⟨vs, gs, b, h1, _, h3⟩ := h
  exact ⟨vs, h1.view, fun i hi => (h3 i hi).1.ints⟩
theorem OwnSS.mono {w w' : World} {B v n f} (h : OwnSS w B v n f) (hb : Below w.heap.size w w') : OwnSS w' B v n f := by
  obtain ⟨vs, gs, b, h1, h2, h3⟩ := h
  exact ⟨vs, gs, b, h1.mono hb (Nat.le_refl _), h2, fun i hi => ⟨(h3 i hi).1.mono hb, (h3 i hi).2⟩⟩
theorem OwnSS.grown {w w' : World} {B v n f} {b' : Option Nat} (h : OwnSS w B v n f) (hg : w.grownBy w' b') (hl : ∀ g, b' = some g → g < B) : OwnSS w' B v n f := by
  obtain ⟨vs, gs, b, h1, h2, h3⟩ := h
  have ne : ∀ c : Option Nat, From B c → ∀ g, c = some g → b' ≠ some g := fun c hc g e1 e2 => by have := hc g e1; have := hl g e2; omega
  exact ⟨vs, gs, b, h1.grown hg (ne b h2), h2, fun i hi => ⟨(h3 i hi).1.grown hg (ne _ (h3 i hi).2.1), (h3 i hi).2⟩⟩
/-- how many cells the first k rows have -/
def preL (f : Nat → List Int) : Nat → Nat
  | 0 => 0
  | k + 1 => preL f k + (f k).length
theorem preL_mono (f : Nat → List Int) {i j : Nat} (h : i ≤ j) : preL f i ≤ preL f j := by
  induction j with
  | zero => obtain rfl : i = 0 := by omega
            exact Nat.le_refl _
  | succ j ih =>
    by_cases e : i = j + 1
    · subst e; exact Nat.le_refl _
    · exact Nat.le_trans (ih (by omega)) (Nat.le_add_right _ _)
theorem preL_bound (f : Nat → List Int) (L : Nat) : ∀ n, (∀ i, i < n → (f i).length ≤ L) → preL f n ≤ n * L
  | 0, _ => by simp [preL]
  | n + 1, h => by
    have ih := preL_bound f L n (fun i hi => h i (by omega))
    have := h n (by omega)
    rw [preL, Nat.add_mul]; omega
def marksSS (k0 : Int) (f : Nat → List Int) (i : Nat) : List Int := marks (k0 + preL f i) (f i).length
end Go.Proofs.YtiiipaemplihnaaDoor
