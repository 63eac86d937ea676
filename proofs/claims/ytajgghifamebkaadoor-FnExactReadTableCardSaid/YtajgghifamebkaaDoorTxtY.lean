/- tables read: the program's ReadTable -/
import Derived.Test.YtajgghifamebkaaDoorTxtX
namespace Go.Proofs.YtajgghifamebkaaDoor
set_option linter.unusedSimpArgs false
set_option linter.unusedVariables false
open Go.RowKit
open Go
theorem rowsB_congr {m n : Nat} {f f' : Nat → List Int} (h : ∀ i, i < n → f i = f' i) : rowsB m n f = rowsB m n f' := by
  unfold rowsB
  rw [Bool.eq_iff_iff, List.all_eq_true, List.all_eq_true]
  constructor
  · intro hh x hx; rw [← h x (List.mem_range.1 hx)]; exact hh x hx
  · intro hh x hx; rw [h x (List.mem_range.1 hx)]; exact hh x hx
theorem tabB_congr {ns : List (List UInt8)} {n : Nat} {f f' : Nat → List Int} (h : ∀ i, i < n → f i = f' i) : tabB ns n f = tabB ns n f' := by
  unfold tabB; rw [rowsB_congr h]
theorem tabT_congr {ns : List (List UInt8)} {n : Nat} {f f' : Nat → List Int} (h : ∀ i, i < n → f i = f' i) : tabT ns n f = tabT ns n f' := by
  unfold tabT; rw [tab_congr fun i hi => by rw [h i hi]]
/-- parts that were read tell the only table there may be -/
theorem Canon.read {s : List UInt8} {ns ns' : List (List UInt8)} {n n' : Nat} {f f' : Nat → List Int} {p0 : List UInt8} (h : Canon s ns' n' f') (hl : (Lib.split s slL).length = n + 1) (h0 : (Lib.split s slL)[0]? = some p0) (hn : ns = Lib.split p0 spL)
    (hr : ∀ i, i < n → RowOk (f i) ∧ (Lib.split s slL)[i + 1]? = some (rowT (f i))) : Canon s ns n f := by
  have hp := h.parts
  rw [hp] at hl h0 hr
  simp only [List.length_cons, tab_length] at hl
  obtain rfl : n' = n := by omega
  simp only [List.getElem?_cons_zero, Option.some.injEq] at h0
  have e1 : ns = ns' := by rw [hn, ← h0, tab_names h.1]
  have e2 : ∀ i, i < n' → f' i = f i := fun i hi => by
    obtain ⟨h1, h2⟩ := hr i hi
    simp only [List.getElem?_cons_succ, tab_get _ hi, Option.some.injEq] at h2
    exact rowT_inj ((tabB_parts h.1).2.2.2 i hi).1 h1 h2
  subst e1
  exact ⟨by rw [← tabB_congr e2]; exact h.1, by rw [← tabT_congr e2]; exact h.2⟩
theorem Canon.row {s : List UInt8} {ns' : List (List UInt8)} {n' k : Nat} {f' : Nat → List Int} {p : List UInt8} (h : Canon s ns' n' f') (hk : (Lib.split s slL)[k + 1]? = some p) : ∃ r, RowOk r ∧ rowT r = p := by
  rw [h.parts, List.getElem?_cons_succ] at hk
  have hlt : k < n' := by
    have := (List.getElem?_eq_some_iff.1 hk).1
    simpa using this
  rw [tab_get _ hlt] at hk
  exact ⟨f' k, ((tabB_parts h.1).2.2.2 k hlt).1, Option.some.inj hk⟩
def Dist (n : Nat) (vs : Nat → Value) : Prop := ∀ i j, i < n → j < n → i ≠ j → ∀ g, gBlock (vs i) = some g → gBlock (vs j) ≠ some g
/-- a table of the call's own, its rows apart -/
def TabX (w : World) (B : Nat) (v : Value) (ns : List ByteArray) (n : Nat) (f : Nat → List Int) : Prop :=
  ∃ nv rv vs, v = .agg #[nv, rv] ∧ Gr w B 9 1 nv ns.length (strs ns) ∧ RowsO w B rv n vs f ∧ Dist n vs
theorem TabX.view {w : World} {B : Nat} {v : Value} {ns : List ByteArray} {n : Nat} {f : Nat → List Int} (h : TabX w B v ns n f) : TabIn w v ns n f := by
  obtain ⟨nv, rv, vs, rfl, h1, h2, -⟩ := h
  exact ⟨nv, rv, rfl, h1.view, h2.view⟩
/-- what ReadTable returns -/
def TabRd (s : List UInt8) (w : World) (e : Ending) (w' : World) : Prop :=
  (∃ u ns n f, Canon s (txs ns) n f ∧ SmallS ns ∧ e = .returned (.tuple #[u, .bool true]) ∧ TabX w' w.heap.size u ns n f) ∨ ((∀ ns n f, ¬ Canon s ns n f) ∧ e = .returned (.tuple #[.agg #[.slice none 0 0, .slice none 0 0], .bool false]))
/-- while the rows are read -/
structure RT (w : World) (B gx gp : Nat) (nv rv : Value) (vs : Nat → Value) (ns ps : List ByteArray) (n : Nat) (f : Nat → List Int) (wr : World) : Prop where
  x : Row wr gx 26 [nv, rv]
  r : Row wr w.heap.size 26 [.slice none 0 0, .slice none 0 0]
  p : Row wr gp 9 (strs ps)
  nm : Gr wr B 9 1 nv ns.length (strs ns)
  o : RowsO wr B rv n vs f
  d : Dist n vs
  bl : Below w.heap.size w wr
  ge : w.heap.size < gp ∧ gp < B ∧ B ≤ gx
section
variable {w wr w1 w2 : World} {B gx gp n : Nat} {nv rv rv' v1 : Value} {vs : Nat → Value} {ns ps : List ByteArray} {f : Nat → List Int} {xs : List Int}
theorem RT.size (h : RT w B gx gp nv rv vs ns ps n f wr) : B ≤ wr.heap.size := Nat.le_trans h.ge.2.2 (Nat.le_of_lt h.x.lt)
theorem RT.below (h : RT w B gx gp nv rv vs ns ps n f wr) (hb : Below wr.heap.size wr w1) : RT w B gx gp nv rv vs ns ps n f w1 :=
  ⟨h.x.mono hb h.x.lt, h.r.mono hb h.r.lt, h.p.mono hb h.p.lt, h.nm.mono hb (Nat.le_refl _), h.o.mono hb (Nat.le_refl _), h.d, h.bl.trans (hb.mono h.bl.size), h.ge⟩
theorem RT.inT (h : RT w B gx gp nv rv vs ns ps n f wr) : TabIn wr (.agg #[nv, rv]) ns n f := ⟨nv, rv, rfl, h.nm.view, h.o.view⟩
theorem RT.tabX (h : RT w B gx gp nv rv vs ns ps n f wr) : TabX wr w.heap.size (.agg #[nv, rv]) ns n f :=
  ⟨nv, rv, vs, rfl, h.nm.low (by have := h.ge; omega), h.o.low (by have := h.ge; omega), h.d⟩
/-- a row is appended: ahead of the store, and behind it -/
theorem RT.app (h : RT w B gx gp nv rv vs ns ps n f wr) (hd : ∀ i, i < n → ∀ g, gBlock (vs i) = some g → gBlock v1 ≠ some g) (g1 : Gr wr B 3 1 v1 xs.length (ints xs)) (hb : Below wr.heap.size wr w1) (g2 : Gr w2 B 38 1 rv' (n + 1) (tab n vs ++ [v1])) (r2 : w1.grownBy w2 (gBlock rv)) :
    Row w2 gx 26 [nv, rv] ∧ RT w B gx gp nv rv' (upd vs n v1) ns ps (n + 1) (upd f n xs) (w2.setCell ⟨gx, 1, none⟩ rv') := by
  have h1 := h.below hb
  have ho := h.o.app g1 hb g2 r2
  have hx := h1.x.grown r2 (fun e => row_ne h1.o.1 h1.x (by decide) _ e rfl)
  have hp := h1.p.grown r2 (fun e => row_ne h1.o.1 h1.p (by decide) _ e rfl)
  have hn := h1.nm.kept r2 (gBlock_type h1.nm h1.o.1 (by decide))
  have hr := h1.r.grown r2 (fun e => row_ne h1.o.1 h1.r (by decide) _ e rfl)
  have hb2 : Below w.heap.size w w2 := h1.bl.grown r2 h1.bl.size (fun g e => by have := (h1.o.1.lt g e).1; have := h.ge; omega)
  refine ⟨hx, ?_⟩
  have hs : w2.grownBy (w2.setCell ⟨gx, 1, none⟩ rv') (some gx) := set_other w2 ⟨gx, 1, none⟩ rv' rfl
  have hge := h.ge
  refine ⟨hx.set 1 rv', hr.grown hs (fun e => by have := Option.some.inj e; omega), hp.grown hs (fun e => by have := Option.some.inj e; omega), hn.kept hs (fun g hg he => by cases he; exact row_ne hn hx (by decide) _ hg rfl), ho.kept hs (fun g hg he => by cases he; exact row_ne ho.1 hx (by decide) _ hg rfl) (fun i hi g hg he => by cases he; exact row_ne (ho.2 i hi) hx (by decide) _ hg rfl), ?_, hb2.setCell (p := ⟨gx, 1, none⟩) (by show w.heap.size ≤ gx; omega) _, h.ge⟩
  intro i j hi hj hne g hg
  by_cases e1 : i = n
  · subst e1
    rw [upd_same] at hg
    rw [upd_other _ _ (fun e => hne e.symm)]
    intro he
    exact hd j (by omega) g he hg
  · rw [upd_other _ _ e1] at hg
    by_cases e2 : j = n
    · subst e2
      rw [upd_same]
      exact hd i (by omega) g hg
    · rw [upd_other _ _ e2]
      exact h.d i j (by omega) (by omega) hne g hg
end
end Go.Proofs.YtajgghifamebkaaDoor
