/- catalogs of a draw's own: what its steps keep -/
import Derived.Test.YtiiipaemplihnaaDoorTabTs
import Derived.Test.YtiiipaemplihnaaDoorCat
namespace Go.Proofs.YtiiipaemplihnaaDoor
open Go.RowKit
theorem Gr.take {w : World} {B : Nat} {e : TypeId} {sz n c k : Nat} {ad : Option Addr} {cs : List Value} (h : Gr w B e sz (.slice ad n c) n cs) (hk : k ≤ n) : Gr w B e sz (.slice ad k c) k (cs.take (k * sz)) := by
  rcases h with ⟨hl, h⟩ | ⟨rfl, rfl, b, hb⟩
  · rcases h with ⟨hv, rfl⟩ | ⟨g, cap, cur, hv, hB, hw, h1, h2, h3, h4⟩
    · cases hv
      obtain rfl : k = 0 := by omega
      have : cs = [] := List.eq_nil_of_length_eq_zero (by omega)
      subst this
      simpa using Gr.nil w B e sz
    · cases hv
      have hks := Nat.mul_le_mul_right sz hk
      exact .inl ⟨by rw [List.length_take, hl, Nat.min_eq_left hks], .inr ⟨g, c, cur, rfl, hB, hw, by omega, h2, h3, by rw [← h4, List.take_take, Nat.min_eq_left hks]⟩⟩
  · cases hb
    obtain rfl : k = 0 := by omega
    exact .inr ⟨rfl, by simp, b, rfl⟩
theorem tab_takeN {α : Type} {n k : Nat} (f : Nat → α) (hk : k ≤ n) : (tab n f).take k = tab k f := by
  simp [tab, ← List.map_take, List.take_range, Nat.min_eq_left hk]
theorem RowsO.take {w : World} {B : Nat} {ad : Option Addr} {n c k : Nat} {vs : Nat → Value} {f : Nat → List Int} (h : RowsO w B (.slice ad n c) n vs f) (hk : k ≤ n) : RowsO w B (.slice ad k c) k vs f := by
  have := h.1.take hk
  rw [Nat.mul_one, tab_takeN _ hk] at this
  exact ⟨this, fun i hi => h.2 i (by omega)⟩
theorem catF_take {n k : Nat} (en : Nat → Ent) (nv rv : Nat → Value) (hk : k ≤ n) : (tab n fun i => catC (en i).1 (nv i) (rv i)).flatten.take (k * 3) = (tab k fun i => catC (en i).1 (nv i) (rv i)).flatten := by
  have h1 : tab n (fun i => catC (en i).1 (nv i) (rv i)) = tab k (fun i => catC (en i).1 (nv i) (rv i)) ++ (tab n (fun i => catC (en i).1 (nv i) (rv i))).drop k := by
    rw [← tab_takeN _ hk, List.take_append_drop]
  have h2 : (tab k fun i => catC (en i).1 (nv i) (rv i)).flatten.length = k * 3 := by
    rw [flat_length (sz := 3) _ (by intro c hc; simp only [tab, List.mem_map] at hc; obtain ⟨i, -, rfl⟩ := hc; rfl), tab_length]
  rw [h1, List.flatten_append, List.take_left' h2]
theorem catF_snoc (n : Nat) (en : Nat → Ent) (nv rv : Nat → Value) (nm : ByteArray) (x : List ByteArray × Nat × (Nat → List Int)) (nvx rvx : Value) :
    (tab n fun i => catC (en i).1 (nv i) (rv i)).flatten ++ [.string nm, nvx, rvx] = (tab (n + 1) fun i => catC (upd en n (nm, x) i).1 (upd nv n nvx i) (upd rv n rvx i)).flatten := by
  have h1 : tab (n + 1) (fun i => catC (upd en n (nm, x) i).1 (upd nv n nvx i) (upd rv n rvx i)) = tab n (fun i => catC (en i).1 (nv i) (rv i)) ++ [catC nm nvx rvx] := by
    have e : tab n (fun i => catC (en i).1 (nv i) (rv i)) = tab n (fun i => catC (upd en n (nm, x) i).1 (upd nv n nvx i) (upd rv n rvx i)) := tab_congr fun i hi => by rw [upd_other _ _ (by omega), upd_other _ _ (by omega), upd_other _ _ (by omega)]
    rw [e]
    simp only [tab, List.range_succ, List.map_append, List.map_cons, List.map_nil, upd_same]
  rw [h1, List.flatten_append]
  simp [catC]
theorem TabO.keptT {w w' : World} {B B' sz m : Nat} {v cv : Value} {ns : List ByteArray} {n : Nat} {f : Nat → List Int} {cs : List Value} (h : TabO w B v ns n f) (hc : Gr w B' 34 sz cv m cs) (hg : w.grownBy w' (gBlock cv)) : TabO w' B v ns n f := by
  obtain ⟨nv, rv, vs, rfl, h1, h2⟩ := h
  exact ⟨nv, rv, vs, rfl, h1.kept hg (gBlock_type h1 hc (by decide)), h2.kept hg (gBlock_type h2.1 hc (by decide)) (fun i hi => gBlock_type (h2.2 i hi) hc (by decide))⟩
structure CS (w : World) (R : Nat) (v : Value) (bs : List Int) (p : Nat) (cv : Value) (n : Nat) (en : Nat → Ent) (nv rv : Nat → Value) (wr : World) : Prop where
  c : Gr wr w.heap.size 34 3 cv n (tab n fun i => catC (en i).1 (nv i) (rv i)).flatten
  t : ∀ i, i < n → TabO wr w.heap.size (.agg #[nv i, rv i]) (en i).2.1 (en i).2.2.1 (en i).2.2.2
  s : SmallC n en
  rd : Rd wr R v bs ((p : Nat) : Int)
  gw : w.grownBy wr (some R)
  lt : R < w.heap.size
  lv : 0 < bs.length → ∀ g, v.ownBlock = some g → g < w.heap.size
section
variable {w wr w1 w2 : World} {R p p' n : Nat} {v cv cv' : Value} {bs : List Int} {en : Nat → Ent} {nv rv : Nat → Value}
theorem CS.size (h : CS w R v bs p cv n en nv rv wr) : w.heap.size ≤ wr.heap.size := h.gw.size
theorem CS.read (h : CS w R v bs p cv n en nv rv wr) (hr : Rd w1 R v bs ((p' : Nat) : Int)) (hg : wr.grownBy w1 (some R)) : CS w R v bs p' cv n en nv rv w1 :=
  ⟨h.c.kept hg (fun g hg' he => by have := (h.c.lt g hg').1; have := h.lt; cases he; omega), fun i hi => (h.t i hi).keptB hg h.lt, h.s, hr, grown_trans h.gw hg, h.lt, h.lv⟩
theorem CS.below (h : CS w R v bs p cv n en nv rv wr) (hb : Below wr.heap.size wr w1) : CS w R v bs p cv n en nv rv w1 :=
  ⟨h.c.mono hb (Nat.le_refl _), fun i hi => (h.t i hi).mono hb (Nat.le_refl _), h.s, h.rd.below (hb.mono h.size) h.lt h.lv, grown_below h.gw (hb.mono h.size), h.lt, h.lv⟩
theorem CS.take {ad : Option Addr} {c k : Nat} (h : CS w R v bs p (.slice ad n c) n en nv rv wr) (hk : k ≤ n) : CS w R v bs p (.slice ad k c) k en nv rv wr := by
  have := h.c.take hk
  rw [catF_take en nv rv hk] at this
  exact ⟨this, fun i hi => h.t i (by omega), fun i hi => h.s i (by omega), h.rd, h.gw, h.lt, h.lv⟩
theorem CS.app (h : CS w R v bs p cv n en nv rv wr) {nm : ByteArray} {ns : List ByteArray} {k : Nat} {f : Nat → List Int} {nvx rvx : Value} (hb : Below wr.heap.size wr w1) (ht : TabO w1 w.heap.size (.agg #[nvx, rvx]) ns k f) (hs : nm.size ≤ 4000000 ∧ SmallS ns)
    (g2 : Gr w2 w.heap.size 34 3 cv' (n + 1) ((tab n fun i => catC (en i).1 (nv i) (rv i)).flatten ++ [.string nm, nvx, rvx])) (r2 : w1.grownBy w2 (gBlock cv)) : CS w R v bs p cv' (n + 1) (upd en n (nm, ns, k, f)) (upd nv n nvx) (upd rv n rvx) w2 := by
  have h1 := h.below hb
  have hb2 : Below w.heap.size w1 w2 := (Below.refl _ _).grown r2 h1.size (fun g e => (h1.c.lt g e).1)
  rw [catF_snoc n en nv rv nm (ns, k, f) nvx rvx] at g2
  refine ⟨g2, fun i hi => ?_, fun i hi => ?_, h1.rd.below hb2 h.lt h.lv, grown_below h1.gw hb2, h.lt, h.lv⟩
  · by_cases e : i = n
    · subst e; rw [upd_same, upd_same, upd_same]; exact ht.keptT h1.c r2
    · rw [upd_other _ _ e, upd_other _ _ e, upd_other _ _ e]; exact (h1.t i (by omega)).keptT h1.c r2
  · by_cases e : i = n
    · subst e; rw [upd_same]; exact hs
    · rw [upd_other _ _ e]; exact h.s i (by omega)
theorem CS.app2 (h : CS w R v bs p cv n en nv rv wr) {nm nm' : ByteArray} {ns ns' : List ByteArray} {k k' : Nat} {f f' : Nat → List Int} {nvx rvx nvy rvy : Value} (hb : Below wr.heap.size wr w1) (ht : TabO w1 w.heap.size (.agg #[nvx, rvx]) ns k f) (ht' : TabO w1 w.heap.size (.agg #[nvy, rvy]) ns' k' f')
    (hs : nm.size ≤ 4000000 ∧ SmallS ns) (hs' : nm'.size ≤ 4000000 ∧ SmallS ns')
    (g2 : Gr w2 w.heap.size 34 3 cv' (n + 2) ((tab n fun i => catC (en i).1 (nv i) (rv i)).flatten ++ [.string nm, nvx, rvx, .string nm', nvy, rvy])) (r2 : w1.grownBy w2 (gBlock cv)) :
    CS w R v bs p cv' (n + 2) (upd (upd en n (nm, ns, k, f)) (n + 1) (nm', ns', k', f')) (upd (upd nv n nvx) (n + 1) nvy) (upd (upd rv n rvx) (n + 1) rvy) w2 := by
  have h1 := h.below hb
  have hb2 : Below w.heap.size w1 w2 := (Below.refl _ _).grown r2 h1.size (fun g e => (h1.c.lt g e).1)
  rw [show ∀ l : List Value, l ++ [.string nm, nvx, rvx, .string nm', nvy, rvy] = (l ++ [.string nm, nvx, rvx]) ++ [.string nm', nvy, rvy] by intro l; simp, catF_snoc n en nv rv nm (ns, k, f) nvx rvx, catF_snoc (n + 1) _ _ _ nm' (ns', k', f') nvy rvy] at g2
  refine ⟨g2, fun i hi => ?_, fun i hi => ?_, h1.rd.below hb2 h.lt h.lv, grown_below h1.gw hb2, h.lt, h.lv⟩
  · by_cases e1 : i = n + 1
    · subst e1; rw [upd_same, upd_same, upd_same]; exact ht'.keptT h1.c r2
    · rw [upd_other _ _ e1, upd_other _ _ e1, upd_other _ _ e1]
      by_cases e : i = n
      · subst e; rw [upd_same, upd_same, upd_same]; exact ht.keptT h1.c r2
      · rw [upd_other _ _ e, upd_other _ _ e, upd_other _ _ e]; exact (h1.t i (by omega)).keptT h1.c r2
  · by_cases e1 : i = n + 1
    · subst e1; rw [upd_same]; exact hs'
    · rw [upd_other _ _ e1]
      by_cases e : i = n
      · subst e; rw [upd_same]; exact hs
      · rw [upd_other _ _ e]; exact h.s i (by omega)
end
def CatDr (R : Nat) (v : Value) (bs : List Int) (p : Nat) (w : World) (e : Ending) (w' : World) : Prop :=
  ∃ u n en nv rv p', e = .returned u ∧ p ≤ p' ∧ p' ≤ p + 1000000 ∧ CS w R v bs p' u n en nv rv w'
theorem CS.cat {w wr : World} {R p n : Nat} {v cv : Value} {bs : List Int} {en : Nat → Ent} {nv rv : Nat → Value} (h : CS w R v bs p cv n en nv rv wr) : CatIn wr cv n en :=
  ⟨nv, rv, h.c.view, fun i hi => by
    obtain ⟨a, b, hab, g1, g2⟩ := (h.t i hi).view
    cases hab
    exact ⟨g1, g2⟩⟩
theorem CS.fin {w wr : World} {R p p0 n : Nat} {v cv : Value} {bs : List Int} {en : Nat → Ent} {nv rv : Nat → Value} (h : CS w R v bs p cv n en nv rv wr) (h1 : p0 ≤ p) (h2 : p ≤ p0 + 1000000) : CatDr R v bs p0 w (.returned cv) wr := ⟨cv, n, en, nv, rv, p, rfl, h1, h2, h⟩
/-- two named tables in a block of their own -/
theorem CS.two {w wr : World} {R p gc : Nat} {v : Value} {bs : List Int} {nm nm' : ByteArray} {ns ns' : List ByteArray} {k k' : Nat} {f f' : Nat → List Int} {a b c d : Value} (hr : Row wr gc 34 [.string nm, a, b, .string nm', c, d]) (hg : w.heap.size ≤ gc)
    (ht : TabO wr w.heap.size (.agg #[a, b]) ns k f) (ht' : TabO wr w.heap.size (.agg #[c, d]) ns' k' f') (hs : nm.size ≤ 4000000 ∧ SmallS ns) (hs' : nm'.size ≤ 4000000 ∧ SmallS ns') (rd : Rd wr R v bs ((p : Nat) : Int)) (gw : w.grownBy wr (some R)) (lt : R < w.heap.size) (lv : 0 < bs.length → ∀ g, v.ownBlock = some g → g < w.heap.size) :
    CS w R v bs p (.slice (some ⟨gc, 0, none⟩) 2 2) 2 (fun i => if i = 0 then (nm, ns, k, f) else (nm', ns', k', f')) (fun i => if i = 0 then a else c) (fun i => if i = 0 then b else d) wr :=
  ⟨Gr.of_made (n := 2) (sz := 3) hr rfl (by unfold maxLen; omega) hg, fun i hi => by
    have : i = 0 ∨ i = 1 := by omega
    rcases this with rfl | rfl
    · exact ht
    · exact ht', fun i hi => by
    have : i = 0 ∨ i = 1 := by omega
    rcases this with rfl | rfl
    · exact hs
    · exact hs', rd, gw, lt, lv⟩
theorem CS.five {w wr : World} {R p gc : Nat} {v : Value} {bs : List Int} (hr : Row wr gc 34 (tab 5 fun _ => catC ByteArray.empty (.slice none 0 0) (.slice none 0 0)).flatten) (hg : w.heap.size ≤ gc) (rd : Rd wr R v bs ((p : Nat) : Int)) (gw : w.grownBy wr (some R)) (lt : R < w.heap.size) (lv : 0 < bs.length → ∀ g, v.ownBlock = some g → g < w.heap.size) :
    CS w R v bs p (.slice (some ⟨gc, 0, none⟩) 5 5) 5 (fun _ => (ByteArray.empty, [], 0, fun _ => [])) (fun _ => .slice none 0 0) (fun _ => .slice none 0 0) wr :=
  ⟨Gr.of_made (n := 5) (sz := 3) hr rfl (by unfold maxLen; omega) hg, fun _ _ => TabO.zero _ _, fun _ _ => ⟨by decide, fun s hs => by cases hs⟩, rd, gw, lt, lv⟩
end Go.Proofs.YtiiipaemplihnaaDoor
