/- tables of the call's own; the laws' comparisons of tables; copies of tables -/
import Derived.Test.YtajgghifamebkaaDoorTabP
import Derived.Test.YtajgghifamebkaaDoorClone
namespace Go.Proofs.YtajgghifamebkaaDoor
set_option linter.unusedSimpArgs false
set_option linter.unusedVariables false
open Go.RowKit
def upd {α : Type} (f : Nat → α) (j : Nat) (x : α) : Nat → α := fun i => if i = j then x else f i
theorem upd_same {α : Type} (f : Nat → α) (j : Nat) (x : α) : upd f j x j = x := if_pos rfl
theorem upd_other {α : Type} (f : Nat → α) {i j : Nat} (x : α) (h : i ≠ j) : upd f j x i = f i := if_neg h
theorem gBlock_cells {w : World} {B : Nat} {e : TypeId} {sz n g : Nat} {v : Value} {cs : List Value} (h : Gr w B e sz v n cs) (hg : gBlock v = some g) : ∃ cur, w.heap[g]? = some (.cells cur e (0, 0)) := by
  rcases h with ⟨h1, ⟨h2, h3⟩ | ⟨g', cap, cur, hv, h4, hgg, hc, hm, hs, ht⟩⟩ | ⟨_, _, b, hv⟩
  · rw [h2] at hg; simp [gBlock] at hg
  · rw [hv] at hg
    simp only [gBlock] at hg
    split at hg
    · cases hg
    · cases hg; exact ⟨cur, hgg⟩
  · rw [hv] at hg; simp [gBlock] at hg
theorem gBlock_type {w : World} {B B' : Nat} {e e' : TypeId} {sz sz' n n' : Nat} {v v' : Value} {cs cs' : List Value} (h : Gr w B e sz v n cs) (h' : Gr w B' e' sz' v' n' cs') (he : e ≠ e') : ∀ g, gBlock v = some g → gBlock v' ≠ some g := by
  intro g hg hg'
  obtain ⟨c1, h1⟩ := gBlock_cells h hg
  obtain ⟨c2, h2⟩ := gBlock_cells h' hg'
  rw [h1] at h2
  cases h2
  exact he rfl
theorem row_ne {w : World} {B : Nat} {e e' : TypeId} {sz n gx : Nat} {v : Value} {cs cs' : List Value} (h : Gr w B e sz v n cs) (h' : Row w gx e' cs') (he : e ≠ e') : ∀ g, gBlock v = some g → g ≠ gx := by
  intro g hg hgx
  subst hgx
  obtain ⟨c1, h1⟩ := gBlock_cells h hg
  unfold Row at h'
  rw [h1] at h'
  cases h'
  exact he rfl
theorem Tryd.infoStr : (Tryd.prog.info? 9).map (fun i => (i.zero, i.size, i.bytes)) = some (some (.string ByteArray.empty), 1, 16) := by kernel_rfl
theorem one_strs (l : List ByteArray) : ∀ u ∈ strs l, u.oneCell' = true := fun u hu => by
  obtain ⟨_, _, rfl⟩ := List.mem_map.1 hu; rfl
theorem one_tab {n : Nat} {vs : Nat → Value} (h : ∀ i, i < n → ∃ a k c, vs i = .slice a k c) : ∀ u ∈ tab n vs, u.oneCell' = true := fun u hu => by
  unfold tab at hu
  obtain ⟨i, hi, rfl⟩ := List.mem_map.1 hu
  obtain ⟨a, k, c, e⟩ := h i (List.mem_range.1 hi)
  rw [e]; rfl
/-- rows of the call's own, from B on -/
def RowsO (w : World) (B : Nat) (rv : Value) (n : Nat) (vs : Nat → Value) (f : Nat → List Int) : Prop :=
  Gr w B 38 1 rv n (tab n vs) ∧ ∀ i, i < n → Gr w B 3 1 (vs i) (f i).length (ints (f i))
theorem RowsO.view {w : World} {B : Nat} {rv : Value} {n : Nat} {vs : Nat → Value} {f : Nat → List Int} (h : RowsO w B rv n vs f) : IntSS w rv n f :=
  ⟨vs, h.1.view, fun i hi => Gr.ints (h.2 i hi) rfl⟩
theorem RowsO.mono {w w' : World} {B : Nat} {rv : Value} {n : Nat} {vs : Nat → Value} {f : Nat → List Int} (h : RowsO w B rv n vs f) {B' : Nat} (hb : Below B' w w') (hB : w.heap.size ≤ B') : RowsO w' B rv n vs f :=
  ⟨h.1.mono hb hB, fun i hi => (h.2 i hi).mono hb hB⟩
theorem RowsO.low {w : World} {B B' : Nat} {rv : Value} {n : Nat} {vs : Nat → Value} {f : Nat → List Int} (h : RowsO w B rv n vs f) (hb : B' ≤ B) : RowsO w B' rv n vs f := ⟨h.1.low hb, fun i hi => (h.2 i hi).low hb⟩
/-- what is written into a block of another kind leaves the rows -/
theorem RowsO.kept {w w' : World} {B : Nat} {rv : Value} {n : Nat} {vs : Nat → Value} {f : Nat → List Int} {b : Option Nat} (h : RowsO w B rv n vs f) (hg : w.grownBy w' b) (h1 : ∀ g, gBlock rv = some g → b ≠ some g) (h2 : ∀ i, i < n → ∀ g, gBlock (vs i) = some g → b ≠ some g) : RowsO w' B rv n vs f :=
  ⟨h.1.kept hg h1, fun i hi => (h.2 i hi).kept hg (h2 i hi)⟩
theorem RowsO.keptB {w w' : World} {B : Nat} {rv : Value} {n g : Nat} {vs : Nat → Value} {f : Nat → List Int} (h : RowsO w B rv n vs f) (hg : w.grownBy w' (some g)) (hB : g < B) : RowsO w' B rv n vs f :=
  h.kept hg (fun g' h1 h2 => by have := (h.1.lt g' h1).1; cases h2; omega) (fun i hi g' h1 h2 => by have := ((h.2 i hi).lt g' h1).1; cases h2; omega)
theorem RowsO.lit {w : World} {B : Nat} {rv : Value} {n : Nat} {vs : Nat → Value} {f : Nat → List Int} (h : RowsO w B rv n vs f) : ∀ i, i < n → ∃ a k c, vs i = .slice a k c := fun i hi => by
  obtain ⟨a, c, e⟩ := (h.2 i hi).lit
  exact ⟨a, _, c, e⟩
theorem tab_snocU {α : Type} (n : Nat) (f : Nat → α) (x : α) : tab n f ++ [x] = tab (n + 1) (upd f n x) := by
  have : tab n f = tab n (upd f n x) := tab_congr fun i hi => (upd_other _ _ (by omega)).symm
  rw [this]
  conv => lhs; rw [← upd_same f n x]
  simp [tab, List.range_succ, upd_same]
/-- a row is put behind the others -/
theorem RowsO.app {w w1 w2 : World} {B : Nat} {rv rv' v1 : Value} {n : Nat} {vs : Nat → Value} {f : Nat → List Int} {xs : List Int} (h : RowsO w B rv n vs f) (g1 : Gr w B 3 1 v1 xs.length (ints xs))
    (hb : Below w.heap.size w w1) (g2 : Gr w2 B 38 1 rv' (n + 1) (tab n vs ++ [v1])) (r2 : w1.grownBy w2 (gBlock rv)) : RowsO w2 B rv' (n + 1) (upd vs n v1) (upd f n xs) := by
  have h1 := h.mono hb (Nat.le_refl _)
  have g1' := g1.mono hb (Nat.le_refl _)
  refine ⟨by rw [← tab_snocU]; exact g2, fun i hi => ?_⟩
  by_cases e : i = n
  · subst e
    rw [upd_same, upd_same]
    exact g1'.kept r2 (gBlock_type g1' h1.1 (by decide))
  · rw [upd_other _ _ e, upd_other _ _ e]
    exact (h1.2 i (by omega)).kept r2 (gBlock_type (h1.2 i (by omega)) h1.1 (by decide))
theorem RowsO.ext {w : World} {B : Nat} {rv : Value} {n : Nat} {vs : Nat → Value} {f f' : Nat → List Int} (h : RowsO w B rv n vs f) (e : ∀ i, i < n → f i = f' i) : RowsO w B rv n vs f' :=
  ⟨h.1, fun i hi => by rw [← e i hi]; exact h.2 i hi⟩
/-- a table of the call's own -/
def TabO (w : World) (B : Nat) (v : Value) (ns : List ByteArray) (n : Nat) (f : Nat → List Int) : Prop :=
  ∃ nv rv vs, v = .agg #[nv, rv] ∧ Gr w B 9 1 nv ns.length (strs ns) ∧ RowsO w B rv n vs f
theorem TabO.view {w : World} {B : Nat} {v : Value} {ns : List ByteArray} {n : Nat} {f : Nat → List Int} (h : TabO w B v ns n f) : TabIn w v ns n f := by
  obtain ⟨nv, rv, vs, rfl, h1, h2⟩ := h
  exact ⟨nv, rv, rfl, h1.view, h2.view⟩
theorem TabO.mono {w w' : World} {B : Nat} {v : Value} {ns : List ByteArray} {n : Nat} {f : Nat → List Int} (h : TabO w B v ns n f) {B' : Nat} (hb : Below B' w w') (hB : w.heap.size ≤ B') : TabO w' B v ns n f := by
  obtain ⟨nv, rv, vs, e, h1, h2⟩ := h
  exact ⟨nv, rv, vs, e, h1.mono hb hB, h2.mono hb hB⟩
theorem TabO.low {w : World} {B B' : Nat} {v : Value} {ns : List ByteArray} {n : Nat} {f : Nat → List Int} (h : TabO w B v ns n f) (hb : B' ≤ B) : TabO w B' v ns n f := by
  obtain ⟨nv, rv, vs, e, h1, h2⟩ := h
  exact ⟨nv, rv, vs, e, h1.low hb, h2.low hb⟩
theorem TabO.keptB {w w' : World} {B g : Nat} {v : Value} {ns : List ByteArray} {n : Nat} {f : Nat → List Int} (h : TabO w B v ns n f) (hg : w.grownBy w' (some g)) (hB : g < B) : TabO w' B v ns n f := by
  obtain ⟨nv, rv, vs, e, h1, h2⟩ := h
  exact ⟨nv, rv, vs, e, h1.kept hg (fun g' h1' h2' => by have := (h1.lt g' h1').1; cases h2'; omega), h2.keptB hg hB⟩
theorem TabO.zero (w : World) (B : Nat) : TabO w B (.agg #[.slice none 0 0, .slice none 0 0]) [] 0 (fun _ => []) :=
  ⟨_, _, fun _ => undef, rfl, Gr.nil _ _ _ _, Gr.nil _ _ _ _, fun i hi => absurd hi (Nat.not_lt_zero _)⟩
theorem TabO.lits {w : World} {B : Nat} {v : Value} {ns : List ByteArray} {n : Nat} {f : Nat → List Int} (h : TabO w B v ns n f) : ∃ a c a' c', v = .agg #[.slice a ns.length c, .slice a' n c'] := by
  obtain ⟨nv, rv, vs, rfl, h1, h2⟩ := h
  obtain ⟨a, c, e1⟩ := h1.lit
  obtain ⟨a', c', e2⟩ := h2.1.lit
  exact ⟨a, c, a', c', by rw [e1, e2]⟩
theorem TabIn.lits {w : World} {v : Value} {ns : List ByteArray} {n : Nat} {f : Nat → List Int} (h : TabIn w v ns n f) : ∃ a c a' c', v = .agg #[.slice a ns.length c, .slice a' n c'] := by
  obtain ⟨nv, rv, rfl, h1, h2⟩ := h
  obtain ⟨a, c, e1, _⟩ := h1.open
  obtain ⟨a', c', e2, _⟩ := h2.open
  exact ⟨a, c, a', c', by rw [e1, e2]⟩
set_option maxRecDepth 20000 in
theorem sameTexts_same (v u : Value) (ns : List ByteArray) (w : World) (h : Strs w v ns) (g : Strs w u ns) :
    Calls Tryd.prog 34 #[v, u] w fun e w' => e = .returned (.bool true) ∧ ∃ q, w' = w.drewN q := by
  obtain ⟨ad, c, rfl, hmax, hop⟩ := h.open
  obtain ⟨ad2, c2, rfl, _, hop2⟩ := g.open
  unfold maxLen at hmax
  have HOP := Lib.hid hop
  have HOP2 := Lib.hid hop2
  clear hop hop2 h g
  go_enter Tryd.func34, Tryd.ntmps34
  go_wp2
  go_loopw [5] (fun i wr => ∃ k : Nat, k ≤ ns.length ∧ i = .int .i64 k ∧ ∃ q, wr = w.drewN q) (fun i _ => ns.length - (intOf i).toNat)
  case atStart => exact ⟨0, Nat.zero_le _, rfl, 0, rfl⟩
  case round =>
    obtain ⟨k, hk, rfl, q, rfl⟩ := hrel
    by_cases hlt : k < ns.length
    · obtain ⟨b, off, rfl, hcell⟩ := HOP.out k hlt
      obtain ⟨b2, off2, rfl, hcell2⟩ := HOP2.out k hlt
      have c0 : (w.drewN q).cell? ⟨b, off + k, none⟩ = _ := hcell k hlt
      have d0 : (w.drewN q).cell? ⟨b2, off2 + k, none⟩ = _ := hcell2 k hlt
      have HDS : Hid (∀ q', (w.drewN q).drewN q' = w.drewN (q + q')) := fun q' => World.drewN_drewN _ _ _
      clear hcell hcell2
      obtain ⟨x, hx⟩ : ∃ x, sv ns k = .string x := ⟨_, rfl⟩
      rw [hx] at c0 d0
      clear hx
      have hxx : (x.toList == x.toList) = true := by simp
      generalize w.drewN q = wq at c0 d0 HDS ⊢
      go_wp2
      go_quiet (fail)
      go_wp2
      go_roundw
      case rel => exact ⟨k + 1, hlt, by go_num, _, HDS.out _⟩
      case measure => simp [intOf]; omega
    · obtain rfl : k = ns.length := by omega
      go_wp2
      go_ret
      exact ⟨rfl, _, rfl⟩
set_option maxRecDepth 20000 in
theorem sameRows_same (v u : Value) (n : Nat) (f : Nat → List Int) (w : World) (h : IntSS w v n f) (g : IntSS w u n f) :
    Calls Tryd.prog 35 #[v, u] w fun e w' => e = .returned (.bool true) ∧ Below w.heap.size w w' := by
  obtain ⟨ad, c, rfl, hmax, hop⟩ := h.open
  obtain ⟨ad2, c2, rfl, _, hop2⟩ := g.open
  unfold maxLen at hmax
  have HOP := Lib.hid hop
  have HOP2 := Lib.hid hop2
  clear hop hop2 h g
  go_enter Tryd.func35, Tryd.ntmps35
  go_wp2
  go_loopw [5] (fun i wr => ∃ k : Nat, k ≤ n ∧ i = .int .i64 k ∧ Hid (Below w.heap.size w wr)) (fun i _ => n - (intOf i).toNat)
  case atStart => exact ⟨0, Nat.zero_le _, rfl, Below.refl _ _⟩
  case round =>
    obtain ⟨k, hk, rfl, hB⟩ := hrel
    by_cases hlt : k < n
    · obtain ⟨b, off, rfl, hcell⟩ := HOP.out k hlt
      obtain ⟨b2, off2, rfl, hcell2⟩ := HOP2.out k hlt
      obtain ⟨a', c', h1, h2⟩ := hcell k hlt
      obtain ⟨a2', c2', h3, h4⟩ := hcell2 k hlt
      have c0 := (hB.out.cell (p := ⟨b, off + k, none⟩) (World.block_lt_of_cell? w _ h1)).trans h1
      have d0 := (hB.out.cell (p := ⟨b2, off2 + k, none⟩) (World.block_lt_of_cell? w _ h3)).trans h3
      have HB2 : Hid (Below w.heap.size w wr.drew) := hB.out.drew
      have H2 := Lib.hid (h2.mono HB2.out (Nat.le_refl _))
      have H4 := Lib.hid (h4.mono HB2.out (Nat.le_refl _))
      obtain ⟨xs, hxs⟩ : ∃ xs, f k = xs := ⟨_, rfl⟩
      rw [hxs] at c0 d0 H2 H4
      clear hcell hcell2 hxs h1 h2 h3 h4
      go_wp2
      go_still_tail 8, (by kernel_rfl)
      change wpList _ _ _ _ _ wr.drew
      generalize wr.drew = w2 at HB2 H2 H4 ⊢
      clear c0 d0 hB
      have hsz := HB2.out.size
      go_wp2_with fail
      refine (sameInts_same _ _ xs _ H2.out H4.out).mono ?_
      rintro e w3 ⟨rfl, hb3⟩
      have HB3 : Hid (Below w.heap.size w w3) := HB2.out.trans (hb3.mono hsz)
      clear hb3 HB2 hsz H2 H4
      go_wp2
      go_roundw
      case rel => exact ⟨k + 1, hlt, by go_num, HB3.out⟩
      case measure => simp [intOf]; omega
    · obtain rfl : k = n := by omega
      go_wp2
      go_ret
      exact ⟨rfl, hB.out⟩
set_option maxRecDepth 20000 in
theorem sameTable_same (v u : Value) (ns : List ByteArray) (n : Nat) (f : Nat → List Int) (w : World) (h : TabIn w v ns n f) (g : TabIn w u ns n f) :
    Calls Tryd.prog 13 #[v, u] w fun e w' => e = .returned (.bool true) ∧ Below w.heap.size w w' := by
  obtain ⟨nv, rv, rfl, h1, h2⟩ := h
  obtain ⟨nv2, rv2, rfl, g1, g2⟩ := g
  obtain ⟨W, hW⟩ : ∃ W, W = (w.alloc (.cells #[nv, rv] 26)).alloc (.cells #[nv2, rv2] 26) := ⟨_, rfl⟩
  have HB : Hid (Below w.heap.size w W) := by rw [hW]; exact ((Below.refl _ _).alloc (Nat.le_refl _) _).alloc (by simp) _
  have HR1 : Hid (Row W w.heap.size 26 [nv, rv]) := by rw [hW]; exact (Row.new w 26 [nv, rv]).alloc _
  have HR2 : Hid (Row W (w.heap.size + 1) 26 [nv2, rv2]) := by
    rw [hW]
    have := Row.new (w.alloc (.cells #[nv, rv] 26)) 26 [nv2, rv2]
    rwa [World.size_alloc] at this
  have H1 := Lib.hid (h1.mono HB.out (Nat.le_refl _))
  have H2 := Lib.hid (h2.mono HB.out (Nat.le_refl _))
  have G1 := Lib.hid (g1.mono HB.out (Nat.le_refl _))
  have G2 := Lib.hid (g2.mono HB.out (Nat.le_refl _))
  have HW := Lib.hid hW
  obtain ⟨ad, c, hu, _, _⟩ := h1.open
  subst hu
  obtain ⟨ad2, c2, hu, _, _⟩ := h2.open
  subst hu
  obtain ⟨ad3, c3, hu, _, _⟩ := g1.open
  subst hu
  obtain ⟨ad4, c4, hu, _, _⟩ := g2.open
  subst hu
  clear h1 h2 g1 g2 hW
  go_enter Tryd.func13, Tryd.ntmps13
  go_wp2_with fail
  rw [← HW.out]
  refine (sameTexts_same _ _ ns _ H1.out G1.out).mono ?_
  rintro e w1 ⟨rfl, q, rfl⟩
  have HB1 : Hid (Below w.heap.size w (W.drewN q)) := below_drewN HB.out q
  have HR1' := Lib.hid (HR1.out.mono (below_drewN (Below.refl W.heap.size W) q) HR1.out.lt)
  have HR2' := Lib.hid (HR2.out.mono (below_drewN (Below.refl W.heap.size W) q) HR2.out.lt)
  have H2' := Lib.hid (H2.out.mono (below_drewN (Below.refl W.heap.size W) q) (Nat.le_refl _))
  have G2' := Lib.hid (G2.out.mono (below_drewN (Below.refl W.heap.size W) q) (Nat.le_refl _))
  generalize W.drewN q = W1 at HB1 HR1' HR2' H2' G2' ⊢
  have k0 := HR1'.out.cell (i := 0) rfl
  have k1 := HR1'.out.cell (i := 1) rfl
  have m0 := HR2'.out.cell (i := 0) rfl
  have m1 := HR2'.out.cell (i := 1) rfl
  go_wp2_with fail
  refine (sameRows_same _ _ n f _ H2'.out G2'.out).mono ?_
  rintro e w2 ⟨rfl, hb⟩
  have HB2 := nxt HB1 hb
  clear hb
  go_wp2
  go_ret
  exact ⟨rfl, HB2.out⟩
end Go.Proofs.YtajgghifamebkaaDoor
