/- the draw of a table: what its steps keep, and its operations -/
import Derived.Test.YtajgghifamebkaaDoorTabNm
import Derived.Test.YtajgghifamebkaaDoorTabC
namespace Go.Proofs.YtajgghifamebkaaDoor
set_option linter.unusedSimpArgs false
set_option linter.unusedVariables false
open Go.RowKit
structure TS (w : World) (R B gx : Nat) (v : Value) (bs : List Int) (p : Nat) (nv rv : Value) (vs : Nat → Value) (ns : List ByteArray) (n : Nat) (f : Nat → List Int) (wr : World) : Prop where
  x : Row wr gx 26 [nv, rv]
  r : Row wr w.heap.size 26 [.slice none 0 0, .slice none 0 0]
  nm : Gr wr B 9 1 nv ns.length (strs ns)
  o : RowsO wr B rv n vs f
  rd : Rd wr R v bs ((p : Nat) : Int)
  gw : w.grownBy wr (some R)
  ge : R < w.heap.size ∧ w.heap.size < B ∧ B ≤ gx
  lv : 0 < bs.length → ∀ g, v.ownBlock = some g → g < w.heap.size
section
variable {w wr w1 w2 : World} {R B gx p p' : Nat} {v nv rv nv' rv' : Value} {bs : List Int} {vs : Nat → Value} {ns ns' : List ByteArray} {n : Nat} {f : Nat → List Int}
theorem TS.size (h : TS w R B gx v bs p nv rv vs ns n f wr) : B ≤ wr.heap.size := Nat.le_trans h.ge.2.2 (Nat.le_of_lt h.x.lt)
theorem TS.read (h : TS w R B gx v bs p nv rv vs ns n f wr) (hr : Rd w1 R v bs ((p' : Nat) : Int)) (hg : wr.grownBy w1 (some R)) : TS w R B gx v bs p' nv rv vs ns n f w1 :=
  ⟨h.x.grown hg (some_ne (by have := h.ge; omega)), h.r.grown hg (some_ne (by have := h.ge; omega)), h.nm.kept hg (fun g hg' he => by have := (h.nm.lt g hg').1; have := h.ge; cases he; omega), h.o.keptB hg (by have := h.ge; omega), hr, grown_trans h.gw hg, h.ge, h.lv⟩
theorem TS.below (h : TS w R B gx v bs p nv rv vs ns n f wr) (hb : Below wr.heap.size wr w1) : TS w R B gx v bs p nv rv vs ns n f w1 :=
  have hb' : Below w.heap.size wr w1 := hb.mono (by have := h.ge; have := h.size; omega)
  ⟨h.x.mono hb h.x.lt, h.r.mono hb h.r.lt, h.nm.mono hb (Nat.le_refl _), h.o.mono hb (Nat.le_refl _), h.rd.below hb' h.ge.1 h.lv, grown_below h.gw hb', h.ge, h.lv⟩
theorem TS.drew (h : TS w R B gx v bs p nv rv vs ns n f wr) : TS w R B gx v bs p nv rv vs ns n f wr.drew := h.below ((Below.refl wr.heap.size wr).drew)
/-- a write into a block of one's own, from B on -/
theorem TS.write (h : TS w R B gx v bs p nv rv vs ns n f wr) {b : Option Nat} (hg : wr.grownBy w1 b) (hB : ∀ g, b = some g → B ≤ g) : Row w1 w.heap.size 26 [.slice none 0 0, .slice none 0 0] ∧ Rd w1 R v bs ((p : Nat) : Int) ∧ w.grownBy w1 (some R) := by
  have hb : Below w.heap.size wr w1 := (Below.refl _ _).grown hg (by have := h.ge; have := h.size; omega) (fun g e => by have := hB g e; have := h.ge; omega)
  exact ⟨h.r.grown hg (fun e => by have := hB _ e; have := h.ge; omega), h.rd.below hb h.ge.1 h.lv, grown_below h.gw hb⟩
theorem TS.rows (h : TS w R B gx v bs p nv rv vs ns n f wr) {vs' : Nat → Value} {n' : Nat} {f' : Nat → List Int} (ho : RowsO wr B rv' n' vs' f') : TS w R B gx v bs p nv rv' vs' ns n' f' (wr.setCell ⟨gx, 1, none⟩ rv') := by
  have hs : wr.grownBy (wr.setCell ⟨gx, 1, none⟩ rv') (some gx) := set_other wr ⟨gx, 1, none⟩ rv' rfl
  obtain ⟨h1, h2, h3⟩ := h.write hs (fun g e => by cases e; exact h.ge.2.2)
  exact ⟨h.x.set 1 rv', h1, h.nm.kept hs (fun g hg he => by cases he; exact row_ne h.nm h.x (by decide) _ hg rfl), ho.kept hs (fun g hg he => by cases he; exact row_ne ho.1 h.x (by decide) _ hg rfl) (fun i hi g hg he => by cases he; exact row_ne (ho.2 i hi) h.x (by decide) _ hg rfl), h2, h3, h.ge, h.lv⟩
theorem TS.names (h : TS w R B gx v bs p nv rv vs ns n f wr) (hn : Gr wr B 9 1 nv' ns'.length (strs ns')) : TS w R B gx v bs p nv' rv vs ns' n f (wr.setCell ⟨gx, 0, none⟩ nv') := by
  have hs : wr.grownBy (wr.setCell ⟨gx, 0, none⟩ nv') (some gx) := set_other wr ⟨gx, 0, none⟩ nv' rfl
  obtain ⟨h1, h2, h3⟩ := h.write hs (fun g e => by cases e; exact h.ge.2.2)
  exact ⟨h.x.set 0 nv', h1, hn.kept hs (fun g hg he => by cases he; exact row_ne hn h.x (by decide) _ hg rfl), h.o.kept hs (fun g hg he => by cases he; exact row_ne h.o.1 h.x (by decide) _ hg rfl) (fun i hi g hg he => by cases he; exact row_ne (h.o.2 i hi) h.x (by decide) _ hg rfl), h2, h3, h.ge, h.lv⟩
/-- behind an append to the names, ahead of its store -/
theorem TS.midN (h : TS w R B gx v bs p nv rv vs ns n f wr) (g2 : Gr w2 B 9 1 nv' ns'.length (strs ns')) (r2 : wr.grownBy w2 (gBlock nv)) : Row w2 gx 26 [nv, rv] ∧ TS w R B gx v bs p nv' rv vs ns' n f (w2.setCell ⟨gx, 0, none⟩ nv') := by
  have hx := h.x.grown r2 (fun e => row_ne h.nm h.x (by decide) _ e rfl)
  have ho := h.o.kept r2 (gBlock_type h.o.1 h.nm (by decide)) (fun i hi => gBlock_type (h.o.2 i hi) h.nm (by decide))
  obtain ⟨h1, h2, h3⟩ := h.write r2 (fun g e => (h.nm.lt g e).1)
  refine ⟨hx, ?_⟩
  have hs : w2.grownBy (w2.setCell ⟨gx, 0, none⟩ nv') (some gx) := set_other w2 ⟨gx, 0, none⟩ nv' rfl
  have hb : Below w.heap.size w2 (w2.setCell ⟨gx, 0, none⟩ nv') := (Below.refl _ _).setCell (p := ⟨gx, 0, none⟩) (by have := h.ge; show w.heap.size ≤ gx; omega) _
  exact ⟨hx.set 0 nv', h1.grown hs (some_ne (by have := h.ge; omega)), g2.kept hs (fun g hg he => by cases he; exact row_ne g2 hx (by decide) _ hg rfl), ho.kept hs (fun g hg he => by cases he; exact row_ne ho.1 hx (by decide) _ hg rfl) (fun i hi g hg he => by cases he; exact row_ne (ho.2 i hi) hx (by decide) _ hg rfl), h2.below hb h.ge.1 h.lv, grown_below h3 hb, h.ge, h.lv⟩
/-- behind an append to the rows, ahead of its store -/
theorem TS.midR (h : TS w R B gx v bs p nv rv vs ns n f wr) {v1 : Value} {xs : List Int} (g1 : Gr wr B 3 1 v1 xs.length (ints xs)) (hb : Below wr.heap.size wr w1) (g2 : Gr w2 B 38 1 rv' (n + 1) (tab n vs ++ [v1])) (r2 : w1.grownBy w2 (gBlock rv)) :
    Row w2 gx 26 [nv, rv] ∧ TS w R B gx v bs p nv rv' (upd vs n v1) ns (n + 1) (upd f n xs) (w2.setCell ⟨gx, 1, none⟩ rv') := by
  have h1 := h.below hb
  have ho := h.o.app g1 hb g2 r2
  have hx := h1.x.grown r2 (fun e => row_ne h1.o.1 h1.x (by decide) _ e rfl)
  have hn := h1.nm.kept r2 (gBlock_type h1.nm h1.o.1 (by decide))
  obtain ⟨k1, k2, k3⟩ := h1.write r2 (fun g e => (h1.o.1.lt g e).1)
  refine ⟨hx, ?_⟩
  have hs : w2.grownBy (w2.setCell ⟨gx, 1, none⟩ rv') (some gx) := set_other w2 ⟨gx, 1, none⟩ rv' rfl
  have hb2 : Below w.heap.size w2 (w2.setCell ⟨gx, 1, none⟩ rv') := (Below.refl _ _).setCell (p := ⟨gx, 1, none⟩) (by have := h.ge; show w.heap.size ≤ gx; omega) _
  exact ⟨hx.set 1 rv', k1.grown hs (some_ne (by have := h.ge; omega)), hn.kept hs (fun g hg he => by cases he; exact row_ne hn hx (by decide) _ hg rfl), ho.kept hs (fun g hg he => by cases he; exact row_ne ho.1 hx (by decide) _ hg rfl) (fun i hi g hg he => by cases he; exact row_ne (ho.2 i hi) hx (by decide) _ hg rfl), k2.below hb2 h.ge.1 h.lv, grown_below k3 hb2, h.ge, h.lv⟩
/-- the first name is written -/
theorem TS.name0 (h : TS w R B gx v bs p nv rv vs ns n f wr) (h0 : 0 < ns.length) (s : ByteArray) : ∃ g c, nv = .slice (some ⟨g, 0, none⟩) ns.length c ∧ (∃ u, wr.cell? ⟨g, 0, none⟩ = some u) ∧ wr.frozen? ⟨g, 0, none⟩ = false ∧ TS w R B gx v bs p nv rv vs (ns.set 0 s) n f (wr.setCell ⟨g, 0, none⟩ (.string s)) := by
  obtain ⟨g, c, hv, hB, hc, -, hfr, hcl, hset⟩ := h.nm.at h0
  have hgb : gBlock nv = some g := by rw [hv]; simp [gBlock]; omega
  have hs : wr.grownBy (wr.setCell ⟨g, 0, none⟩ (.string s)) (some g) := set_other wr ⟨g, 0, none⟩ _ rfl
  obtain ⟨h1, h2, h3⟩ := h.write hs (fun g' e => by cases e; exact hB)
  refine ⟨g, c, hv, ⟨_, hcl 0 _ (strs_get h0)⟩, hfr 0, h.x.grown hs (fun e => row_ne h.nm h.x (by decide) _ hgb (Option.some.inj e)), h1, ?_, h.o.kept hs (fun g' hg he => by cases he; exact gBlock_type h.o.1 h.nm (by decide) _ hg hgb) (fun i hi g' hg he => by cases he; exact gBlock_type (h.o.2 i hi) h.nm (by decide) _ hg hgb), h2, h3, h.ge, h.lv⟩
  have := hset 0 (.string s) h0
  rw [List.length_set, show strs (ns.set 0 s) = (strs ns).set 0 (.string s) by simp [strs, List.map_set]]
  exact this
/-- a number of a row is written -/
theorem TS.cell0 (h : TS w R B gx v bs p nv rv vs ns n f wr) {k : Nat} (hk : k < n) (h0 : 0 < (f k).length) (hd : ∀ i, i < n → i ≠ k → ∀ g, gBlock (vs i) = some g → gBlock (vs k) ≠ some g) (y : Int) :
    ∃ g c g2 c2, rv = .slice (some ⟨g, 0, none⟩) n c ∧ wr.cell? ⟨g, k, none⟩ = some (.slice (some ⟨g2, 0, none⟩) (f k).length c2) ∧ (∃ u, wr.cell? ⟨g2, 0, none⟩ = some u) ∧ wr.frozen? ⟨g2, 0, none⟩ = false ∧
      TS w R B gx v bs p nv rv vs ns n (upd f k ((f k).set 0 y)) (wr.setCell ⟨g2, 0, none⟩ (.int .i64 y)) := by
  obtain ⟨g, c, hv, hB, hc, -, hfr, hcl, -⟩ := h.o.1.at (by omega)
  obtain ⟨g2, c2, hv2, hB2, hc2, -, hfr2, hcl2, hset⟩ := (h.o.2 k hk).at h0
  have hgb : gBlock (vs k) = some g2 := by rw [hv2]; simp [gBlock]; omega
  have hs : wr.grownBy (wr.setCell ⟨g2, 0, none⟩ (.int .i64 y)) (some g2) := set_other wr ⟨g2, 0, none⟩ _ rfl
  obtain ⟨h1, h2, h3⟩ := h.write hs (fun g' e => by cases e; exact hB2)
  have hcc := hcl k _ (tab_get vs hk)
  rw [hv2] at hcc
  refine ⟨g, c, g2, c2, hv, hcc, ⟨_, hcl2 0 _ (ints_get h0)⟩, hfr2 0, h.x.grown hs (fun e => row_ne (h.o.2 k hk) h.x (by decide) _ hgb (Option.some.inj e)), h1, h.nm.kept hs (fun g' hg he => by cases he; exact gBlock_type h.nm (h.o.2 k hk) (by decide) _ hg hgb), ⟨h.o.1.kept hs (fun g' hg he => by cases he; exact gBlock_type h.o.1 (h.o.2 k hk) (by decide) _ hg hgb), fun i hi => ?_⟩, h2, h3, h.ge, h.lv⟩
  by_cases e : i = k
  · subst e
    rw [upd_same]
    have := hset 0 (.int .i64 y) h0
    rw [List.length_set, show ints ((f i).set 0 y) = (ints (f i)).set 0 (.int .i64 y) by simp [ints, List.map_set]]
    exact this
  · rw [upd_other _ _ e]
    exact (h.o.2 i hi).kept hs (fun g' hg he => by cases he; exact hd i hi e _ hg hgb)
end
/-- what the drawn rows are -/
def RowsB (n : Nat) (f : Nat → List Int) : Prop := n ≤ 17 ∧ ∀ i, i < n → (f i).length ≤ 7 ∧ ∀ x ∈ f i, -100001 ≤ x ∧ x ≤ 100001
def TabDr (R : Nat) (v : Value) (bs : List Int) (p : Nat) (w : World) (e : Ending) (w' : World) : Prop :=
  ∃ u ns n f p', e = .returned u ∧ TabO w' w.heap.size u ns n f ∧ ns.length ≤ 4 ∧ (∀ s ∈ ns, s.size ≤ 9) ∧ RowsB n f ∧ p ≤ p' ∧ p' ≤ p + 30000 ∧ Rd w' R v bs ((p' : Nat) : Int) ∧ w.grownBy w' (some R)
/-- what stands in the result's box at the end -/
theorem TS.fin {w wr : World} {R B gx p : Nat} {v nv rv : Value} {bs : List Int} {vs : Nat → Value} {ns : List ByteArray} {n : Nat} {f : Nat → List Int} (h : TS w R B gx v bs p nv rv vs ns n f wr) {p0 : Nat} (h4 : ns.length ≤ 4) (hs : ∀ s ∈ ns, s.size ≤ 9) (hr : RowsB n f) (hp : p0 ≤ p) (hp2 : p ≤ p0 + 30000) :
    TabDr R v bs p0 w (.returned (.agg #[nv, rv])) ((wr.setCell ⟨w.heap.size, 0, none⟩ nv).setCell ⟨w.heap.size, 1, none⟩ rv) := by
  have hg : wr.grownBy ((wr.setCell ⟨w.heap.size, 0, none⟩ nv).setCell ⟨w.heap.size, 1, none⟩ rv) (some w.heap.size) := grown_set (set_other wr ⟨w.heap.size, 0, none⟩ _ rfl) _ _
  have hb : Below w.heap.size wr ((wr.setCell ⟨w.heap.size, 0, none⟩ nv).setCell ⟨w.heap.size, 1, none⟩ rv) := ((Below.refl _ _).setCell (p := ⟨w.heap.size, 0, none⟩) (Nat.le_refl _) _).setCell (p := ⟨w.heap.size, 1, none⟩) (Nat.le_refl _) _
  have hT : TabO wr B (.agg #[nv, rv]) ns n f := ⟨nv, rv, vs, rfl, h.nm, h.o⟩
  exact ⟨_, ns, n, f, p, rfl, (hT.keptB hg h.ge.2.1).low (Nat.le_of_lt h.ge.2.1), h4, hs, hr, hp, hp2, h.rd.below hb h.ge.1 h.lv, grown_below h.gw hb⟩
def RowsP (R B l : Nat) (v : Value) (w : World) : Prop := R < B ∧ ∃ n vs f, n ≤ 16 ∧ RowsO w B v n vs f ∧ ∀ i, i < n → (f i).length = l ∧ ∀ x ∈ f i, -3 ≤ x ∧ x ≤ 255
theorem stab_r (R B l : Nat) : Stab R (RowsP R B l) := fun _ _ _ ⟨hR, n, vs, f, h1, h2, h3⟩ hg => ⟨hR, n, vs, f, h1, h2.keptB hg hR, h3⟩
def NameP (v : Value) (_ : World) : Prop := ∃ s : ByteArray, v = .string s ∧ s.size ≤ 9
theorem stab_nm (R : Nat) : Stab R NameP := fun _ _ _ h _ => h
section
variable {ρ : Operand → Value} {w : World} {o : Oper}
theorem x_lenT {t : TypeId} {x : Operand} {ad : Option Addr} {n c : Nat} (ht : t = 23 ∨ t = 24) (ho : o.op = .call { callee := .builtin .len, args := #[x], argTypes := #[t] }) (hx : ρ x = .slice ad n c) : (execOp ρ o).run Tryd.prog w = .ok (.value (.int .i64 n)) w := by
  unfold execOp
  simp only [ho, resolve, invoke, builtin, List.map_toArray, List.map_cons, List.map_nil, hx]
  rcases ht with rfl | rfl <;> simp [go_sem, Builtin.len_, Tryd.underlying23, Tryd.underlying24]
theorem x_quo5 {x : Operand} {k : Nat} {t u : TypeId} (ho : o.op = .binOp .quo t x (.const (.int .i64 5)) u) (ht : Tryd.prog.underlying t = some (.int .i64)) (hx : ρ x = .int .i64 (k : Int)) (hc : ∀ v, ρ (.const v) = v) (hk : k < 1000) : (execOp ρ o).run Tryd.prog w = .ok (.value (.int .i64 ((k / 5 : Nat) : Int))) w := by
  have h0 : (k : Int).tdiv 5 = ((k / 5 : Nat) : Int) := by rw [Int.tdiv_eq_ediv_of_nonneg (by omega)]; omega
  have h1 := IntWalk.i64_in ((k / 5 : Nat) : Int) ⟨by omega, by omega⟩
  unfold execOp
  simp only [ho, hx, hc]
  simp [go_sem, ht, h0]
  first | exact h1 | rfl | skip
theorem x_rows {x y z : Operand} {u1 u2 u3 : Value} {ts : Array TypeId} (ho : o.op = .call { callee := .value (.func 45), args := #[x, y, z], argTypes := ts }) (hx : ρ x = u1) (hy : ρ y = u2) (hz : ρ z = u3) (hf : ρ (.func 45) = .func (.func 45) #[] #[]) :
    (execOp ρ o).run Tryd.prog w = .ok (.enter 45 #[u1, u2, u3]) w := by
  unfold execOp
  simp only [ho, resolve, hx, hy, hz, hf, List.map_toArray, List.map_cons, List.map_nil]
  simp [invoke, go_sem, Tryd.func45]
theorem x_name {x y : Operand} {u1 u2 : Value} {ts : Array TypeId} (ho : o.op = .call { callee := .value (.func 53), args := #[x, y], argTypes := ts }) (hx : ρ x = u1) (hy : ρ y = u2) (hf : ρ (.func 53) = .func (.func 53) #[] #[]) :
    (execOp ρ o).run Tryd.prog w = .ok (.enter 53 #[u1, u2]) w := by
  unfold execOp
  simp only [ho, resolve, hx, hy, hf, List.map_toArray, List.map_cons, List.map_nil]
  simp [invoke, go_sem, Tryd.func53]
theorem x_indexN {x i : Operand} {g n c k : Nat} (ho : o.op = .indexAddr 23 x i) (hx : ρ x = .slice (some ⟨g, 0, none⟩) n c) (hi : ρ i = .int .i64 (k : Int)) (hk : k < n) : (execOp ρ o).run Tryd.prog w = .ok (.value (.pointer (some ⟨g, k, none⟩))) w := by
  unfold execOp
  have h1 : (0 : Int) ≤ (k : Int) := by omega
  have h2 : (k : Int) < (n : Int) := by omega
  simp only [ho, hx, hi]
  simp [go_sem, Tryd.underlying23, h1, h2, hk]
theorem x_indexRs {x i : Operand} {g n c k : Nat} (ho : o.op = .indexAddr 24 x i) (hx : ρ x = .slice (some ⟨g, 0, none⟩) n c) (hi : ρ i = .int .i64 (k : Int)) (hk : k < n) : (execOp ρ o).run Tryd.prog w = .ok (.value (.pointer (some ⟨g, k, none⟩))) w := by
  unfold execOp
  have h1 : (0 : Int) ≤ (k : Int) := by omega
  have h2 : (k : Int) < (n : Int) := by omega
  simp only [ho, hx, hi]
  simp [go_sem, Tryd.underlying24, h1, h2, hk]
theorem x_storeRs {x y : Operand} {q : Nat} {ad : Option Addr} {n c : Nat} {a b : Value} (ho : o.op = .store 24 x y) (hx : ρ x = .pointer (some ⟨q, 1, none⟩)) (hy : ρ y = .slice ad n c) (hr : Row w q 26 [a, b]) : (execOp ρ o).run Tryd.prog w = .ok .skip (w.setCell ⟨q, 1, none⟩ (.slice ad n c)) := by
  have k1 : w.cell? ⟨q, 1, none⟩ = some b := hr.cell rfl
  have f1 := hr.free 1
  unfold execOp
  simp only [ho, hx, hy]
  simp [go_sem, k1, f1]
theorem x_storeStr {x y : Operand} {ad : Addr} {u : Value} {s : ByteArray} (ho : o.op = .store 9 x y) (hx : ρ x = .pointer (some ad)) (hy : ρ y = .string s) (hc : w.cell? ad = some u) (hf : w.frozen? ad = false) : (execOp ρ o).run Tryd.prog w = .ok .skip (w.setCell ad (.string s)) := by
  unfold execOp
  simp only [ho, hx, hy]
  simp [go_sem, hc, hf]
theorem x_storeIn {x y : Operand} {ad : Addr} {u : Value} {m : Int} (ho : o.op = .store 3 x y) (hx : ρ x = .pointer (some ad)) (hy : ρ y = .int .i64 m) (hc : w.cell? ad = some u) (hf : w.frozen? ad = false) : (execOp ρ o).run Tryd.prog w = .ok .skip (w.setCell ad (.int .i64 m)) := by
  unfold execOp
  simp only [ho, hx, hy]
  simp [go_sem, hc, hf]
theorem x_sub1 {x : Operand} {k : Nat} {t u : TypeId} (ho : o.op = .binOp .sub t x (.const (.int .i64 1)) u) (ht : Tryd.prog.underlying t = some (.int .i64)) (hx : ρ x = .int .i64 (((k + 1 : Nat)) : Int)) (hc : ∀ v, ρ (.const v) = v) (hk : k < 1000) : (execOp ρ o).run Tryd.prog w = .ok (.value (.int .i64 (k : Int))) w := by
  have h1 := IntWalk.i64_in ((k : Nat) : Int) ⟨by omega, by omega⟩
  have h0 : (((k + 1 : Nat) : Int) - 1) = (k : Int) := by omega
  unfold execOp
  simp only [ho, hx, hc]
  simp [go_sem, ht]
  first | exact h1 | rfl | skip
theorem x_loadRow {x : Operand} {ad : Addr} {u : Value} (ho : o.op = .load 38 x) (hx : ρ x = .pointer (some ad)) (hc : w.cell? ad = some u) : (execOp ρ o).run Tryd.prog w = .ok (.value u) w := by
  unfold execOp
  simp only [ho, hx]
  simp [go_sem, hc, Tryd.underlying38]
theorem x_index0 {x : Operand} {g n c : Nat} (ho : o.op = .indexAddr 38 x (.const (.int .i64 0))) (hx : ρ x = .slice (some ⟨g, 0, none⟩) n c) (hc : ∀ v, ρ (.const v) = v) (hk : 0 < n) : (execOp ρ o).run Tryd.prog w = .ok (.value (.pointer (some ⟨g, 0, none⟩))) w := by
  unfold execOp
  have h2 : (0 : Int) < (n : Int) := by omega
  simp only [ho, hx, hc]
  simp [go_sem, Tryd.underlying38, hk]
theorem x_indexN0 {x : Operand} {g n c : Nat} (ho : o.op = .indexAddr 23 x (.const (.int .i64 0))) (hx : ρ x = .slice (some ⟨g, 0, none⟩) n c) (hc : ∀ v, ρ (.const v) = v) (hk : 0 < n) : (execOp ρ o).run Tryd.prog w = .ok (.value (.pointer (some ⟨g, 0, none⟩))) w := by
  unfold execOp
  have h2 : (0 : Int) < (n : Int) := by omega
  simp only [ho, hx, hc]
  simp [go_sem, Tryd.underlying23, hk]
end
end Go.Proofs.YtajgghifamebkaaDoor
