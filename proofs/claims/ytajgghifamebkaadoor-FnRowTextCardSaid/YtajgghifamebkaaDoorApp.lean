/- append on a slice of the call's own, for whatever is appended; with the word on which block the result lies in -/
import Derived.Test.YtajgghifamebkaaDoorMem
namespace Go.Proofs.YtajgghifamebkaaDoor
set_option linter.unusedSimpArgs false
set_option linter.unusedVariables false
open Go.RowKit
/-- the block that an append may write: none where there is no room at all -/
def gBlock : Value → Option Nat
  | .slice (some a) _ c => if c = 0 then none else some a.block
  | _ => none
/-- a slice that may be appended to: of the call's own, or without any room -/
def Gr (w : World) (base : Nat) (e : TypeId) (sz : Nat) (v : Value) (n : Nat) (cs : List Value) : Prop :=
  w.ownsRow base e sz v n cs ∨ (n = 0 ∧ cs = [] ∧ ∃ b : Addr, v = .slice (some b) 0 0)
theorem Gr.nil (w : World) (base : Nat) (e : TypeId) (sz : Nat) : Gr w base e sz (.slice none 0 0) 0 [] := .inl (World.ownsRow_nil w base e sz)
theorem Gr.none0 (w : World) (base : Nat) (e : TypeId) (sz : Nat) (b : Addr) : Gr w base e sz (.slice (some b) 0 0) 0 [] := .inr ⟨rfl, rfl, b, rfl⟩
theorem Gr.len {w base e sz v n cs} (h : Gr w base e sz v n cs) : cs.length = n * sz := by
  rcases h with h | ⟨rfl, rfl, _⟩
  · exact h.1
  · simp
/-- the block lies from base on, and is there -/
theorem Gr.lt {w : World} {base e sz v n cs} (h : Gr w base e sz v n cs) : ∀ g, gBlock v = some g → base ≤ g ∧ g < w.heap.size := by
  intro g hg
  rcases h with h | ⟨rfl, rfl, b, rfl⟩
  · refine h.lt g ?_
    cases v <;> simp [gBlock] at hg
    rename_i a n c
    cases a <;> simp [gBlock] at hg
    simp [Value.ownBlock, hg.2]
  · simp [gBlock] at hg
/-- what is written elsewhere leaves it -/
theorem Gr.kept {w w' : World} {base e sz v n cs} {b' : Option Nat} (h : Gr w base e sz v n cs) (hg : w.grownBy w' b') (hne : ∀ g, gBlock v = some g → b' ≠ some g) : Gr w' base e sz v n cs := by
  rcases h with ⟨h1, ⟨h2, h3⟩ | ⟨g, cap, cur, hv, hB, hgg, hc, hm, hs, ht⟩⟩ | h
  · exact .inl ⟨h1, .inl ⟨h2, h3⟩⟩
  · by_cases h0 : cap = 0
    · subst h0
      obtain rfl : n = 0 := by omega
      exact .inr ⟨rfl, List.eq_nil_of_length_eq_zero (by simpa using h1), _, hv⟩
    · refine .inl ⟨h1, .inr ⟨g, cap, cur, hv, hB, ?_, hc, hm, hs, ht⟩⟩
      rw [hg.block g (Array.getElem?_eq_some_iff.1 hgg).1 (fun x => hne g (by rw [hv]; simp [gBlock, h0]) x.symm)]
      exact hgg
  · exact .inr h
theorem Gr.alloc {w : World} {base e sz v n cs} (h : Gr w base e sz v n cs) (o : Obj) : Gr (w.alloc o) base e sz v n cs :=
  h.kept (World.grownBy_alloc w o none) (fun _ _ h => by cases h)
theorem Gr.mono {w w' : World} {base e sz v n cs} (h : Gr w base e sz v n cs) {B : Nat} (hb : Below B w w') (hB : w.heap.size ≤ B) : Gr w' base e sz v n cs :=
  h.kept (b' := none) ⟨hb.os, hb.tape, hb.output, hb.size, fun k hk _ => hb.block k (Nat.lt_of_lt_of_le hk hB)⟩ (fun _ _ h => by cases h)
theorem Gr.own {w : World} {base e sz v n cs} (h : Gr w base e sz v n cs) : ∃ b, Own w b e sz v n cs ∧ From base b ∧ ∀ g, b = some g → gBlock v = some g := by
  rcases h with ⟨h1, ⟨hv, hn⟩ | ⟨g, cap, cur, hv, hB, hg, hc, hm, hs, ht⟩⟩ | ⟨rfl, rfl, b, hv⟩
  · subst hn; exact ⟨none, ⟨h1, Nat.zero_le _, .inl ⟨rfl, rfl, _, _, hv⟩⟩, From.none _, fun _ h => by cases h⟩
  · by_cases h0 : n = 0
    · subst h0; exact ⟨none, ⟨h1, Nat.zero_le _, .inl ⟨rfl, rfl, _, _, hv⟩⟩, From.none _, fun _ h => by cases h⟩
    · refine ⟨some g, ⟨h1, Nat.le_trans hc hm, .inr ⟨by omega, g, cap, cur.toList.drop (n * sz), rfl, hv, hc, ?_⟩⟩, fun g' h => by cases h; exact hB, fun g' h => by cases h; rw [hv]; simp [gBlock]; omega⟩
      unfold Row
      rw [hg, ← ht, List.take_append_drop]
  · exact ⟨none, ⟨by simp, Nat.zero_le _, .inl ⟨rfl, rfl, _, _, hv⟩⟩, From.none _, fun _ h => by cases h⟩
theorem Gr.view {w : World} {base e sz v n cs} (h : Gr w base e sz v n cs) : View w sz v n cs := by
  obtain ⟨b, ho, _⟩ := h.own
  exact ho.view
theorem Gr.of_made {w : World} {g e sz n cs} (h : Row w g e cs) (hl : cs.length = n * sz) (hn : n ≤ maxLen) {B : Nat} (hB : B ≤ g) : Gr w B e sz (.slice (some ⟨g, 0, none⟩) n n) n cs := by
  refine .inl ⟨hl, .inr ⟨g, n, cs.toArray, rfl, hB, h, Nat.le_refl _, hn, by simpa using hl, ?_⟩⟩
  rw [← hl]; simp

section
variable {P : Program} (w : World)
theorem run_app (base : Nat) (t ty e : TypeId) (i : TypeInfo) (z : Value) (sz bytes : Nat) (ht : P.underlying t = some (.slice e)) (hi : P.info? e = some i) (hz : i.zero = some z)
    (hsize : i.size = sz) (hby : i.bytes = bytes) (hzs : z.cells.size = sz) (hsz : 0 < sz)
    (v : Value) (n : Nat) (cs : List Value) (hown : Gr w base e sz v n cs) (xv : Value) (m : Nat) (news : List Value) (hx : View w sz xv m news) (h1 : ∀ u ∈ news, u.oneCell' = true)
    (h63 : n + m ≤ maxLen) (hbytes : (n + m) * bytes ≤ 140737488355328) (hbase : base ≤ w.heap.size) :
    ∃ v' w', (Builtin.append_ #[t, t] ty #[v, xv]).run P w = .ok v' w' ∧ Gr w' base e sz v' (n + m) (cs ++ news) ∧ w.grownBy w' (gBlock v) ∧ (gBlock v' = gBlock v ∨ gBlock v' = some w.heap.size) := by
  subst hsize hby
  have hsmall : ((n + m : Nat) : Int) ≤ 9223372036854775807 := by simp only [maxLen] at h63; omega
  have hlc := hown.len
  obtain ⟨hxl, hxm, ⟨hm0, a, c, rfl⟩ | ⟨hmp, b, off, c, rfl, hmc, hcell⟩⟩ := hx
  · -- nothing is appended
    subst hm0
    obtain rfl : news = [] := List.eq_nil_of_length_eq_zero (by simpa using hxl)
    refine ⟨v, w, ?_, by simpa using hown, grown_refl _ _, .inl rfl⟩
    rcases hown with ⟨h1, ⟨rfl, rfl⟩ | ⟨g, cap, cur, rfl, hB, hg, hc, hm, hs, hk⟩⟩ | ⟨rfl, rfl, b, rfl⟩
    · cases a <;> simp [Builtin.append_, run_underlying ht, sizeOf, typeInfo, hi, Builtin.lenOf, Builtin.firstCells, loadCells, loadCellsFrom, storeCells]
    · cases a <;> simp [Builtin.append_, run_underlying ht, sizeOf, typeInfo, hi, Builtin.lenOf, Builtin.firstCells, loadCells, loadCellsFrom, storeCells, hc]
    · cases a <;> simp [Builtin.append_, run_underlying ht, sizeOf, typeInfo, hi, Builtin.lenOf, Builtin.firstCells, loadCells, loadCellsFrom, storeCells]
  · have hnews : ∀ j u, news[j]? = some u → w.cell? ((⟨b, off, none⟩ : Addr).add j) = some u := fun j u hu => by
      rw [Addr.add_lit]; exact hcell j u hu
    have hlen : (cs ++ news).length = (n + m) * i.size := by rw [List.length_append, hlc, hxl, Nat.add_mul]
    have big : ∀ (old : Nat), old < n + m →
        Gr (w.drew.alloc (.cells (cs.toArray ++ news.toArray ++ Builtin.zeroCells z.cells (grownCap w (n + m) old e - (n + m))) e)) base e i.size
          (.slice (some ⟨w.heap.size, 0, none⟩) (n + m) (grownCap w (n + m) old e)) (n + m) (cs ++ news) := by
      intro old ho
      have hge := grownCap_ge w (n + m) old e
      refine .inl ⟨hlen, .inr ⟨w.heap.size, _, _, rfl, hbase, heap_alloc_new w.drew _, hge, grownCap_le_maxLen w (n + m) old e h63, ?_, ?_⟩⟩
      · simp only [Array.size_append, List.size_toArray, size_zeroCells, hzs, hlc, hxl, ← Nat.add_mul]
        congr 1
        omega
      · simp only [Array.toList_append, List.append_assoc]
        rw [← List.append_assoc, ← hlen]
        exact List.take_left
    have blk : ∀ old, gBlock (.slice (some ⟨w.heap.size, 0, none⟩) (n + m) (grownCap w (n + m) old e)) = some w.heap.size := fun old => by
      have := grownCap_ge w (n + m) old e
      simp [gBlock]; omega
    have gr : ∀ (o : Obj) (row : Option Nat), w.grownBy (w.drew.alloc o) row := fun o row => ⟨rfl, rfl, rfl, by simp, fun k hk _ => Below.heap_alloc w.drew _ k hk⟩
    rcases hown with ⟨h1', ⟨rfl, rfl⟩ | ⟨g, cap, cur, rfl, hB, hg, hc, hm, hs, hk⟩⟩ | ⟨rfl, rfl, b', rfl⟩
    · obtain rfl : cs = [] := List.eq_nil_of_length_eq_zero (by simpa using hlc)
      have hr := run_append_nil (P := P) w t ty e i z ht hi hz ⟨b, off, none⟩ m c news hxl hnews hmp (by omega) (by simp only [Nat.zero_add] at hbytes; omega)
      have hb := big 0 (by omega)
      have hk := blk 0
      simp only [Nat.zero_add, List.nil_append, Array.empty_append] at hb hk ⊢
      exact ⟨_, _, hr, hb, gr _ _, .inr hk⟩
    · by_cases hroom : n + m ≤ cap
      · have hfit : n * i.size + news.length ≤ cur.size := by rw [hxl, hs, ← Nat.add_mul]; exact Nat.mul_le_mul_right _ hroom
        have hr := run_append_room (P := P) w t ty e i ht hi g n cap cur hg ⟨b, off, none⟩ m c news hxl hnews h1 hroom hfit
        have hcap : ¬ cap = 0 := by omega
        refine ⟨_, _, hr, .inl ⟨hlen, .inr ⟨g, cap, _, rfl, hB, setRow_heap w g cur _ e _ hg, hroom, hm, ?_, ?_⟩⟩, ⟨rfl, rfl, rfl, by simp, fun k _ hk => setRow_other w g k _ (fun e => hk (by simp [gBlock, hcap, e]))⟩, .inl (by simp [gBlock])⟩
        · simp only [List.size_toArray, List.length_append, List.length_take, List.length_drop, Array.length_toList]
          omega
        · rw [hk, ← hlen]
          exact List.take_left
      · have hown' : w.ownsRow base e i.size (.slice (some ⟨g, 0, none⟩) n cap) n cs := ⟨h1', .inr ⟨g, cap, cur, rfl, hB, hg, hc, hm, hs, hk⟩⟩
        have hr := run_append_grow (P := P) w t ty e i z ht hi hz ⟨g, 0, none⟩ n cap cs hlc (hown'.cells (g := g) rfl) ⟨b, off, none⟩ m c news hxl hnews (by omega) (by omega) (growslice_fits (by omega) hbytes)
        exact ⟨_, _, hr, big cap (by omega), gr _ _, .inr (blk cap)⟩
    · have hr := run_append_grow (P := P) w t ty e i z ht hi hz b' 0 0 [] (by simp) (fun j u hu => by simp at hu) ⟨b, off, none⟩ m c news hxl hnews (by omega) (by omega) (growslice_fits (by omega) hbytes)
      exact ⟨_, _, hr, big 0 (by omega), gr _ _, .inr (blk 0)⟩

theorem wp_app {o : Oper} {a : Act} {K : Act → World → Prop} {Q : Exit → Act → World → Prop} (s x : Operand) (t : TypeId)
    (ho : o.op = .call { callee := .builtin .append, args := #[s, x], argTypes := #[t, t] })
    (base : Nat) (e : TypeId) (z : Value) (sz bytes : Nat) (ht : P.underlying t = some (.slice e)) (hi : (P.info? e).map (fun i => (i.zero, i.size, i.bytes)) = some (some z, sz, bytes)) (hzs : z.cells.size = sz) (hsz : 0 < sz)
    (v : Value) (n : Nat) (cs : List Value) (hs : a.eval s = v) (hown : Gr w base e sz v n cs) (xv : Value) (m : Nat) (news : List Value) (hx : a.eval x = xv) (hview : View w sz xv m news) (h1 : ∀ u ∈ news, u.oneCell' = true)
    (h63 : n + m ≤ maxLen) (hbytes : (n + m) * bytes ≤ 140737488355328) (hbase : base ≤ w.heap.size)
    (h : ∀ v' w', Gr w' base e sz v' (n + m) (cs ++ news) → w.grownBy w' (gBlock v) → (gBlock v' = gBlock v ∨ gBlock v' = some w.heap.size) → K (a.put o.dst v') w') : o.wp P a w K Q := by
  obtain ⟨i, hi0, hi1, hi2, hi3⟩ := info_parts hi
  obtain ⟨v', w', hr, h2, h3, h4⟩ := run_app (P := P) w base t o.type e i z sz bytes ht hi0 hi1 hi2 hi3 hzs hsz v n cs hown xv m news hview h1 h63 hbytes hbase
  unfold Oper.wp execOp
  simp only [ho, resolve, invoke, builtin, Sem.run_bind, Sem.run_pure, Result.andThen_ok, List.map_toArray, List.map_cons, List.map_nil, hs, hx, hr]
  exact h v' w' h2 h3 h4
theorem wpList_app {ops : Array Oper} {rest : List Oper} {o : Oper} {a : Act} {Q : Exit → Act → World → Prop} (hgd : o.guard = none) (s x : Operand) (t : TypeId)
    (ho : o.op = .call { callee := .builtin .append, args := #[s, x], argTypes := #[t, t] })
    (base : Nat) (e : TypeId) (z : Value) (sz bytes : Nat) (ht : P.underlying t = some (.slice e)) (hi : (P.info? e).map (fun i => (i.zero, i.size, i.bytes)) = some (some z, sz, bytes)) (hzs : z.cells.size = sz) (hsz : 0 < sz)
    (v : Value) (n : Nat) (cs : List Value) (hs : a.eval s = v) (hown : Gr w base e sz v n cs) (xv : Value) (m : Nat) (news : List Value) (hx : a.eval x = xv) (hview : View w sz xv m news) (h1 : ∀ u ∈ news, u.oneCell' = true)
    (h63 : n + m ≤ maxLen) (hbytes : (n + m) * bytes ≤ 140737488355328) (hbase : base ≤ w.heap.size)
    (h : ∀ v' w', Gr w' base e sz v' (n + m) (cs ++ news) → w.grownBy w' (gBlock v) → (gBlock v' = gBlock v ∨ gBlock v' = some w.heap.size) → wpList P ops Q rest (a.put o.dst v') w') : wpList P ops Q (o :: rest) a w :=
  wpList_plain hgd fun _ hK => wp_app w s x t ho base e z sz bytes ht hi hzs hsz v n cs hs hown xv m news hx hview h1 h63 hbytes hbase fun v' w' h2 h3 h4 => hK _ _ (h v' w' h2 h3 h4)
/-- as one step of a region that draws -/
theorem step_app {ops : Array Oper} {o : Oper} {a : Act} {K : Act → World → Prop} {Q : Exit → Act → World → Prop} {E : Prop} (hgd : o.guard = none) (s x : Operand) (t : TypeId)
    (ho : o.op = .call { callee := .builtin .append, args := #[s, x], argTypes := #[t, t] })
    (base : Nat) (e : TypeId) (z : Value) (sz bytes : Nat) (ht : P.underlying t = some (.slice e)) (hi : (P.info? e).map (fun i => (i.zero, i.size, i.bytes)) = some (some z, sz, bytes)) (hzs : z.cells.size = sz) (hsz : 0 < sz)
    (v : Value) (n : Nat) (cs : List Value) (hs : a.eval s = v) (hown : Gr w base e sz v n cs) (xv : Value) (m : Nat) (news : List Value) (hx : a.eval x = xv) (hview : View w sz xv m news) (h1 : ∀ u ∈ news, u.oneCell' = true)
    (h63 : n + m ≤ maxLen) (hbytes : (n + m) * bytes ≤ 140737488355328) (hbase : base ≤ w.heap.size)
    (h : ∀ v' w', Gr w' base e sz v' (n + m) (cs ++ news) → w.grownBy w' (gBlock v) → (gBlock v' = gBlock v ∨ gBlock v' = some w.heap.size) → K (a.put o.dst v') w') :
    if Region.wanted o (yielded ops a.tmps) = true then Oper.wp P o a w K Q else E := by
  rw [if_pos (by simp [Region.wanted, hgd])]
  exact wp_app w s x t ho base e z sz bytes ht hi hzs hsz v n cs hs hown xv m news hx hview h1 h63 hbytes hbase h
end
/-- one element, in the block that was laid for it -/
theorem view_one (w : World) (u : Value) (t : TypeId) : View (w.alloc (.cells #[u] t)) 1 (.slice (some ⟨w.heap.size, 0, none⟩) 1 1) 1 [u] :=
  View.of_row (Row.new w t [u]) rfl (by unfold maxLen; omega) (Nat.le_refl _)
theorem one_ints (l : List Int) : ∀ u ∈ ints l, u.oneCell' = true := fun u hu => by
  obtain ⟨_, _, rfl⟩ := List.mem_map.1 hu; rfl
theorem one_bools (l : List Bool) : ∀ u ∈ bools l, u.oneCell' = true := fun u hu => by
  obtain ⟨_, _, rfl⟩ := List.mem_map.1 hu; rfl
/-- two lists that grow in turn stay apart -/
theorem two_step {wr w1 w2 : World} {B : Nat} {e1 e2 : TypeId} {s1 s2 : Nat} {v u v' u' : Value} {n n' m m' : Nat} {cs cs' ds ds' : List Value} {o1 o2 : Obj}
    (h1 : Gr wr B e1 s1 v n cs) (h2 : Gr wr B e2 s2 u m ds) (ap : ∀ g, gBlock v = some g → gBlock u ≠ some g)
    (g1 : Gr w1 B e1 s1 v' n' cs') (r1 : (wr.alloc o1).grownBy w1 (gBlock v)) (k1 : gBlock v' = gBlock v ∨ gBlock v' = some (wr.alloc o1).heap.size)
    (g2 : Gr w2 B e2 s2 u' m' ds') (r2 : (w1.alloc o2).grownBy w2 (gBlock u)) (k2 : gBlock u' = gBlock u ∨ gBlock u' = some (w1.alloc o2).heap.size) :
    Gr w2 B e1 s1 v' n' cs' ∧ Gr w2 B e2 s2 u' m' ds' ∧ ∀ g, gBlock v' = some g → gBlock u' ≠ some g := by
  have z1 : wr.heap.size + 1 ≤ w1.heap.size := by have := r1.size; simpa using this
  have a1 : ∀ g, gBlock v' = some g → gBlock u ≠ some g := fun g hg hu => by
    have l2 := (h2.lt g hu).2
    rcases k1 with k | k
    · exact ap g (k ▸ hg) hu
    · rw [k] at hg; simp at hg; omega
  refine ⟨(g1.alloc o2).kept r2 (fun g hg hu => a1 g hg hu), g2, fun g hg hu => ?_⟩
  rcases k2 with k | k
  · exact a1 g hg (k ▸ hu)
  · rw [k] at hu
    have l1 := (g1.lt g hg).2
    simp at hu; omega
theorem Gr.low {w : World} {B B' : Nat} {e sz v n cs} (h : Gr w B e sz v n cs) (hb : B' ≤ B) : Gr w B' e sz v n cs := by
  rcases h with ⟨h1, h2 | ⟨g, cap, cur, hv, hB, h3⟩⟩ | h
  · exact .inl ⟨h1, .inl h2⟩
  · exact .inl ⟨h1, .inr ⟨g, cap, cur, hv, Nat.le_trans hb hB, h3⟩⟩
  · exact .inr h
/-- the block of a slice that has something, and how a cell of it is set -/
theorem Gr.at {w : World} {B : Nat} {e v n cs} (h : Gr w B e 1 v n cs) (hn : 0 < n) : ∃ g c, v = .slice (some ⟨g, 0, none⟩) n c ∧ B ≤ g ∧ n ≤ c ∧ c ≤ maxLen ∧
    (∀ i, w.frozen? ⟨g, i, none⟩ = false) ∧ (∀ (i : Nat) u, cs[i]? = some u → w.cell? ⟨g, i, none⟩ = some u) ∧ ∀ (i : Nat) u, i < n → Gr (w.setCell ⟨g, i, none⟩ u) B e 1 v n (cs.set i u) := by
  rcases h with ⟨h1, ⟨_, h0⟩ | ⟨g, cap, cur, hv, hB, hgg, hc, hm, hs, ht⟩⟩ | ⟨h0, _⟩
  · omega
  · simp only [Nat.mul_one] at h1 hs ht
    have hrow : Row w g e cur.toList := by unfold Row; simpa using hgg
    refine ⟨g, cap, hv, hB, hc, hm, fun i => hrow.free i, fun i u hu => hrow.cell ?_, fun i u hi => .inl ⟨by simpa using h1, .inr ⟨g, cap, (cur.toList.set i u).toArray, hv, hB, hrow.set i u, hc, hm, by simpa using hs, ?_⟩⟩⟩
    · rw [← ht] at hu
      have hi : i < n := by
        have := (List.getElem?_eq_some_iff.1 hu).1
        simp at this; omega
      rwa [List.getElem?_take_of_lt hi] at hu
    · simp only [Nat.mul_one]
      rw [← ht, List.take_set]
  · omega
theorem Gr.lit {w : World} {B : Nat} {e sz v n cs} (h : Gr w B e sz v n cs) : ∃ ad c, v = .slice ad n c := by
  rcases h with ⟨_, ⟨hv, h0⟩ | ⟨g, cap, cur, hv, _⟩⟩ | ⟨h0, _, b, hv⟩
  · exact ⟨_, _, by rw [hv, h0]⟩
  · exact ⟨_, _, hv⟩
  · exact ⟨_, _, by rw [hv, h0]⟩
theorem grown_trans {w w1 w2 : World} {b : Option Nat} (h : w.grownBy w1 b) (g : w1.grownBy w2 b) : w.grownBy w2 b :=
  ⟨g.os.trans h.os, g.tape.trans h.tape, g.output.trans h.output, Nat.le_trans h.size g.size, fun k hk hne => (g.block k (Nat.lt_of_lt_of_le hk h.size) hne).trans (h.block k hk hne)⟩
theorem grown_below {w w1 w2 : World} {b : Option Nat} (h : w.grownBy w1 b) (g : Below w.heap.size w1 w2) : w.grownBy w2 b :=
  ⟨g.os.trans h.os, g.tape.trans h.tape, g.output.trans h.output, Nat.le_trans h.size g.size, fun k hk hne => (g.block k hk).trans (h.block k hk hne)⟩
theorem Row.grown {w w' : World} {g e cs} {b : Option Nat} (h : Row w g e cs) (hg : w.grownBy w' b) (hne : b ≠ some g) : Row w' g e cs := (hg.block g h.lt (fun e => hne e.symm)).trans h
theorem set_other (w : World) (p : Addr) (u : Value) (hp : p.spot = none) : w.grownBy (w.setCell p u) (some p.block) := by
  obtain ⟨g, i, s⟩ := p
  cases hp
  exact grown_set (grown_refl _ _) _ _
theorem Gr.setOther {w : World} {B : Nat} {e sz v n cs} (h : Gr w B e sz v n cs) (g i : Nat) (u : Value) (hne : ∀ x, gBlock v = some x → x ≠ g) : Gr (w.setCell ⟨g, i, none⟩ u) B e sz v n cs :=
  h.kept (set_other w ⟨g, i, none⟩ u rfl) (fun x hx he => hne x hx (Option.some.inj he).symm)
theorem Own.setOther {w : World} {b e sz v n cs} (h : Own w b e sz v n cs) (g i : Nat) (u : Value) (hne : ∀ x, b = some x → x ≠ g) : Own (w.setCell ⟨g, i, none⟩ u) b e sz v n cs :=
  h.grown (set_other w ⟨g, i, none⟩ u rfl) (fun x hx he => hne x hx (Option.some.inj he).symm)
end Go.Proofs.YtajgghifamebkaaDoor
