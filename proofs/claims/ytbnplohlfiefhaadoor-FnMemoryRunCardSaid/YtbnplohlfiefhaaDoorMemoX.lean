/- what is done to a memory in a variable -/
import Derived.Test.YtbnplohlfiefhaaDoorMemoD
namespace Go.Proofs.YtbnplohlfiefhaaDoor
open Go.RowKit
section
variable {w w1 : World} {B gx n : Nat} {bv : Value} {vs : Nat → Value} {ls : Nat → List (Int × Int × Int)}
theorem MB.nex (h : MB w B gx n bv vs ls) {i : Nat} (hi : i < n + 2) : ∀ g, gBlock (vs i) = some g → g ≠ gx := row_ne (h.2.2 i hi).1 h.1 (by decide)
theorem MB.nexb (h : MB w B gx n bv vs ls) : ∀ g, gBlock bv = some g → g ≠ gx := row_ne h.2.1 h.1 (by decide)
theorem MB.neb (h : MB w B gx n bv vs ls) {i : Nat} (hi : i < n + 2) : ∀ g, gBlock (vs i) = some g → gBlock bv ≠ some g := gBlock_type (h.2.2 i hi).1 h.2.1 (by decide)
theorem MB.drew (h : MB w B gx n bv vs ls) : MB w.drew B gx n bv vs ls := ⟨h.1, h.2.1.mono ((Below.refl w.heap.size w).drew) (Nat.le_refl _), h.2.2.mono ((Below.refl w.heap.size w).drew) (Nat.le_refl _)⟩
theorem MB.alloc (h : MB w B gx n bv vs ls) (o : Obj) : MB (w.alloc o) B gx n bv vs ls := h.mono ((Below.refl w.heap.size w).alloc (Nat.le_refl _) o) (Nat.le_refl _)
/-- one list has grown -/
theorem MB.app {j : Nat} {v1 : Value} {l' : List (Int × Int × Int)} (h : MB w B gx n bv vs ls) (hj : j < n + 2) (g1 : Gr w1 B 56 3 v1 l'.length (blks l')) (r1 : w.grownBy w1 (gBlock (vs j))) (k1 : gBlock v1 = gBlock (vs j) ∨ gBlock v1 = some w.heap.size) :
    Row w1 gx 29 [bv, vs 0] ∧ Gr w1 B 27 1 bv n (tab n fun i => vs (i + 2)) ∧ Fam w1 B (n + 2) (upd vs j v1) (upd ls j l') :=
  ⟨h.1.grown r1 (fun e => h.nex hj _ e rfl), h.2.1.kept r1 (fun g hg he => h.neb hj g he hg), h.2.2.app hj g1 r1 k1⟩
/-- the stash is another one: the variable's field is written -/
theorem MB.stash {v1 : Value} {l' : List (Int × Int × Int)} (hr : Row w gx 29 [bv, vs 0]) (hb : Gr w B 27 1 bv n (tab n fun i => vs (i + 2))) (hf : Fam w B (n + 2) (upd vs 0 v1) (upd ls 0 l')) : MB (w.setCell ⟨gx, 1, none⟩ v1) B gx n bv (upd vs 0 v1) (upd ls 0 l') := by
  have hset : w.grownBy (w.setCell ⟨gx, 1, none⟩ v1) (some gx) := set_other w ⟨gx, 1, none⟩ v1 rfl
  refine ⟨?_, ?_, ?_⟩
  · rw [upd_same]; exact hr.set 1 v1
  · rw [show (tab n fun i => upd vs 0 v1 (i + 2)) = tab n fun i => vs (i + 2) from tab_congr fun i _ => upd_other _ _ (by omega)]
    exact hb.kept hset (fun g hg he => by cases he; exact row_ne hb hr (by decide) gx hg rfl)
  · exact hf.kept hset (fun i hi g hg he => by cases he; exact row_ne (hf i hi).1 hr (by decide) gx hg rfl)
/-- a bucket is another one: the table's cell is written -/
theorem MB.bucket {p gb cb : Nat} {v1 : Value} {l' : List (Int × Int × Int)} (hp : p < n) (hbv : bv = .slice (some ⟨gb, 0, none⟩) n cb) (hr : Row w gx 29 [bv, vs 0]) (hb : Gr w B 27 1 bv n (tab n fun i => vs (i + 2))) (hf : Fam w B (n + 2) (upd vs (p + 2) v1) (upd ls (p + 2) l')) :
    MB (w.setCell ⟨gb, p, none⟩ v1) B gx n bv (upd vs (p + 2) v1) (upd ls (p + 2) l') := by
  obtain ⟨g', c', hv, hBg, hnc, _, _, _, hset⟩ := hb.at (show 0 < n by omega)
  rw [hbv] at hv
  cases hv
  have hgb : gBlock bv = some gb := by rw [hbv]; simp [gBlock]; omega
  have hgr : w.grownBy (w.setCell ⟨gb, p, none⟩ v1) (some gb) := set_other w ⟨gb, p, none⟩ v1 rfl
  have hne : gb ≠ gx := row_ne hb hr (by decide) gb hgb
  refine ⟨?_, ?_, ?_⟩
  · rw [upd_other _ _ (by omega)]
    exact hr.grown hgr (fun e => hne (Option.some.inj e))
  · have := hset p v1 hp
    rw [tab_set] at this
    rw [show (tab n fun i => upd vs (p + 2) v1 (i + 2)) = tab n fun i => if i = p then v1 else vs (i + 2) from tab_congr fun i _ => by
      by_cases e : i = p
      · subst e; rw [if_pos rfl, upd_same]
      · rw [if_neg e, upd_other _ _ (by omega)]]
    exact this
  · exact hf.kept hgr (fun i hi g hg he => by cases he; exact gBlock_type (hf i hi).1 hb (by decide) gb hg hgb)
/-- a local list has grown: no cell is written -/
theorem MB.rest {v1 : Value} {l' : List (Int × Int × Int)} (hr : Row w gx 29 [bv, vs 0]) (hb : Gr w B 27 1 bv n (tab n fun i => vs (i + 2))) (hf : Fam w B (n + 2) (upd vs 1 v1) (upd ls 1 l')) : MB w B gx n bv (upd vs 1 v1) (upd ls 1 l') := by
  refine ⟨by rw [upd_other _ _ (by omega)]; exact hr, ?_, hf⟩
  rw [show (tab n fun i => upd vs 1 v1 (i + 2)) = tab n fun i => vs (i + 2) from tab_congr fun i _ => upd_other _ _ (by omega)]
  exact hb
/-- the local list becomes the stash -/
theorem MB.swap (h : MB w B gx n bv vs ls) : MB (w.setCell ⟨gx, 1, none⟩ (vs 1)) B gx n bv (upd (upd vs 0 (vs 1)) 1 (.slice none 0 0)) (upd (upd ls 0 (ls 1)) 1 []) := by
  obtain ⟨hr, hb, hf⟩ := h
  have hf' := hf.take (j := 0) (k := 1) (by omega) (by omega) (by omega)
  have hset : w.grownBy (w.setCell ⟨gx, 1, none⟩ (vs 1)) (some gx) := set_other w ⟨gx, 1, none⟩ (vs 1) rfl
  refine ⟨?_, ?_, ?_⟩
  · rw [upd_other _ _ (by omega), upd_same]; exact hr.set 1 (vs 1)
  · rw [show (tab n fun i => upd (upd vs 0 (vs 1)) 1 (.slice none 0 0) (i + 2)) = tab n fun i => vs (i + 2) from tab_congr fun i _ => by rw [upd_other _ _ (by omega), upd_other _ _ (by omega)]]
    exact hb.kept hset (fun g hg he => by cases he; exact row_ne hb hr (by decide) gx hg rfl)
  · exact hf'.kept hset (fun i hi g hg he => by cases he; exact row_ne (hf' i hi).1 hr (by decide) gx hg rfl)
/-- the local list is a new one -/
theorem MB.rest0 {v1 : Value} (h : MB w B gx n bv vs ls) (g1 : Gr w B 56 3 v1 0 []) (hv : gBlock v1 = none) : MB w B gx n bv (upd vs 1 v1) (upd ls 1 []) := MB.rest h.1 h.2.1 (h.2.2.drop g1 hv)
end
theorem gr_one {w : World} {B : Nat} {v : Value} {L : List (Int × Int × Int)} (h : Gr w B 56 3 v L.length (blks L)) (hL : 0 < L.length) : ∃ g c, v = .slice (some ⟨g, 0, none⟩) L.length c ∧ gBlock v = some g ∧ B ≤ g ∧ (∀ i, w.frozen? ⟨g, i, none⟩ = false) ∧
    (∀ (i : Nat) u, (blks L)[i]? = some u → w.cell? ⟨g, i, none⟩ = some u) ∧ ∀ (i : Nat) (u : Value) (L' : List (Int × Int × Int)), blks L' = (blks L).set i u → L'.length = L.length → Gr (w.setCell ⟨g, i, none⟩ u) B 56 3 v L'.length (blks L') := by
  rcases h with ⟨h1, ⟨_, h0⟩ | ⟨g, cap, cur, hv, hB, hgg, hc, hm, hs, ht⟩⟩ | ⟨h0, _⟩
  · omega
  · have hrow : Row w g 56 cur.toList := by unfold Row; simpa using hgg
    have hblk : gBlock v = some g := by rw [hv]; simp [gBlock]; omega
    refine ⟨g, cap, hv, hblk, hB, fun i => hrow.free i, fun i u hu => hrow.cell ?_, fun i u L' he hl => .inl ⟨by rw [blks_length], .inr ⟨g, cap, (cur.toList.set i u).toArray, by rw [hl]; exact hv, hB, hrow.set i u, by rw [hl]; exact hc, hm, by simpa using hs, ?_⟩⟩⟩
    · have hi := (List.getElem?_eq_some_iff.1 hu).1
      rw [← ht, List.getElem?_take] at hu
      split at hu
      · exact hu
      · cases hu
    · rw [he, hl]
      show (cur.toList.set i u).take (L.length * 3) = _
      rw [List.take_set, ht]
  · omega
end Go.Proofs.YtbnplohlfiefhaaDoor
