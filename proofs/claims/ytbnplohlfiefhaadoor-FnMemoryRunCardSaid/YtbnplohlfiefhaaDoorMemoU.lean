/- MemoryUse: plain functions, and what its loops keep -/
import Derived.Test.YtbnplohlfiefhaaDoorMemoX
namespace Go.Proofs.YtbnplohlfiefhaaDoor
open Go.RowKit
def gath (ls : Nat → List (Int × Int × Int)) (p : Nat) : Nat → List (Int × Int × Int) := upd (upd ls 0 (ls 0 ++ ls (p + 2))) (p + 2) []
def upB (a : Int) (t : Bool) (v l : Int) (b : (Int × Int × Int)) : (Int × Int × Int) := if b.1 == a then (b.1, if t then v else b.2.1, l) else b
def setS (ls : Nat → List (Int × Int × Int)) (a : Int) (t : Bool) (v l : Int) : Nat → List (Int × Int × Int) := upd ls 0 ((ls 0).map (upB a t v l))
def fillOne (p : Nat) (r : List (Int × Int × Int) × List (Int × Int × Int)) (b : (Int × Int × Int)) : List (Int × Int × Int) × List (Int × Int × Int) := if decide (r.1.length < 2) && onB p b.2.2 then (r.1 ++ [b], r.2) else (r.1, r.2 ++ [b])
def fillR (p : Nat) (ls : Nat → List (Int × Int × Int)) (i : Nat) : List (Int × Int × Int) × List (Int × Int × Int) := ((ls 0).take i).foldl (fillOne p) (ls (p + 2), [])
def step3 (ls : Nat → List (Int × Int × Int)) (p : Nat) : Nat → List (Int × Int × Int) := upd (upd (upd ls (p + 2) (fillR p ls (ls 0).length).1) 0 (fillR p ls (ls 0).length).2) 1 []
def pN (l : Int) (k : Nat) : Nat := ((pathL l).getD k 0).toNat
def gathK (ls : Nat → List (Int × Int × Int)) (o : Int) : Nat → Nat → List (Int × Int × Int)
  | 0 => ls
  | k + 1 => gath (gathK ls o k) (pN o k)
def stepK (ls : Nat → List (Int × Int × Int)) (o : Int) : Nat → Nat → List (Int × Int × Int)
  | 0 => ls
  | j + 1 => step3 (stepK ls o j) (pN o (2 - j))
def useLs (ls : Nat → List (Int × Int × Int)) (o a : Int) (t : Bool) (v l : Int) : Nat → List (Int × Int × Int) := stepK (setS (gathK ls o 3) a t v l) o 3
theorem pN_path {l : Int} (h : inB l 0 3 = true) {k : Nat} (hk : k < 3) : (pathL l)[k]? = some ((pN l k : Nat) : Int) ∧ pN l k < 7 := by
  rcases leaf_cases h with rfl | rfl | rfl | rfl
  all_goals
    have hc : k = 0 ∨ k = 1 ∨ k = 2 := by omega
    rcases hc with rfl | rfl | rfl <;> exact ⟨rfl, by decide⟩
theorem fillR_succ {p : Nat} {ls : Nat → List (Int × Int × Int)} {i : Nat} (h : i < (ls 0).length) : fillR p ls (i + 1) = fillOne p (fillR p ls i) (bat (ls 0) i) := by
  unfold fillR
  rw [take_bat h, List.foldl_append]; rfl
theorem blks_setf {L : List (Int × Int × Int)} {k : Nat} (h : k < L.length) (j : Nat) (hj : j < 3) (u : Value) (b' : (Int × Int × Int)) (hb : (blkC (bat L k)).set j u = blkC b') : (blks L).set (k * 3 + j) u = blks (L.set k b') := by
  unfold blks
  have hl : ∀ c ∈ L.map blkC, c.length = 3 := fun c hc => by obtain ⟨a, _, rfl⟩ := List.mem_map.1 hc; rfl
  have hk : (L.map blkC)[k]? = some (blkC (bat L k)) := by
    rw [List.getElem?_map, List.getElem?_eq_getElem h]
    unfold bat
    rw [List.getElem?_eq_getElem h]; rfl
  rw [flat_set u _ k j _ hl hk hj, hb, List.map_set]
structure US (w : World) (B gx gt gr : Nat) (bv way : Value) (p : List Int) (o : (Int × Int × Int)) (vs : Nat → Value) (ls : Nat → List (Int × Int × Int)) (wr : World) : Prop where
  m : MB wr B gx 7 bv vs ls
  way : Gr wr B 3 1 way p.length (ints p)
  old : Row wr gt 56 [.int .i64 o.1, .int .i64 o.2.1, .int .i64 o.2.2]
  res : Row wr gr 29 [.slice none 0 0, .slice none 0 0]
  av : ∀ i, i < 9 → gBlock (vs i) ≠ some gt
  below : Below w.heap.size w wr
  ge : B ≤ gx ∧ w.heap.size ≤ B ∧ gr < B ∧ gt ≠ gx
section
variable {w wr w1 : World} {B gx gt gr : Nat} {bv way : Value} {p : List Int} {o : (Int × Int × Int)} {vs : Nat → Value} {ls : Nat → List (Int × Int × Int)}
/-- what is changed is none of the kept blocks -/
theorem US.keep (h : US w B gx gt gr bv way p o vs ls wr) {b : Option Nat} (hg : wr.grownBy w1 b) (h1 : ∀ g, b = some g → B ≤ g) (h2 : b ≠ some gt) (h3 : ∀ g, gBlock way = some g → b ≠ some g) :
    Gr w1 B 3 1 way p.length (ints p) ∧ Row w1 gt 56 [.int .i64 o.1, .int .i64 o.2.1, .int .i64 o.2.2] ∧ Row w1 gr 29 [.slice none 0 0, .slice none 0 0] ∧ Below w.heap.size w w1 :=
  ⟨h.way.kept hg h3, h.old.grown hg h2, h.res.grown hg (fun e => by have := h1 _ e; have := h.ge.2.2.1; omega), h.below.grown hg h.below.size (fun g e => Nat.le_trans h.ge.2.1 (h1 g e))⟩
theorem US.wayx (h : US w B gx gt gr bv way p o vs ls wr) {i : Nat} (hi : i < 9) : ∀ g, gBlock way = some g → gBlock (vs i) ≠ some g := gBlock_type h.way (h.m.2.2 i hi).1 (by decide)
theorem US.wayb (h : US w B gx gt gr bv way p o vs ls wr) : ∀ g, gBlock way = some g → gBlock bv ≠ some g := gBlock_type h.way h.m.2.1 (by decide)
theorem US.waygx (h : US w B gx gt gr bv way p o vs ls wr) : ∀ g, gBlock way = some g → some gx ≠ some g := fun g hg e => by cases e; exact row_ne h.way h.m.1 (by decide) gx hg rfl
theorem US.bvgt (h : US w B gx gt gr bv way p o vs ls wr) : gBlock bv ≠ some gt := fun e => row_ne h.m.2.1 h.old (by decide) gt e rfl
theorem US.mono (h : US w B gx gt gr bv way p o vs ls wr) {B' : Nat} (hb : Below B' wr w1) (hB : wr.heap.size ≤ B') : US w B gx gt gr bv way p o vs ls w1 :=
  ⟨h.m.mono hb hB, h.way.mono hb hB, h.old.mono hb (Nat.lt_of_lt_of_le h.old.lt hB), h.res.mono hb (Nat.lt_of_lt_of_le h.res.lt hB), h.av, h.below.trans (hb.mono (Nat.le_trans h.below.size hB)), h.ge⟩
theorem US.alloc (h : US w B gx gt gr bv way p o vs ls wr) (ob : Obj) : US w B gx gt gr bv way p o vs ls (wr.alloc ob) := h.mono ((Below.refl wr.heap.size wr).alloc (Nat.le_refl _) ob) (Nat.le_refl _)
theorem US.drew (h : US w B gx gt gr bv way p o vs ls wr) : US w B gx gt gr bv way p o vs ls wr.drew := h.mono ((Below.refl wr.heap.size wr).drew) (Nat.le_refl _)
theorem avu {vs : Nat → Value} {gt j : Nat} {v1 : Value} (h : ∀ i, i < 9 → gBlock (vs i) ≠ some gt) (h1 : gBlock v1 ≠ some gt) : ∀ i, i < 9 → gBlock (upd vs j v1 i) ≠ some gt := fun i hi => by
  by_cases e : i = j
  · subst e; rw [upd_same]; exact h1
  · rw [upd_other _ _ e]; exact h i hi
theorem US.avn (h : US w B gx gt gr bv way p o vs ls wr) {j : Nat} {v1 : Value} (hj : j < 9) (k1 : gBlock v1 = gBlock (vs j) ∨ gBlock v1 = some wr.heap.size) : gBlock v1 ≠ some gt := by
  rcases k1 with k1 | k1
  · rw [k1]; exact h.av j hj
  · rw [k1]; exact fun e => by cases e; exact Nat.lt_irrefl _ h.old.lt
/-- append to the stash, and its store -/
theorem US.stash (h : US w B gx gt gr bv way p o vs ls wr) {v1 : Value} {l' : List (Int × Int × Int)} (g1 : Gr w1 B 56 3 v1 l'.length (blks l')) (r1 : wr.grownBy w1 (gBlock (vs 0))) (k1 : gBlock v1 = gBlock (vs 0) ∨ gBlock v1 = some wr.heap.size) :
    US w B gx gt gr bv way p o (upd vs 0 v1) (upd ls 0 l') (w1.setCell ⟨gx, 1, none⟩ v1) := by
  obtain ⟨a1, a2, a3⟩ := h.m.app (j := 0) (by omega) g1 r1 k1
  have hm := MB.stash a1 a2 a3
  have hset := grown_set (w := wr) (w' := w1) (g := gx)
  obtain ⟨b1, b2, b3, b4⟩ := h.keep r1 (fun g e => ((h.m.2.2 0 (by omega)).1.lt g e).1) (h.av 0 (by omega)) (h.wayx (by omega))
  have hs : w1.grownBy (w1.setCell ⟨gx, 1, none⟩ v1) (some gx) := set_other w1 ⟨gx, 1, none⟩ v1 rfl
  exact ⟨hm, b1.kept hs (fun g hg => h.waygx g hg), b2.grown hs (fun e => h.ge.2.2.2 (Option.some.inj e).symm), b3.grown hs (fun e => by have := Option.some.inj e; have := h.ge; omega), avu h.av (h.avn (by omega) k1), b4.grown hs b4.size (fun g e => by cases e; exact Nat.le_trans h.ge.2.1 h.ge.1), h.ge⟩
/-- append to a bucket, and its store -/
theorem US.fill (h : US w B gx gt gr bv way p o vs ls wr) {q gb cb : Nat} (hq : q < 7) (hbv : bv = .slice (some ⟨gb, 0, none⟩) 7 cb) {v1 : Value} {l' : List (Int × Int × Int)} (g1 : Gr w1 B 56 3 v1 l'.length (blks l')) (r1 : wr.grownBy w1 (gBlock (vs (q + 2)))) (k1 : gBlock v1 = gBlock (vs (q + 2)) ∨ gBlock v1 = some wr.heap.size) :
    US w B gx gt gr bv way p o (upd vs (q + 2) v1) (upd ls (q + 2) l') (w1.setCell ⟨gb, q, none⟩ v1) := by
  obtain ⟨a1, a2, a3⟩ := h.m.app (j := q + 2) (by omega) g1 r1 k1
  have hm := MB.bucket hq hbv a1 a2 a3
  have hgb : gBlock bv = some gb := by
    obtain ⟨g', c', hv, _, hnc, _⟩ := a2.at (by omega)
    rw [hbv] at hv; cases hv
    rw [hbv]; simp [gBlock]; omega
  obtain ⟨b1, b2, b3, b4⟩ := h.keep r1 (fun g e => ((h.m.2.2 (q + 2) (by omega)).1.lt g e).1) (h.av _ (by omega)) (h.wayx (by omega))
  have hs : w1.grownBy (w1.setCell ⟨gb, q, none⟩ v1) (some gb) := set_other w1 ⟨gb, q, none⟩ v1 rfl
  have hBg := (h.m.2.1.lt gb hgb).1
  exact ⟨hm, b1.kept hs (fun g hg => by rw [← hgb]; exact h.wayb g hg), b2.grown hs (by rw [← hgb]; exact h.bvgt), b3.grown hs (fun e => by have := Option.some.inj e; have := h.ge; omega), avu h.av (h.avn (by omega) k1), b4.grown hs b4.size (fun g e => by cases e; exact Nat.le_trans h.ge.2.1 hBg), h.ge⟩
/-- a bucket is emptied -/
theorem US.clear (h : US w B gx gt gr bv way p o vs ls wr) {q gb cb : Nat} (hq : q < 7) (hbv : bv = .slice (some ⟨gb, 0, none⟩) 7 cb) {v1 : Value} (g1 : Gr wr B 56 3 v1 0 []) (hv1 : gBlock v1 = none) :
    US w B gx gt gr bv way p o (upd vs (q + 2) v1) (upd ls (q + 2) []) (wr.setCell ⟨gb, q, none⟩ v1) := by
  have hm := MB.bucket (v1 := v1) (l' := []) hq hbv h.m.1 h.m.2.1 (h.m.2.2.drop g1 hv1)
  have hgb : gBlock bv = some gb := by
    obtain ⟨g', c', hv, _, hnc, _⟩ := h.m.2.1.at (by omega)
    rw [hbv] at hv; cases hv
    rw [hbv]; simp [gBlock]; omega
  have hs : wr.grownBy (wr.setCell ⟨gb, q, none⟩ v1) (some gb) := set_other wr ⟨gb, q, none⟩ v1 rfl
  have hBg := (h.m.2.1.lt gb hgb).1
  obtain ⟨b1, b2, b3, b4⟩ := h.keep hs (fun g e => by cases e; exact hBg) (by rw [← hgb]; exact h.bvgt) (fun g hg => by rw [← hgb]; exact h.wayb g hg)
  exact ⟨hm, b1, b2, b3, avu h.av (by rw [hv1]; exact fun e => by cases e), b4, h.ge⟩
/-- append to the local list -/
theorem US.rest (h : US w B gx gt gr bv way p o vs ls wr) {v1 : Value} {l' : List (Int × Int × Int)} (g1 : Gr w1 B 56 3 v1 l'.length (blks l')) (r1 : wr.grownBy w1 (gBlock (vs 1))) (k1 : gBlock v1 = gBlock (vs 1) ∨ gBlock v1 = some wr.heap.size) :
    US w B gx gt gr bv way p o (upd vs 1 v1) (upd ls 1 l') w1 := by
  obtain ⟨a1, a2, a3⟩ := h.m.app (j := 1) (by omega) g1 r1 k1
  obtain ⟨b1, b2, b3, b4⟩ := h.keep r1 (fun g e => ((h.m.2.2 1 (by omega)).1.lt g e).1) (h.av 1 (by omega)) (h.wayx (by omega))
  exact ⟨MB.rest a1 a2 a3, b1, b2, b3, avu h.av (h.avn (by omega) k1), b4, h.ge⟩
theorem US.rest0 (h : US w B gx gt gr bv way p o vs ls wr) {v1 : Value} (g1 : Gr wr B 56 3 v1 0 []) (hv1 : gBlock v1 = none) : US w B gx gt gr bv way p o (upd vs 1 v1) (upd ls 1 []) wr :=
  ⟨h.m.rest0 g1 hv1, h.way, h.old, h.res, avu h.av (by rw [hv1]; exact fun e => by cases e), h.below, h.ge⟩
theorem US.swap (h : US w B gx gt gr bv way p o vs ls wr) : US w B gx gt gr bv way p o (upd (upd vs 0 (vs 1)) 1 (.slice none 0 0)) (upd (upd ls 0 (ls 1)) 1 []) (wr.setCell ⟨gx, 1, none⟩ (vs 1)) := by
  have hs : wr.grownBy (wr.setCell ⟨gx, 1, none⟩ (vs 1)) (some gx) := set_other wr ⟨gx, 1, none⟩ (vs 1) rfl
  obtain ⟨b1, b2, b3, b4⟩ := h.keep hs (fun g e => by cases e; exact h.ge.1) (fun e => h.ge.2.2.2 (Option.some.inj e).symm) (fun g hg => h.waygx g hg)
  exact ⟨h.m.swap, b1, b2, b3, avu (avu h.av (h.av 1 (by omega))) (by simp [gBlock]), b4, h.ge⟩
/-- a field of a block of the stash is written -/
theorem US.field (h : US w B gx gt gr bv way p o vs ls wr) {gs i : Nat} {u : Value} {L' : List (Int × Int × Int)} (hgs : gBlock (vs 0) = some gs) (g1 : Gr (wr.setCell ⟨gs, i, none⟩ u) B 56 3 (vs 0) L'.length (blks L')) : US w B gx gt gr bv way p o vs (upd ls 0 L') (wr.setCell ⟨gs, i, none⟩ u) := by
  have hs : wr.grownBy (wr.setCell ⟨gs, i, none⟩ u) (some gs) := set_other wr ⟨gs, i, none⟩ u rfl
  have hBg := ((h.m.2.2 0 (by omega)).1.lt gs hgs).1
  obtain ⟨b1, b2, b3, b4⟩ := h.keep hs (fun g e => by cases e; exact hBg) (by rw [← hgs]; exact h.av 0 (by omega)) (fun g hg => by rw [← hgs]; exact h.wayx (by omega) g hg)
  refine ⟨⟨?_, ?_, ?_⟩, b1, b2, b3, h.av, b4, h.ge⟩
  · exact h.m.1.grown hs (by rw [← hgs]; exact fun e => h.m.nex (i := 0) (by omega) _ e rfl)
  · exact h.m.2.1.kept hs (fun g hg => by rw [← hgs]; exact fun e => h.m.neb (i := 0) (by omega) g e hg)
  · intro j hj
    by_cases e : j = 0
    · subst e
      rw [upd_same]
      exact ⟨g1, (h.m.2.2 0 hj).2⟩
    · rw [upd_other _ _ e]
      exact ⟨(h.m.2.2 j hj).1.kept hs (fun g hg => by rw [← hgs]; exact (h.m.2.2 j hj).2 0 (by omega) (Ne.symm e) g hg), (h.m.2.2 j hj).2⟩
end
/-- bounds on how long the lists are -/
def LenB (ls : Nat → List (Int × Int × Int)) (c : Nat) : Prop := ∀ i, i < 9 → (ls i).length ≤ c
/-- all leaves are leaves -/
def LeafB (ls : Nat → List (Int × Int × Int)) : Prop := ∀ i, i < 9 → ∀ b ∈ ls i, inB b.2.2 0 3 = true
theorem LenB.gath {ls : Nat → List (Int × Int × Int)} {c p : Nat} (h : LenB ls c) (hp : p < 7) : LenB (gath ls p) (2 * c) := fun i hi => by
  unfold Go.Proofs.YtbnplohlfiefhaaDoor.gath
  by_cases e : i = p + 2
  · subst e; rw [upd_same]; simp
  · rw [upd_other _ _ e]
    by_cases e0 : i = 0
    · subst e0; rw [upd_same, List.length_append]; have := h 0 (by omega); have := h (p + 2) (by omega); omega
    · rw [upd_other _ _ e0]; have := h i hi; omega
theorem LeafB.gath {ls : Nat → List (Int × Int × Int)} {p : Nat} (h : LeafB ls) (hp : p < 7) : LeafB (gath ls p) := fun i hi b hb => by
  unfold Go.Proofs.YtbnplohlfiefhaaDoor.gath at hb
  by_cases e : i = p + 2
  · subst e; rw [upd_same] at hb; cases hb
  · rw [upd_other _ _ e] at hb
    by_cases e0 : i = 0
    · subst e0
      rw [upd_same] at hb
      rcases List.mem_append.1 hb with hb | hb
      · exact h 0 hi b hb
      · exact h (p + 2) (by omega) b hb
    · rw [upd_other _ _ e0] at hb; exact h i hi b hb
theorem LeafB.setS {ls : Nat → List (Int × Int × Int)} {a v l : Int} {t : Bool} (h : LeafB ls) (hl : inB l 0 3 = true) : LeafB (setS ls a t v l) := fun i hi b hb => by
  unfold Go.Proofs.YtbnplohlfiefhaaDoor.setS at hb
  by_cases e0 : i = 0
  · subst e0
    rw [upd_same] at hb
    obtain ⟨b', hb', rfl⟩ := List.mem_map.1 hb
    unfold upB
    split
    · exact hl
    · exact h 0 hi b' hb'
  · rw [upd_other _ _ e0] at hb; exact h i hi b hb
theorem LenB.setS {ls : Nat → List (Int × Int × Int)} {a v l : Int} {t : Bool} {c : Nat} (h : LenB ls c) : LenB (setS ls a t v l) c := fun i hi => by
  unfold Go.Proofs.YtbnplohlfiefhaaDoor.setS
  by_cases e0 : i = 0
  · subst e0; rw [upd_same, List.length_map]; exact h 0 hi
  · rw [upd_other _ _ e0]; exact h i hi
theorem fillR_zero (p : Nat) (ls : Nat → List (Int × Int × Int)) : fillR p ls 0 = (ls (p + 2), []) := by simp [fillR]
theorem fillR_inv {p : Nat} {ls : Nat → List (Int × Int × Int)} : ∀ {i : Nat}, i ≤ (ls 0).length → (fillR p ls i).1.length ≤ (ls (p + 2)).length + i ∧ (fillR p ls i).2.length ≤ i ∧ ∀ b, b ∈ (fillR p ls i).1 ∨ b ∈ (fillR p ls i).2 → b ∈ ls (p + 2) ∨ b ∈ ls 0
  | 0, _ => by rw [fillR_zero]; exact ⟨by simp, by simp, fun b hb => by rcases hb with hb | hb; exact .inl hb; cases hb⟩
  | i + 1, h => by
    obtain ⟨h1, h2, h3⟩ := fillR_inv (p := p) (ls := ls) (i := i) (by omega)
    rw [fillR_succ (by omega)]
    have hm := bat_mem (L := ls 0) (k := i) (by omega)
    unfold fillOne
    split
    · refine ⟨by rw [List.length_append]; simp; omega, (show (fillR p ls i).2.length ≤ i + 1 by omega), fun b hb => ?_⟩
      rcases hb with hb | hb
      · rcases List.mem_append.1 hb with hb | hb
        · exact h3 b (.inl hb)
        · simp at hb; rw [hb]; exact .inr hm
      · exact h3 b (.inr hb)
    · refine ⟨(show (fillR p ls i).1.length ≤ (ls (p + 2)).length + (i + 1) by omega), by rw [List.length_append]; simp; omega, fun b hb => ?_⟩
      rcases hb with hb | hb
      · exact h3 b (.inl hb)
      · rcases List.mem_append.1 hb with hb | hb
        · exact h3 b (.inr hb)
        · simp at hb; rw [hb]; exact .inr hm
theorem LenB.step {ls : Nat → List (Int × Int × Int)} {c p : Nat} (h : LenB ls c) (hp : p < 7) : LenB (step3 ls p) (2 * c) := fun i hi => by
  obtain ⟨h1, h2, _⟩ := fillR_inv (p := p) (ls := ls) (i := (ls 0).length) (Nat.le_refl _)
  have c0 := h 0 (by omega)
  have cp := h (p + 2) (by omega)
  unfold step3
  by_cases e1 : i = 1
  · subst e1; rw [upd_same]; simp
  · rw [upd_other _ _ e1]
    by_cases e0 : i = 0
    · subst e0; rw [upd_same]; omega
    · rw [upd_other _ _ e0]
      by_cases e : i = p + 2
      · subst e; rw [upd_same]; omega
      · rw [upd_other _ _ e]; have := h i hi; omega
theorem LeafB.step {ls : Nat → List (Int × Int × Int)} {p : Nat} (h : LeafB ls) (hp : p < 7) : LeafB (step3 ls p) := fun i hi b hb => by
  obtain ⟨_, _, h3⟩ := fillR_inv (p := p) (ls := ls) (i := (ls 0).length) (Nat.le_refl _)
  have key : b ∈ ls (p + 2) ∨ b ∈ ls 0 → inB b.2.2 0 3 = true := fun q => by
    rcases q with q | q
    · exact h (p + 2) (by omega) b q
    · exact h 0 (by omega) b q
  unfold step3 at hb
  by_cases e1 : i = 1
  · subst e1; rw [upd_same] at hb; cases hb
  · rw [upd_other _ _ e1] at hb
    by_cases e0 : i = 0
    · subst e0; rw [upd_same] at hb; exact key (h3 b (.inr hb))
    · rw [upd_other _ _ e0] at hb
      by_cases e : i = p + 2
      · subst e; rw [upd_same] at hb; exact key (h3 b (.inl hb))
      · rw [upd_other _ _ e] at hb; exact h i hi b hb
theorem LenB.gathK {ls : Nat → List (Int × Int × Int)} {c : Nat} {o : Int} (h : LenB ls c) (ho : inB o 0 3 = true) : ∀ k, k ≤ 3 → LenB (gathK ls o k) (c * 2 ^ k)
  | 0, _ => by simpa [Go.Proofs.YtbnplohlfiefhaaDoor.gathK] using h
  | k + 1, hk => by
    have := (LenB.gathK h ho k (by omega)).gath (pN_path ho (k := k) (by omega)).2
    rw [Nat.pow_succ]
    have e : c * (2 ^ k * 2) = 2 * (c * 2 ^ k) := by rw [Nat.mul_comm 2, Nat.mul_assoc]
    rw [e]; exact this
theorem LeafB.gathK {ls : Nat → List (Int × Int × Int)} {o : Int} (h : LeafB ls) (ho : inB o 0 3 = true) : ∀ k, k ≤ 3 → LeafB (gathK ls o k)
  | 0, _ => h
  | k + 1, hk => (LeafB.gathK h ho k (by omega)).gath (pN_path ho (k := k) (by omega)).2
theorem LenB.stepK {ls : Nat → List (Int × Int × Int)} {c : Nat} {o : Int} (h : LenB ls c) (ho : inB o 0 3 = true) : ∀ k, k ≤ 3 → LenB (stepK ls o k) (c * 2 ^ k)
  | 0, _ => by simpa [Go.Proofs.YtbnplohlfiefhaaDoor.stepK] using h
  | k + 1, hk => by
    have := (LenB.stepK h ho k (by omega)).step (pN_path ho (k := 2 - k) (by omega)).2
    rw [Nat.pow_succ]
    have e : c * (2 ^ k * 2) = 2 * (c * 2 ^ k) := by rw [Nat.mul_comm 2, Nat.mul_assoc]
    rw [e]; exact this
theorem LeafB.stepK {ls : Nat → List (Int × Int × Int)} {o : Int} (h : LeafB ls) (ho : inB o 0 3 = true) : ∀ k, k ≤ 3 → LeafB (stepK ls o k)
  | 0, _ => h
  | k + 1, hk => (LeafB.stepK h ho k (by omega)).step (pN_path ho (k := 2 - k) (by omega)).2
/-- the first i blocks are brought up to date -/
def upto (L : List (Int × Int × Int)) (U : (Int × Int × Int) → (Int × Int × Int)) (i : Nat) : List (Int × Int × Int) := (L.take i).map U ++ L.drop i
theorem upto_len (L : List (Int × Int × Int)) (U : (Int × Int × Int) → (Int × Int × Int)) (i : Nat) : (upto L U i).length = L.length := by unfold upto; simp; omega
theorem upto_bat {L : List (Int × Int × Int)} {U : (Int × Int × Int) → (Int × Int × Int)} {i : Nat} (h : i < L.length) : bat (upto L U i) i = bat L i := by
  unfold bat upto
  rw [List.getElem?_append_right (by simp; omega)]
  simp [Nat.min_eq_left (Nat.le_of_lt h)]
theorem upto_step {L : List (Int × Int × Int)} {U : (Int × Int × Int) → (Int × Int × Int)} {i : Nat} (h : i < L.length) : (upto L U i).set i (U (bat L i)) = upto L U (i + 1) := by
  unfold upto
  rw [List.set_append_right _ _ (by simp; omega), take_bat h, List.map_append, List.append_assoc]
  congr 1
  rw [show i - ((L.take i).map U).length = 0 by simp; omega, List.drop_eq_getElem_cons h, List.set_cons_zero]
  rfl
theorem upto_keep {L : List (Int × Int × Int)} {U : (Int × Int × Int) → (Int × Int × Int)} {i : Nat} (h : i < L.length) (e : U (bat L i) = bat L i) : upto L U (i + 1) = upto L U i := by
  rw [← upto_step h, e, ← upto_bat (U := U) h]
  have hl : i < (upto L U i).length := by rw [upto_len]; exact h
  unfold bat
  rw [List.getElem?_eq_getElem hl]
  exact List.set_getElem_self hl
theorem upto_all (L : List (Int × Int × Int)) (U : (Int × Int × Int) → (Int × Int × Int)) : upto L U L.length = L.map U := by simp [upto]
theorem upd_id {α : Type} (f : Nat → α) (j : Nat) : upd f j (f j) = f := by funext i; unfold upd; split <;> simp_all
theorem upd_upd {α : Type} (f : Nat → α) (j : Nat) (x y : α) : upd (upd f j x) j y = upd f j y := by funext i; unfold upd; split <;> rfl
theorem upd_swap {α : Type} (f : Nat → α) {i j : Nat} (x y z : α) (h : i ≠ j) : upd (upd (upd f i x) j y) i z = upd (upd f i z) j y := by
  funext k; unfold upd
  by_cases e : k = i
  · subst e; rw [if_pos rfl, if_neg h, if_pos rfl]
  · rw [if_neg e, if_neg e, if_neg e]
theorem step3_eq (ls : Nat → List (Int × Int × Int)) (p : Nat) : upd (upd (upd (upd ls (p + 2) (fillR p ls (ls 0).length).1) 1 (fillR p ls (ls 0).length).2) 0 (fillR p ls (ls 0).length).2) 1 [] = step3 ls p := by
  unfold step3
  funext k; unfold upd
  by_cases e : k = 1
  · subst e; simp
  · simp [e]
theorem view_blk (w : World) (b : (Int × Int × Int)) : View (w.alloc (.cells #[.int .i64 b.1, .int .i64 b.2.1, .int .i64 b.2.2] 56)) 3 (.slice (some ⟨w.heap.size, 0, none⟩) 1 1) 1 (blks [b]) :=
  View.of_row (Row.new w 56 [.int .i64 b.1, .int .i64 b.2.1, .int .i64 b.2.2]) rfl (by unfold maxLen; omega) (Nat.le_refl _)
theorem view_blk2 (w : World) (o : Obj) (b : (Int × Int × Int)) : View ((w.alloc o).alloc (.cells #[.int .i64 b.1, .int .i64 b.2.1, .int .i64 b.2.2] 56)) 3 (.slice (some ⟨w.heap.size + 1, 0, none⟩) 1 1) 1 (blks [b]) := by
  have := view_blk (w.alloc o) b
  rwa [World.size_alloc] at this
theorem lsOf_id {X : Nat → List (Int × Int × Int)} (h : X 1 = []) : lsOf (fun i => X (i + 2)) (X 0) = X := by
  funext i; unfold lsOf
  by_cases e : i = 0
  · subst e; rfl
  · by_cases e1 : i = 1
    · subst e1; rw [h]; rfl
    · rw [if_neg e, if_neg e1]; show X (i - 2 + 2) = X i; rw [show i - 2 + 2 = i by omega]
theorem useLs_one (ls : Nat → List (Int × Int × Int)) (o a : Int) (t : Bool) (v l : Int) : useLs ls o a t v l 1 = [] := by
  show step3 (stepK (setS (gathK ls o 3) a t v l) o 2) (pN o (2 - 2)) 1 = []
  unfold step3; rw [upd_same]
theorem MB.memIn {w : World} {B gx : Nat} {bv : Value} {vs : Nat → Value} {ls : Nat → List (Int × Int × Int)} (h : MB w B gx 7 bv vs ls) : MemIn w (.agg #[bv, vs 0]) 7 (fun i => ls (i + 2)) (ls 0) := (show MO w B (.agg #[bv, vs 0]) 7 ls from ⟨bv, vs, rfl, h.2.1, h.2.2⟩).view
theorem MO.kept {w w' : World} {B g n : Nat} {v : Value} {ls : Nat → List (Int × Int × Int)} (h : MO w B v n ls) (hg : w.grownBy w' (some g)) (hne : g < B) : MO w' B v n ls := by
  obtain ⟨bv, vs, h1, h2, h3⟩ := h
  exact ⟨bv, vs, h1, h2.kept hg (fun g' hg' he => by cases he; have := (h2.lt _ hg').1; omega), h3.kept hg (fun i hi g' hg' he => by cases he; have := ((h3 i hi).1.lt _ hg').1; omega)⟩
theorem pow_le {c k : Nat} (hc : c ≤ 100) (hk : k ≤ 3) : c * 2 ^ k ≤ 800 := by
  have hk' : k = 0 ∨ k = 1 ∨ k = 2 ∨ k = 3 := by omega
  rcases hk' with rfl | rfl | rfl | rfl <;> simp <;> omega
end Go.Proofs.YtbnplohlfiefhaaDoor
