/- MemoryUse of the specification: what its loops keep; the value that a block had -/
import Derived.Test.YtbnplohlfiefhaaDoorUseP
namespace Go.Proofs.YtbnplohlfiefhaaDoor
open Go.RowKit
structure UT (w : World) (B gx gr : Nat) (bv way : Value) (p : List Int) (vs : Nat → Value) (ls : Nat → List (Int × Int × Int)) (wr : World) : Prop where
  m : MB wr B gx 7 bv vs ls
  way : Gr wr B 3 1 way p.length (ints p)
  res : Row wr gr 29 [.slice none 0 0, .slice none 0 0]
  below : Below w.heap.size w wr
  ge : B ≤ gx ∧ w.heap.size ≤ B ∧ gr < B
section
variable {w wr w1 : World} {B gx gr : Nat} {bv way : Value} {p : List Int} {vs : Nat → Value} {ls : Nat → List (Int × Int × Int)}
theorem UT.keep (h : UT w B gx gr bv way p vs ls wr) {b : Option Nat} (hg : wr.grownBy w1 b) (h1 : ∀ g, b = some g → B ≤ g) (h3 : ∀ g, gBlock way = some g → b ≠ some g) :
    Gr w1 B 3 1 way p.length (ints p) ∧ Row w1 gr 29 [.slice none 0 0, .slice none 0 0] ∧ Below w.heap.size w w1 :=
  ⟨h.way.kept hg h3, h.res.grown hg (fun e => by have := h1 _ e; have := h.ge.2.2; omega), h.below.grown hg h.below.size (fun g e => Nat.le_trans h.ge.2.1 (h1 g e))⟩
theorem UT.wayx (h : UT w B gx gr bv way p vs ls wr) {i : Nat} (hi : i < 9) : ∀ g, gBlock way = some g → gBlock (vs i) ≠ some g := gBlock_type h.way (h.m.2.2 i hi).1 (by decide)
theorem UT.wayb (h : UT w B gx gr bv way p vs ls wr) : ∀ g, gBlock way = some g → gBlock bv ≠ some g := gBlock_type h.way h.m.2.1 (by decide)
theorem UT.waygx (h : UT w B gx gr bv way p vs ls wr) : ∀ g, gBlock way = some g → some gx ≠ some g := fun g hg e => by cases e; exact row_ne h.way h.m.1 (by decide) gx hg rfl
theorem UT.mono (h : UT w B gx gr bv way p vs ls wr) {B' : Nat} (hb : Below B' wr w1) (hB : wr.heap.size ≤ B') : UT w B gx gr bv way p vs ls w1 :=
  ⟨h.m.mono hb hB, h.way.mono hb hB, h.res.mono hb (Nat.lt_of_lt_of_le h.res.lt hB), h.below.trans (hb.mono (Nat.le_trans h.below.size hB)), h.ge⟩
theorem UT.alloc (h : UT w B gx gr bv way p vs ls wr) (ob : Obj) : UT w B gx gr bv way p vs ls (wr.alloc ob) := h.mono ((Below.refl wr.heap.size wr).alloc (Nat.le_refl _) ob) (Nat.le_refl _)
theorem UT.drew (h : UT w B gx gr bv way p vs ls wr) : UT w B gx gr bv way p vs ls wr.drew := h.mono ((Below.refl wr.heap.size wr).drew) (Nat.le_refl _)
theorem UT.size (h : UT w B gx gr bv way p vs ls wr) : B ≤ wr.heap.size := Nat.le_trans h.ge.1 (Nat.le_of_lt h.m.1.lt)
theorem UT.stash (h : UT w B gx gr bv way p vs ls wr) {v1 : Value} {l' : List (Int × Int × Int)} (g1 : Gr w1 B 56 3 v1 l'.length (blks l')) (r1 : wr.grownBy w1 (gBlock (vs 0))) (k1 : gBlock v1 = gBlock (vs 0) ∨ gBlock v1 = some wr.heap.size) :
    UT w B gx gr bv way p (upd vs 0 v1) (upd ls 0 l') (w1.setCell ⟨gx, 1, none⟩ v1) := by
  obtain ⟨a1, a2, a3⟩ := h.m.app (j := 0) (by omega) g1 r1 k1
  have hm := MB.stash a1 a2 a3
  obtain ⟨b1, b3, b4⟩ := h.keep r1 (fun g e => ((h.m.2.2 0 (by omega)).1.lt g e).1) (h.wayx (by omega))
  have hs : w1.grownBy (w1.setCell ⟨gx, 1, none⟩ v1) (some gx) := set_other w1 ⟨gx, 1, none⟩ v1 rfl
  exact ⟨hm, b1.kept hs (fun g hg => h.waygx g hg), b3.grown hs (fun e => by have := Option.some.inj e; have := h.ge; omega), b4.grown hs b4.size (fun g e => by cases e; exact Nat.le_trans h.ge.2.1 h.ge.1), h.ge⟩
theorem UT.fill (h : UT w B gx gr bv way p vs ls wr) {q gb cb : Nat} (hq : q < 7) (hbv : bv = .slice (some ⟨gb, 0, none⟩) 7 cb) {v1 : Value} {l' : List (Int × Int × Int)} (g1 : Gr w1 B 56 3 v1 l'.length (blks l')) (r1 : wr.grownBy w1 (gBlock (vs (q + 2)))) (k1 : gBlock v1 = gBlock (vs (q + 2)) ∨ gBlock v1 = some wr.heap.size) :
    UT w B gx gr bv way p (upd vs (q + 2) v1) (upd ls (q + 2) l') (w1.setCell ⟨gb, q, none⟩ v1) := by
  obtain ⟨a1, a2, a3⟩ := h.m.app (j := q + 2) (by omega) g1 r1 k1
  have hm := MB.bucket hq hbv a1 a2 a3
  have hgb : gBlock bv = some gb := by
    obtain ⟨g', c', hv, _, hnc, _⟩ := a2.at (by omega)
    rw [hbv] at hv; cases hv
    rw [hbv]; simp [gBlock]; omega
  obtain ⟨b1, b3, b4⟩ := h.keep r1 (fun g e => ((h.m.2.2 (q + 2) (by omega)).1.lt g e).1) (h.wayx (by omega))
  have hs : w1.grownBy (w1.setCell ⟨gb, q, none⟩ v1) (some gb) := set_other w1 ⟨gb, q, none⟩ v1 rfl
  have hBg := (h.m.2.1.lt gb hgb).1
  exact ⟨hm, b1.kept hs (fun g hg => by rw [← hgb]; exact h.wayb g hg), b3.grown hs (fun e => by have := Option.some.inj e; have := h.ge; omega), b4.grown hs b4.size (fun g e => by cases e; exact Nat.le_trans h.ge.2.1 hBg), h.ge⟩
theorem UT.clear (h : UT w B gx gr bv way p vs ls wr) {q gb cb : Nat} (hq : q < 7) (hbv : bv = .slice (some ⟨gb, 0, none⟩) 7 cb) {v1 : Value} (g1 : Gr wr B 56 3 v1 0 []) (hv1 : gBlock v1 = none) :
    UT w B gx gr bv way p (upd vs (q + 2) v1) (upd ls (q + 2) []) (wr.setCell ⟨gb, q, none⟩ v1) := by
  have hm := MB.bucket (v1 := v1) (l' := []) hq hbv h.m.1 h.m.2.1 (h.m.2.2.drop g1 hv1)
  have hgb : gBlock bv = some gb := by
    obtain ⟨g', c', hv, _, hnc, _⟩ := h.m.2.1.at (by omega)
    rw [hbv] at hv; cases hv
    rw [hbv]; simp [gBlock]; omega
  have hs : wr.grownBy (wr.setCell ⟨gb, q, none⟩ v1) (some gb) := set_other wr ⟨gb, q, none⟩ v1 rfl
  have hBg := (h.m.2.1.lt gb hgb).1
  obtain ⟨b1, b3, b4⟩ := h.keep hs (fun g e => by cases e; exact hBg) (fun g hg => by rw [← hgb]; exact h.wayb g hg)
  exact ⟨hm, b1, b3, b4, h.ge⟩
theorem UT.rest (h : UT w B gx gr bv way p vs ls wr) {v1 : Value} {l' : List (Int × Int × Int)} (g1 : Gr w1 B 56 3 v1 l'.length (blks l')) (r1 : wr.grownBy w1 (gBlock (vs 1))) (k1 : gBlock v1 = gBlock (vs 1) ∨ gBlock v1 = some wr.heap.size) :
    UT w B gx gr bv way p (upd vs 1 v1) (upd ls 1 l') w1 := by
  obtain ⟨a1, a2, a3⟩ := h.m.app (j := 1) (by omega) g1 r1 k1
  obtain ⟨b1, b3, b4⟩ := h.keep r1 (fun g e => ((h.m.2.2 1 (by omega)).1.lt g e).1) (h.wayx (by omega))
  exact ⟨MB.rest a1 a2 a3, b1, b3, b4, h.ge⟩
theorem UT.rest0 (h : UT w B gx gr bv way p vs ls wr) {v1 : Value} (g1 : Gr wr B 56 3 v1 0 []) (hv1 : gBlock v1 = none) : UT w B gx gr bv way p (upd vs 1 v1) (upd ls 1 []) wr :=
  ⟨h.m.rest0 g1 hv1, h.way, h.res, h.below, h.ge⟩
theorem UT.swap (h : UT w B gx gr bv way p vs ls wr) : UT w B gx gr bv way p (upd (upd vs 0 (vs 1)) 1 (.slice none 0 0)) (upd (upd ls 0 (ls 1)) 1 []) (wr.setCell ⟨gx, 1, none⟩ (vs 1)) := by
  have hs : wr.grownBy (wr.setCell ⟨gx, 1, none⟩ (vs 1)) (some gx) := set_other wr ⟨gx, 1, none⟩ (vs 1) rfl
  obtain ⟨b1, b3, b4⟩ := h.keep hs (fun g e => by cases e; exact h.ge.1) (fun g hg => h.waygx g hg)
  exact ⟨h.m.swap, b1, b3, b4, h.ge⟩
theorem UT.field (h : UT w B gx gr bv way p vs ls wr) {gs i : Nat} {u : Value} {L' : List (Int × Int × Int)} (hgs : gBlock (vs 0) = some gs) (g1 : Gr (wr.setCell ⟨gs, i, none⟩ u) B 56 3 (vs 0) L'.length (blks L')) : UT w B gx gr bv way p vs (upd ls 0 L') (wr.setCell ⟨gs, i, none⟩ u) := by
  have hs : wr.grownBy (wr.setCell ⟨gs, i, none⟩ u) (some gs) := set_other wr ⟨gs, i, none⟩ u rfl
  have hBg := ((h.m.2.2 0 (by omega)).1.lt gs hgs).1
  obtain ⟨b1, b3, b4⟩ := h.keep hs (fun g e => by cases e; exact hBg) (fun g hg => by rw [← hgs]; exact h.wayx (by omega) g hg)
  refine ⟨⟨?_, ?_, ?_⟩, b1, b3, b4, h.ge⟩
  · exact h.m.1.grown hs (by rw [← hgs]; exact fun e => h.m.nex (i := 0) (by omega) _ e rfl)
  · exact h.m.2.1.kept hs (fun g hg => by rw [← hgs]; exact fun e => h.m.neb (i := 0) (by omega) g e hg)
  · intro j hj
    by_cases e : j = 0
    · subst e
      rw [upd_same]
      exact ⟨g1, (h.m.2.2 0 hj).2⟩
    · rw [upd_other _ _ e]
      exact ⟨(h.m.2.2 j hj).1.kept hs (fun g hg => by rw [← hgs]; exact (h.m.2.2 j hj).2 0 (by omega) (Ne.symm e) g hg), (h.m.2.2 j hj).2⟩
end
/-- the value that the last of the first blocks with an address has -/
def hadL (a : Int) (L : List (Int × Int × Int)) : Int := L.foldl (fun h b => if b.1 == a then b.2.1 else h) 0
theorem hadL_succ {a : Int} {L : List (Int × Int × Int)} {i : Nat} (h : i < L.length) : hadL a (L.take (i + 1)) = if (bat L i).1 == a then (bat L i).2.1 else hadL a (L.take i) := by
  unfold hadL
  rw [List.take_succ_eq_append_getElem h, List.foldl_append]
  simp only [List.foldl_cons, List.foldl_nil]
  have : bat L i = L[i] := by unfold bat; rw [List.getElem?_eq_getElem h]; rfl
  rw [this]
theorem hadL_of {a : Int} {b : Int × Int × Int} (hb : b.1 = a) : ∀ (L : List (Int × Int × Int)) (x : Int), b ∈ L → (∀ c ∈ L, c.1 = a → c = b) → L.foldl (fun h b => if b.1 == a then b.2.1 else h) x = b.2.1
  | [], _, h, _ => by cases h
  | c :: L, x, h, hu => by
    rw [List.foldl_cons]
    by_cases hm : b ∈ L
    · exact hadL_of hb L _ hm (fun d hd => hu d (.tail _ hd))
    · have hbc : b = c := by
        cases h with
        | head => rfl
        | tail _ h => exact absurd h hm
      subst hbc
      rw [if_pos (by simp [hb])]
      have hno : ∀ d ∈ L, ¬ d.1 = a := fun d hd e => hm (by rw [← hu d (.tail _ hd) e]; exact hd)
      clear h hu hm
      induction L with
      | nil => rfl
      | cons d L ih =>
        rw [List.foldl_cons, if_neg (by simpa using hno d (.head _))]
        exact ih (fun e he => hno e (.tail _ he))
theorem had_gath {f : Nat → List (Int × Int × Int)} {st : List (Int × Int × Int)} (h : ValidM 7 f st) {a : Int} (ha : inB a 0 7 = true) :
    hadL a (gathK (lsOf f st) (blkAt (allM 7 f st) a).2.2 3 0) = (blkAt (allM 7 f st) a).2.1 := by
  obtain ⟨b, hb, rfl⟩ := valid_at h ha
  have hat := blkAt_of h.nodup hb rfl
  rw [hat]
  have hlf : inB b.2.2 0 3 = true := by
    have := h.ok b hb
    unfold blkOk at this
    rw [Bool.and_eq_true] at this; exact this.2
  have hp := allL_gathK (lsOf f st) hlf 3 (Nat.le_refl _)
  rw [allL_lsOf] at hp
  have hm : b ∈ gathK (lsOf f st) b.2.2 3 0 := by
    have h1 : b ∈ allL (gathK (lsOf f st) b.2.2 3) := hp.mem_iff.2 hb
    rcases allM_mem.1 h1 with h2 | ⟨i, hi, h2⟩
    · exact h2
    · exfalso
      have h3 := gathK_sub (lsOf f st) b.2.2 3 i hi b h2
      rw [lsOf_bucket] at h3
      obtain ⟨j, hj, e⟩ := onB_pN hlf ((h.fits i hi).2 b h3)
      have h4 := gathK_empty (lsOf f st) b.2.2 3 j hj
      rw [e] at h4
      rw [h4] at h2
      cases h2
  refine hadL_of rfl _ 0 hm fun c hc e => ?_
  have hc' : c ∈ allM 7 f st := hp.mem_iff.1 (allM_mem.2 (.inl hc))
  have := blkAt_of h.nodup hc' e
  rw [hat] at this
  exact this.symm
end Go.Proofs.YtbnplohlfiefhaaDoor
