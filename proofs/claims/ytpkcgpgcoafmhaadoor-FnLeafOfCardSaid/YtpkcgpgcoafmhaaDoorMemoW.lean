/- memories of the call's own: lists of blocks that grow apart -/
import Derived.Test.YtpkcgpgcoafmhaaDoorMemoL
import Derived.Deep.RegionLaw
namespace Go.Proofs.YtpkcgpgcoafmhaaDoor
open Go.RowKit
def upd {α : Type} (f : Nat → α) (j : Nat) (x : α) : Nat → α := fun i => if i = j then x else f i
theorem upd_same {α : Type} (f : Nat → α) (j : Nat) (x : α) : upd f j x j = x := if_pos rfl
theorem upd_other {α : Type} (f : Nat → α) {i j : Nat} (x : α) (h : i ≠ j) : upd f j x i = f i := if_neg h
/-- N lists of blocks of the call's own, each in a block of its own -/
def Fam (w : World) (B N : Nat) (vs : Nat → Value) (ls : Nat → List (Int × Int × Int)) : Prop := ∀ i, i < N → Gr w B 44 3 (vs i) (ls i).length (blks (ls i)) ∧ ∀ j, j < N → j ≠ i → ∀ g, gBlock (vs i) = some g → gBlock (vs j) ≠ some g
theorem Fam.kept {w w' : World} {B N : Nat} {vs : Nat → Value} {ls : Nat → List (Int × Int × Int)} {b : Option Nat} (h : Fam w B N vs ls) (hg : w.grownBy w' b) (hne : ∀ i, i < N → ∀ g, gBlock (vs i) = some g → b ≠ some g) : Fam w' B N vs ls :=
  fun i hi => ⟨(h i hi).1.kept hg (hne i hi), (h i hi).2⟩
theorem Fam.mono {w w' : World} {B N : Nat} {vs : Nat → Value} {ls : Nat → List (Int × Int × Int)} (h : Fam w B N vs ls) {B' : Nat} (hb : Below B' w w') (hB : w.heap.size ≤ B') : Fam w' B N vs ls :=
  fun i hi => ⟨(h i hi).1.mono hb hB, (h i hi).2⟩
theorem Fam.low {w : World} {B B' N : Nat} {vs : Nat → Value} {ls : Nat → List (Int × Int × Int)} (h : Fam w B N vs ls) (hb : B' ≤ B) : Fam w B' N vs ls := fun i hi => ⟨(h i hi).1.low hb, (h i hi).2⟩
theorem Fam.app {w w1 : World} {B N j : Nat} {vs : Nat → Value} {ls : Nat → List (Int × Int × Int)} {v1 : Value} {l' : List (Int × Int × Int)} (h : Fam w B N vs ls) (hj : j < N) (g1 : Gr w1 B 44 3 v1 l'.length (blks l')) (r1 : w.grownBy w1 (gBlock (vs j)))
    (k1 : gBlock v1 = gBlock (vs j) ∨ gBlock v1 = some w.heap.size) : Fam w1 B N (upd vs j v1) (upd ls j l') := by
  have hv1 : ∀ i, i < N → i ≠ j → ∀ g, gBlock (vs i) = some g → gBlock v1 ≠ some g := fun i hi hij g hg => by
    rcases k1 with k1 | k1
    · rw [k1]; exact (h i hi).2 j hj (Ne.symm hij) g hg
    · rw [k1]; have := ((h i hi).1.lt g hg).2; exact fun e => by cases e; omega
  intro i hi
  by_cases e : i = j
  · subst e
    rw [upd_same, upd_same]
    refine ⟨g1, fun k hk hki g hg hg2 => ?_⟩
    rw [upd_other _ _ hki] at hg2
    exact hv1 k hk hki g hg2 hg
  · rw [upd_other _ _ e, upd_other _ _ e]
    refine ⟨(h i hi).1.kept r1 (fun g hg => (h i hi).2 j hj (Ne.symm e) g hg), fun k hk hki g hg => ?_⟩
    by_cases e2 : k = j
    · subst e2; rw [upd_same]; exact hv1 i hi e g hg
    · rw [upd_other _ _ e2]; exact (h i hi).2 k hk hki g hg
/-- one of them is given up for one without a block -/
theorem Fam.drop {w : World} {B N j : Nat} {vs : Nat → Value} {ls : Nat → List (Int × Int × Int)} {v1 : Value} (h : Fam w B N vs ls) (g1 : Gr w B 44 3 v1 0 []) (hv : gBlock v1 = none) : Fam w B N (upd vs j v1) (upd ls j []) := by
  intro i hi
  by_cases e : i = j
  · subst e
    rw [upd_same, upd_same]
    exact ⟨g1, fun k _ _ g hg => by rw [hv] at hg; cases hg⟩
  · rw [upd_other _ _ e, upd_other _ _ e]
    refine ⟨(h i hi).1, fun k hk hki g hg => ?_⟩
    by_cases e2 : k = j
    · subst e2; rw [upd_same, hv]; exact fun q => by cases q
    · rw [upd_other _ _ e2]; exact (h i hi).2 k hk hki g hg
/-- one takes the place of another one, which is given up -/
theorem Fam.take {w : World} {B N j k : Nat} {vs : Nat → Value} {ls : Nat → List (Int × Int × Int)} (h : Fam w B N vs ls) (hj : j < N) (hk : k < N) (hjk : j ≠ k) : Fam w B N (upd (upd vs j (vs k)) k (.slice none 0 0)) (upd (upd ls j (ls k)) k []) := by
  intro i hi
  by_cases e : i = k
  · subst e
    rw [upd_same, upd_same]
    exact ⟨Gr.nil _ _ _ _, fun _ _ _ g hg => by simp [gBlock] at hg⟩
  · rw [upd_other _ _ e, upd_other _ _ e]
    by_cases e2 : i = j
    · subst e2
      rw [upd_same, upd_same]
      refine ⟨(h k hk).1, fun m hm hmi g hg => ?_⟩
      by_cases e3 : m = k
      · subst e3; rw [upd_same]; simp [gBlock]
      · rw [upd_other _ _ e3, upd_other _ _ hmi]; exact (h k hk).2 m hm e3 g hg
    · rw [upd_other _ _ e2, upd_other _ _ e2]
      refine ⟨(h i hi).1, fun m hm hmi g hg => ?_⟩
      by_cases e3 : m = k
      · subst e3; rw [upd_same]; simp [gBlock]
      · rw [upd_other _ _ e3]
        by_cases e4 : m = j
        · subst e4; rw [upd_same]; exact (h i hi).2 k hk (Ne.symm e) g hg
        · rw [upd_other _ _ e4]; exact (h i hi).2 m hm hmi g hg
theorem gBlock_type {w : World} {B B' : Nat} {e e' : TypeId} {sz sz' n n' : Nat} {v v' : Value} {cs cs' : List Value} (h : Gr w B e sz v n cs) (h' : Gr w B' e' sz' v' n' cs') (he : e ≠ e') : ∀ g, gBlock v = some g → gBlock v' ≠ some g := by
  intro g hg hg'
  have key : ∀ {B : Nat} {e : TypeId} {sz n : Nat} {v : Value} {cs : List Value}, Gr w B e sz v n cs → gBlock v = some g → ∃ cur, w.heap[g]? = some (.cells cur e (0, 0)) := by
    intro B e sz n v cs h hg
    rcases h with ⟨h1, ⟨h2, h3⟩ | ⟨g', cap, cur, hv, h4, hgg, hc, hm, hs, ht⟩⟩ | ⟨_, _, b, hv⟩
    · rw [h2] at hg; simp [gBlock] at hg
    · rw [hv] at hg
      simp only [gBlock] at hg
      split at hg
      · cases hg
      · cases hg; exact ⟨cur, hgg⟩
    · rw [hv] at hg; simp [gBlock] at hg
  obtain ⟨c1, h1⟩ := key h hg
  obtain ⟨c2, h2⟩ := key h' hg'
  rw [h1] at h2
  cases h2
  exact he rfl
theorem row_ne {w : World} {B : Nat} {e e' : TypeId} {sz n gx : Nat} {v : Value} {cs cs' : List Value} (h : Gr w B e sz v n cs) (h' : Row w gx e' cs') (he : e ≠ e') : ∀ g, gBlock v = some g → g ≠ gx := by
  intro g hg hgx
  subst hgx
  rcases h with ⟨h1, ⟨h2, h3⟩ | ⟨g', cap, cur, hv, h4, hgg, hc, hm, hs, ht⟩⟩ | ⟨_, _, b, hv⟩
  · rw [h2] at hg; simp [gBlock] at hg
  · rw [hv] at hg
    simp only [gBlock] at hg
    split at hg
    · cases hg
    · cases hg
      unfold Row at h'
      rw [hgg] at h'
      cases h'
      exact he rfl
  · rw [hv] at hg; simp [gBlock] at hg
def lsOf (f : Nat → List (Int × Int × Int)) (st : List (Int × Int × Int)) : Nat → List (Int × Int × Int) := fun i => if i = 0 then st else if i = 1 then [] else f (i - 2)
/-- a memory of the call's own, as a value -/
def MO (w : World) (B : Nat) (v : Value) (n : Nat) (ls : Nat → List (Int × Int × Int)) : Prop := ∃ bv vs, v = .agg #[bv, vs 0] ∧ Gr w B 24 1 bv n (tab n fun i => vs (i + 2)) ∧ Fam w B (n + 2) vs ls
theorem MO.mono {w w' : World} {B : Nat} {v : Value} {n : Nat} {ls : Nat → List (Int × Int × Int)} (h : MO w B v n ls) {B' : Nat} (hb : Below B' w w') (hB : w.heap.size ≤ B') : MO w' B v n ls := by
  obtain ⟨bv, vs, h1, h2, h3⟩ := h
  exact ⟨bv, vs, h1, h2.mono hb hB, h3.mono hb hB⟩
theorem MO.low {w : World} {B B' : Nat} {v : Value} {n : Nat} {ls : Nat → List (Int × Int × Int)} (h : MO w B v n ls) (hb : B' ≤ B) : MO w B' v n ls := by
  obtain ⟨bv, vs, h1, h2, h3⟩ := h
  exact ⟨bv, vs, h1, h2.low hb, h3.low hb⟩
theorem MO.view {w : World} {B : Nat} {v : Value} {n : Nat} {ls : Nat → List (Int × Int × Int)} (h : MO w B v n ls) : MemIn w v n (fun i => ls (i + 2)) (ls 0) := by
  obtain ⟨bv, vs, h1, h2, h3⟩ := h
  exact ⟨bv, vs 0, h1, ⟨fun i => vs (i + 2), h2.view, fun i hi => (h3 (i + 2) (by omega)).1.view⟩, (h3 0 (by omega)).1.view⟩
theorem MO.zero (w : World) (B : Nat) : MO w B (.agg #[.slice none 0 0, .slice none 0 0]) 0 (fun _ => []) :=
  ⟨.slice none 0 0, fun _ => .slice none 0 0, rfl, Gr.nil _ _ _ _, fun i _ => ⟨Gr.nil _ _ _ _, fun _ _ _ g hg => by simp [gBlock] at hg⟩⟩
/-- a memory of the call's own in a variable -/
def MB (w : World) (B gx : Nat) (n : Nat) (bv : Value) (vs : Nat → Value) (ls : Nat → List (Int × Int × Int)) : Prop := Row w gx 26 [bv, vs 0] ∧ Gr w B 24 1 bv n (tab n fun i => vs (i + 2)) ∧ Fam w B (n + 2) vs ls
theorem MB.mono {w w' : World} {B gx n : Nat} {bv : Value} {vs : Nat → Value} {ls : Nat → List (Int × Int × Int)} (h : MB w B gx n bv vs ls) {B' : Nat} (hb : Below B' w w') (hB : w.heap.size ≤ B') : MB w' B gx n bv vs ls :=
  ⟨h.1.mono hb (Nat.lt_of_lt_of_le h.1.lt hB), h.2.1.mono hb hB, h.2.2.mono hb hB⟩
end Go.Proofs.YtpkcgpgcoafmhaaDoor
