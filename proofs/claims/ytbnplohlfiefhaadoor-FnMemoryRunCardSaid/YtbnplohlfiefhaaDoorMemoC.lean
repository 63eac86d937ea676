/- contracts of clone and of the reference's copy -/
import Derived.Test.YtbnplohlfiefhaaDoorMemoL
import Derived.Deep.RegionLaw
namespace Go.Proofs.YtbnplohlfiefhaaDoor
section
open Go.RowKit
def upd {α : Type} (f : Nat → α) (j : Nat) (x : α) : Nat → α := fun i => if i = j then x else f i
theorem upd_same {α : Type} (f : Nat → α) (j : Nat) (x : α) : upd f j x j = x := if_pos rfl
theorem upd_other {α : Type} (f : Nat → α) {i j : Nat} (x : α) (h : i ≠ j) : upd f j x i = f i := if_neg h
/-- N lists of blocks of the call's own, each in a block of its own -/
def Fam (w : World) (B N : Nat) (vs : Nat → Value) (ls : Nat → List (Int × Int × Int)) : Prop := ∀ i, i < N → Gr w B 56 3 (vs i) (ls i).length (blks (ls i)) ∧ ∀ j, j < N → j ≠ i → ∀ g, gBlock (vs i) = some g → gBlock (vs j) ≠ some g
theorem Fam.kept {w w' : World} {B N : Nat} {vs : Nat → Value} {ls : Nat → List (Int × Int × Int)} {b : Option Nat} (h : Fam w B N vs ls) (hg : w.grownBy w' b) (hne : ∀ i, i < N → ∀ g, gBlock (vs i) = some g → b ≠ some g) : Fam w' B N vs ls :=
  fun i hi => ⟨(h i hi).1.kept hg (hne i hi), (h i hi).2⟩
theorem Fam.mono {w w' : World} {B N : Nat} {vs : Nat → Value} {ls : Nat → List (Int × Int × Int)} (h : Fam w B N vs ls) {B' : Nat} (hb : Below B' w w') (hB : w.heap.size ≤ B') : Fam w' B N vs ls :=
  fun i hi => ⟨(h i hi).1.mono hb hB, (h i hi).2⟩
theorem Fam.low {w : World} {B B' N : Nat} {vs : Nat → Value} {ls : Nat → List (Int × Int × Int)} (h : Fam w B N vs ls) (hb : B' ≤ B) : Fam w B' N vs ls := fun i hi => ⟨(h i hi).1.low hb, (h i hi).2⟩
theorem Fam.app {w w1 : World} {B N j : Nat} {vs : Nat → Value} {ls : Nat → List (Int × Int × Int)} {v1 : Value} {l' : List (Int × Int × Int)} (h : Fam w B N vs ls) (hj : j < N) (g1 : Gr w1 B 56 3 v1 l'.length (blks l')) (r1 : w.grownBy w1 (gBlock (vs j)))
    (k1 : gBlock v1 = gBlock (vs j) ∨ gBlock v1 = some w.heap.size) : Fam w1 B N (upd vs j v1) (upd ls j l') := by
  have hv1 : ∀ i, i < N → i ≠ j → ∀ g, gBlock (vs i) = some g → gBlock v1 ≠ some g := fun i hi hij g hg => by
    rcases k1 with k1 | k1
    · rw [k1]; exact (h i hi).2 j hj (Ne.symm hij) g hg
    · rw [k1]; have := ((h i hi).1.lt g hg).2; exact fun e => by cases e; omega
  intro i hi
  by_cases e : i = j
  · subst e
    rw [upd_same, upd_same]
    refine ⟨g1, fun k hk hki g hg hg2 => ?_⟩
    rw [upd_other _ _ hki] at hg2
    exact hv1 k hk hki g hg2 hg
  · rw [upd_other _ _ e, upd_other _ _ e]
    refine ⟨(h i hi).1.kept r1 (fun g hg => (h i hi).2 j hj (Ne.symm e) g hg), fun k hk hki g hg => ?_⟩
    by_cases e2 : k = j
    · subst e2; rw [upd_same]; exact hv1 i hi e g hg
    · rw [upd_other _ _ e2]; exact (h i hi).2 k hk hki g hg
/-- one of them is given up for one without a block -/
theorem Fam.drop {w : World} {B N j : Nat} {vs : Nat → Value} {ls : Nat → List (Int × Int × Int)} {v1 : Value} (h : Fam w B N vs ls) (g1 : Gr w B 56 3 v1 0 []) (hv : gBlock v1 = none) : Fam w B N (upd vs j v1) (upd ls j []) := by
  intro i hi
  by_cases e : i = j
  · subst e
    rw [upd_same, upd_same]
    exact ⟨g1, fun k _ _ g hg => by rw [hv] at hg; cases hg⟩
  · rw [upd_other _ _ e, upd_other _ _ e]
    refine ⟨(h i hi).1, fun k hk hki g hg => ?_⟩
    by_cases e2 : k = j
    · subst e2; rw [upd_same, hv]; exact fun q => by cases q
    · rw [upd_other _ _ e2]; exact (h i hi).2 k hk hki g hg
/-- one takes the place of another one, which is given up -/
theorem Fam.take {w : World} {B N j k : Nat} {vs : Nat → Value} {ls : Nat → List (Int × Int × Int)} (h : Fam w B N vs ls) (hj : j < N) (hk : k < N) (hjk : j ≠ k) : Fam w B N (upd (upd vs j (vs k)) k (.slice none 0 0)) (upd (upd ls j (ls k)) k []) := by
  intro i hi
  by_cases e : i = k
  · subst e
    rw [upd_same, upd_same]
    exact ⟨Gr.nil _ _ _ _, fun _ _ _ g hg => by simp [gBlock] at hg⟩
  · rw [upd_other _ _ e, upd_other _ _ e]
    by_cases e2 : i = j
    · subst e2
      rw [upd_same, upd_same]
      refine ⟨(h k hk).1, fun m hm hmi g hg => ?_⟩
      by_cases e3 : m = k
      · subst e3; rw [upd_same]; simp [gBlock]
      · rw [upd_other _ _ e3, upd_other _ _ hmi]; exact (h k hk).2 m hm e3 g hg
    · rw [upd_other _ _ e2, upd_other _ _ e2]
      refine ⟨(h i hi).1, fun m hm hmi g hg => ?_⟩
      by_cases e3 : m = k
      · subst e3; rw [upd_same]; simp [gBlock]
      · rw [upd_other _ _ e3]
        by_cases e4 : m = j
        · subst e4; rw [upd_same]; exact (h i hi).2 k hk (Ne.symm e) g hg
        · rw [upd_other _ _ e4]; exact (h i hi).2 m hm hmi g hg
theorem gBlock_type {w : World} {B B' : Nat} {e e' : TypeId} {sz sz' n n' : Nat} {v v' : Value} {cs cs' : List Value} (h : Gr w B e sz v n cs) (h' : Gr w B' e' sz' v' n' cs') (he : e ≠ e') : ∀ g, gBlock v = some g → gBlock v' ≠ some g := by
  intro g hg hg'
  have key : ∀ {B : Nat} {e : TypeId} {sz n : Nat} {v : Value} {cs : List Value}, Gr w B e sz v n cs → gBlock v = some g → ∃ cur, w.heap[g]? = some (.cells cur e (0, 0)) := by
    intro B e sz n v cs h hg
    rcases h with ⟨h1, ⟨h2, h3⟩ | ⟨g', cap, cur, hv, h4, hgg, hc, hm, hs, ht⟩⟩ | ⟨_, _, b, hv⟩
    · rw [h2] at hg; simp [gBlock] at hg
    · rw [hv] at hg
      simp only [gBlock] at hg
      split at hg
      · cases hg
      · cases hg; exact ⟨cur, hgg⟩
    · rw [hv] at hg; simp [gBlock] at hg
  obtain ⟨c1, h1⟩ := key h hg
  obtain ⟨c2, h2⟩ := key h' hg'
  rw [h1] at h2
  cases h2
  exact he rfl
theorem row_ne {w : World} {B : Nat} {e e' : TypeId} {sz n gx : Nat} {v : Value} {cs cs' : List Value} (h : Gr w B e sz v n cs) (h' : Row w gx e' cs') (he : e ≠ e') : ∀ g, gBlock v = some g → g ≠ gx := by
  intro g hg hgx
  subst hgx
  rcases h with ⟨h1, ⟨h2, h3⟩ | ⟨g', cap, cur, hv, h4, hgg, hc, hm, hs, ht⟩⟩ | ⟨_, _, b, hv⟩
  · rw [h2] at hg; simp [gBlock] at hg
  · rw [hv] at hg
    simp only [gBlock] at hg
    split at hg
    · cases hg
    · cases hg
      unfold Row at h'
      rw [hgg] at h'
      cases h'
      exact he rfl
  · rw [hv] at hg; simp [gBlock] at hg
def lsOf (f : Nat → List (Int × Int × Int)) (st : List (Int × Int × Int)) : Nat → List (Int × Int × Int) := fun i => if i = 0 then st else if i = 1 then [] else f (i - 2)
/-- a memory of the call's own, as a value -/
def MO (w : World) (B : Nat) (v : Value) (n : Nat) (ls : Nat → List (Int × Int × Int)) : Prop := ∃ bv vs, v = .agg #[bv, vs 0] ∧ Gr w B 27 1 bv n (tab n fun i => vs (i + 2)) ∧ Fam w B (n + 2) vs ls
theorem MO.mono {w w' : World} {B : Nat} {v : Value} {n : Nat} {ls : Nat → List (Int × Int × Int)} (h : MO w B v n ls) {B' : Nat} (hb : Below B' w w') (hB : w.heap.size ≤ B') : MO w' B v n ls := by
  obtain ⟨bv, vs, h1, h2, h3⟩ := h
  exact ⟨bv, vs, h1, h2.mono hb hB, h3.mono hb hB⟩
theorem MO.low {w : World} {B B' : Nat} {v : Value} {n : Nat} {ls : Nat → List (Int × Int × Int)} (h : MO w B v n ls) (hb : B' ≤ B) : MO w B' v n ls := by
  obtain ⟨bv, vs, h1, h2, h3⟩ := h
  exact ⟨bv, vs, h1, h2.low hb, h3.low hb⟩
theorem MO.view {w : World} {B : Nat} {v : Value} {n : Nat} {ls : Nat → List (Int × Int × Int)} (h : MO w B v n ls) : MemIn w v n (fun i => ls (i + 2)) (ls 0) := by
  obtain ⟨bv, vs, h1, h2, h3⟩ := h
  exact ⟨bv, vs 0, h1, ⟨fun i => vs (i + 2), h2.view, fun i hi => (h3 (i + 2) (by omega)).1.view⟩, (h3 0 (by omega)).1.view⟩
theorem MO.zero (w : World) (B : Nat) : MO w B (.agg #[.slice none 0 0, .slice none 0 0]) 0 (fun _ => []) :=
  ⟨.slice none 0 0, fun _ => .slice none 0 0, rfl, Gr.nil _ _ _ _, fun i _ => ⟨Gr.nil _ _ _ _, fun _ _ _ g hg => by simp [gBlock] at hg⟩⟩
/-- a memory of the call's own in a variable -/
def MB (w : World) (B gx : Nat) (n : Nat) (bv : Value) (vs : Nat → Value) (ls : Nat → List (Int × Int × Int)) : Prop := Row w gx 29 [bv, vs 0] ∧ Gr w B 27 1 bv n (tab n fun i => vs (i + 2)) ∧ Fam w B (n + 2) vs ls
theorem MB.mono {w w' : World} {B gx n : Nat} {bv : Value} {vs : Nat → Value} {ls : Nat → List (Int × Int × Int)} (h : MB w B gx n bv vs ls) {B' : Nat} (hb : Below B' w w') (hB : w.heap.size ≤ B') : MB w' B gx n bv vs ls :=
  ⟨h.1.mono hb (Nat.lt_of_lt_of_le h.1.lt hB), h.2.1.mono hb hB, h.2.2.mono hb hB⟩
end
open Go.RowKit
def MemoPost (n : Nat) (ls : Nat → List (Int × Int × Int)) (w : World) (e : Ending) (w' : World) : Prop := ∃ v, e = .returned v ∧ MO w' w.heap.size v n ls ∧ Below w.heap.size w w'
theorem tab_snocV (k : Nat) (vs : Nat → Value) (x : Value) : tab k (fun i => vs (i + 2)) ++ [x] = tab (k + 1) (fun i => upd vs (k + 2) x (i + 2)) := by
  have e : ∀ i, i < k → upd vs (k + 2) x (i + 2) = vs (i + 2) := fun i hi => upd_other _ _ (by omega)
  rw [show tab k (fun i => vs (i + 2)) = tab k (fun i => upd vs (k + 2) x (i + 2)) from tab_congr fun i hi => (e i hi).symm]
  simp [tab, List.range_succ, upd_same]
theorem Fam.ext {w : World} {B N : Nat} {vs : Nat → Value} {ls : Nat → List (Int × Int × Int)} {v1 : Value} (h : Fam w B N vs ls) (g1 : Gr w B 56 3 v1 (ls N).length (blks (ls N))) (hd : ∀ g, gBlock v1 = some g → ∀ i, i < N → gBlock (vs i) ≠ some g) : Fam w B (N + 1) (upd vs N v1) ls := by
  intro i hi
  by_cases e : i = N
  · subst e
    rw [upd_same]
    refine ⟨g1, fun k hk hki g hg => ?_⟩
    rw [upd_other _ _ hki]
    exact hd g hg k (by omega)
  · rw [upd_other _ _ e]
    refine ⟨(h i (by omega)).1, fun k hk hki g hg hg2 => ?_⟩
    by_cases e2 : k = N
    · subst e2; rw [upd_same] at hg2; exact hd g hg2 i (by omega) hg
    · rw [upd_other _ _ e2] at hg2; exact (h i (by omega)).2 k (by omega) hki g hg hg2
theorem lsOf_bucket (f : Nat → List (Int × Int × Int)) (st : List (Int × Int × Int)) (k : Nat) : lsOf f st (k + 2) = f k := by simp [lsOf]
theorem gr_of_none {w w1 : World} (h : w.grownBy w1 none) {B : Nat} (hB : B ≤ w.heap.size) : Below B w w1 := (Below.refl _ _).grown h hB (fun g hg => by cases hg)
theorem MB.push {w3 w4 : World} {B gx k : Nat} {bv v2 v4 : Value} {vs : Nat → Value} {ls : Nat → List (Int × Int × Int)} (hM : MB w3 B gx k bv vs ls) (hG : Gr w3 B 56 3 v2 (ls (k + 2)).length (blks (ls (k + 2)))) (hd : ∀ g, gBlock v2 = some g → ∀ i, i < k + 2 → gBlock (vs i) ≠ some g)
    (o : Obj) (G4 : Gr w4 B 27 1 v4 (k + 1) ((tab k fun i => vs (i + 2)) ++ [v2])) (R4 : (w3.alloc o).grownBy w4 (gBlock bv)) : MB (w4.setCell ⟨gx, 0, none⟩ v4) B gx (k + 1) v4 (upd vs (k + 2) v2) ls := by
  obtain ⟨h1, h2, h3⟩ := hM
  have hne : ∀ g, gBlock bv = some g → g ≠ gx := row_ne h2 h1 (by decide)
  have hr : Row w4 gx 29 [bv, vs 0] := (h1.alloc o).grown R4 (fun e => hne _ e rfl)
  have hG' : Gr w4 B 56 3 v2 (ls (k + 2)).length (blks (ls (k + 2))) := (hG.alloc o).kept R4 (fun g hg hg2 => gBlock_type h2 hG (by decide) g hg2 hg)
  have hF' : Fam w4 B (k + 2) vs ls := (h3.kept (World.grownBy_alloc w3 o none) (fun _ _ _ _ h => by cases h)).kept R4 (fun i hi g hg hg2 => gBlock_type h2 (h3 i hi).1 (by decide) g hg2 hg)
  have hF : Fam w4 B (k + 2 + 1) (upd vs (k + 2) v2) ls := hF'.ext hG' hd
  have hset : w4.grownBy (w4.setCell ⟨gx, 0, none⟩ v4) (some gx) := set_other w4 ⟨gx, 0, none⟩ v4 rfl
  refine ⟨?_, ?_, ?_⟩
  · have := hr.set 0 v4
    rw [upd_other _ _ (by omega)]
    exact this
  · rw [tab_snocV] at G4
    exact G4.kept hset (fun g hg he => by cases he; exact row_ne G4 hr (by decide) gx hg rfl)
  · rw [show k + 1 + 2 = k + 2 + 1 by omega]
    exact hF.kept hset (fun i hi g hg he => by cases he; exact row_ne (hF i hi).1 hr (by decide) gx hg rfl)
set_option maxRecDepth 20000 in
set_option maxHeartbeats 2000000 in
theorem clone_any' (v : Value) (f : Nat → List (Int × Int × Int)) (st : List (Int × Int × Int)) (w : World) (h : MemIn w v 7 f st) (hs : Small 7 f st) :
    Calls Tryd.prog 35 #[v] w (MemoPost 7 (lsOf f st) w) := by
  obtain ⟨bs, sv, rfl, h1, h2⟩ := h
  obtain ⟨ad, c, rfl, hmx, hop⟩ := h1.open
  obtain ⟨ads, cs2, hsv, _, _⟩ := h2.open
  subst hsv
  have HSM := Lib.hid hs
  have HOP := Lib.hid hop
  have H2 := Lib.hid h2
  have hst := hs.2.1
  clear h1 h2 hs hop
  obtain ⟨w1, hw1⟩ : ∃ w1, w1 = (w.alloc (.cells #[.slice ad 7 c, .slice ads st.length cs2] 29)).alloc (.cells #[.slice none 0 0, .slice none 0 0] 29) := ⟨_, rfl⟩
  have HW1 := Lib.hid hw1
  have HB1 : Hid (Below w.heap.size w w1) := by rw [hw1]; exact ((Below.refl _ _).alloc (Nat.le_refl _) _).alloc (by simp) _
  have HR1 : Hid (Row w1 w.heap.size 29 [.slice ad 7 c, .slice ads st.length cs2]) := by rw [hw1]; exact (Row.new w 29 [.slice ad 7 c, .slice ads st.length cs2]).alloc _
  have HR2 : Hid (Row w1 (w.heap.size + 1) 29 [.slice none 0 0, .slice none 0 0]) := by
    have := Row.new (w.alloc (.cells #[.slice ad 7 c, .slice ads st.length cs2] 29)) 29 [.slice none 0 0, .slice none 0 0]
    rw [World.size_alloc] at this
    rw [hw1]; exact this
  have HZ1 : Hid (w1.heap.size = w.heap.size + 1 + 1) := by rw [hw1]; simp [Hid]
  have k1 : ((w.alloc (.cells #[.slice ad 7 c, .slice ads st.length cs2] 29)).alloc (.cells #[.slice none 0 0, .slice none 0 0] 29)).cell? ⟨w.heap.size, 1, none⟩ = some (.slice ads st.length cs2) := by rw [← hw1]; exact HR1.out.cell rfl
  clear hw1
  go_enter Tryd.func35, Tryd.ntmps35
  go_wp2_with (at_builtin; rw [← HW1.out]; refine wpList_app _ rfl (.const (.slice none 0 0)) (.tmp 7) 27 rfl w1.heap.size 56 (.agg #[.int .i64 0, .int .i64 0, .int .i64 0]) 3 24 Tryd.underlying27 Tryd.infoBlk rfl (by omega) (.slice none 0 0) 0 [] rfl (Gr.nil _ _ _ _) _ st.length (blks st) rfl (H2.out.mono HB1.out (Nat.le_refl _)) (one_blks _) (by unfold maxLen; omega) (by omega) (Nat.le_refl _) ?_; intro v1 w2 g1 r1 k1'; have G1 : Hid (Gr w2 w1.heap.size 56 3 v1 st.length (blks st)) := (by simpa [Hid] using g1); have B2 : Hid (Below w1.heap.size w1 w2) := (Below.refl _ _).grown r1 (Nat.le_refl _) (fun g hg => by simp [gBlock] at hg); have k0 : w2.cell? ⟨w.heap.size, 0, none⟩ = some (.slice ad 7 c) := (HR1.out.mono B2.out HR1.out.lt).cell rfl; obtain ⟨a1, c1, hv1⟩ := G1.out.lit; subst hv1; have k0' : (w2.alloc (.cells #[.slice none 0 0, .slice a1 st.length c1] 29)).cell? ⟨w.heap.size, 0, none⟩ = some (.slice ad 7 c) := ((HR1.out.mono B2.out HR1.out.lt).alloc _).cell rfl; clear g1 r1 k1' k0)
  have HRX : Hid (Row (w2.alloc (.cells #[.slice none 0 0, .slice a1 st.length c1] 29)) w2.heap.size 29 [.slice none 0 0, .slice a1 st.length c1]) := Row.new w2 29 [.slice none 0 0, .slice a1 st.length c1]
  have HBX : Hid (Below w1.heap.size w1 (w2.alloc (.cells #[.slice none 0 0, .slice a1 st.length c1] 29))) := B2.out.alloc B2.out.size _
  have HGX : Hid (Gr (w2.alloc (.cells #[.slice none 0 0, .slice a1 st.length c1] 29)) w1.heap.size 56 3 (.slice a1 st.length c1) st.length (blks st)) := G1.out.alloc _
  have hz2 := B2.out.size
  clear k0' G1 B2 HW1
  generalize (w2.alloc (.cells #[.slice none 0 0, .slice a1 st.length c1] 29)) = W3 at HRX HBX HGX ⊢
  have HR2' : Hid (Row W3 (w.heap.size + 1) 29 [.slice none 0 0, .slice none 0 0]) := HR2.out.mono HBX.out HR2.out.lt
  have hgx1 : w1.heap.size ≤ w2.heap.size := hz2
  obtain ⟨gx, hgx⟩ : ∃ gx, w2.heap.size = gx := ⟨_, rfl⟩
  rw [hgx] at HRX hgx1 ⊢
  clear hgx hz2
  go_loopw [13] (fun i wr => ∃ (k : Nat) (bv : Value) (vs : Nat → Value), k ≤ 7 ∧ i = .int .i64 k ∧ Hid (MB wr w1.heap.size gx k bv vs (lsOf f st)) ∧ Hid (Below w1.heap.size w1 wr)) (fun i _ => 7 - (intOf i).toNat)
  case atStart =>
    refine ⟨0, .slice none 0 0, fun i => if i = 0 then .slice a1 st.length c1 else .slice none 0 0, Nat.zero_le _, rfl, ⟨HRX.out, Gr.nil _ _ _ _, fun i hi => ?_⟩, HBX.out⟩
    by_cases e : i = 0
    · subst e
      refine ⟨HGX.out, fun j hj hji g hg hg2 => ?_⟩
      have hg2' : gBlock (if j = 0 then .slice a1 st.length c1 else .slice none 0 0) = some g := hg2
      rw [if_neg hji] at hg2'; simp [gBlock] at hg2'
    · obtain rfl : i = 1 := by omega
      exact ⟨Gr.nil _ _ _ _, fun j hj hji g hg => by simp [gBlock] at hg⟩
  case round =>
    obtain ⟨k, bv, vs, hk, rfl, hM, hB⟩ := hrel
    have hBt : Hid (Below w.heap.size w wr) := HB1.out.trans (hB.out.mono HB1.out.size)
    have hsz := hB.out.size
    obtain ⟨abv, cbv, hbv⟩ := hM.out.2.1.lit
    subst hbv
    by_cases hlt : k < 7
    · obtain ⟨b, off, rfl, hcell⟩ := HOP.out k hlt
      obtain ⟨a3, c3, hc3, hv3⟩ := hcell k hlt
      have g3 : wr.cell? ⟨b, off + k, none⟩ = some (.slice a3 (f k).length c3) := (hBt.out.cell (p := ⟨b, off + k, none⟩) (World.block_lt_of_cell? w _ hc3)).trans hc3
      have V3 := Lib.hid (hv3.mono hBt.out (Nat.le_refl _))
      have hfl := HSM.out.2.2 k hlt
      have hkx := hM.out.1.cell (i := 0) rfl
      have HKX := Lib.hid hkx
      have hgxl : gx < wr.heap.size := hM.out.1.lt
      obtain ⟨m, hm⟩ : ∃ m, (f k).length = m := ⟨_, rfl⟩
      rw [hm] at g3 hfl V3
      have HMM := Lib.hid hm
      have V4 : Hid (View wr 3 (.slice a3 m c3) m (blks (f k))) := by have := V3.out; unfold Blks at this; rw [HMM.out] at this; exact this
      clear hcell hc3 hv3 hm V3
      go_wp2_with fail
      go_region_law (first
        | (refine step_app _ rfl (.const (.slice none 0 0)) (.tmp 19) 27 rfl w1.heap.size 56 (.agg #[.int .i64 0, .int .i64 0, .int .i64 0]) 3 24 Tryd.underlying27 Tryd.infoBlk rfl (by omega) (.slice none 0 0) 0 [] rfl (Gr.nil _ _ _ _) _ m (blks (f k)) rfl (V4.out.mono (Below.refl _ _).drew (Nat.le_refl _)) (one_blks _) (by unfold maxLen; omega) (by omega) hsz ?_
           intro v2 w3 g1 r1 k1
           have G2 : Hid (Gr w3 w1.heap.size 56 3 v2 m (blks (f k))) := by simpa [Hid] using g1
           have K2 : Hid (gBlock v2 = none ∨ gBlock v2 = some wr.heap.size) := by simpa [Hid, gBlock] using k1
           have B3' : Hid (Below wr.heap.size wr w3) := (Below.refl wr.heap.size wr).drew.trans (gr_of_none (show wr.drew.grownBy w3 none from r1) (Nat.le_refl _))
           have M3 : Hid (MB w3 w1.heap.size gx k (.slice abv k cbv) vs (lsOf f st)) := hM.out.mono B3'.out (Nat.le_refl _)
           have kx3 := M3.out.1.cell (i := 0) rfl
           obtain ⟨a2, c2, hv2⟩ := G2.out.lit
           subst hv2
           have kx4 := (M3.out.1.alloc (.cells #[.slice a2 m c2] 27)).cell (i := 0) rfl
           clear g1 r1 k1)
        | (refine step_app _ rfl (.tmp 18) (.tmp 21) 26 rfl w1.heap.size 27 (.slice none 0 0) 1 24 Tryd.underlying26 Tryd.infoBlks rfl (by omega) (.slice abv k cbv) k (tab k fun i => vs (i + 2)) rfl (M3.out.2.1.alloc _) _ 1 [.slice a2 m c2] rfl (view_one _ _ _) (by simp [Value.oneCell']) (by unfold maxLen; omega) (by omega) (by have := B3'.out.size; simp; omega) ?_
           intro v4 w4 g1 r1 k1
           have G4 := Lib.hid g1
           have R4 := Lib.hid r1
           have HGK : Hid (∀ g, gBlock (.slice abv k cbv) = some g → g ≠ gx) := row_ne M3.out.2.1 M3.out.1 (by decide)
           have RX : Hid (Row w4 gx 29 [.slice abv k cbv, vs 0]) := (M3.out.1.alloc _).grown r1 (fun e => HGK.out _ e rfl)
           obtain ⟨a4, c4, hv4⟩ := G4.out.lit
           subst hv4
           have kx5 := RX.out.cell (i := 0) rfl
           have fx5 := RX.out.free 0
           have F4 : Hid (Fam w4 w1.heap.size (k + 2) vs (lsOf f st)) := (M3.out.2.2.kept (World.grownBy_alloc w3 _ none) (fun _ _ _ _ h => by cases h)).kept r1 (fun i hi g hg hg2 => gBlock_type M3.out.2.1 (M3.out.2.2 i hi).1 (by decide) g hg2 hg)
           clear g1 r1 k1))
      all_goals
        go_wp2
        go_roundw
        case rel =>
          have hG2 : Gr w3 w1.heap.size 56 3 (.slice a2 m c2) (lsOf f st (k + 2)).length (blks (lsOf f st (k + 2))) := by rw [lsOf_bucket, HMM.out]; exact G2.out
          refine ⟨k + 1, _, _, hlt, by go_num, M3.out.push hG2 (fun g hg i hi => ?_) _ G4.out R4.out, ?_⟩
          · rcases K2.out with e | e
            · rw [e] at hg; cases hg
            · rw [e] at hg; cases hg
              intro q
              have := ((hM.out.2.2 i hi).1.lt _ q).2
              omega
          · have hb3 : Below w1.heap.size w1 w3 := hB.out.trans (B3'.out.mono hsz)
            have hb4 := (hb3.alloc hb3.size (.cells #[.slice a2 m c2] 27)).grown R4.out (Nat.le_trans hb3.size (by simp)) (fun g hg => (M3.out.2.1.lt g hg).1)
            exact hb4.setCell (p := ⟨gx, 0, none⟩) hgx1 _
        case measure => simp [intOf]; omega
    · obtain rfl : k = 7 := by omega
      obtain ⟨a0, c0, hv0⟩ := (hM.out.2.2 0 (by omega)).1.lit
      have x0 := hM.out.1.cell (i := 0) rfl
      have x1 := hM.out.1.cell (i := 1) rfl
      rw [hv0] at x1
      have HRZ : Hid (Row wr (w.heap.size + 1) 29 [.slice none 0 0, .slice none 0 0]) := HR2.out.mono hB.out HR2.out.lt
      have y0 := HRZ.out.cell (i := 0) rfl
      have y1 := HRZ.out.cell (i := 1) rfl
      have z0 := HRZ.out.free 0
      have z1 := HRZ.out.free 1
      have hlw := HZ1.out
      go_wp2
      have hrow := (HRZ.out.set 0 (.slice abv 7 cbv)).set 1 (.slice a0 (lsOf f st 0).length c0)
      have f0 := hrow.cell (i := 0) rfl
      have f1 := hrow.cell (i := 1) rfl
      refine bodyPost_ret (v := .agg #[.slice abv 7 cbv, .slice a0 (lsOf f st 0).length c0]) (by simp [results, Tryd.results35, go_sem, f0, f1]) rfl ?_
      have hg1 : wr.grownBy ((wr.setCell ⟨w.heap.size + 1, 0, none⟩ (.slice abv 7 cbv)).setCell ⟨w.heap.size + 1, 1, none⟩ (.slice a0 (lsOf f st 0).length c0)) (some (w.heap.size + 1)) := grown_set (set_other wr ⟨w.heap.size + 1, 0, none⟩ _ rfl) _ _
      refine ⟨_, rfl, ?_, hBt.out.grown hg1 hBt.out.size (fun g hg => by cases hg; omega)⟩
      refine MO.low (B := w1.heap.size) ⟨_, vs, by rw [hv0], hM.out.2.1.kept hg1 (fun g hg he => by cases he; have := (hM.out.2.1.lt _ hg).1; omega), hM.out.2.2.kept hg1 (fun i hi g hg he => by cases he; have := ((hM.out.2.2 i hi).1.lt _ hg).1; omega)⟩ HB1.out.size
end Go.Proofs.YtbnplohlfiefhaaDoor
