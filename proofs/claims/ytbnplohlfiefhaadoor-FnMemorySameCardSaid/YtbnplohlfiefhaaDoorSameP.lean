/- uses that write other values: the same blocks but for the values -/
import Derived.Test.YtbnplohlfiefhaaDoorRun
namespace Go.Proofs.YtbnplohlfiefhaaDoor
open Go.RowKit
/-- a block without its value -/
def er (b : Int × Int × Int) : Int × Int × Int := (b.1, 0, b.2.2)
def ErEq (ls ls' : Nat → List (Int × Int × Int)) : Prop := ∀ i, (ls i).map er = (ls' i).map er
theorem er_len {L L' : List (Int × Int × Int)} (h : L.map er = L'.map er) : L.length = L'.length := by have := congrArg List.length h; simpa using this
theorem ErEq.upd {ls ls' : Nat → List (Int × Int × Int)} (h : ErEq ls ls') {j : Nat} {x y : List (Int × Int × Int)} (e : x.map er = y.map er) : ErEq (upd ls j x) (upd ls' j y) := fun i => by
  by_cases c : i = j
  · subst c; rw [upd_same, upd_same]; exact e
  · rw [upd_other _ _ c, upd_other _ _ c]; exact h i
theorem ErEq.gath {ls ls' : Nat → List (Int × Int × Int)} (h : ErEq ls ls') (p : Nat) : ErEq (gath ls p) (gath ls' p) :=
  (h.upd (by rw [List.map_append, List.map_append, h 0, h (p + 2)])).upd rfl
theorem ErEq.gathK {ls ls' : Nat → List (Int × Int × Int)} (h : ErEq ls ls') (o : Int) : ∀ k, ErEq (gathK ls o k) (gathK ls' o k)
  | 0 => h
  | k + 1 => (ErEq.gathK h o k).gath _
theorem er_up (a : Int) (t : Bool) (v l : Int) (b : Int × Int × Int) : er (upB a t v l b) = (if (er b).1 == a then ((er b).1, 0, l) else er b) := by
  unfold upB er
  by_cases c : b.1 == a
  · simp only [c, if_true]
  · simp only [c]; rfl
theorem er_map_up {L L' : List (Int × Int × Int)} (h : L.map er = L'.map er) (a : Int) (t t' : Bool) (v v' l : Int) : (L.map (upB a t v l)).map er = (L'.map (upB a t' v' l)).map er := by
  have e : ∀ (M : List (Int × Int × Int)) (t : Bool) (v : Int), (M.map (upB a t v l)).map er = (M.map er).map (fun b => if b.1 == a then (b.1, 0, l) else b) := fun M t v => by
    rw [List.map_map, List.map_map]
    exact List.map_congr_left fun b _ => er_up a t v l b
  rw [e, e, h]
theorem ErEq.setS {ls ls' : Nat → List (Int × Int × Int)} (h : ErEq ls ls') (a : Int) (t t' : Bool) (v v' l : Int) : ErEq (setS ls a t v l) (setS ls' a t' v' l) := h.upd (er_map_up (h 0) a t t' v v' l)
theorem er_one {p : Nat} {r r' : List (Int × Int × Int) × List (Int × Int × Int)} {b b' : Int × Int × Int} (h1 : r.1.map er = r'.1.map er) (h2 : r.2.map er = r'.2.map er) (hb : er b = er b') :
    (fillOne p r b).1.map er = (fillOne p r' b').1.map er ∧ (fillOne p r b).2.map er = (fillOne p r' b').2.map er := by
  have hl : b.2.2 = b'.2.2 := congrArg (fun x => x.2.2) hb
  unfold fillOne
  rw [er_len h1, hl]
  split
  · exact ⟨by simp [h1, hb], h2⟩
  · exact ⟨h1, by simp [h2, hb]⟩
theorem er_fold {p : Nat} : ∀ (L L' : List (Int × Int × Int)) (r r' : List (Int × Int × Int) × List (Int × Int × Int)), L.map er = L'.map er → r.1.map er = r'.1.map er → r.2.map er = r'.2.map er →
    (L.foldl (fillOne p) r).1.map er = (L'.foldl (fillOne p) r').1.map er ∧ (L.foldl (fillOne p) r).2.map er = (L'.foldl (fillOne p) r').2.map er
  | [], [], _, _, _, h1, h2 => ⟨h1, h2⟩
  | [], _ :: _, _, _, h, _, _ => by cases h
  | _ :: _, [], _, _, h, _, _ => by cases h
  | b :: L, b' :: L', r, r', h, h1, h2 => by
    rw [List.map_cons, List.map_cons, List.cons.injEq] at h
    obtain ⟨g1, g2⟩ := er_one (p := p) h1 h2 h.1
    exact er_fold L L' _ _ h.2 g1 g2
theorem ErEq.fillR {ls ls' : Nat → List (Int × Int × Int)} (h : ErEq ls ls') (p : Nat) : (fillR p ls (ls 0).length).1.map er = (fillR p ls' (ls' 0).length).1.map er ∧ (fillR p ls (ls 0).length).2.map er = (fillR p ls' (ls' 0).length).2.map er := by
  unfold Go.Proofs.YtbnplohlfiefhaaDoor.fillR
  rw [List.take_length, List.take_length]
  exact er_fold _ _ _ _ (h 0) (h (p + 2)) rfl
theorem ErEq.step {ls ls' : Nat → List (Int × Int × Int)} (h : ErEq ls ls') (p : Nat) : ErEq (step3 ls p) (step3 ls' p) := by
  obtain ⟨h1, h2⟩ := h.fillR p
  exact ((h.upd h1).upd h2).upd rfl
theorem ErEq.stepK {ls ls' : Nat → List (Int × Int × Int)} (h : ErEq ls ls') (o : Int) : ∀ k, ErEq (stepK ls o k) (stepK ls' o k)
  | 0 => h
  | k + 1 => (ErEq.stepK h o k).step _
theorem ErEq.use {ls ls' : Nat → List (Int × Int × Int)} (h : ErEq ls ls') (o a : Int) (t t' : Bool) (v v' l : Int) : ErEq (useLs ls o a t v l) (useLs ls' o a t' v' l) := ((h.gathK o 3).setS a t t' v v' l).stepK o 3
theorem ErEq.all {ls ls' : Nat → List (Int × Int × Int)} (h : ErEq ls ls') : (allL ls).map er = (allL ls').map er := by
  rw [allL_eq, allL_eq]
  simp only [List.map_append, h 0, h 2, h 3, h 4, h 5, h 6, h 7, h 8]
theorem er_blkAt : ∀ {L L' : List (Int × Int × Int)}, L.map er = L'.map er → ∀ x : Int, (blkAt L x).2.2 = (blkAt L' x).2.2
  | [], [], _, _ => rfl
  | [], _ :: _, h, _ => by cases h
  | _ :: _, [], h, _ => by cases h
  | b :: L, b' :: L', h, x => by
    rw [List.map_cons, List.map_cons, List.cons.injEq] at h
    have h1 : b.1 = b'.1 := congrArg (fun z => z.1) h.1
    have h2 : b.2.2 = b'.2.2 := congrArg (fun z => z.2.2) h.1
    have ih := er_blkAt h.2 x
    unfold blkAt at ih ⊢
    rw [List.find?_cons, List.find?_cons, h1]
    cases (b'.1 == x)
    · exact ih
    · exact h2
/-- a use that writes nothing -/
def readU (u : Int × Bool × Int × Int) : Int × Bool × Int × Int := (u.1, false, 0, u.2.2.2)
theorem run_same : ∀ (us : List (Int × Bool × Int × Int)) (ls ls' : Nat → List (Int × Int × Int)) (vs vs0 ws : List Int) (r : (Nat → List (Int × Int × Int)) × List Int × List Int), RunOk ls → RunOk ls' → ErEq ls ls' → us.foldl runStep (some (ls, vs, ws)) = some r →
    ∃ X' vs', (us.map readU).foldl runStep (some (ls', vs0, ws)) = some (X', vs', r.2.2) ∧ RunOk r.1 ∧ RunOk X' ∧ ErEq r.1 X'
  | [], ls, ls', vs, vs0, ws, r, h1, h2, he, hr => by
    cases hr
    exact ⟨ls', vs0, rfl, h1, h2, he⟩
  | u :: us, ls, ls', vs, vs0, ws, r, h1, h2, he, hr => by
    rw [List.foldl_cons] at hr
    cases hk : useOk 7 (fun i => ls (i + 2)) (ls 0) u.1 u.2.2.1 u.2.2.2 with
    | false =>
      have : runStep (some (ls, vs, ws)) u = none := by unfold runStep; simp [hk]
      rw [this, run_none] at hr
      cases hr
    | true =>
      have hs : runStep (some (ls, vs, ws)) u = some (useLs ls (blkAt (allL ls) u.1).2.2 u.1 u.2.1 u.2.2.1 u.2.2.2, vs ++ [(blkAt (allL ls) u.1).2.1], ws ++ pathL (blkAt (allL ls) u.1).2.2) := by
        unfold runStep
        simp only [hk, if_true]
      rw [hs] at hr
      have hk' : useOk 7 (fun i => ls' (i + 2)) (ls' 0) u.1 0 u.2.2.2 = true := by
        unfold useOk at hk ⊢
        rw [Bool.and_eq_true, Bool.and_eq_true, Bool.and_eq_true] at hk
        rw [validB_iff.2 h2.valid, hk.1.1.2, hk.2]
        rfl
      have hlf := er_blkAt he.all u.1
      have hs' : runStep (some (ls', vs0, ws)) (readU u) = some (useLs ls' (blkAt (allL ls) u.1).2.2 u.1 false 0 u.2.2.2, vs0 ++ [(blkAt (allL ls') u.1).2.1], ws ++ pathL (blkAt (allL ls) u.1).2.2) := by
        unfold runStep readU
        simp only [hk', if_true, hlf]
      have hn1 := h1.step (t := u.2.1) hk
      have hn2 := h2.step (t := false) hk'
      rw [← hlf] at hn2
      obtain ⟨X', vs', g1, g2, g3, g4⟩ := run_same us _ _ _ (vs0 ++ [(blkAt (allL ls') u.1).2.1]) _ r hn1 hn2 (he.use _ u.1 u.2.1 false u.2.2.1 0 u.2.2.2) hr
      refine ⟨X', vs', ?_, g2, g3, g4⟩
      rw [List.map_cons, List.foldl_cons, hs']
      exact g1
theorem run_reads {n : Nat} {f : Nat → List (Int × Int × Int)} {st : List (Int × Int × Int)} {us : List (Int × Bool × Int × Int)} {r : (Nat → List (Int × Int × Int)) × List Int × List Int} (h : runL n f st us = some r) :
    ∃ X' vs', runL n f st (us.map readU) = some (X', vs', r.2.2) ∧ RunOk X' ∧ ∀ k : Int, leafV 7 (fun i => X' (i + 2)) (X' 0) k = leafV 7 (fun i => r.1 (i + 2)) (r.1 0) k := by
  unfold runL at h
  by_cases hc : (validB n f st && decide (us.length ≤ 40)) = true
  · rw [if_pos hc] at h
    have hc2 := hc
    rw [Bool.and_eq_true, decide_eq_true_eq] at hc
    obtain rfl : n = 7 := (validB_iff.1 hc.1).seven
    have hok := RunOk.start hc.1
    obtain ⟨X', vs', g1, g2, g3, g4⟩ := run_same us _ (lsOf f st) [] [] [] r hok hok (fun _ => rfl) h
    refine ⟨X', vs', ?_, g3, fun k => ?_⟩
    · unfold runL; rw [List.length_map, if_pos hc2]; exact g1
    · unfold leafV
      rw [validB_iff.2 g2.valid, validB_iff.2 g3.valid]
      have := er_blkAt g4.all k
      unfold allL at this
      rw [this]
  · rw [if_neg hc] at h; cases h
end Go.Proofs.YtbnplohlfiefhaaDoor
