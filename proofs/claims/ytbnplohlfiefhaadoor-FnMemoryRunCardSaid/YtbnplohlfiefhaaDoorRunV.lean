/- what runs and uses return, as views alone: literal slices, memories that read as lists -/
import Derived.Test.YtbnplohlfiefhaaDoorRunI
import Derived.Test.YtbnplohlfiefhaaDoorRunS
import Derived.Test.YtbnplohlfiefhaaDoorRunQ
namespace Go.Proofs.YtbnplohlfiefhaaDoor
open Go.RowKit
theorem run_some {n : Nat} {f : Nat → List (Int × Int × Int)} {st : List (Int × Int × Int)} {us : List (Int × Bool × Int × Int)} {r : (Nat → List (Int × Int × Int)) × List Int × List Int} (h : runL n f st us = some r) : n = 7 ∧ RunOk r.1 := by
  unfold runL at h
  by_cases hc : (validB n f st && decide (us.length ≤ 40)) = true
  · rw [if_pos hc] at h
    rw [Bool.and_eq_true] at hc
    obtain rfl : n = 7 := (validB_iff.1 hc.1).seven
    exact ⟨rfl, (run_vals us _ _ _ r (RunOk.start hc.1) h).2.2.1⟩
  · rw [if_neg hc] at h; cases h
theorem ints_none (w : World) (a : Option Addr) (c : Nat) : Ints w (.slice a 0 c) [] := ⟨by simp [ints], Nat.zero_le _, .inl ⟨rfl, _, _, rfl⟩⟩
/-- a memory of seven buckets, as a literal value -/
theorem MO.views {w : World} {B : Nat} {mv : Value} {ls : Nat → List (Int × Int × Int)} (h : MO w B mv 7 ls) : ∃ gb cb a c, mv = .agg #[.slice (some ⟨gb, 0, none⟩) 7 cb, .slice a (ls 0).length c] ∧ MemIn w (.agg #[.slice (some ⟨gb, 0, none⟩) 7 cb, .slice a (ls 0).length c]) 7 (fun i => ls (i + 2)) (ls 0) := by
  have hv := h.view
  obtain ⟨bv, vs, rfl, hb, hf⟩ := h
  obtain ⟨gb, cb, h1, -, -, -, -, -, -⟩ := hb.at (show 0 < 7 by omega)
  obtain ⟨a, c, h2⟩ := (hf 0 (by omega)).1.lit
  rw [h1, h2] at hv ⊢
  exact ⟨gb, cb, a, c, rfl, hv⟩
theorem MO.empty {w : World} {B : Nat} {mv : Value} {ls : Nat → List (Int × Int × Int)} (h : MO w B mv 0 ls) (h0 : ls 0 = []) : ∃ a c a' c', mv = .agg #[.slice a 0 c, .slice a' 0 c'] := by
  obtain ⟨bv, vs, rfl, hb, hf⟩ := h
  obtain ⟨a, c, h1⟩ := hb.lit
  obtain ⟨a', c', h2⟩ := (hf 0 (by omega)).1.lit
  rw [h0] at h2
  exact ⟨a, c, a', c', by rw [h1, h2]; rfl⟩
theorem mem_none (w : World) (a : Option Addr) (c : Nat) (a' : Option Addr) (c' : Nat) : MemIn w (.agg #[.slice a 0 c, .slice a' 0 c']) 0 (fun _ => []) [] :=
  ⟨_, _, rfl, ⟨fun _ => undef, ⟨by simp [tab], Nat.zero_le _, .inl ⟨rfl, _, _, rfl⟩⟩, fun i hi => absurd hi (Nat.not_lt_zero _)⟩, ⟨by simp, Nat.zero_le _, .inl ⟨rfl, _, _, rfl⟩⟩⟩
theorem MemIn.bucket {w : World} {gb cb k : Nat} {sv : Value} {f : Nat → List (Int × Int × Int)} {st : List (Int × Int × Int)} (h : MemIn w (.agg #[.slice (some ⟨gb, 0, none⟩) 7 cb, sv]) 7 f st) (hk : k < 7) : ∃ a' c', w.cell? ⟨gb, k, none⟩ = some (.slice a' (f k).length c') := by
  obtain ⟨bs, sv', e, hb, _⟩ := h
  obtain ⟨e1, -⟩ := agg2 e
  subst e1
  obtain ⟨ad, c, hv, _, hop⟩ := hb.open
  cases hv
  obtain ⟨b, off, he, hc⟩ := hop k hk
  cases he
  obtain ⟨a', c', h1, _⟩ := hc k hk
  rw [Nat.zero_add] at h1
  exact ⟨a', c', h1⟩
def RunV (r : Option ((Nat → List (Int × Int × Int)) × List Int × List Int)) (w : World) (e : Ending) (w' : World) : Prop :=
  match r with
  | none => ∃ a1 c1 a2 c2, e = .returned (.tuple #[.agg #[.slice none 0 0, .slice none 0 0], .slice a1 0 c1, .slice a2 0 c2, .bool false]) ∧ Below w.heap.size w w'
  | some r => ∃ gb cb a c a1 c1 a2 c2, e = .returned (.tuple #[.agg #[.slice (some ⟨gb, 0, none⟩) 7 cb, .slice a (r.1 0).length c], .slice a1 r.2.1.length c1, .slice a2 r.2.2.length c2, .bool true]) ∧
      MemIn w' (.agg #[.slice (some ⟨gb, 0, none⟩) 7 cb, .slice a (r.1 0).length c]) 7 (fun i => r.1 (i + 2)) (r.1 0) ∧ Ints w' (.slice a1 r.2.1.length c1) r.2.1 ∧ Ints w' (.slice a2 r.2.2.length c2) r.2.2 ∧ Below w.heap.size w w'
theorem run_views {r : Option ((Nat → List (Int × Int × Int)) × List Int × List Int)} {w : World} {e : Ending} {w' : World} (h : RunPost r w e w') : RunV r w e w' := by
  cases r with
  | none =>
    obtain ⟨u1, u2, rfl, hg1, hg2, hb⟩ := h
    obtain ⟨p1, q1, rfl⟩ := hg1.lit
    obtain ⟨p2, q2, rfl⟩ := hg2.lit
    exact ⟨_, _, _, _, rfl, hb⟩
  | some r =>
    obtain ⟨mv, u1, u2, rfl, hmo, hg1, hg2, hb⟩ := h
    obtain ⟨gb, cb, a, c, rfl, hv⟩ := hmo.views
    obtain ⟨p1, q1, rfl⟩ := hg1.lit
    obtain ⟨p2, q2, rfl⟩ := hg2.lit
    exact ⟨gb, cb, a, c, p1, q1, p2, q2, rfl, hv, Gr.ints hg1 rfl, Gr.ints hg2 rfl, hb⟩
theorem impl_RunV {mv uv : Value} {n : Nat} {f : Nat → List (Int × Int × Int)} {st : List (Int × Int × Int)} {us : List (Int × Bool × Int × Int)} {w : World} (h : MemIn w mv n f st) (hs : Small n f st) (hu : Uses w uv us) (hl : us.length ≤ 100) :
    Calls Tryd.prog 24 #[mv, uv] w (RunV (runL n f st us) w) := (impl_Run mv uv n f st us w h hs hu hl).mono fun _ _ h => run_views h
theorem spec_RunV {mv uv : Value} {n : Nat} {f : Nat → List (Int × Int × Int)} {st : List (Int × Int × Int)} {us : List (Int × Bool × Int × Int)} {w : World} (h : MemIn w mv n f st) (hs : Small n f st) (hu : Uses w uv us) (hl : us.length ≤ 100) :
    Calls Tryd.prog 25 #[mv, uv] w (RunV (runL n f st us) w) := (spec_Run mv uv n f st us w h hs hu hl).mono fun _ _ h => run_views h
/-- a run that succeeds, with what it owns -/
def RunX (X : Nat → List (Int × Int × Int)) (vs ws : List Int) (s n1 n2 : Nat) (w : World) (e : Ending) (w' : World) : Prop :=
  ∃ gb cb a c a1 c1 a2 c2, e = .returned (.tuple #[.agg #[.slice (some ⟨gb, 0, none⟩) 7 cb, .slice a s c], .slice a1 n1 c1, .slice a2 n2 c2, .bool true]) ∧
    MO w' w.heap.size (.agg #[.slice (some ⟨gb, 0, none⟩) 7 cb, .slice a s c]) 7 X ∧ Gr w' w.heap.size 3 1 (.slice a1 n1 c1) vs.length (ints vs) ∧ Below w.heap.size w w'
theorem impl_RunX {mv uv : Value} {n : Nat} {f : Nat → List (Int × Int × Int)} {st : List (Int × Int × Int)} {us : List (Int × Bool × Int × Int)} {w : World} {X : Nat → List (Int × Int × Int)} {vs ws : List Int} {s n1 n2 : Nat} (h : MemIn w mv n f st) (hs : Small n f st) (hu : Uses w uv us) (hl : us.length ≤ 100)
    (hr : runL n f st us = some (X, vs, ws)) (h0 : (X 0).length = s) (h1 : vs.length = n1) (h2 : ws.length = n2) :
    Calls Tryd.prog 24 #[mv, uv] w (RunX X vs ws s n1 n2 w) := by
  refine (impl_Run mv uv n f st us w h hs hu hl).mono fun e w' h => ?_
  rw [hr] at h
  obtain ⟨mv, u1, u2, rfl, hmo, hg1, hg2, hb⟩ := h
  obtain ⟨bv, vs', rfl, hb1, hf1⟩ := hmo
  have hmo : MO w' w.heap.size (.agg #[bv, vs' 0]) 7 X := ⟨bv, vs', rfl, hb1, hf1⟩
  obtain ⟨gb, cb, e1, -, -, -, -, -, -⟩ := hb1.at (show 0 < 7 by omega)
  obtain ⟨a, c, e2⟩ := (hf1 0 (by omega)).1.lit
  obtain ⟨p1, q1, e3⟩ := hg1.lit
  obtain ⟨p2, q2, e4⟩ := hg2.lit
  simp only at e2 e3 e4 hmo hg1
  rw [h0] at e2
  rw [h1] at e3
  rw [h2] at e4
  rw [e1, e2] at hmo
  rw [e3] at hg1
  rw [e1, e2, e3, e4]
  exact ⟨gb, cb, a, c, p1, q1, p2, q2, rfl, hmo, hg1, hb⟩
def UseVY (ls : Nat → List (Int × Int × Int)) (had : Int) (ps : List Int) (w : World) (e : Ending) (w' : World) : Prop :=
  ∃ gb cb a c a1 c1, e = .returned (.tuple #[.agg #[.slice (some ⟨gb, 0, none⟩) 7 cb, .slice a (ls 0).length c], .int .i64 had, .slice a1 ps.length c1, .bool true]) ∧
      MemIn w' (.agg #[.slice (some ⟨gb, 0, none⟩) 7 cb, .slice a (ls 0).length c]) 7 (fun i => ls (i + 2)) (ls 0) ∧ Ints w' (.slice a1 ps.length c1) ps ∧ Below w.heap.size w w'
def UseVN (w : World) (e : Ending) (w' : World) : Prop := ∃ a c a' c' a1 c1, e = .returned (.tuple #[.agg #[.slice a 0 c, .slice a' 0 c'], .int .i64 0, .slice a1 0 c1, .bool false]) ∧ Below w.heap.size w w'
theorem use_viewsY {ls : Nat → List (Int × Int × Int)} {had : Int} {ps : List Int} {w : World} {e : Ending} {w' : World} (h : UsePost true 7 ls had ps w e w') : UseVY ls had ps w e w' := by
  obtain ⟨mv, pv, rfl, hmo, hg, hb⟩ := h
  obtain ⟨gb, cb, a, c, rfl, hv⟩ := hmo.views
  obtain ⟨p1, q1, rfl⟩ := hg.lit
  exact ⟨gb, cb, a, c, p1, q1, rfl, hv, Gr.ints hg rfl, hb⟩
theorem use_viewsN {w : World} {e : Ending} {w' : World} (h : UsePost false 0 (fun _ => []) 0 [] w e w') : UseVN w e w' := by
  obtain ⟨mv, pv, rfl, hmo, hg, hb⟩ := h
  obtain ⟨a, c, a', c', rfl⟩ := hmo.empty rfl
  obtain ⟨p1, q1, rfl⟩ := hg.lit
  exact ⟨a, c, a', c', p1, q1, rfl, hb⟩
theorem impl_UseV {mv : Value} {f : Nat → List (Int × Int × Int)} {st : List (Int × Int × Int)} {a : Int} {t : Bool} {v l : Int} {w : World} (h : MemIn w mv 7 f st) (hs : Small 7 f st) (hk : useOk 7 f st a v l = true) :
    Calls Tryd.prog 14 #[mv, .int .i64 a, .bool t, .int .i64 v, .int .i64 l] w (UseVY (useLs (lsOf f st) (blkAt (allM 7 f st) a).2.2 a t v l) (blkAt (allM 7 f st) a).2.1 (pathL (blkAt (allM 7 f st) a).2.2) w) := (impl_Use h hs hk).mono fun _ _ h => use_viewsY h
theorem spec_UseV {mv : Value} {f : Nat → List (Int × Int × Int)} {st : List (Int × Int × Int)} {a : Int} {t : Bool} {v l : Int} {w : World} (h : MemIn w mv 7 f st) (hs : Small 7 f st) (hk : useOk 7 f st a v l = true) :
    Calls Tryd.prog 22 #[mv, .int .i64 a, .bool t, .int .i64 v, .int .i64 l] w (UseVY (useLs (lsOf f st) (blkAt (allM 7 f st) a).2.2 a t v l) (blkAt (allM 7 f st) a).2.1 (pathL (blkAt (allM 7 f st) a).2.2) w) := (spec_Use h hs hk).mono fun _ _ h => use_viewsY h
theorem impl_UseVN {mv : Value} {n : Nat} {f : Nat → List (Int × Int × Int)} {st : List (Int × Int × Int)} {a : Int} {t : Bool} {v l : Int} {w : World} (h : MemIn w mv n f st) (hs : Small n f st) (hk : useOk n f st a v l = false) :
    Calls Tryd.prog 14 #[mv, .int .i64 a, .bool t, .int .i64 v, .int .i64 l] w (UseVN w) := (impl_Use_no mv n f st a t v l w h hs hk).mono fun _ _ h => use_viewsN h
theorem spec_UseVN {mv : Value} {n : Nat} {f : Nat → List (Int × Int × Int)} {st : List (Int × Int × Int)} {a : Int} {t : Bool} {v l : Int} {w : World} (h : MemIn w mv n f st) (hs : Small n f st) (hk : useOk n f st a v l = false) :
    Calls Tryd.prog 22 #[mv, .int .i64 a, .bool t, .int .i64 v, .int .i64 l] w (UseVN w) := (spec_Use_no mv n f st a t v l w h hs hk).mono fun _ _ h => use_viewsN h
end Go.Proofs.YtbnplohlfiefhaaDoor
