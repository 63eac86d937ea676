/- runs of uses: the list of uses in memory, what a run does, what its loops keep -/
import Derived.Test.YtbnplohlfiefhaaDoorSUseY
import Derived.Test.YtbnplohlfiefhaaDoorMemoT
namespace Go.Proofs.YtbnplohlfiefhaaDoor
open Go.RowKit
theorem Tryd.infoUse : (Tryd.prog.info? 50).map (fun i => (i.zero, i.size, i.bytes)) = some (some (.agg #[.int .i64 0, .bool false, .int .i64 0, .int .i64 0]), 4, 32) := by kernel_rfl
/-- a use: address, whether it writes, value, leaf -/
def useC (u : Int × Bool × Int × Int) : List Value := [.int .i64 u.1, .bool u.2.1, .int .i64 u.2.2.1, .int .i64 u.2.2.2]
def useCs (us : List (Int × Bool × Int × Int)) : List Value := (us.map useC).flatten
def uat (us : List (Int × Bool × Int × Int)) (k : Nat) : Int × Bool × Int × Int := us[k]?.getD (0, false, 0, 0)
theorem useCs_length (us : List (Int × Bool × Int × Int)) : (useCs us).length = us.length * 4 := by
  unfold useCs
  rw [flat_length (sz := 4) _ (fun c hc => by obtain ⟨a, _, rfl⟩ := List.mem_map.1 hc; rfl), List.length_map]
theorem useCs_append (us vs : List (Int × Bool × Int × Int)) : useCs (us ++ vs) = useCs us ++ useCs vs := by simp [useCs]
theorem useCs_get {us : List (Int × Bool × Int × Int)} {k : Nat} (h : k < us.length) (j : Nat) (hj : j < 4) : (useCs us)[k * 4 + j]? = (useC (uat us k))[j]? := by
  unfold useCs
  refine flat_get (sz := 4) _ k j (useC (uat us k)) (fun c hc => by obtain ⟨a, _, rfl⟩ := List.mem_map.1 hc; rfl) ?_ hj
  rw [List.getElem?_map, List.getElem?_eq_getElem h]
  unfold uat
  rw [List.getElem?_eq_getElem h]; rfl
theorem one_useCs (l : List (Int × Bool × Int × Int)) : ∀ u ∈ useCs l, u.oneCell' = true := fun u hu => by
  unfold useCs at hu
  obtain ⟨c, hc, hu⟩ := List.mem_flatten.1 hu
  obtain ⟨a, _, rfl⟩ := List.mem_map.1 hc
  simp only [useC, List.mem_cons, List.not_mem_nil, or_false] at hu
  rcases hu with rfl | rfl | rfl | rfl <;> rfl
def Uses (w : World) (v : Value) (us : List (Int × Bool × Int × Int)) : Prop := View w 4 v us.length (useCs us)
theorem Uses.mono {w w' : World} {v us} (h : Uses w v us) {B : Nat} (hb : Below B w w') (hB : w.heap.size ≤ B) : Uses w' v us := View.mono h hb hB
theorem Uses.open {w : World} {v us} (h : Uses w v us) : ∃ ad c, v = .slice ad us.length c ∧ us.length ≤ maxLen ∧ ∀ i, i < us.length → ∃ b off, ad = some ⟨b, off, none⟩ ∧ ∀ i, i < us.length →
    w.cell? ⟨b, off + i * 4, none⟩ = some (.int .i64 (uat us i).1) ∧ w.cell? ⟨b, off + i * 4 + 1, none⟩ = some (.bool (uat us i).2.1) ∧ w.cell? ⟨b, off + i * 4 + 2, none⟩ = some (.int .i64 (uat us i).2.2.1) ∧ w.cell? ⟨b, off + i * 4 + 3, none⟩ = some (.int .i64 (uat us i).2.2.2) := by
  obtain ⟨h1, h2, ⟨h3, a, c, hv⟩ | ⟨h3, b, off, c, hv, hc, hcell⟩⟩ := h
  · rw [h3]; exact ⟨a, c, hv, Nat.zero_le _, fun i hi => by omega⟩
  · refine ⟨_, c, hv, h2, fun i hi => ⟨b, off, rfl, fun i hi => ?_⟩⟩
    exact ⟨hcell _ _ ((useCs_get hi 0 (by omega)).trans rfl), hcell _ _ ((useCs_get hi 1 (by omega)).trans rfl), hcell _ _ ((useCs_get hi 2 (by omega)).trans rfl), hcell _ _ ((useCs_get hi 3 (by omega)).trans rfl)⟩
/-- one use -/
def runStep (s : Option ((Nat → List (Int × Int × Int)) × List Int × List Int)) (u : Int × Bool × Int × Int) : Option ((Nat → List (Int × Int × Int)) × List Int × List Int) :=
  match s with
  | none => none
  | some (ls, vs, ws) => if useOk 7 (fun i => ls (i + 2)) (ls 0) u.1 u.2.2.1 u.2.2.2 then some (useLs ls (blkAt (allL ls) u.1).2.2 u.1 u.2.1 u.2.2.1 u.2.2.2, vs ++ [(blkAt (allL ls) u.1).2.1], ws ++ pathL (blkAt (allL ls) u.1).2.2) else none
def runL (n : Nat) (f : Nat → List (Int × Int × Int)) (st : List (Int × Int × Int)) (us : List (Int × Bool × Int × Int)) : Option ((Nat → List (Int × Int × Int)) × List Int × List Int) :=
  if validB n f st && decide (us.length ≤ 40) then us.foldl runStep (some (lsOf f st, [], [])) else none
theorem run_none : ∀ us : List (Int × Bool × Int × Int), us.foldl runStep none = none
  | [] => rfl
  | _ :: us => run_none us
theorem run_succ {us : List (Int × Bool × Int × Int)} {k : Nat} (h : k < us.length) (s : Option ((Nat → List (Int × Int × Int)) × List Int × List Int)) : (us.take (k + 1)).foldl runStep s = runStep ((us.take k).foldl runStep s) (uat us k) := by
  rw [List.take_succ_eq_append_getElem h, List.foldl_append]
  have : uat us k = us[k] := by unfold uat; rw [List.getElem?_eq_getElem h]; rfl
  rw [this]; rfl
theorem run_fail {us : List (Int × Bool × Int × Int)} {k : Nat} {s : Option ((Nat → List (Int × Int × Int)) × List Int × List Int)} (h : (us.take k).foldl runStep s = none) : us.foldl runStep s = none := by
  rw [← List.take_append_drop k us, List.foldl_append, h]
  exact run_none _
/-- a state that uses lead to -/
structure RunOk (ls : Nat → List (Int × Int × Int)) : Prop where
  valid : ValidM 7 (fun i => ls (i + 2)) (ls 0)
  one : ls 1 = []
theorem RunOk.ls {ls : Nat → List (Int × Int × Int)} (h : RunOk ls) : lsOf (fun i => ls (i + 2)) (ls 0) = ls := lsOf_id h.one
theorem RunOk.step {ls : Nat → List (Int × Int × Int)} (h : RunOk ls) {a v l : Int} {t : Bool} (hk : useOk 7 (fun i => ls (i + 2)) (ls 0) a v l = true) : RunOk (useLs ls (blkAt (allL ls) a).2.2 a t v l) := by
  have := use_valid t hk
  rw [h.ls] at this
  exact ⟨this, useLs_one _ _ _ _ _ _⟩
theorem RunOk.start {f : Nat → List (Int × Int × Int)} {st : List (Int × Int × Int)} (h : validB 7 f st = true) : RunOk (lsOf f st) := by
  have e : (fun i => lsOf f st (i + 2)) = f := by funext i; exact lsOf_bucket f st i
  refine ⟨?_, rfl⟩
  rw [e]
  exact validB_iff.1 h
def RunPost (r : Option ((Nat → List (Int × Int × Int)) × List Int × List Int)) (w : World) (e : Ending) (w' : World) : Prop :=
  match r with
  | none => ∃ u1 u2, e = .returned (.tuple #[.agg #[.slice none 0 0, .slice none 0 0], u1, u2, .bool false]) ∧ Gr w' w.heap.size 3 1 u1 0 [] ∧ Gr w' w.heap.size 3 1 u2 0 [] ∧ Below w.heap.size w w'
  | some r => ∃ mv u1 u2, e = .returned (.tuple #[mv, u1, u2, .bool true]) ∧ MO w' w.heap.size mv 7 r.1 ∧ Gr w' w.heap.size 3 1 u1 r.2.1.length (ints r.2.1) ∧ Gr w' w.heap.size 3 1 u2 r.2.2.length (ints r.2.2) ∧ Below w.heap.size w w'
theorem MO.box {w : World} {B gx k n : Nat} {v u : Value} {cs : List Value} {ls : Nat → List (Int × Int × Int)} (h : MO w B v n ls) (hr : Row w gx 29 cs) : MO (w.setCell ⟨gx, k, none⟩ u) B v n ls := by
  have hs : w.grownBy (w.setCell ⟨gx, k, none⟩ u) (some gx) := set_other w ⟨gx, k, none⟩ u rfl
  obtain ⟨bv, vs, rfl, hb, hf⟩ := h
  exact ⟨bv, vs, rfl, hb.kept hs (fun g hg he => by cases he; exact row_ne hb hr (by decide) gx hg rfl), hf.kept hs (fun i hi g hg he => by cases he; exact row_ne (hf i hi).1 hr (by decide) gx hg rfl)⟩
theorem MO.keptI {w w' : World} {B B' n m : Nat} {v u : Value} {cs : List Value} {ls : Nat → List (Int × Int × Int)} (h : MO w B v n ls) (hu : Gr w B' 3 1 u m cs) (hg : w.grownBy w' (gBlock u)) : MO w' B v n ls := by
  obtain ⟨bv, vs, rfl, hb, hf⟩ := h
  exact ⟨bv, vs, rfl, hb.kept hg (fun g hg1 he => gBlock_type hb hu (by decide) g hg1 he), hf.kept hg (fun i hi g hg1 he => gBlock_type (hf i hi).1 hu (by decide) g hg1 he)⟩
structure RS (w : World) (B gx gr : Nat) (bv s0 u1 u2 : Value) (ls : Nat → List (Int × Int × Int)) (vs ws : List Int) (wr : World) : Prop where
  m : MO wr B (.agg #[bv, s0]) 7 ls
  row : Row wr gx 29 [bv, s0]
  a : Gr wr B 3 1 u1 vs.length (ints vs)
  b : Gr wr B 3 1 u2 ws.length (ints ws)
  ab : ∀ g, gBlock u1 = some g → gBlock u2 ≠ some g
  res : Row wr gr 29 [.slice none 0 0, .slice none 0 0]
  below : Below w.heap.size w wr
  ge : B ≤ gx ∧ w.heap.size ≤ B ∧ gr < B
section
variable {w wr w1 : World} {B gx gr : Nat} {bv s0 u1 u2 : Value} {ls : Nat → List (Int × Int × Int)} {vs ws : List Int}
theorem RS.size (h : RS w B gx gr bv s0 u1 u2 ls vs ws wr) : B ≤ wr.heap.size := Nat.le_trans h.ge.1 (Nat.le_of_lt h.row.lt)
theorem RS.mono (h : RS w B gx gr bv s0 u1 u2 ls vs ws wr) {B' : Nat} (hb : Below B' wr w1) (hB : wr.heap.size ≤ B') : RS w B gx gr bv s0 u1 u2 ls vs ws w1 :=
  ⟨h.m.mono hb hB, h.row.mono hb (Nat.lt_of_lt_of_le h.row.lt hB), h.a.mono hb hB, h.b.mono hb hB, h.ab, h.res.mono hb (Nat.lt_of_lt_of_le h.res.lt hB), h.below.trans (hb.mono (Nat.le_trans h.below.size hB)), h.ge⟩
theorem RS.alloc (h : RS w B gx gr bv s0 u1 u2 ls vs ws wr) (ob : Obj) : RS w B gx gr bv s0 u1 u2 ls vs ws (wr.alloc ob) := h.mono ((Below.refl wr.heap.size wr).alloc (Nat.le_refl _) ob) (Nat.le_refl _)
theorem RS.put (h : RS w B gx gr bv s0 u1 u2 ls vs ws wr) {B' : Nat} {bv' s0' : Value} {ls' : Nat → List (Int × Int × Int)} (hm : MO wr B' (.agg #[bv', s0']) 7 ls') (hB : B ≤ B') :
    RS w B gx gr bv' s0' u1 u2 ls' vs ws ((wr.setCell ⟨gx, 0, none⟩ bv').setCell ⟨gx, 1, none⟩ s0') := by
  have hr1 := h.row.set 0 bv'
  have hs : wr.grownBy ((wr.setCell ⟨gx, 0, none⟩ bv').setCell ⟨gx, 1, none⟩ s0') (some gx) := grown_set (set_other wr ⟨gx, 0, none⟩ _ rfl) _ _
  refine ⟨((hm.box (k := 0) h.row).box (k := 1) hr1).low hB, hr1.set 1 s0', h.a.kept hs (fun g hg he => by cases he; exact row_ne h.a h.row (by decide) gx hg rfl), h.b.kept hs (fun g hg he => by cases he; exact row_ne h.b h.row (by decide) gx hg rfl), h.ab, h.res.grown hs (fun e => by have := Option.some.inj e; have := h.ge; omega), h.below.grown hs h.below.size (fun g e => by cases e; exact Nat.le_trans h.ge.2.1 h.ge.1), h.ge⟩
theorem RS.app1 (h : RS w B gx gr bv s0 u1 u2 ls vs ws wr) {v1 : Value} {vs' : List Int} (g1 : Gr w1 B 3 1 v1 vs'.length (ints vs')) (r1 : wr.grownBy w1 (gBlock u1)) (k1 : gBlock v1 = gBlock u1 ∨ gBlock v1 = some wr.heap.size) : RS w B gx gr bv s0 v1 u2 ls vs' ws w1 := by
  refine ⟨h.m.keptI h.a r1, h.row.grown r1 (fun e => row_ne h.a h.row (by decide) gx e rfl), g1, h.b.kept r1 (fun g hg he => h.ab g he hg), ?_, h.res.grown r1 (fun e => by have := (h.a.lt _ e).1; have := h.ge; omega), h.below.grown r1 h.below.size (fun g hg => Nat.le_trans h.ge.2.1 (h.a.lt g hg).1), h.ge⟩
  intro g hg he
  rcases k1 with k1 | k1
  · exact h.ab g (k1 ▸ hg) he
  · rw [k1] at hg
    have := (h.b.lt g he).2
    cases hg; omega
theorem RS.app2 (h : RS w B gx gr bv s0 u1 u2 ls vs ws wr) {v1 : Value} {ws' : List Int} (g1 : Gr w1 B 3 1 v1 ws'.length (ints ws')) (r1 : wr.grownBy w1 (gBlock u2)) (k1 : gBlock v1 = gBlock u2 ∨ gBlock v1 = some wr.heap.size) : RS w B gx gr bv s0 u1 v1 ls vs ws' w1 := by
  refine ⟨h.m.keptI h.b r1, h.row.grown r1 (fun e => row_ne h.b h.row (by decide) gx e rfl), h.a.kept r1 (fun g hg he => h.ab g hg he), g1, ?_, h.res.grown r1 (fun e => by have := (h.b.lt _ e).1; have := h.ge; omega), h.below.grown r1 h.below.size (fun g hg => Nat.le_trans h.ge.2.1 (h.b.lt g hg).1), h.ge⟩
  intro g hg he
  rcases k1 with k1 | k1
  · exact h.ab g hg (k1 ▸ he)
  · rw [k1] at he
    have := (h.a.lt g hg).2
    cases he; omega
end
end Go.Proofs.YtbnplohlfiefhaaDoor
