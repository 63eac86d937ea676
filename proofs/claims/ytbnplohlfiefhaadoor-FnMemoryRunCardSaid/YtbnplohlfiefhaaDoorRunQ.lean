/- runs in two parts; what each use reads -/
import Derived.Test.YtbnplohlfiefhaaDoorRun
namespace Go.Proofs.YtbnplohlfiefhaaDoor
section
open Go.RowKit
theorem step_some {ls : Nat → List (Int × Int × Int)} {vs ws : List Int} {u : Int × Bool × Int × Int} {r : (Nat → List (Int × Int × Int)) × List Int × List Int} {us : List (Int × Bool × Int × Int)} (h : (u :: us).foldl runStep (some (ls, vs, ws)) = some r) :
    useOk 7 (fun i => ls (i + 2)) (ls 0) u.1 u.2.2.1 u.2.2.2 = true ∧ us.foldl runStep (some (useLs ls (blkAt (allL ls) u.1).2.2 u.1 u.2.1 u.2.2.1 u.2.2.2, vs ++ [(blkAt (allL ls) u.1).2.1], ws ++ pathL (blkAt (allL ls) u.1).2.2)) = some r := by
  rw [List.foldl_cons] at h
  cases hk : useOk 7 (fun i => ls (i + 2)) (ls 0) u.1 u.2.2.1 u.2.2.2 with
  | false =>
    have : runStep (some (ls, vs, ws)) u = none := by unfold runStep; simp [hk]
    rw [this, run_none] at h
    cases h
  | true =>
    refine ⟨rfl, ?_⟩
    have hs : runStep (some (ls, vs, ws)) u = some (useLs ls (blkAt (allL ls) u.1).2.2 u.1 u.2.1 u.2.2.1 u.2.2.2, vs ++ [(blkAt (allL ls) u.1).2.1], ws ++ pathL (blkAt (allL ls) u.1).2.2) := by
      unfold runStep
      simp only [hk, if_true]
    rw [hs] at h
    exact h
theorem run_shift : ∀ (us : List (Int × Bool × Int × Int)) (ls : Nat → List (Int × Int × Int)) (vs ws vs0 ws0 : List Int), us.foldl runStep (some (ls, vs0 ++ vs, ws0 ++ ws)) = (us.foldl runStep (some (ls, vs, ws))).map fun r => (r.1, vs0 ++ r.2.1, ws0 ++ r.2.2)
  | [], _, _, _, _, _ => rfl
  | u :: us, ls, vs, ws, vs0, ws0 => by
    rw [List.foldl_cons, List.foldl_cons]
    by_cases hk : useOk 7 (fun i => ls (i + 2)) (ls 0) u.1 u.2.2.1 u.2.2.2 = true
    · have hs : ∀ vs ws : List Int, runStep (some (ls, vs, ws)) u = some (useLs ls (blkAt (allL ls) u.1).2.2 u.1 u.2.1 u.2.2.1 u.2.2.2, vs ++ [(blkAt (allL ls) u.1).2.1], ws ++ pathL (blkAt (allL ls) u.1).2.2) := fun vs ws => by
        unfold runStep
        simp only [hk, if_true]
      rw [hs, hs, List.append_assoc, List.append_assoc]
      exact run_shift us _ _ _ _ _
    · have hn : ∀ vs ws : List Int, runStep (some (ls, vs, ws)) u = none := fun vs ws => by unfold runStep; simp [hk]
      rw [hn, hn, run_none]; rfl
/-- what a use leaves at an address -/
def leftU (a s : Int) (u : Int × Bool × Int × Int) : Int := if u.1 == a && u.2.1 then u.2.2.1 else s
theorem blk_adr {ls : Nat → List (Int × Int × Int)} (h : RunOk ls) {a : Int} (ha : inB a 0 7 = true) : (blkAt (allL ls) a).1 = a := by
  obtain ⟨b, hb, rfl⟩ := valid_at h.valid ha
  have : blkAt (allL ls) b.1 = b := blkAt_of h.valid.nodup hb rfl
  rw [this]
theorem use_val {ls : Nat → List (Int × Int × Int)} (h : RunOk ls) {u : Int × Bool × Int × Int} (hk : useOk 7 (fun i => ls (i + 2)) (ls 0) u.1 u.2.2.1 u.2.2.2 = true) {a : Int} (ha : inB a 0 7 = true) :
    (blkAt (allL (useLs ls (blkAt (allL ls) u.1).2.2 u.1 u.2.1 u.2.2.1 u.2.2.2)) a).2.1 = leftU a (blkAt (allL ls) a).2.1 u := by
  have h1 := use_at u.2.1 hk ha
  rw [h.ls] at h1
  have h2 : blkAt (allL (useLs ls (blkAt (allL ls) u.1).2.2 u.1 u.2.1 u.2.2.1 u.2.2.2)) a = upB u.1 u.2.1 u.2.2.1 u.2.2.2 (blkAt (allL ls) a) := h1
  rw [h2]
  have h3 := blk_adr h ha
  unfold upB leftU
  rw [h3]
  by_cases c : a = u.1
  · subst c
    simp
  · have c1 : (a == u.1) = false := by simpa using c
    have c2 : (u.1 == a) = false := by simpa using fun e => c e.symm
    rw [c1, c2]; rfl
theorem run_in : ∀ (us : List (Int × Bool × Int × Int)) (ls : Nat → List (Int × Int × Int)) (vs ws : List Int) (r : (Nat → List (Int × Int × Int)) × List Int × List Int), us.foldl runStep (some (ls, vs, ws)) = some r → ∀ u ∈ us, inB u.1 0 7 = true
  | [], _, _, _, _, _, _, h => by cases h
  | u :: us, ls, vs, ws, r, hr, x, hx => by
    obtain ⟨h1, h2⟩ := step_some hr
    cases hx with
    | head =>
      unfold useOk at h1
      rw [Bool.and_eq_true, Bool.and_eq_true, Bool.and_eq_true] at h1
      exact h1.1.1.2
    | tail _ hx => exact run_in us _ _ _ r h2 x hx
theorem run_vals : ∀ (us : List (Int × Bool × Int × Int)) (ls : Nat → List (Int × Int × Int)) (vs ws : List Int) (r : (Nat → List (Int × Int × Int)) × List Int × List Int), RunOk ls → us.foldl runStep (some (ls, vs, ws)) = some r →
    r.2.1.length = vs.length + us.length ∧ r.2.2.length = ws.length + 3 * us.length ∧ RunOk r.1 ∧ (∀ k, k < vs.length → r.2.1[k]? = vs[k]?) ∧ ∀ k, k < us.length → r.2.1[vs.length + k]? = some ((us.take k).foldl (leftU (uat us k).1) (blkAt (allL ls) (uat us k).1).2.1)
  | [], ls, vs, ws, r, h, hr => by
    cases hr
    exact ⟨rfl, rfl, h, fun _ _ => rfl, fun k hk => absurd hk (Nat.not_lt_zero _)⟩
  | u :: us, ls, vs, ws, r, h, hr => by
    obtain ⟨h1, h2⟩ := step_some hr
    obtain ⟨g1, g2, g3, g4, g5⟩ := run_vals us _ _ _ r (h.step h1) h2
    rw [List.length_append] at g1 g2
    refine ⟨by simp at g1 ⊢; omega, by have : (pathL (blkAt (allL ls) u.1).2.2).length = 3 := rfl; simp at g2 ⊢; omega, g3, fun k hk => ?_, fun k hk => ?_⟩
    · rw [g4 k (by simp; omega), List.getElem?_append_left hk]
    · cases k with
      | zero =>
        rw [Nat.add_zero, g4 vs.length (by simp)]
        rw [List.getElem?_append_right (Nat.le_refl _), Nat.sub_self]
        rfl
      | succ k =>
        have hk' : k < us.length := by simpa using hk
        have hu : uat (u :: us) (k + 1) = uat us k := by simp [uat]
        have hin : inB (uat us k).1 0 7 = true := run_in us _ _ _ r h2 _ (by unfold uat; rw [List.getElem?_eq_getElem hk']; exact List.getElem_mem hk')
        have := g5 k hk'
        rw [use_val h h1 hin] at this
        rw [hu, List.take_succ_cons, List.foldl_cons, ← this]
        congr 1
        simp; omega
end
open Go.RowKit
theorem fold_take {us : List (Int × Bool × Int × Int)} {s : Option ((Nat → List (Int × Int × Int)) × List Int × List Int)} {r : (Nat → List (Int × Int × Int)) × List Int × List Int} (h : us.foldl runStep s = some r) (k : Nat) : ∃ r1, (us.take k).foldl runStep s = some r1 := by
  cases hc : (us.take k).foldl runStep s with
  | none => rw [run_fail hc] at h; cases h
  | some r1 => exact ⟨r1, rfl⟩
/-- a run in two parts -/
theorem run_halves {n : Nat} {f : Nat → List (Int × Int × Int)} {st : List (Int × Int × Int)} {us : List (Int × Bool × Int × Int)} {r : (Nat → List (Int × Int × Int)) × List Int × List Int} (h : runL n f st us = some r) (k : Nat) :
    ∃ X1 v1 w1 v2 w2, runL n f st (us.take k) = some (X1, v1, w1) ∧ RunOk X1 ∧ runL 7 (fun i => X1 (i + 2)) (X1 0) (us.drop k) = some (r.1, v2, w2) ∧ v1 ++ v2 = r.2.1 := by
  unfold runL at h
  by_cases hc : (validB n f st && decide (us.length ≤ 40)) = true
  · rw [if_pos hc] at h
    rw [Bool.and_eq_true, decide_eq_true_eq] at hc
    obtain rfl : n = 7 := (validB_iff.1 hc.1).seven
    obtain ⟨⟨X1, v1, w1⟩, h1⟩ := fold_take h k
    have hok := (run_vals (us.take k) _ _ _ _ (RunOk.start hc.1) h1).2.2.1
    have h' := h
    rw [← List.take_append_drop k us, List.foldl_append, h1] at h'
    have hs := run_shift (us.drop k) X1 [] [] v1 w1
    rw [List.append_nil, List.append_nil, h'] at hs
    cases h2 : (us.drop k).foldl runStep (some (X1, [], [])) with
    | none => rw [h2] at hs; cases hs
    | some r2 =>
      rw [h2] at hs
      have hs := Option.some.inj hs
      obtain ⟨X2, v2, w2⟩ := r2
      have hl1 : (us.take k).length ≤ 40 := by rw [List.length_take]; omega
      have hl2 : (us.drop k).length ≤ 40 := by rw [List.length_drop]; omega
      refine ⟨X1, v1, w1, v2, w2, ?_, hok, ?_, ?_⟩
      · unfold runL; rw [if_pos (by rw [hc.1, decide_eq_true hl1]; rfl)]; exact h1
      · unfold runL; rw [if_pos (by rw [validB_iff.2 hok.valid, decide_eq_true hl2]; rfl), hok.ls, h2, hs]
      · rw [hs]
  · rw [if_neg hc] at h; cases h
theorem run_facts {n : Nat} {f : Nat → List (Int × Int × Int)} {st : List (Int × Int × Int)} {us : List (Int × Bool × Int × Int)} {r : (Nat → List (Int × Int × Int)) × List Int × List Int} (h : runL n f st us = some r) :
    n = 7 ∧ us.length ≤ 40 ∧ RunOk r.1 ∧ RunOk (lsOf f st) ∧ r.2.1.length = us.length ∧ r.2.2.length = 3 * us.length ∧
    ∀ k, k < us.length → useOk 7 f st (uat us k).1 0 0 = true ∧ r.2.1[k]?.getD 0 = (us.take k).foldl (leftU (uat us k).1) (blkAt (allM 7 f st) (uat us k).1).2.1 := by
  unfold runL at h
  by_cases hc : (validB n f st && decide (us.length ≤ 40)) = true
  · rw [if_pos hc] at h
    rw [Bool.and_eq_true, decide_eq_true_eq] at hc
    obtain rfl : n = 7 := (validB_iff.1 hc.1).seven
    obtain ⟨g1, g2, g3, g4, g5⟩ := run_vals us _ _ _ r (RunOk.start hc.1) h
    refine ⟨rfl, hc.2, g3, RunOk.start hc.1, by simpa using g1, by simpa using g2, fun k hk => ⟨?_, ?_⟩⟩
    · have hin : inB (uat us k).1 0 7 = true := run_in us _ _ _ r h _ (by unfold uat; rw [List.getElem?_eq_getElem hk]; exact List.getElem_mem hk)
      unfold useOk
      rw [hc.1, hin]; rfl
    · have := g5 k hk
      rw [List.length_nil, Nat.zero_add] at this
      rw [this]
      rfl
  · rw [if_neg hc] at h; cases h
theorem take_uat {us : List (Int × Bool × Int × Int)} {j : Nat} (h : j < us.length) : us.take (j + 1) = us.take j ++ [uat us j] := by
  rw [List.take_succ_eq_append_getElem h]
  have : uat us j = us[j] := by unfold uat; rw [List.getElem?_eq_getElem h]; rfl
  rw [this]
theorem left_succ {us : List (Int × Bool × Int × Int)} {j : Nat} (h : j < us.length) (a s : Int) : (us.take (j + 1)).foldl (leftU a) s = leftU a ((us.take j).foldl (leftU a) s) (uat us j) := by
  rw [List.take_succ_eq_append_getElem h, List.foldl_append]
  have : uat us j = us[j] := by unfold uat; rw [List.getElem?_eq_getElem h]; rfl
  rw [this]; rfl
/-- parts of lists of uses -/
theorem uses_take {w : World} {ab : Option Addr} {n cb k : Nat} {us : List (Int × Bool × Int × Int)} (h : Uses w (.slice ab n cb) us) (hk : k ≤ us.length) : Uses w (.slice ab k cb) (us.take k) := by
  obtain ⟨h1, h2, h3⟩ := h
  have hl : (us.take k).length = k := by rw [List.length_take]; omega
  have ht : useCs (us.take k) = (useCs us).take (k * 4) := by
    have e : useCs us = useCs (us.take k) ++ useCs (us.drop k) := by rw [← useCs_append, List.take_append_drop]
    have hl2 : (useCs (us.take k)).length = k * 4 := by rw [useCs_length, hl]
    rw [e, ← hl2, List.take_left]
  unfold Uses
  rw [hl]
  refine ⟨by rw [useCs_length, hl], by omega, ?_⟩
  by_cases h0 : k = 0
  · subst h0; exact .inl ⟨rfl, _, _, rfl⟩
  · rcases h3 with ⟨h3, _⟩ | ⟨h3, b, off, c, hv, hc, hcell⟩
    · omega
    · cases hv
      refine .inr ⟨by omega, b, off, cb, rfl, by omega, fun i u hu => hcell i u ?_⟩
      rw [ht, List.getElem?_take] at hu
      split at hu
      · exact hu
      · cases hu
theorem uses_drop {w : World} {ab : Option Addr} {n cb k : Nat} {us : List (Int × Bool × Int × Int)} (h : Uses w (.slice ab n cb) us) (hn : us.length = n) (hk : k ≤ n) : Uses w (.slice (if cb = k then ab else Option.map (fun x => x.add (k * 4)) ab) (n - k) (cb - k)) (us.drop k) := by
  obtain ⟨h1, h2, h3⟩ := h
  rw [hn] at h2 h3
  have hl : (us.drop k).length = n - k := by rw [List.length_drop, hn]
  have ht : useCs (us.drop k) = (useCs us).drop (k * 4) := by
    have e : useCs us = useCs (us.take k) ++ useCs (us.drop k) := by rw [← useCs_append, List.take_append_drop]
    have hl2 : (useCs (us.take k)).length = k * 4 := by rw [useCs_length, List.length_take, hn, Nat.min_eq_left hk]
    rw [e, ← hl2, List.drop_left]
  unfold Uses
  rw [hl]
  refine ⟨by rw [useCs_length, hl], by omega, ?_⟩
  by_cases h0 : k = n
  · subst h0; exact .inl ⟨by omega, _, _, by rw [Nat.sub_self]⟩
  · rcases h3 with ⟨h3, _⟩ | ⟨h3, b, off, c, hv, hc, hcell⟩
    · omega
    · cases hv
      refine .inr ⟨by omega, b, off + k * 4, cb - k, ?_, by omega, fun i u hu => ?_⟩
      · rw [if_neg (by omega)]
        by_cases e : k = 0
        · subst e; simp [Addr.add]
        · simp [Addr.add, show ¬ k * 4 = 0 by omega]
      · rw [ht, List.getElem?_drop] at hu
        have := hcell _ u hu
        rwa [show off + (k * 4 + i) = off + k * 4 + i by omega] at this
theorem Uses.cells {w : World} {ad : Option Addr} {n c : Nat} {us : List (Int × Bool × Int × Int)} (h : Uses w (.slice ad n c) us) (hn : us.length = n) {k : Nat} (hk : k < n) : ∃ b off, ad = some ⟨b, off, none⟩ ∧
    w.cell? ⟨b, off + k * 4, none⟩ = some (.int .i64 (uat us k).1) ∧ w.cell? ⟨b, off + k * 4 + 1, none⟩ = some (.bool (uat us k).2.1) ∧ w.cell? ⟨b, off + k * 4 + 2, none⟩ = some (.int .i64 (uat us k).2.2.1) ∧ w.cell? ⟨b, off + k * 4 + 3, none⟩ = some (.int .i64 (uat us k).2.2.2) := by
  obtain ⟨ad', c', hv, _, hop⟩ := h.open
  cases hv
  obtain ⟨b, off, he, hc⟩ := hop k (by omega)
  exact ⟨b, off, he, hc k (by omega)⟩
theorem Uses.cap {w : World} {ad : Option Addr} {n c : Nat} {us : List (Int × Bool × Int × Int)} (h : Uses w (.slice ad n c) us) : n ≤ c := by
  obtain ⟨_, _, ⟨h3, a, c', hv⟩ | ⟨h3, b, off, c', hv, hc, _⟩⟩ := h
  · cases hv; omega
  · cases hv; exact hc
theorem Ints.cellAt {w : World} {ad : Option Addr} {n c : Nat} {xs : List Int} (h : Ints w (.slice ad n c) xs) (hn : xs.length = n) {k : Nat} (hk : k < n) : ∃ b off, ad = some ⟨b, off, none⟩ ∧ w.cell? ⟨b, off + k, none⟩ = some (.int .i64 (xs[k]?.getD 0)) := by
  obtain ⟨ad', c', hv, _, hop⟩ := h.open
  cases hv
  obtain ⟨b, off, he, hc⟩ := hop k (by omega)
  exact ⟨b, off, he, hc k (by omega)⟩
theorem gr_uses {w : World} {B n : Nat} {v : Value} {us : List (Int × Bool × Int × Int)} (h : Gr w B 50 4 v n (useCs us)) (hn : us.length = n) : Uses w v us := by
  unfold Uses
  rw [hn]
  exact h.view
/-- an append whose guard is met -/
theorem wpList_appg {P : Program} (w : World) {ops : Array Oper} {rest : List Oper} {o : Oper} {a : Act} {Q : Exit → Act → World → Prop} (hw : Region.wanted o (yielded ops a.tmps) = true) (s x : Operand) (t : TypeId)
    (ho : o.op = .call { callee := .builtin .append, args := #[s, x], argTypes := #[t, t] })
    (base : Nat) (e : TypeId) (z : Value) (sz bytes : Nat) (ht : P.underlying t = some (.slice e)) (hi : (P.info? e).map (fun i => (i.zero, i.size, i.bytes)) = some (some z, sz, bytes)) (hzs : z.cells.size = sz) (hsz : 0 < sz)
    (v : Value) (n : Nat) (cs : List Value) (hs : a.eval s = v) (hown : Gr w base e sz v n cs) (xv : Value) (m : Nat) (news : List Value) (hx : a.eval x = xv) (hview : View w sz xv m news) (h1 : ∀ u ∈ news, u.oneCell' = true)
    (h63 : n + m ≤ maxLen) (hbytes : (n + m) * bytes ≤ 140737488355328) (hbase : base ≤ w.heap.size)
    (h : ∀ v' w', Gr w' base e sz v' (n + m) (cs ++ news) → w.grownBy w' (gBlock v) → (gBlock v' = gBlock v ∨ gBlock v' = some w.heap.size) → wpList P ops Q rest (a.put o.dst v') w') : wpList P ops Q (o :: rest) a w :=
  wpList_step fun _ hK => by
    rw [if_pos hw]
    exact wp_app w s x t ho base e z sz bytes ht hi hzs hsz v n cs hs hown xv m news hx hview h1 h63 hbytes hbase fun v' w' h2 h3 h4 => hK _ _ (h v' w' h2 h3 h4)
end Go.Proofs.YtbnplohlfiefhaaDoor
