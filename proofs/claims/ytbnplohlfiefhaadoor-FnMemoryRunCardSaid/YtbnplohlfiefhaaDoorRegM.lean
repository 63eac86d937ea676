/- the operations of a region with values known ahead, over memories -/
import Derived.Test.YtbnplohlfiefhaaDoorReg
import Derived.Test.YtbnplohlfiefhaaDoorMemoX
namespace Go.Proofs.YtbnplohlfiefhaaDoor
section
open Go.RowKit
section
variable {P : Program} {ops : Array Oper} {Q : Exit → Act → World → Prop}
def putL (l : List (Nat × Value)) (a : Act) : Act := l.foldl (fun a p => a.put (some p.1) p.2) a
theorem put_size (a : Act) (d : Option Nat) (v : Value) : (a.put d v).tmps.size = a.tmps.size := by cases d <;> simp [Act.put]
theorem put_defers (a : Act) (d : Option Nat) (v : Value) : (a.put d v).defers = a.defers := by cases d <;> simp [Act.put]
theorem putL_size : ∀ (l : List (Nat × Value)) (a : Act), (putL l a).tmps.size = a.tmps.size
  | [], _ => rfl
  | p :: l, a => (putL_size l (a.put (some p.1) p.2)).trans (put_size a _ _)
theorem putL_defers : ∀ (l : List (Nat × Value)) (a : Act), (putL l a).defers = a.defers
  | [], _ => rfl
  | p :: l, a => (putL_defers l (a.put (some p.1) p.2)).trans (put_defers a _ _)
theorem putL_none : ∀ (l : List (Nat × Value)) (a : Act) (d : Nat), (∀ p ∈ l, p.1 ≠ d) → (∀ p ∈ l, p.1 < a.tmps.size) → (putL l a).tmps.getD d undef = a.tmps.getD d undef
  | [], _, _, _, _ => rfl
  | p :: l, a, d, h, hs => by
    have := putL_none l (a.put (some p.1) p.2) d (fun q hq => h q (.tail _ hq)) (fun q hq => by rw [put_size]; exact hs q (.tail _ hq))
    refine this.trans ?_
    rw [getD_put (hs p (.head _)), if_neg (Ne.symm (h p (.head _)))]
theorem putL_some : ∀ (l : List (Nat × Value)) (a : Act), (l.map Prod.fst).Nodup → (∀ p ∈ l, p.1 < a.tmps.size) → ∀ p ∈ l, (putL l a).tmps.getD p.1 undef = p.2
  | [], _, _, _, p, h => by cases h
  | q :: l, a, hn, hs, p, h => by
    rw [List.map_cons, List.nodup_cons] at hn
    have hs' : ∀ r ∈ l, r.1 < (a.put (some q.1) q.2).tmps.size := fun r hr => by rw [put_size]; exact hs r (.tail _ hr)
    cases h with
    | head =>
      refine (putL_none l (a.put (some q.1) q.2) q.1 (fun r hr e => hn.1 (by rw [← e]; exact List.mem_map_of_mem hr)) hs').trans ?_
      rw [getD_put (hs q (.head _)), if_pos rfl]
    | tail _ h => exact putL_some l (a.put (some q.1) q.2) hn.2 hs' p h
/-- the value of an operation -/
def valV (l : List (Nat × Value)) (i : Nat) : Value := (l.getD i (0, undef)).2
structure EnvV (ops : Array Oper) (a0 : Act) (l : List (Nat × Value)) (i : Nat) (o : Oper) (a : Act) : Prop where
  deps : ∀ j oj d, ops[j]? = some oj → oj.dst = some d → depB o j = true → a.tmps.getD d undef = valV l j
  fresh : ∀ d, freshB ops i d = true → a.tmps.getD d undef = a0.tmps.getD d undef
/-- the first act that hangs on the operation i -/
def limV (ops : Array Oper) (i : Nat) : List Nat → Nat
  | [] => 0
  | j :: r => if ((ops[j]?).map fun o => depB o i).getD false then 0 else limV ops i r + 1
theorem limV_spec (ops : Array Oper) (i : Nat) : ∀ acts : List Nat, limV ops i acts = acts.length ∨ ∃ j oj, acts[limV ops i acts]? = some j ∧ ops[j]? = some oj ∧ depB oj i = true
  | [] => .inl rfl
  | j :: r => by
    unfold limV
    cases h : ((ops[j]?).map fun o => depB o i).getD false
    · rcases limV_spec ops i r with e | ⟨j', oj, h1, h2, h3⟩
      · exact .inl (by simp [e])
      · exact .inr ⟨j', oj, by simpa using h1, h2, h3⟩
    · right
      cases ho : ops[j]? with
      | none => rw [ho] at h; cases h
      | some oj => rw [ho] at h; exact ⟨j, oj, by simp, ho, h⟩
def PureV (P : Program) (ops : Array Oper) (a0 : Act) (l : List (Nat × Value)) (W : Nat → World) (acts : List Nat) (i : Nat) (o : Oper) : Prop :=
  o.guard = none ∧ ∀ a k, k ≤ limV ops i acts → EnvV ops a0 l i o a → (execOp a.eval o).run P (W k) = .ok (.value (valV l i)) (W k)
def ActV (P : Program) (ops : Array Oper) (a0 : Act) (l : List (Nat × Value)) (W : Nat → World) (m : Nat) (i : Nat) (o : Oper) : Prop :=
  o.guard = none ∧ ∀ a, EnvV ops a0 l i o a → (execOp a.eval o).run P (W m) = .ok (.value (valV l i)) (W (m + 1))
def LastV (P : Program) (ops : Array Oper) (a0 : Act) (l : List (Nat × Value)) (W : Nat → World) (N : Nat) (wl : World) (i : Nat) (o : Oper) : Prop :=
  o.guard = none ∧ ∀ a, EnvV ops a0 l i o a → (execOp a.eval o).run P (W N) = .ok .skip wl
def OpsV (P : Program) (ops : Array Oper) (a0 : Act) (l : List (Nat × Value)) (W : Nat → World) (acts : List Nat) (wl : World) : Nat → List Oper → Prop
  | _, [] => True
  | k, [o] => LastV P ops a0 l W acts.length wl k o
  | k, o :: o' :: rest => (match acts.idxOf? k with | none => PureV P ops a0 l W acts k o | some m => ActV P ops a0 l W m k o) ∧ OpsV P ops a0 l W acts wl (k + 1) (o' :: rest)
theorem opsV_at {a0 : Act} {l : List (Nat × Value)} {W : Nat → World} {acts : List Nat} {wl : World} : ∀ (r : List Oper) (k : Nat), OpsV P ops a0 l W acts wl k r → ∀ (i : Nat) (o : Oper), r[i]? = some o →
    (i + 1 < r.length → (match acts.idxOf? (k + i) with | none => PureV P ops a0 l W acts (k + i) o | some m => ActV P ops a0 l W m (k + i) o)) ∧ (i + 1 = r.length → LastV P ops a0 l W acts.length wl (k + i) o)
  | [], _, _, _, _, h => by cases h
  | [o'], k, h, 0, o, ho => by
    obtain rfl : o' = o := Option.some.inj ho
    exact ⟨fun h => absurd h (by simp), fun _ => h⟩
  | [_], _, _, i + 1, _, ho => by cases ho
  | o1 :: o2 :: r, k, h, 0, o, ho => by
    obtain rfl : o1 = o := Option.some.inj ho
    exact ⟨fun _ => h.1, fun h => absurd h (by simp)⟩
  | o1 :: o2 :: r, k, h, i + 1, o, ho => by
    have := opsV_at (o2 :: r) (k + 1) h.2 i o ho
    rw [show k + (i + 1) = k + 1 + i by omega]
    exact ⟨fun h => this.1 (by simpa using h), fun h => this.2 (by simpa using h)⟩
/-- the acts come one after the other; the last operation hangs on all others -/
def chainB (ops : Array Oper) : List Nat → Bool
  | i :: j :: r => ((ops[j]?).map fun o => depB o i).getD false && chainB ops (j :: r)
  | _ => true
def actsB (ops : Array Oper) (acts : List Nat) : Bool := chainB ops acts && decide acts.Nodup && (acts.all fun i => decide (i + 1 < ops.size)) && ((ops[ops.size - 1]?).map fun o => o.dst == none && (List.range (ops.size - 1)).all fun j => depB o j).getD false
theorem chain_at : ∀ {acts : List Nat} {m i j : Nat} {o : Oper}, chainB ops acts = true → acts[m]? = some i → acts[m + 1]? = some j → ops[j]? = some o → depB o i = true
  | i :: j :: r, 0, _, _, o, h, h1, h2, ho => by
    cases h1; cases h2
    rw [chainB, Bool.and_eq_true, ho] at h
    exact h.1
  | i :: j :: r, m + 1, _, _, o, h, h1, h2, ho => by
    rw [chainB, Bool.and_eq_true] at h
    exact chain_at h.2 h1 h2 ho
  | [_], 0, _, _, _, _, _, h2, _ => by cases h2
  | [_], _ + 1, _, _, _, _, h1, _, _ => by cases h1
  | [], _, _, _, _, _, h1, _, _ => by cases h1
theorem idx_none : ∀ {acts : List Nat} {i : Nat}, acts.idxOf? i = none → i ∉ acts := fun h => by simpa using h
theorem idx_some {acts : List Nat} {i m : Nat} (h : acts.idxOf? i = some m) : acts[m]? = some i := by
  rw [List.idxOf?_eq_some_iff] at h
  obtain ⟨h1, h2, _⟩ := h
  rw [List.getElem?_eq_getElem h1]
  simpa using h2
/-- how far the acts have come -/
def StageV (acts : List Nat) (W : Nat → World) (listed : Array Bool) (w : World) (k : Nat) : Prop := k ≤ acts.length ∧ (∀ m i, acts[m]? = some i → listed.getD i false = decide (m < k)) ∧ w = W k
theorem region_det {id : Nat} {a0 : Act} {w0 : World} (l : List (Nat × Value)) (acts : List Nat) (W : Nat → World) (wl : World) (n : Nat) (hn : a0.tmps.size = n) (hW : W 0 = w0.drew) (hm : P.follows .mixedOrders = true) (hb : backB ops = true) (hd : dstsB ops n = true)
    (hac : actsB ops acts = true) (hl : (ops.toList.map (·.dst)) = l.map (fun p => some p.1) ++ [none]) (hnd : decide (l.map Prod.fst).Nodup = true) (hops : OpsV P ops a0 l W acts wl 0 ops.toList)
    (fin : Q .normal (putL l a0) wl) : (Code.region id ops true).wp P Q a0 w0 := by
  have hlen : ops.size = l.length + 1 := by have := congrArg List.length hl; simpa using this
  have hdst : ∀ i o, ops[i]? = some o → i < l.length → ∃ p, l[i]? = some p ∧ o.dst = some p.1 := fun i o ho hi => by
    have h1 : (ops.toList.map (·.dst))[i]? = some o.dst := by rw [List.getElem?_map, Array.getElem?_toList, ho]; rfl
    rw [hl, List.getElem?_append_left (by simpa using hi), List.getElem?_map, List.getElem?_eq_getElem hi] at h1
    exact ⟨_, List.getElem?_eq_getElem hi, (Option.some.inj h1).symm⟩
  simp only [actsB, Bool.and_eq_true, decide_eq_true_eq, List.all_eq_true] at hac
  obtain ⟨⟨⟨hch, hna⟩, hin⟩, hla⟩ := hac
  obtain ⟨ol, hol⟩ : ∃ ol, ops[ops.size - 1]? = some ol := ⟨_, Array.getElem?_eq_getElem (by omega)⟩
  rw [hol] at hla
  simp only [Option.map_some, Option.getD_some, Bool.and_eq_true, beq_iff_eq, List.all_eq_true, List.mem_range] at hla
  obtain ⟨hln, hlast⟩ := hla
  refine wp_region_any hm ?_
  refine wpAny_inv hb (fun listed a w => RSt ops a0 (fun i v _ => v = valV l i) (fun _ _ => True) listed a w ∧ listed.getD (ops.size - 1) false = false ∧ ∃ k, StageV acts W listed w k) ?_ ?_ _ _ _ _ (by simp) ?_ ⟨⟨rfl, rfl, trivial, ?_, fun _ _ => rfl, ?_, ?_⟩, ?_, 0, Nat.zero_le _, ?_, hW.symm⟩
  · rintro listed a w i hs ⟨hJ, hL, k, hk, hst, rfl⟩ hi
    obtain ⟨h1, h2, o, ho, h3⟩ := mem_ready.1 hi
    have hil : i < listed.size := by omega
    have hset : ∀ j, (listed.setIfInBounds i true).getD j false = if j = i then true else listed.getD j false := fun j => by
      by_cases hj : j = i
      · subst hj; simp [Array.getD, hil]
      · rw [if_neg hj]; simp [Array.getD_eq_getD_getElem?, Array.getElem?_setIfInBounds, Ne.symm hj]
    have hli : listed.getD i false = false := by
      rw [getD_in hil] at h2 ⊢
      exact h2
    have hdep : ∀ j, depB o j = true → listed.getD j false = true := fun j hj => by
      unfold depB at hj
      rw [Array.any_eq_true'] at hj
      obtain ⟨e, he, hbe⟩ := hj
      simp only [Bool.and_eq_true, beq_iff_eq] at hbe
      rw [← hbe.2]
      exact h3 e he hbe.1
    have henv : EnvV ops a0 l i o a := ⟨fun j oj d hj hdj hdo => hJ.done j oj d (hdep j hdo) hj hdj, fun d hd' => hJ.rest d fun j oj hlj hj hdj => by
        have h4 := List.all_eq_true.1 hd' j (by simpa using (Array.getElem?_eq_some_iff.1 hj).1)
        rw [hj] at h4
        simp only [Option.map_some, Option.getD_some, hdj, bne_self_eq_false, Bool.false_or, Bool.or_eq_true, beq_iff_eq] at h4
        rcases h4 with h4 | rfl
        · unfold depB at h4
          rw [Array.any_eq_true'] at h4
          obtain ⟨e, he, hbe⟩ := h4
          simp only [Bool.and_eq_true, beq_iff_eq] at hbe
          have := hJ.shut j oj e hlj hj he hbe.1
          rw [hbe.2, hli] at this
          cases this
        · rw [hli] at hlj; cases hlj⟩
    have hat := opsV_at ops.toList 0 hops i o (by simpa using ho)
    rw [Nat.zero_add, show ops.toList.length = ops.size from rfl] at hat
    by_cases hlst : i + 1 = ops.size
    · obtain ⟨hg, hrun⟩ := hat.2 hlst
      obtain rfl : i = ops.size - 1 := by omega
      obtain rfl : ol = o := Option.some.inj (hol.symm.trans ho)
      have hk' : k = acts.length := by
        refine Nat.le_antisymm hk ?_
        by_cases h0 : acts.length = 0
        · omega
        · obtain ⟨x, hx⟩ : ∃ x, acts[acts.length - 1]? = some x := ⟨_, List.getElem?_eq_getElem (by omega)⟩
          have h5 := hin x (List.mem_of_getElem? hx)
          have h6 := hst _ _ hx
          rw [hdep x (hlast x (by omega))] at h6
          have := of_decide_eq_true h6.symm
          omega
      subst hk'
      refine wpOp_step ho fun K' hK' => ?_
      rw [if_pos (by simp [Region.wanted, hg])]
      unfold Oper.wp
      rw [hrun a henv, Oper.upon_skip]
      refine hK' _ _ (Or.inr ⟨fun j hj => ?_, ?_⟩)
      · rw [hset]
        split
        · rfl
        · exact hdep j (hlast j (by omega))
      · have ha : a.put ol.dst undef = putL l a0 := by
          rw [hln]
          have e1 : (putL l a0).defers = a.defers := (putL_defers l a0).trans hJ.defers.symm
          have e2 : (putL l a0).tmps.size = a.tmps.size := (putL_size l a0).trans hJ.size.symm
          have hlt : ∀ p ∈ l, p.1 < a0.tmps.size := fun p hp => by
            obtain ⟨j, hj, rfl⟩ := List.mem_iff_getElem.1 hp
            have h4 := List.all_eq_true.1 hd j (by simp; omega)
            obtain ⟨q, hq, hdq⟩ := hdst j ops[j] (Array.getElem?_eq_getElem (by omega)) hj
            rw [List.getElem?_eq_getElem hj] at hq
            cases hq
            rw [Array.getElem?_eq_getElem (by omega)] at h4
            simp only [Option.map_some, Option.getD_some, hdq, Bool.and_eq_true, decide_eq_true_eq] at h4
            rw [hn]; exact h4.1
          have e3 : ∀ d, (putL l a0).tmps.getD d undef = a.tmps.getD d undef := fun d => by
            by_cases hd2 : ∃ p ∈ l, p.1 = d
            · obtain ⟨p, hp, rfl⟩ := hd2
              rw [putL_some l a0 (of_decide_eq_true hnd) hlt p hp]
              obtain ⟨j, hj, hjp⟩ := List.mem_iff_getElem.1 hp
              obtain ⟨q, hq, hdq⟩ := hdst j ops[j] (Array.getElem?_eq_getElem (by omega)) hj
              rw [List.getElem?_eq_getElem hj] at hq
              cases hq
              rw [hjp] at hdq
              rw [hJ.done j _ p.1 (hdep j (hlast j (by omega))) (Array.getElem?_eq_getElem (by omega)) hdq]
              unfold valV
              rw [List.getD_eq_getElem?_getD, List.getElem?_eq_getElem hj, hjp]; rfl
            · rw [putL_none l a0 d (fun p hp e => hd2 ⟨p, hp, e⟩) hlt]
              refine (hJ.rest d fun j oj hlj hj hdj => ?_).symm
              have hjs := (Array.getElem?_eq_some_iff.1 hj).1
              by_cases hjl : j < l.length
              · obtain ⟨q, hq, hdq⟩ := hdst j oj hj hjl
                rw [hdj] at hdq
                exact hd2 ⟨q, List.mem_of_getElem? hq, (Option.some.inj hdq).symm⟩
              · obtain rfl : j = ops.size - 1 := by omega
                rw [hli] at hlj; cases hlj
          show a = putL l a0
          generalize putL l a0 = b at e1 e2 e3
          obtain ⟨t, df⟩ := a
          obtain ⟨t', df'⟩ := b
          simp only at e1 e2 e3
          subst e1
          congr 1
          refine Array.ext e2.symm fun x hx hx2 => ?_
          have := e3 x
          simp [Array.getD, hx, hx2] at this
          exact this.symm
        rw [ha]; exact fin
    · have hat1 := hat.1 (by omega)
      have hput : ∀ k', StageV acts W (listed.setIfInBounds i true) (W k') k' → (RSt ops a0 (fun i v _ => v = valV l i) (fun _ _ => True) (listed.setIfInBounds i true) (a.put o.dst (valV l i)) (W k') ∧ (listed.setIfInBounds i true).getD (ops.size - 1) false = false ∧ ∃ k, StageV acts W (listed.setIfInBounds i true) (W k') k) := fun k' hst' =>
        ⟨RSt.step (Rel := fun _ _ => True) hd hn (fun _ _ _ _ h _ => h) hJ hs hi ho rfl trivial trivial, by rw [hset, if_neg (by omega)]; exact hL, k', hst'⟩
      cases hix : acts.idxOf? i with
      | none =>
        rw [hix] at hat1
        obtain ⟨hg, hrun⟩ := hat1
        refine wpOp_step ho fun K' hK' => ?_
        rw [if_pos (by simp [Region.wanted, hg])]
        unfold Oper.wp
        have hkl : k ≤ limV ops i acts := by
          rcases limV_spec ops i acts with e | ⟨j, oj, q1, q2, q3⟩
          · omega
          · refine Nat.le_of_not_lt fun hlt => ?_
            have q4 := hst _ _ q1
            rw [decide_eq_true hlt] at q4
            unfold depB at q3
            rw [Array.any_eq_true'] at q3
            obtain ⟨e, he, hbe⟩ := q3
            simp only [Bool.and_eq_true, beq_iff_eq] at hbe
            have := hJ.shut j oj e q4 q2 he hbe.1
            rw [hbe.2, hli] at this
            cases this
        rw [hrun a k hkl henv]
        refine hK' _ _ (Or.inl (hput k ⟨hk, fun m j hj => ?_, rfl⟩))
        rw [hset, if_neg (fun e => idx_none hix (by rw [← e]; exact List.mem_of_getElem? hj))]
        exact hst m j hj
      | some m =>
        rw [hix] at hat1
        obtain ⟨hg, hrun⟩ := hat1
        have hmi := idx_some hix
        have hml : m < acts.length := (List.getElem?_eq_some_iff.1 hmi).1
        have h5 := hst m i hmi
        rw [hli] at h5
        have h6 : ¬ m < k := fun h => by rw [decide_eq_true h] at h5; cases h5
        have hkm : k = m := by
          refine Nat.le_antisymm (by omega) ?_
          cases m with
          | zero => omega
          | succ m =>
            obtain ⟨x, hx⟩ : ∃ x, acts[m]? = some x := ⟨_, List.getElem?_eq_getElem (by omega)⟩
            have h7 := hst m x hx
            rw [hdep x (chain_at hch hx hmi ho)] at h7
            have := of_decide_eq_true h7.symm
            omega
        subst hkm
        refine wpOp_step ho fun K' hK' => ?_
        rw [if_pos (by simp [Region.wanted, hg])]
        unfold Oper.wp
        rw [hrun a henv]
        refine hK' _ _ (Or.inl (hput (k + 1) ⟨by omega, fun m' j hj => ?_, rfl⟩))
        rw [hset]
        by_cases hji : j = i
        · subst hji
          have hml' := (List.getElem?_eq_some_iff.1 hj).1
          obtain rfl : m' = k := by
            have h8 := hj.trans hmi.symm
            rw [List.getElem?_eq_getElem hml', List.getElem?_eq_getElem hml] at h8
            have h8 := Option.some.inj h8
            have hnp := List.pairwise_iff_getElem.1 hna
            rcases Nat.lt_trichotomy m' k with h | h | h
            · exact absurd h8 (hnp m' k hml' hml h)
            · exact h
            · exact absurd h8.symm (hnp k m' hml hml' h)
          simp
        · rw [if_neg hji, hst m' j hj]
          have : m' ≠ k := fun e => hji (by subst e; exact Option.some.inj (hj.symm.trans hmi))
          by_cases h9 : m' < k
          · rw [decide_eq_true h9, decide_eq_true (by omega)]
          · rw [decide_eq_false h9, decide_eq_false (by omega)]
  · rintro listed a w hs ⟨hJ, hL, _⟩ hall
    rw [hall _ (by omega)] at hL
    cases hL
  · simp
  · intro i o d hi
    simp [Array.getD_eq_getD_getElem?, Array.getElem?_replicate] at hi
    split at hi <;> simp_all
  · intro i o e hi
    simp [Array.getD_eq_getD_getElem?, Array.getElem?_replicate] at hi
    split at hi <;> simp_all
  · intro i o hi
    simp [Array.getD_eq_getD_getElem?, Array.getElem?_replicate] at hi
    split at hi <;> simp_all
  · simp only [Array.getD_eq_getD_getElem?, Array.getElem?_replicate]
    split <;> rfl
  · intro m i _
    simp only [Array.getD_eq_getD_getElem?, Array.getElem?_replicate]
    split <;> simp
end
end
open Go.RowKit
section
variable {ρ : Operand → Value} {w : World} {o : Oper}
theorem xm_move {P : Program} {x : Operand} (ho : o.op = .move x ∨ o.op = .assign x) : (execOp ρ o).run P w = .ok (.value (ρ x)) w := by
  rcases ho with ho | ho <;> (unfold execOp; simp only [ho]; rfl)
theorem xm_field {x : Operand} {q k : Nat} (ho : o.op = .fieldAddr 29 x k) (hk : k < 2) (hx : ρ x = .pointer (some ⟨q, 0, none⟩)) : (execOp ρ o).run Tryd.prog w = .ok (.value (.pointer (some ⟨q, k, none⟩))) w := by
  have : k = 0 ∨ k = 1 := by omega
  unfold execOp
  rcases this with rfl | rfl <;> (simp only [ho, hx]; simp [go_sem])
theorem xm_load {t : TypeId} {x : Operand} {ad : Addr} {u : Value} (ht : t = 26 ∨ t = 27 ∨ t = 3 ∨ t = 23) (ho : o.op = .load t x) (hx : ρ x = .pointer (some ad)) (hc : w.cell? ad = some u) : (execOp ρ o).run Tryd.prog w = .ok (.value u) w := by
  unfold execOp
  rcases ht with rfl | rfl | rfl | rfl <;> (simp only [ho, hx]; simp [go_sem, hc, Tryd.underlying26, Tryd.underlying27, Tryd.underlying3, Tryd.underlying23])
theorem xm_loadB {x : Operand} {g k : Nat} {a b c : Int} (ho : o.op = .load 56 x) (hx : ρ x = .pointer (some ⟨g, k, none⟩)) (h0 : w.cell? ⟨g, k, none⟩ = some (.int .i64 a)) (h1 : w.cell? ⟨g, k + 1, none⟩ = some (.int .i64 b)) (h2 : w.cell? ⟨g, k + 2, none⟩ = some (.int .i64 c)) :
    (execOp ρ o).run Tryd.prog w = .ok (.value (.agg #[.int .i64 a, .int .i64 b, .int .i64 c])) w := by
  unfold execOp
  simp only [ho, hx]
  simp [go_sem, h0, h1, h2]
theorem xm_indexBs {x i : Operand} {g n c k : Nat} (ho : o.op = .indexAddr 26 x i) (hx : ρ x = .slice (some ⟨g, 0, none⟩) n c) (hi : ρ i = .int .i64 (k : Int)) (hk : k < n) : (execOp ρ o).run Tryd.prog w = .ok (.value (.pointer (some ⟨g, k, none⟩))) w := by
  unfold execOp
  have h1 : (0 : Int) ≤ (k : Int) := by omega
  have h2 : (k : Int) < (n : Int) := by omega
  simp only [ho, hx, hi]
  simp [go_sem, Tryd.underlying26, h1, h2, hk]
theorem xm_indexB {x i : Operand} {g n c k : Nat} (ho : o.op = .indexAddr 27 x i) (hx : ρ x = .slice (some ⟨g, 0, none⟩) n c) (hi : ρ i = .int .i64 (k : Int)) (hk : k < n) : (execOp ρ o).run Tryd.prog w = .ok (.value (.pointer (some ⟨g, k * 3, none⟩))) w := by
  unfold execOp
  have h1 : (0 : Int) ≤ (k : Int) := by omega
  have h2 : (k : Int) < (n : Int) := by omega
  simp only [ho, hx, hi]
  simp [go_sem, Tryd.underlying27, h1, h2, hk]
theorem xm_indexI {x i : Operand} {g off n c k : Nat} (ho : o.op = .indexAddr 23 x i) (hx : ρ x = .slice (some ⟨g, off, none⟩) n c) (hi : ρ i = .int .i64 (k : Int)) (hk : k < n) : (execOp ρ o).run Tryd.prog w = .ok (.value (.pointer (some ⟨g, off + k, none⟩))) w := by
  unfold execOp
  have h1 : (0 : Int) ≤ (k : Int) := by omega
  have h2 : (k : Int) < (n : Int) := by omega
  simp only [ho, hx, hi]
  simp [go_sem, Tryd.underlying23, h1, h2, hk]
theorem xm_lit1 {x : Operand} {a b c : Int} (ho : o.op = .buildSlice 27 1 #[(0, x)]) (hx : ρ x = .agg #[.int .i64 a, .int .i64 b, .int .i64 c]) :
    (execOp ρ o).run Tryd.prog w = .ok (.value (.slice (some ⟨w.heap.size, 0, none⟩) 1 1)) (w.alloc (.cells #[.int .i64 a, .int .i64 b, .int .i64 c] 56)) := by
  unfold execOp
  simp only [ho, hx, List.map_toArray, List.map_cons, List.map_nil]
  simp [go_sem, Tryd.underlying27, Tryd.underlying56]
theorem xm_build {x y z : Operand} {a b c : Int} (ho : o.op = .build 56 #[(0, x), (1, y), (2, z)]) (hx : ρ x = .int .i64 a) (hy : ρ y = .int .i64 b) (hz : ρ z = .int .i64 c) : (execOp ρ o).run Tryd.prog w = .ok (.value (.agg #[.int .i64 a, .int .i64 b, .int .i64 c])) w := by
  unfold execOp
  simp only [ho, hx, hy, hz, List.map_toArray, List.map_cons, List.map_nil]
  simp [go_sem]
theorem xm_app {x y : Operand} {t : TypeId} {v xv v' : Value} {w' : World} (ho : o.op = .call { callee := .builtin .append, args := #[x, y], argTypes := #[t, t] }) (hx : ρ x = v) (hy : ρ y = xv) (hr : (Builtin.append_ #[t, t] o.type #[v, xv]).run Tryd.prog w = .ok v' w') :
    (execOp ρ o).run Tryd.prog w = .ok (.value v') w' := by
  unfold execOp
  simp only [ho, resolve, invoke, builtin, Sem.run_bind, Sem.run_pure, Result.andThen_ok, List.map_toArray, List.map_cons, List.map_nil, hx, hy, hr]
theorem xm_store {x y : Operand} {ad : Addr} {u : Value} {aa : Option Addr} {n c : Nat} (ho : o.op = .store 27 x y) (hx : ρ x = .pointer (some ad)) (hy : ρ y = .slice aa n c) (hc : w.cell? ad = some u) (hf : w.frozen? ad = false) : (execOp ρ o).run Tryd.prog w = .ok .skip (w.setCell ad (.slice aa n c)) := by
  unfold execOp
  simp only [ho, hx, hy]
  simp [go_sem, hc, hf]
end
section
variable {ops : Array Oper} {a0 : Act} {l : List (Nat × Value)} {W : Nat → World} {acts : List Nat} {i : Nat} {o : Oper}
theorem pv_fresh {d : Tmp} (hg : o.guard = none) (ho : o.op = .move (.tmp d) ∨ o.op = .assign (.tmp d)) (hf : freshB ops i d = true) (hV : a0.tmps.getD d undef = valV l i) : PureV Tryd.prog ops a0 l W acts i o :=
  ⟨hg, fun a k _ e => by rw [xm_move ho]; rw [show a.eval (.tmp d) = _ from (e.fresh d hf).trans hV]⟩
theorem pv_const {v : Value} (hg : o.guard = none) (ho : o.op = .move (.const v) ∨ o.op = .assign (.const v)) (hV : valV l i = v) : PureV Tryd.prog ops a0 l W acts i o :=
  ⟨hg, fun a k _ e => by rw [xm_move ho, hV]; rfl⟩
theorem pv_same {d : Tmp} {j : Nat} {oj : Oper} (hg : o.guard = none) (ho : o.op = .move (.tmp d) ∨ o.op = .assign (.tmp d)) (hj : ops[j]? = some oj) (hjd : oj.dst = some d) (hdp : depB o j = true) (hV : valV l i = valV l j) : PureV Tryd.prog ops a0 l W acts i o :=
  ⟨hg, fun a k _ e => by rw [xm_move ho, hV]; rw [show a.eval (.tmp d) = _ from e.deps j oj d hj hjd hdp]⟩
theorem pv_field {d : Tmp} {q f : Nat} (hg : o.guard = none) (ho : o.op = .fieldAddr 29 (.tmp d) f) (hk : f < 2) (hf : freshB ops i d = true) (hV : a0.tmps.getD d undef = .pointer (some ⟨q, 0, none⟩)) (hl : valV l i = .pointer (some ⟨q, f, none⟩)) : PureV Tryd.prog ops a0 l W acts i o :=
  ⟨hg, fun a k _ e => by rw [hl]; exact xm_field (ρ := a.eval) ho hk ((e.fresh d hf).trans hV)⟩
theorem pv_load {t : TypeId} {d : Tmp} {j : Nat} {oj : Oper} {ad : Addr} (ht : t = 26 ∨ t = 27 ∨ t = 3 ∨ t = 23) (hg : o.guard = none) (ho : o.op = .load t (.tmp d)) (hj : ops[j]? = some oj) (hjd : oj.dst = some d) (hdp : depB o j = true) (hvj : valV l j = .pointer (some ad))
    (hc : ∀ k, k ≤ limV ops i acts → (W k).cell? ad = some (valV l i)) : PureV Tryd.prog ops a0 l W acts i o :=
  ⟨hg, fun a k hk e => xm_load (ρ := a.eval) ht ho ((e.deps j oj d hj hjd hdp).trans hvj) (hc k hk)⟩
theorem pv_loadB {d : Tmp} {g : Nat} {x y z : Int} (hg : o.guard = none) (ho : o.op = .load 56 (.tmp d)) (hf : freshB ops i d = true) (hV : a0.tmps.getD d undef = .pointer (some ⟨g, 0, none⟩))
    (hr : ∀ k, k ≤ limV ops i acts → Row (W k) g 56 [.int .i64 x, .int .i64 y, .int .i64 z]) (hl : valV l i = .agg #[.int .i64 x, .int .i64 y, .int .i64 z]) : PureV Tryd.prog ops a0 l W acts i o :=
  ⟨hg, fun a k hk e => by
    rw [hl]
    have h := hr k hk
    exact xm_loadB (ρ := a.eval) ho ((e.fresh d hf).trans hV) (h.cell (i := 0) rfl) (h.cell (i := 1) rfl) (h.cell (i := 2) rfl)⟩
theorem pv_loadBAt {d : Tmp} {j : Nat} {oj : Oper} {g q : Nat} {x y z : Int} (hg : o.guard = none) (ho : o.op = .load 56 (.tmp d)) (hj : ops[j]? = some oj) (hjd : oj.dst = some d) (hdp : depB o j = true) (hvj : valV l j = .pointer (some ⟨g, q, none⟩))
    (hr : ∀ k, k ≤ limV ops i acts → (W k).cell? ⟨g, q, none⟩ = some (.int .i64 x) ∧ (W k).cell? ⟨g, q + 1, none⟩ = some (.int .i64 y) ∧ (W k).cell? ⟨g, q + 2, none⟩ = some (.int .i64 z)) (hl : valV l i = .agg #[.int .i64 x, .int .i64 y, .int .i64 z]) : PureV Tryd.prog ops a0 l W acts i o :=
  ⟨hg, fun a k hk e => by
    rw [hl]
    obtain ⟨h0, h1, h2⟩ := hr k hk
    exact xm_loadB (ρ := a.eval) ho ((e.deps j oj d hj hjd hdp).trans hvj) h0 h1 h2⟩
theorem pv_indexBs {d e' : Tmp} {j j' : Nat} {oj oj' : Oper} {g n c q : Nat} (hg : o.guard = none) (ho : o.op = .indexAddr 26 (.tmp d) (.tmp e')) (hj : ops[j]? = some oj) (hjd : oj.dst = some d) (hdp : depB o j = true) (hj' : ops[j']? = some oj') (hjd' : oj'.dst = some e') (hdp' : depB o j' = true)
    (hv : valV l j = .slice (some ⟨g, 0, none⟩) n c) (hv' : valV l j' = .int .i64 (q : Int)) (hq : q < n) (hl : valV l i = .pointer (some ⟨g, q, none⟩)) : PureV Tryd.prog ops a0 l W acts i o :=
  ⟨hg, fun a k _ e => by rw [hl]; exact xm_indexBs (ρ := a.eval) ho ((e.deps j oj d hj hjd hdp).trans hv) ((e.deps j' oj' e' hj' hjd' hdp').trans hv') hq⟩
theorem pv_indexB {d e' : Tmp} {j j' : Nat} {oj oj' : Oper} {g n c q : Nat} (hg : o.guard = none) (ho : o.op = .indexAddr 27 (.tmp d) (.tmp e')) (hj : ops[j]? = some oj) (hjd : oj.dst = some d) (hdp : depB o j = true) (hj' : ops[j']? = some oj') (hjd' : oj'.dst = some e') (hdp' : depB o j' = true)
    (hv : valV l j = .slice (some ⟨g, 0, none⟩) n c) (hv' : valV l j' = .int .i64 (q : Int)) (hq : q < n) (hl : valV l i = .pointer (some ⟨g, q * 3, none⟩)) : PureV Tryd.prog ops a0 l W acts i o :=
  ⟨hg, fun a k _ e => by rw [hl]; exact xm_indexB (ρ := a.eval) ho ((e.deps j oj d hj hjd hdp).trans hv) ((e.deps j' oj' e' hj' hjd' hdp').trans hv') hq⟩
theorem pv_indexI {d e' : Tmp} {j j' : Nat} {oj oj' : Oper} {g off n c q : Nat} (hg : o.guard = none) (ho : o.op = .indexAddr 23 (.tmp d) (.tmp e')) (hj : ops[j]? = some oj) (hjd : oj.dst = some d) (hdp : depB o j = true) (hj' : ops[j']? = some oj') (hjd' : oj'.dst = some e') (hdp' : depB o j' = true)
    (hv : valV l j = .slice (some ⟨g, off, none⟩) n c) (hv' : valV l j' = .int .i64 (q : Int)) (hq : q < n) (hl : valV l i = .pointer (some ⟨g, off + q, none⟩)) : PureV Tryd.prog ops a0 l W acts i o :=
  ⟨hg, fun a k _ e => by rw [hl]; exact xm_indexI (ρ := a.eval) ho ((e.deps j oj d hj hjd hdp).trans hv) ((e.deps j' oj' e' hj' hjd' hdp').trans hv') hq⟩
theorem pv_build {d e' f' : Tmp} {j j' j2 : Nat} {oj oj' oj2 : Oper} {x y z : Int} (hg : o.guard = none) (ho : o.op = .build 56 #[(0, .tmp d), (1, .tmp e'), (2, .tmp f')]) (hj : ops[j]? = some oj) (hjd : oj.dst = some d) (hdp : depB o j = true) (hj' : ops[j']? = some oj') (hjd' : oj'.dst = some e') (hdp' : depB o j' = true)
    (hj2 : ops[j2]? = some oj2) (hjd2 : oj2.dst = some f') (hdp2 : depB o j2 = true) (hx : valV l j = .int .i64 x) (hy : valV l j' = .int .i64 y) (hz : valV l j2 = .int .i64 z) (hl : valV l i = .agg #[.int .i64 x, .int .i64 y, .int .i64 z]) : PureV Tryd.prog ops a0 l W acts i o :=
  ⟨hg, fun a k _ e => by rw [hl]; exact xm_build (ρ := a.eval) ho ((e.deps j oj d hj hjd hdp).trans hx) ((e.deps j' oj' e' hj' hjd' hdp').trans hy) ((e.deps j2 oj2 f' hj2 hjd2 hdp2).trans hz)⟩
theorem av_lit1 {m : Nat} {d : Tmp} {j : Nat} {oj : Oper} {x y z : Int} (hg : o.guard = none) (ho : o.op = .buildSlice 27 1 #[(0, .tmp d)]) (hj : ops[j]? = some oj) (hjd : oj.dst = some d) (hdp : depB o j = true) (hv : valV l j = .agg #[.int .i64 x, .int .i64 y, .int .i64 z])
    (hl : valV l i = .slice (some ⟨(W m).heap.size, 0, none⟩) 1 1) (hW : W (m + 1) = (W m).alloc (.cells #[.int .i64 x, .int .i64 y, .int .i64 z] 56)) : ActV Tryd.prog ops a0 l W m i o :=
  ⟨hg, fun a e => by rw [hl, hW]; exact xm_lit1 (ρ := a.eval) ho ((e.deps j oj d hj hjd hdp).trans hv)⟩
theorem av_app {m : Nat} {t : TypeId} {d e' : Tmp} {j j' : Nat} {oj oj' : Oper} (hg : o.guard = none) (ho : o.op = .call { callee := .builtin .append, args := #[.tmp d, .tmp e'], argTypes := #[t, t] }) (hj : ops[j]? = some oj) (hjd : oj.dst = some d) (hdp : depB o j = true) (hj' : ops[j']? = some oj') (hjd' : oj'.dst = some e') (hdp' : depB o j' = true)
    (hr : (Builtin.append_ #[t, t] o.type #[valV l j, valV l j']).run Tryd.prog (W m) = .ok (valV l i) (W (m + 1))) : ActV Tryd.prog ops a0 l W m i o :=
  ⟨hg, fun a e => xm_app (ρ := a.eval) ho (e.deps j oj d hj hjd hdp) (e.deps j' oj' e' hj' hjd' hdp') hr⟩
theorem lv_store {wl : World} {d e' : Tmp} {j j' : Nat} {oj oj' : Oper} {ad : Addr} {u : Value} {aa : Option Addr} {n c : Nat} (hg : o.guard = none) (ho : o.op = .store 27 (.tmp d) (.tmp e')) (hj : ops[j]? = some oj) (hjd : oj.dst = some d) (hdp : depB o j = true) (hj' : ops[j']? = some oj') (hjd' : oj'.dst = some e') (hdp' : depB o j' = true)
    (hv : valV l j = .pointer (some ad)) (hv' : valV l j' = .slice aa n c) (hc : (W acts.length).cell? ad = some u) (hf : (W acts.length).frozen? ad = false) (hwl : wl = (W acts.length).setCell ad (.slice aa n c)) : LastV Tryd.prog ops a0 l W acts.length wl i o :=
  ⟨hg, fun a e => by rw [hwl]; exact xm_store (ρ := a.eval) ho ((e.deps j oj d hj hjd hdp).trans hv) ((e.deps j' oj' e' hj' hjd' hdp').trans hv') hc hf⟩
end
end Go.Proofs.YtbnplohlfiefhaaDoor
