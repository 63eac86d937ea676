/- a region that draws its order, walked once for all orders: each operation keeps what the others need -/
import Derived.Test.YtajgghifamebkaaDoorMem
import Derived.RegionTactic
namespace Go.Proofs.YtajgghifamebkaaDoor
set_option linter.unusedSimpArgs false
set_option linter.unusedVariables false
open Go.RowKit
section
variable {P : Program} {ops : Array Oper} {Q : Exit → Act → World → Prop}
/-- every binding edge points back -/
def backB (ops : Array Oper) : Bool := (List.range ops.size).all fun i => ((ops[i]?).map fun o => o.after.all fun e => !Region.binds .any e || decide (e.on < i)).getD true
theorem getD_in {l : Array Bool} {i : Nat} (h : i < l.size) (d : Bool) : l.getD i d = l[i] := by unfold Array.getD; rw [dif_pos h]; rfl
theorem mem_ready {listed : Array Bool} {i : Nat} : i ∈ Region.ready .any ops listed ↔ i < ops.size ∧ listed.getD i true = false ∧ ∃ o, ops[i]? = some o ∧ ∀ e ∈ o.after, Region.binds .any e = true → listed.getD e.on false = true := by
  unfold Region.ready
  rw [List.mem_filter, List.mem_range]
  refine and_congr_right fun hi => ?_
  rw [Array.getElem?_eq_getElem hi]
  simp only [Option.map_some, Option.getD_some, Bool.and_eq_true, Bool.not_eq_true', Option.some.injEq, Array.all_eq_true']
  constructor
  · rintro ⟨h1, h2⟩
    refine ⟨h1, _, rfl, fun e he hb => ?_⟩
    have := h2 e he
    simpa [hb] using this
  · rintro ⟨h1, o, rfl, h2⟩
    refine ⟨h1, fun e he => ?_⟩
    cases hb : Region.binds .any e
    · rfl
    · simpa using h2 e he hb
theorem ready_nil (hb : backB ops = true) {listed : Array Bool} (hs : listed.size = ops.size) (h : Region.ready .any ops listed = []) : ∀ j, j < ops.size → listed.getD j false = true := by
  intro j
  induction j using Nat.strongRecOn with
  | _ j ih =>
    intro hj
    cases hc : listed.getD j false
    · exfalso
      have hl : j < listed.size := by omega
      have hc' : listed.getD j true = false := by
        rw [getD_in hl] at hc ⊢
        exact hc
      have : j ∈ Region.ready .any ops listed := by
        refine mem_ready.2 ⟨hj, hc', ops[j], Array.getElem?_eq_getElem hj, fun e he hbe => ?_⟩
        have h1 := List.all_eq_true.1 hb j (by simpa using hj)
        rw [Array.getElem?_eq_getElem hj] at h1
        simp only [Option.map_some, Option.getD_some, Array.all_eq_true'] at h1
        have h2 := h1 e he
        rw [hbe] at h2
        have h3 : e.on < j := by simpa using h2
        exact ih e.on h3 (by omega)
      rw [h] at this
      cases this
    · rfl
theorem count_set : ∀ (l : List Bool) (i : Nat), l[i]? = some false → (l.set i true).count false + 1 = l.count false
  | b :: l, 0, h => by
    obtain rfl : b = false := by simpa using h
    simp
  | b :: l, i + 1, h => by
    have := count_set l i (by simpa using h)
    simp only [List.set_cons_succ, List.count_cons]
    omega
theorem count_set_true : ∀ (l : List Bool) (i : Nat), l[i]? = some false → (l.set i true).count true = l.count true + 1
  | b :: l, 0, h => by
    obtain rfl : b = false := by simpa using h
    simp
  | b :: l, i + 1, h => by
    have := count_set_true l i (by simpa using h)
    simp only [List.set_cons_succ, List.count_cons]
    omega
theorem count_lt : ∀ (l : List Bool) (i : Nat), l[i]? = some false → l.count true < l.length
  | b :: l, 0, h => by
    obtain rfl : b = false := by simpa using h
    have := List.count_le_length (a := true) (l := l)
    simp; omega
  | b :: l, i + 1, h => by
    have := count_lt l i (by simpa using h)
    simp only [List.count_cons, List.length_cons]
    split <;> omega
theorem wpAny_inv (hb : backB ops = true) (J : Array Bool → Act → World → Prop)
    (step : ∀ listed a w i, listed.size = ops.size → J listed a w → i ∈ Region.ready .any ops listed →
      wpOp P ops Q i (fun a' w' => J (listed.setIfInBounds i true) a' w' ∨ ((∀ j, j < ops.size → (listed.setIfInBounds i true).getD j false = true) ∧ Q .normal a' w')) a w)
    (fin : ∀ listed a w, listed.size = ops.size → J listed a w → (∀ j, j < ops.size → listed.getD j false = true) → Q .normal a w) :
    ∀ fuel listed a w, listed.size = ops.size → listed.toList.count false ≤ fuel → J listed a w → wpAny P .any ops Q fuel listed a w := by
  have all_nil : ∀ {listed : Array Bool}, listed.size = ops.size → (∀ j, j < ops.size → listed.getD j false = true) → Region.ready .any ops listed = [] := by
    intro listed hs h
    rw [List.eq_nil_iff_forall_not_mem]
    intro i hi
    obtain ⟨h1, h2, _⟩ := mem_ready.1 hi
    have h3 := h i h1
    have hl : i < listed.size := by omega
    rw [getD_in hl] at h2 h3
    rw [h2] at h3
    cases h3
  intro fuel
  induction fuel with
  | zero =>
    intro listed a w hs hc hJ
    have hall : ∀ j, j < ops.size → listed.getD j false = true := by
      intro j hj
      have hl : j < listed.size := by omega
      cases hv : listed[j]
      · exfalso
        have : false ∈ listed.toList := by
          rw [← hv]; exact Array.mem_toList_iff.2 (Array.getElem_mem hl)
        have := List.count_pos_iff.2 this
        omega
      · simp [Array.getD, hl, hv]
    exact ⟨all_nil hs hall, fin _ _ _ hs hJ hall⟩
  | succ fuel ih =>
    intro listed a w hs hc hJ
    refine ⟨fun hnil => fin _ _ _ hs hJ (ready_nil hb hs hnil), fun i hi => ?_⟩
    refine wpOp_mono ?_ (step _ _ _ i hs hJ hi)
    obtain ⟨h1, h2, _⟩ := mem_ready.1 hi
    have hl : i < listed.size := by omega
    have hs' : (listed.setIfInBounds i true).size = ops.size := by simpa using hs
    intro a' w' h
    rcases h with h | ⟨hall, hq⟩
    · refine ih _ _ _ hs' ?_ h
      have hv : listed.toList[i]? = some false := by
        rw [getD_in hl] at h2
        rw [Array.getElem?_toList, Array.getElem?_eq_getElem hl, h2]
      have := count_set listed.toList i hv
      rw [Array.toList_setIfInBounds]
      omega
    · exact wpAny_done (all_nil hs' hall) hq _

/-- the operation o hangs on the operation j -/
def depB (o : Oper) (j : Nat) : Bool := o.after.any fun e => Region.binds .any e && e.on == j
/-- when the operation i is carried out, no operation has written slot d -/
def freshB (ops : Array Oper) (i d : Nat) : Bool := (List.range ops.size).all fun j => ((ops[j]?).map fun oj => oj.dst != some d || (depB oj i || j == i)).getD true
/-- each slot is written once, and is there -/
def dstsB (ops : Array Oper) (n : Nat) : Bool := (List.range ops.size).all fun i => ((ops[i]?).map fun o => (match o.dst with | some d => decide (d < n) | none => true) &&
  ((List.range ops.size).all fun j => j == i || ((ops[j]?).map fun oj => oj.dst == none || oj.dst != o.dst).getD true)).getD true

structure RSt (ops : Array Oper) (a0 : Act) (φ : Nat → Value → World → Prop) (I : Nat → World → Prop) (listed : Array Bool) (a : Act) (w : World) : Prop where
  defers : a.defers = a0.defers
  size : a.tmps.size = a0.tmps.size
  inv : I (listed.toList.count true) w
  done : ∀ i o d, listed.getD i false = true → ops[i]? = some o → o.dst = some d → φ i (a.tmps.getD d undef) w
  rest : ∀ d, (∀ i o, listed.getD i false = true → ops[i]? = some o → o.dst ≠ some d) → a.tmps.getD d undef = a0.tmps.getD d undef
  shut : ∀ i o e, listed.getD i false = true → ops[i]? = some o → e ∈ o.after → Region.binds .any e = true → listed.getD e.on false = true
  acts : ∀ i o, listed.getD i false = true → ops[i]? = some o → o.dst = none → ∃ v, φ i v w

/-- what each operation owes: from what it hangs on it makes what is said of it, and leaves the rest -/
def OpOk (P : Program) (ops : Array Oper) (Q : Exit → Act → World → Prop) (a0 : Act) (φ : Nat → Value → World → Prop) (I : Nat → World → Prop) (Rel : World → World → Prop) (i : Nat) (o : Oper) : Prop :=
  ∀ c a w, c < ops.size → a.defers = a0.defers → a.tmps.size = a0.tmps.size → I c w →
    (∀ j oj d, ops[j]? = some oj → oj.dst = some d → depB o j = true → φ j (a.tmps.getD d undef) w) →
    (∀ d, freshB ops i d = true → a.tmps.getD d undef = a0.tmps.getD d undef) →
    ∀ K : Act → World → Prop, (∀ v w', φ i v w' → Rel w w' → I (c + 1) w' → K (a.put o.dst v) w') →
      if Region.wanted o (yielded ops a.tmps) = true then o.wp P a w K Q else K (a.put o.dst undef) w
/-- what the last operation owes: all else is done -/
def LastOk (P : Program) (ops : Array Oper) (Q : Exit → Act → World → Prop) (a0 : Act) (φ : Nat → Value → World → Prop) (I : Nat → World → Prop) (i : Nat) (o : Oper) : Prop :=
  ∀ c a w, c < ops.size → a.defers = a0.defers → a.tmps.size = a0.tmps.size → I c w →
    (∀ j oj d, ops[j]? = some oj → oj.dst = some d → j ≠ i → φ j (a.tmps.getD d undef) w) →
    (∀ d, (∀ j oj, ops[j]? = some oj → oj.dst = some d → j = i) → a.tmps.getD d undef = a0.tmps.getD d undef) →
    ∀ K : Act → World → Prop, (∀ a' w', Q .normal a' w' → K a' w') →
      if Region.wanted o (yielded ops a.tmps) = true then o.wp P a w K Q else K (a.put o.dst undef) w

theorem getD_put {a : Act} {d : Nat} {v : Value} {e : Nat} (hd : d < a.tmps.size) : (a.put (some d) v).tmps.getD e undef = if e = d then v else a.tmps.getD e undef := by
  simp only [Act.put]
  by_cases h : e = d
  · subst h
    rw [if_pos rfl]
    simp [Array.getD, hd]
  · rw [if_neg h]
    simp [Array.getD_eq_getD_getElem?, Array.getElem?_setIfInBounds, Ne.symm h]
theorem RSt.step {n : Nat} (hd : dstsB ops n = true) {a0 : Act} (hn : a0.tmps.size = n) {φ I} {Rel : World → World → Prop} (hst : ∀ j v w w', φ j v w → Rel w w' → φ j v w') {listed a w i o}
    (h : RSt ops a0 φ I listed a w) (hs : listed.size = ops.size) (hi : i ∈ Region.ready .any ops listed) (ho : ops[i]? = some o) {v w'} (hv : φ i v w') (hr : Rel w w') (hI : I (listed.toList.count true + 1) w') :
    RSt ops a0 φ I (listed.setIfInBounds i true) (a.put o.dst v) w' := by
  obtain ⟨h1, h2, o', ho', h3⟩ := mem_ready.1 hi
  obtain rfl : o = o' := Option.some.inj (ho.symm.trans ho')
  have hl : i < listed.size := by omega
  have hset : ∀ j, (listed.setIfInBounds i true).getD j false = if j = i then true else listed.getD j false := fun j => by
    by_cases hj : j = i
    · subst hj; simp [Array.getD, hl]
    · rw [if_neg hj]; simp [Array.getD_eq_getD_getElem?, Array.getElem?_setIfInBounds, Ne.symm hj]
  have hdst : ∀ d, o.dst = some d → d < a.tmps.size ∧ ∀ j oj, ops[j]? = some oj → j ≠ i → oj.dst ≠ some d := fun d hod => by
    have h4 := List.all_eq_true.1 hd i (by simpa using h1)
    rw [ho] at h4
    simp only [Option.map_some, Option.getD_some, hod, Bool.and_eq_true, decide_eq_true_eq, List.all_eq_true] at h4
    refine ⟨by rw [h.size, hn]; exact h4.1, fun j oj hj hne he => ?_⟩
    have h5 := h4.2 j (by simpa using (Array.getElem?_eq_some_iff.1 hj).1)
    rw [hj] at h5
    simp [he, hne] at h5
  have hput : ∀ e, (a.put o.dst v).tmps.getD e undef = if o.dst = some e then v else a.tmps.getD e undef := fun e => by
    cases hod : o.dst with
    | none => simp [Act.put]
    | some d =>
      rw [getD_put (hdst d hod).1]
      by_cases he : e = d
      · subst he; simp
      · rw [if_neg he, if_neg (fun x => he (Option.some.inj x).symm)]
  have hv0 : listed.toList[i]? = some false := by
    rw [getD_in hl] at h2
    rw [Array.getElem?_toList, Array.getElem?_eq_getElem hl, h2]
  refine ⟨?_, ?_, ?_, ?_, ?_, ?_, ?_⟩
  rotate_left 2
  · rw [Array.toList_setIfInBounds, count_set_true _ _ hv0]; exact hI
  rotate_right 2
  · cases hod : o.dst <;> simp [Act.put, h.defers]
  · cases hod : o.dst <;> simp [Act.put, h.size]
  · intro j oj d hj hoj hdj
    rw [hset] at hj
    rw [hput]
    by_cases hji : j = i
    · subst hji
      obtain rfl : o = oj := Option.some.inj (ho.symm.trans hoj)
      rw [if_pos hdj]; exact hv
    · rw [if_neg hji] at hj
      rw [if_neg (fun x => (hdst d x).2 j oj hoj hji hdj)]
      exact hst _ _ _ _ (h.done j oj d hj hoj hdj) hr
  · intro d hnd
    rw [hput]
    have hne : o.dst ≠ some d := hnd i o (by rw [hset, if_pos rfl]) ho
    rw [if_neg hne]
    exact h.rest d fun j oj hj hoj => hnd j oj (by rw [hset]; split <;> simp [hj]) hoj
  · intro j oj e hj hoj he hb
    rw [hset] at hj ⊢
    by_cases hji : j = i
    · subst hji
      obtain rfl : o = oj := Option.some.inj (ho.symm.trans hoj)
      have := h3 e he hb
      split <;> simp [this]
    · rw [if_neg hji] at hj
      have := h.shut j oj e hj hoj he hb
      split <;> simp [this]
  · intro j oj hj hoj hdj
    rw [hset] at hj
    by_cases hji : j = i
    · subst hji
      obtain rfl : o = oj := Option.some.inj (ho.symm.trans hoj)
      exact ⟨v, hv⟩
    · rw [if_neg hji] at hj
      obtain ⟨x, hx⟩ := h.acts j oj hj hoj hdj
      exact ⟨x, hst _ _ _ _ hx hr⟩
/-- THE LAW: 'last' is an operation (or none) that hangs on all others and may do as it likes -/
theorem region_inv {id : Nat} {a0 : Act} {w0 : World} (hm : P.follows .mixedOrders = true) (hb : backB ops = true) (n : Nat) (hn : a0.tmps.size = n) (hd : dstsB ops n = true)
    (φ : Nat → Value → World → Prop) (I : Nat → World → Prop) (Rel : World → World → Prop) (hst : ∀ j v w w', φ j v w → Rel w w' → φ j v w') (hI : I 0 w0.drew) (last : Option Nat)
    (hops : ∀ i o, ops[i]? = some o → some i ≠ last → OpOk P ops Q a0 φ I Rel i o)
    (hlast : ∀ i o, ops[i]? = some o → some i = last → (∀ j, j < ops.size → j ≠ i → depB o j = true) ∧ LastOk P ops Q a0 φ I i o)
    (fin : ∀ a w, last = none → a.defers = a0.defers → a.tmps.size = a0.tmps.size → (∃ c, c ≤ ops.size ∧ I c w) → (∀ i o d, ops[i]? = some o → o.dst = some d → φ i (a.tmps.getD d undef) w) →
      (∀ d, (∀ (i : Nat) (o : Oper), ops[i]? = some o → o.dst ≠ some d) → a.tmps.getD d undef = a0.tmps.getD d undef) → (∀ i o, ops[i]? = some o → o.dst = none → ∃ v, φ i v w) → Q .normal a w)
    (hlt : ∀ l, last = some l → l < ops.size) :
    (Code.region id ops true).wp P Q a0 w0 := by
  refine wp_region_any hm ?_
  refine wpAny_inv hb (fun listed a w => RSt ops a0 φ I listed a w ∧ ∀ l, last = some l → listed.getD l false = false) ?_ ?_ _ _ _ _ (by simp) ?_ ⟨⟨rfl, rfl, by simpa [List.count_replicate] using hI, ?_, fun _ _ => rfl, ?_, ?_⟩, ?_⟩
  · rintro listed a w i hs ⟨hJ, hL⟩ hi
    obtain ⟨h1, h2, o, ho, h3⟩ := mem_ready.1 hi
    have hl : i < listed.size := by omega
    have hset : ∀ j, (listed.setIfInBounds i true).getD j false = if j = i then true else listed.getD j false := fun j => by
      by_cases hj : j = i
      · subst hj; simp [Array.getD, hl]
      · rw [if_neg hj]; simp [Array.getD_eq_getD_getElem?, Array.getElem?_setIfInBounds, Ne.symm hj]
    have hcl : listed.toList.count true < ops.size := by
      have hv0 : listed.toList[i]? = some false := by
        rw [getD_in hl] at h2
        rw [Array.getElem?_toList, Array.getElem?_eq_getElem hl, h2]
      have := count_lt _ _ hv0
      simpa [hs] using this
    have hdep : ∀ j, depB o j = true → listed.getD j false = true := fun j hj => by
      unfold depB at hj
      rw [Array.any_eq_true'] at hj
      obtain ⟨e, he, hbe⟩ := hj
      simp only [Bool.and_eq_true, beq_iff_eq] at hbe
      rw [← hbe.2]
      exact h3 e he hbe.1
    by_cases hil : some i = last
    · obtain ⟨hall, hk⟩ := hlast i o ho hil
      refine wpOp_step ho fun K' hK' => ?_
      refine hk _ a w hcl hJ.defers hJ.size hJ.inv (fun j oj d hj hdj hne => hJ.done j oj d (hdep j (hall j (Array.getElem?_eq_some_iff.1 hj).1 hne)) hj hdj) (fun d hd' => hJ.rest d fun j oj hlj hj hdj => ?_) K' fun a' w' hq => hK' _ _ (Or.inr ⟨fun j hj => ?_, hq⟩)
      · obtain rfl := hd' j oj hj hdj
        have := hL j hil.symm
        rw [hlj] at this; cases this
      · rw [hset]
        split
        · rfl
        · exact hdep j (hall j hj ‹_›)
    · refine wpOp_step ho fun K' hK' => ?_
      refine hops i o ho hil _ a w hcl hJ.defers hJ.size hJ.inv (fun j oj d hj hdj hdo => hJ.done j oj d (hdep j hdo) hj hdj) (fun d hd' => hJ.rest d fun j oj hlj hj hdj => ?_) K' fun v w' hv hr hI' => hK' _ _ (Or.inl ⟨hJ.step hd hn hst hs hi ho hv hr hI', fun l hl' => ?_⟩)
      · have h4 := List.all_eq_true.1 hd' j (by simpa using (Array.getElem?_eq_some_iff.1 hj).1)
        rw [hj] at h4
        simp only [Option.map_some, Option.getD_some, hdj, bne_self_eq_false, Bool.false_or, Bool.or_eq_true, beq_iff_eq] at h4
        have hli : listed.getD i false = false := by
          rw [getD_in hl] at h2 ⊢
          exact h2
        rcases h4 with h4 | rfl
        · unfold depB at h4
          rw [Array.any_eq_true'] at h4
          obtain ⟨e, he, hbe⟩ := h4
          simp only [Bool.and_eq_true, beq_iff_eq] at hbe
          have := hJ.shut j oj e hlj hj he hbe.1
          rw [hbe.2, hli] at this
          cases this
        · rw [hli] at hlj; cases hlj
      · rw [hset, if_neg (fun e => hil (by rw [hl', e]))]
        exact hL l hl'
  · rintro listed a w hs ⟨hJ, hL⟩ hall
    cases hlc : last with
    | none => exact fin a w hlc hJ.defers hJ.size ⟨_, by have := List.count_le_length (a := true) (l := listed.toList); simpa [hs] using this, hJ.inv⟩ (fun i o d hi hdi => hJ.done i o d (hall i (Array.getElem?_eq_some_iff.1 hi).1) hi hdi) (fun d hd' => hJ.rest d fun i o _ hi => hd' i o hi) (fun i o hi hdi => hJ.acts i o (hall i (Array.getElem?_eq_some_iff.1 hi).1) hi hdi)
    | some l =>
      have h1 := hL l hlc
      rw [hall l (hlt l hlc)] at h1
      cases h1
  · simp
  · intro i o d hi
    simp [Array.getD_eq_getD_getElem?, Array.getElem?_replicate] at hi
    split at hi <;> simp_all
  · intro i o e hi
    simp [Array.getD_eq_getD_getElem?, Array.getElem?_replicate] at hi
    split at hi <;> simp_all
  · intro i o hi
    simp [Array.getD_eq_getD_getElem?, Array.getElem?_replicate] at hi
    split at hi <;> simp_all
  · intro l _
    simp only [Array.getD_eq_getD_getElem?, Array.getElem?_replicate]
    split <;> rfl
/-- the operations of a written list, one after the other -/
def OpsOk (P : Program) (ops : Array Oper) (Q : Exit → Act → World → Prop) (a0 : Act) (φ : Nat → Value → World → Prop) (I : Nat → World → Prop) (Rel : World → World → Prop) : Nat → List Oper → Prop
  | _, [] => True
  | k, o :: rest => OpOk P ops Q a0 φ I Rel k o ∧ OpsOk P ops Q a0 φ I Rel (k + 1) rest
theorem opsOk_at {a0 : Act} {φ : Nat → Value → World → Prop} {I : Nat → World → Prop} {Rel : World → World → Prop} (l : List Oper) : ∀ (k : Nat), OpsOk P ops Q a0 φ I Rel k l → ∀ (i : Nat) (o : Oper), l[i]? = some o → OpOk P ops Q a0 φ I Rel (k + i) o := by
  induction l with
  | nil => intro k _ i o ho; cases ho
  | cons x l ih =>
    intro k h i o ho
    cases i with
    | zero => cases ho; exact h.1
    | succ i =>
      have := ih (k + 1) h.2 i o ho
      rwa [show k + (i + 1) = k + 1 + i by omega]
end
/-- the frame behind a region: the slots of ds are new -/
def newFrame (a0 : List Value) (ds : List Nat) (a : Array Value) : List Value := a0.zipIdx.map fun x => if ds.contains x.2 then a.getD x.2 undef else x.1
theorem frame_of {a0 a : Act} {ds : List Nat} (h1 : a.defers = a0.defers) (h2 : a.tmps.size = a0.tmps.size) (h3 : ∀ d, ds.contains d = false → a.tmps.getD d undef = a0.tmps.getD d undef) :
    a = ⟨(newFrame a0.tmps.toList ds a.tmps).toArray, a0.defers⟩ := by
  cases a with
  | mk t d =>
    simp only [Act.mk.injEq]
    simp only at h1 h2 h3
    refine ⟨?_, h1⟩
    apply Array.ext
    · simp [newFrame, h2]
    · intro i hi hi2
      have hi3 : i < a0.tmps.size := by omega
      simp only [newFrame, List.getElem_toArray, List.getElem_map, List.getElem_zipIdx, Array.getElem_toList, Nat.zero_add]
      split
      · simp [Array.getD, hi]
      · rename_i hc
        have := h3 i (by simpa using hc)
        simpa [Array.getD, hi, hi3] using this
end Go.Proofs.YtajgghifamebkaaDoor
