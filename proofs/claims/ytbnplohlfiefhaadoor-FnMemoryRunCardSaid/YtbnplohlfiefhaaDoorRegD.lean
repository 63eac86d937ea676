/- more operations of regions with values known ahead; what can be read where a memory is used -/
import Derived.Test.YtbnplohlfiefhaaDoorRegM
import Derived.Test.YtbnplohlfiefhaaDoorMemoU2
namespace Go.Proofs.YtbnplohlfiefhaaDoor
section
open Go.RowKit
section
variable {P : Program} {ops : Array Oper} {Q : Exit → Act → World → Prop} {a0 : Act} {l : List (Nat × Value)} {J : World → Prop} {i : Nat} {o : Oper}
theorem yielded_of {tmps : Array Value} {j : Nat} {b : Bool} {oj : Oper} {d : Nat} (hj : ops[j]? = some oj) (hd : oj.dst = some d) (hv : tmps.getD d undef = .bool b) : yielded ops tmps j = some b := by
  unfold yielded
  rw [hj]
  simp only [Option.bind_some, hd]
  rw [Array.getD_eq_getD_getElem?] at hv
  cases h : tmps[d]? with
  | none => rw [h] at hv; cases hv
  | some x => rw [h] at hv; cases (show x = .bool b from hv); rfl
def ConstV (P : Program) (ops : Array Oper) (Q : Exit → Act → World → Prop) (a0 : Act) (l : List (Nat × Value)) (J : World → Prop) (i : Nat) (o : Oper) : Prop := OpOk P ops Q a0 (fun i v _ => v = valV l i) (fun _ w => J w) (fun _ _ => True) i o
/-- the guard of the operation is met -/
def MetV (ops : Array Oper) (l : List (Nat × Value)) (o : Oper) : Prop := o.guard = none ∨ ∃ j b oj d, o.guard = some (j, b) ∧ ops[j]? = some oj ∧ oj.dst = some d ∧ depB o j = true ∧ valV l j = .bool b
theorem met_some {j : Nat} {b : Bool} {oj : Oper} {d : Nat} (hg : o.guard = some (j, b)) (hj : ops[j]? = some oj) (hd : oj.dst = some d) (hdp : depB o j = true) (hv : valV l j = .bool b) : MetV ops l o := .inr ⟨j, b, oj, d, hg, hj, hd, hdp, hv⟩
theorem MetV.wanted (h : MetV ops l o) {a : Act} (he : ∀ j oj d, ops[j]? = some oj → oj.dst = some d → depB o j = true → a.tmps.getD d undef = valV l j) : Region.wanted o (yielded ops a.tmps) = true := by
  unfold Region.wanted
  rcases h with h | ⟨j, b, oj, d, hg, hj, hd, hdp, hv⟩
  · rw [h]
  · rw [hg]
    simp only
    rw [yielded_of hj hd ((he j oj d hj hd hdp).trans hv)]
    simp
theorem cv_run (hg : MetV ops l o) (h : ∀ a w, J w → EnvV ops a0 l i o a → (execOp a.eval o).run P w = .ok (.value (valV l i)) w) : ConstV P ops Q a0 l J i o := by
  intro c a w _ _ _ hI hd hf K hK
  rw [if_pos (hg.wanted hd)]
  unfold Oper.wp
  rw [h a w hI ⟨hd, hf⟩]
  exact hK _ w rfl trivial hI
/-- the guard is not met -/
theorem cv_skip {j : Nat} {b : Bool} {oj : Oper} {d : Nat} (hg : o.guard = some (j, b)) (hj : ops[j]? = some oj) (hd : oj.dst = some d) (hdp : depB o j = true) (hv : valV l j = .bool (!b)) (hl : valV l i = undef) : ConstV P ops Q a0 l J i o := by
  intro c a w _ _ _ hI he hf K hK
  have hw : Region.wanted o (yielded ops a.tmps) = false := by
    unfold Region.wanted
    rw [hg]
    simp only
    rw [yielded_of hj hd ((he j oj d hj hd hdp).trans hv)]
    cases b <;> rfl
  rw [hw, if_neg (by simp)]
  rw [← hl]
  exact hK _ w rfl trivial hI
theorem cv_enter {f : FuncId} {args : Array Value} (hg : MetV ops l o) (h : ∀ a w, J w → EnvV ops a0 l i o a → (execOp a.eval o).run P w = .ok (.enter f args) w) (hc : ∀ w, J w → Calls P f args w fun e w' => e = .returned (valV l i) ∧ J w') : ConstV P ops Q a0 l J i o := by
  intro c a w _ _ _ hI hd hf K hK
  rw [if_pos (hg.wanted hd)]
  unfold Oper.wp
  rw [h a w hI ⟨hd, hf⟩]
  refine (hc w hI).mono ?_
  rintro e w' ⟨rfl, hj⟩
  exact hK _ w' rfl trivial hj
theorem region_const {id : Nat} {w0 : World} (l : List (Nat × Value)) (J : World → Prop) (n : Nat) (hn : a0.tmps.size = n) (hJ : J w0.drew) (hm : P.follows .mixedOrders = true) (hb : backB ops = true) (hd : dstsB ops n = true)
    (hl : (ops.toList.map fun o' : Oper => o'.dst) = l.map (fun p : Nat × Value => some p.1)) (hnd : decide (l.map Prod.fst).Nodup = true) (hops : OpsOk P ops Q a0 (fun i v _ => v = valV l i) (fun _ w => J w) (fun _ _ => True) 0 ops.toList)
    (fin : ∀ w, J w → Q .normal (putL l a0) w) : (Code.region id ops true).wp P Q a0 w0 := by
  have hlen : ops.size = l.length := by have := congrArg List.length hl; simpa using this
  have hdst : ∀ (i : Nat) (o : Oper), ops[i]? = some o → ∃ p : Nat × Value, l[i]? = some p ∧ o.dst = some p.1 := fun i o ho => by
    have hi := (Array.getElem?_eq_some_iff.1 ho).1
    have h1 : (ops.toList.map fun o' : Oper => o'.dst)[i]? = some o.dst := by rw [List.getElem?_map, Array.getElem?_toList, ho]; rfl
    rw [hl, List.getElem?_map, List.getElem?_eq_getElem (by omega)] at h1
    exact ⟨_, List.getElem?_eq_getElem (by omega), (Option.some.inj h1).symm⟩
  refine region_inv hm hb n hn hd (fun i v _ => v = valV l i) (fun _ w => J w) (fun _ _ => True) (fun _ _ _ _ h _ => h) hJ none (fun i o hi _ => ?_) (fun i o _ h => by cases h) (fun a w _ h1 h2 hI h3 h4 _ => ?_) (fun l h => by cases h)
  · have := opsOk_at ops.toList 0 hops i o (by simpa using hi)
    simpa using this
  · obtain ⟨c, _, hj⟩ := hI
    have ha : a = putL l a0 := by
      have e1 : (putL l a0).defers = a.defers := (putL_defers l a0).trans h1.symm
      have e2 : (putL l a0).tmps.size = a.tmps.size := (putL_size l a0).trans h2.symm
      have hlt : ∀ p ∈ l, p.1 < a0.tmps.size := fun p hp => by
        obtain ⟨j, hj, rfl⟩ := List.mem_iff_getElem.1 hp
        have h4 := List.all_eq_true.1 hd j (by simp; omega)
        obtain ⟨q, hq, hdq⟩ := hdst j ops[j] (Array.getElem?_eq_getElem (by omega))
        rw [List.getElem?_eq_getElem hj] at hq
        cases hq
        rw [Array.getElem?_eq_getElem (by omega)] at h4
        simp only [Option.map_some, Option.getD_some, hdq, Bool.and_eq_true, decide_eq_true_eq] at h4
        rw [hn]; exact h4.1
      have e3 : ∀ d, (putL l a0).tmps.getD d undef = a.tmps.getD d undef := fun d => by
        by_cases hd2 : ∃ p ∈ l, p.1 = d
        · obtain ⟨p, hp, rfl⟩ := hd2
          rw [putL_some l a0 (of_decide_eq_true hnd) hlt p hp]
          obtain ⟨j, hj, hjp⟩ := List.mem_iff_getElem.1 hp
          obtain ⟨q, hq, hdq⟩ := hdst j ops[j] (Array.getElem?_eq_getElem (by omega))
          rw [List.getElem?_eq_getElem hj] at hq
          cases hq
          rw [hjp] at hdq
          rw [h3 j _ p.1 (Array.getElem?_eq_getElem (by omega)) hdq]
          unfold valV
          rw [List.getD_eq_getElem?_getD, List.getElem?_eq_getElem hj, hjp]; rfl
        · rw [putL_none l a0 d (fun p hp e => hd2 ⟨p, hp, e⟩) hlt]
          refine (h4 d fun j oj hj hdj => ?_).symm
          obtain ⟨q, hq, hdq⟩ := hdst j oj hj
          rw [hdj] at hdq
          exact hd2 ⟨q, List.mem_of_getElem? hq, (Option.some.inj hdq).symm⟩
      generalize putL l a0 = b at e1 e2 e3
      obtain ⟨t, df⟩ := a
      obtain ⟨t', df'⟩ := b
      simp only at e1 e2 e3
      subst e1
      congr 1
      refine Array.ext e2.symm fun x hx hx2 => ?_
      have := e3 x
      simp [Array.getD, hx, hx2] at this
      exact this.symm
    rw [ha]
    exact fin w hj
end
section
variable {ρ : Operand → Value} {w : World} {o : Oper}
theorem xc_not {t : TypeId} {x : Operand} {b : Bool} (ho : o.op = .unOp .not t x) (hx : ρ x = .bool b) : (execOp ρ o).run Tryd.prog w = .ok (.value (.bool (!b))) w := by
  unfold execOp
  simp only [ho, hx]
  simp [go_sem]
theorem xc_neq {t u : TypeId} {x y : Operand} {p q : Int} (ho : o.op = .binOp .neq 3 x y u) (hx : ρ x = .int .i64 p) (hy : ρ y = .int .i64 q) : (execOp ρ o).run Tryd.prog w = .ok (.value (.bool (p != q))) w := by
  unfold execOp
  simp only [ho, hx, hy]
  simp [go_sem, Tryd.underlying3, bne]
theorem xc_lss {t u : TypeId} {x y : Operand} {p q : Int} (ho : o.op = .binOp .lss 3 x y u) (hx : ρ x = .int .i64 p) (hy : ρ y = .int .i64 q) : (execOp ρ o).run Tryd.prog w = .ok (.value (.bool (decide (p < q)))) w := by
  unfold execOp
  simp only [ho, hx, hy]
  simp [go_sem, Tryd.underlying3]
theorem xc_pick {c x y : Operand} {b : Bool} (ho : o.op = .pick c x y) (hc : ρ c = .bool b) : (execOp ρ o).run Tryd.prog w = .ok (.value (if b then ρ x else ρ y)) w := by
  unfold execOp
  cases b <;> (simp only [ho, hc]; simp [go_sem])
theorem xc_len {t : TypeId} {x : Operand} {ad : Option Addr} {n c : Nat} (ht : t = 27 ∨ t = 23) (ho : o.op = .call { callee := .builtin .len, args := #[x], argTypes := #[t] }) (hx : ρ x = .slice ad n c) : (execOp ρ o).run Tryd.prog w = .ok (.value (.int .i64 n)) w := by
  unfold execOp
  simp only [ho, resolve, invoke, builtin, List.map_toArray, List.map_cons, List.map_nil, hx]
  rcases ht with rfl | rfl <;> simp [go_sem, Builtin.len_, Tryd.underlying27, Tryd.underlying23]
theorem xc_loadM {x : Operand} {g : Nat} {a b : Value} (ho : o.op = .load 29 x) (hx : ρ x = .pointer (some ⟨g, 0, none⟩)) (h0 : w.cell? ⟨g, 0, none⟩ = some a) (h1 : w.cell? ⟨g, 1, none⟩ = some b) :
    (execOp ρ o).run Tryd.prog w = .ok (.value (.agg #[a, b])) w := by
  unfold execOp
  simp only [ho, hx]
  simp [go_sem, h0, h1]
theorem xc_leaf {x y : Operand} {v u : Value} {ts : Array TypeId} (ho : o.op = .call { callee := .value (.func 15), args := #[x, y], argTypes := ts }) (hx : ρ x = v) (hy : ρ y = u) (hf : ρ (.func 15) = .func (.func 15) #[] #[]) :
    (execOp ρ o).run Tryd.prog w = .ok (.enter 15 #[v, u]) w := by
  unfold execOp
  simp only [ho, resolve, hx, hy, hf, List.map_toArray, List.map_cons, List.map_nil]
  simp [invoke, go_sem, Tryd.func15]
theorem xc_on {x y : Operand} {v u : Value} {ts : Array TypeId} (ho : o.op = .call { callee := .value (.func 46), args := #[x, y], argTypes := ts }) (hx : ρ x = v) (hy : ρ y = u) (hf : ρ (.func 46) = .func (.func 46) #[] #[]) :
    (execOp ρ o).run Tryd.prog w = .ok (.enter 46 #[v, u]) w := by
  unfold execOp
  simp only [ho, resolve, hx, hy, hf, List.map_toArray, List.map_cons, List.map_nil]
  simp [invoke, go_sem, Tryd.func46]
end
section
variable {ops : Array Oper} {Q : Exit → Act → World → Prop} {a0 : Act} {l : List (Nat × Value)} {J : World → Prop} {i : Nat} {o : Oper}
theorem cv_fresh {d : Tmp} (hg : MetV ops l o) (ho : o.op = .move (.tmp d) ∨ o.op = .assign (.tmp d)) (hf : freshB ops i d = true) (hV : a0.tmps.getD d undef = valV l i) : ConstV Tryd.prog ops Q a0 l J i o :=
  cv_run hg fun a w _ e => by rw [xm_move ho]; rw [show a.eval (.tmp d) = _ from (e.fresh d hf).trans hV]
theorem cv_same {d : Tmp} {j : Nat} {oj : Oper} (hg : MetV ops l o) (ho : o.op = .move (.tmp d) ∨ o.op = .assign (.tmp d)) (hj : ops[j]? = some oj) (hjd : oj.dst = some d) (hdp : depB o j = true) (hV : valV l i = valV l j) : ConstV Tryd.prog ops Q a0 l J i o :=
  cv_run hg fun a w _ e => by rw [xm_move ho, hV]; rw [show a.eval (.tmp d) = _ from e.deps j oj d hj hjd hdp]
theorem cv_field {d : Tmp} {q f : Nat} (hg : MetV ops l o) (ho : o.op = .fieldAddr 29 (.tmp d) f) (hk : f < 2) (hf : freshB ops i d = true) (hV : a0.tmps.getD d undef = .pointer (some ⟨q, 0, none⟩)) (hl : valV l i = .pointer (some ⟨q, f, none⟩)) : ConstV Tryd.prog ops Q a0 l J i o :=
  cv_run hg fun a w _ e => by rw [hl]; exact xm_field (ρ := a.eval) ho hk ((e.fresh d hf).trans hV)
theorem cv_load {t : TypeId} {d : Tmp} {j : Nat} {oj : Oper} {ad : Addr} (ht : t = 26 ∨ t = 27 ∨ t = 3 ∨ t = 23) (hg : MetV ops l o) (ho : o.op = .load t (.tmp d)) (hj : ops[j]? = some oj) (hjd : oj.dst = some d) (hdp : depB o j = true) (hvj : valV l j = .pointer (some ad))
    (hc : ∀ w, J w → w.cell? ad = some (valV l i)) : ConstV Tryd.prog ops Q a0 l J i o :=
  cv_run hg fun a w hw e => xm_load (ρ := a.eval) ht ho ((e.deps j oj d hj hjd hdp).trans hvj) (hc w hw)
theorem cv_loadM {d : Tmp} {g : Nat} {x y : Value} (hg : MetV ops l o) (ho : o.op = .load 29 (.tmp d)) (hf : freshB ops i d = true) (hV : a0.tmps.getD d undef = .pointer (some ⟨g, 0, none⟩)) (hc : ∀ w, J w → w.cell? ⟨g, 0, none⟩ = some x ∧ w.cell? ⟨g, 1, none⟩ = some y) (hl : valV l i = .agg #[x, y]) : ConstV Tryd.prog ops Q a0 l J i o :=
  cv_run hg fun a w hw e => by rw [hl]; exact xc_loadM (ρ := a.eval) ho ((e.fresh d hf).trans hV) (hc w hw).1 (hc w hw).2
theorem cv_indexBs {d e' : Tmp} {j j' : Nat} {oj oj' : Oper} {g n c q : Nat} (hg : MetV ops l o) (ho : o.op = .indexAddr 26 (.tmp d) (.tmp e')) (hj : ops[j]? = some oj) (hjd : oj.dst = some d) (hdp : depB o j = true) (hj' : ops[j']? = some oj') (hjd' : oj'.dst = some e') (hdp' : depB o j' = true)
    (hv : valV l j = .slice (some ⟨g, 0, none⟩) n c) (hv' : valV l j' = .int .i64 (q : Int)) (hq : q < n) (hl : valV l i = .pointer (some ⟨g, q, none⟩)) : ConstV Tryd.prog ops Q a0 l J i o :=
  cv_run hg fun a w _ e => by rw [hl]; exact xm_indexBs (ρ := a.eval) ho ((e.deps j oj d hj hjd hdp).trans hv) ((e.deps j' oj' e' hj' hjd' hdp').trans hv') hq
theorem cv_indexB {d e' : Tmp} {j j' : Nat} {oj oj' : Oper} {g n c q : Nat} (hg : MetV ops l o) (ho : o.op = .indexAddr 27 (.tmp d) (.tmp e')) (hj : ops[j]? = some oj) (hjd : oj.dst = some d) (hdp : depB o j = true) (hj' : ops[j']? = some oj') (hjd' : oj'.dst = some e') (hdp' : depB o j' = true)
    (hv : valV l j = .slice (some ⟨g, 0, none⟩) n c) (hv' : valV l j' = .int .i64 (q : Int)) (hq : q < n) (hl : valV l i = .pointer (some ⟨g, q * 3, none⟩)) : ConstV Tryd.prog ops Q a0 l J i o :=
  cv_run hg fun a w _ e => by rw [hl]; exact xm_indexB (ρ := a.eval) ho ((e.deps j oj d hj hjd hdp).trans hv) ((e.deps j' oj' e' hj' hjd' hdp').trans hv') hq
theorem cv_indexI {d e' : Tmp} {j j' : Nat} {oj oj' : Oper} {g off n c q : Nat} (hg : MetV ops l o) (ho : o.op = .indexAddr 23 (.tmp d) (.tmp e')) (hj : ops[j]? = some oj) (hjd : oj.dst = some d) (hdp : depB o j = true) (hj' : ops[j']? = some oj') (hjd' : oj'.dst = some e') (hdp' : depB o j' = true)
    (hv : valV l j = .slice (some ⟨g, off, none⟩) n c) (hv' : valV l j' = .int .i64 (q : Int)) (hq : q < n) (hl : valV l i = .pointer (some ⟨g, off + q, none⟩)) : ConstV Tryd.prog ops Q a0 l J i o :=
  cv_run hg fun a w _ e => by rw [hl]; exact xm_indexI (ρ := a.eval) ho ((e.deps j oj d hj hjd hdp).trans hv) ((e.deps j' oj' e' hj' hjd' hdp').trans hv') hq
theorem cv_not {t : TypeId} {d : Tmp} {j : Nat} {oj : Oper} {b : Bool} (hg : MetV ops l o) (ho : o.op = .unOp .not t (.tmp d)) (hj : ops[j]? = some oj) (hjd : oj.dst = some d) (hdp : depB o j = true) (hv : valV l j = .bool b) (hl : valV l i = .bool (!b)) : ConstV Tryd.prog ops Q a0 l J i o :=
  cv_run hg fun a w _ e => by rw [hl]; exact xc_not (ρ := a.eval) ho ((e.deps j oj d hj hjd hdp).trans hv)
theorem cv_neq {u : TypeId} {d e' : Tmp} {j j' : Nat} {oj oj' : Oper} {p q : Int} {b : Bool} (hg : MetV ops l o) (ho : o.op = .binOp .neq 3 (.tmp d) (.tmp e') u) (hj : ops[j]? = some oj) (hjd : oj.dst = some d) (hdp : depB o j = true) (hj' : ops[j']? = some oj') (hjd' : oj'.dst = some e') (hdp' : depB o j' = true)
    (hv : valV l j = .int .i64 p) (hv' : valV l j' = .int .i64 q) (hb : (p != q) = b) (hl : valV l i = .bool b) : ConstV Tryd.prog ops Q a0 l J i o :=
  cv_run hg fun a w _ e => by rw [hl, ← hb]; exact xc_neq (t := 0) (ρ := a.eval) ho ((e.deps j oj d hj hjd hdp).trans hv) ((e.deps j' oj' e' hj' hjd' hdp').trans hv')
theorem cv_lssC {u : TypeId} {d : Tmp} {j : Nat} {oj : Oper} {p q : Int} {b : Bool} (hg : MetV ops l o) (ho : o.op = .binOp .lss 3 (.tmp d) (.const (.int .i64 q)) u) (hj : ops[j]? = some oj) (hjd : oj.dst = some d) (hdp : depB o j = true)
    (hv : valV l j = .int .i64 p) (hb : decide (p < q) = b) (hl : valV l i = .bool b) : ConstV Tryd.prog ops Q a0 l J i o :=
  cv_run hg fun a w _ e => by rw [hl, ← hb]; exact xc_lss (t := 0) (ρ := a.eval) ho ((e.deps j oj d hj hjd hdp).trans hv) rfl
theorem cv_len {t : TypeId} {d : Tmp} {j : Nat} {oj : Oper} {ad : Option Addr} {n c : Nat} (ht : t = 27 ∨ t = 23) (hg : MetV ops l o) (ho : o.op = .call { callee := .builtin .len, args := #[.tmp d], argTypes := #[t] }) (hj : ops[j]? = some oj) (hjd : oj.dst = some d) (hdp : depB o j = true) (hv : valV l j = .slice ad n c) (hl : valV l i = .int .i64 n) : ConstV Tryd.prog ops Q a0 l J i o :=
  cv_run hg fun a w _ e => by rw [hl]; exact xc_len (ρ := a.eval) ht ho ((e.deps j oj d hj hjd hdp).trans hv)
/-- the later part of '||' or '&&' counts -/
theorem cv_pickR {d e' : Tmp} {x : Operand} {j j' : Nat} {oj oj' : Oper} (hg : MetV ops l o) (ho : o.op = .pick (.tmp d) x (.tmp e')) (hj : ops[j]? = some oj) (hjd : oj.dst = some d) (hdp : depB o j = true) (hj' : ops[j']? = some oj') (hjd' : oj'.dst = some e') (hdp' : depB o j' = true)
    (hv : valV l j = .bool false) (hl : valV l i = valV l j') : ConstV Tryd.prog ops Q a0 l J i o :=
  cv_run hg fun a w _ e => by rw [hl, xc_pick (ρ := a.eval) ho ((e.deps j oj d hj hjd hdp).trans hv), if_neg (by simp)]; rw [show a.eval (.tmp e') = _ from e.deps j' oj' e' hj' hjd' hdp']
theorem cv_pickL {d e' : Tmp} {y : Operand} {j j' : Nat} {oj oj' : Oper} (hg : MetV ops l o) (ho : o.op = .pick (.tmp d) (.tmp e') y) (hj : ops[j]? = some oj) (hjd : oj.dst = some d) (hdp : depB o j = true) (hj' : ops[j']? = some oj') (hjd' : oj'.dst = some e') (hdp' : depB o j' = true)
    (hv : valV l j = .bool true) (hl : valV l i = valV l j') : ConstV Tryd.prog ops Q a0 l J i o :=
  cv_run hg fun a w _ e => by rw [hl, xc_pick (ρ := a.eval) ho ((e.deps j oj d hj hjd hdp).trans hv), if_pos rfl]; rw [show a.eval (.tmp e') = _ from e.deps j' oj' e' hj' hjd' hdp']
theorem cv_pickF {d : Tmp} {x : Operand} {v : Value} {j : Nat} {oj : Oper} (hg : MetV ops l o) (ho : o.op = .pick (.tmp d) x (.const v)) (hj : ops[j]? = some oj) (hjd : oj.dst = some d) (hdp : depB o j = true) (hv : valV l j = .bool false) (hl : valV l i = v) : ConstV Tryd.prog ops Q a0 l J i o :=
  cv_run hg fun a w _ e => by rw [hl, xc_pick (ρ := a.eval) ho ((e.deps j oj d hj hjd hdp).trans hv), if_neg (by simp)]; rfl
theorem cv_leaf {d e' : Tmp} {ts : Array TypeId} {j j' : Nat} {oj oj' : Oper} (hg : MetV ops l o) (ho : o.op = .call { callee := .value (.func 15), args := #[.tmp d, .tmp e'], argTypes := ts }) (hj : ops[j]? = some oj) (hjd : oj.dst = some d) (hdp : depB o j = true) (hj' : ops[j']? = some oj') (hjd' : oj'.dst = some e') (hdp' : depB o j' = true)
    (hc : ∀ w, J w → Calls Tryd.prog 15 #[valV l j, valV l j'] w fun e w' => e = .returned (valV l i) ∧ J w') : ConstV Tryd.prog ops Q a0 l J i o :=
  cv_enter hg (fun a w _ e => xc_leaf (ρ := a.eval) ho (e.deps j oj d hj hjd hdp) (e.deps j' oj' e' hj' hjd' hdp') rfl) hc
theorem cv_on {d e' : Tmp} {ts : Array TypeId} {j j' : Nat} {oj oj' : Oper} (hg : MetV ops l o) (ho : o.op = .call { callee := .value (.func 46), args := #[.tmp d, .tmp e'], argTypes := ts }) (hj : ops[j]? = some oj) (hjd : oj.dst = some d) (hdp : depB o j = true) (hj' : ops[j']? = some oj') (hjd' : oj'.dst = some e') (hdp' : depB o j' = true)
    (hc : ∀ w, J w → Calls Tryd.prog 46 #[valV l j, valV l j'] w fun e w' => e = .returned (valV l i) ∧ J w') : ConstV Tryd.prog ops Q a0 l J i o :=
  cv_enter hg (fun a w _ e => xc_on (ρ := a.eval) ho (e.deps j oj d hj hjd hdp) (e.deps j' oj' e' hj' hjd' hdp') rfl) hc
end
end
open Go.RowKit
section
variable {ρ : Operand → Value} {w : World} {o : Oper}
theorem xm_lit0 (ho : o.op = .buildSlice 27 0 #[]) : (execOp ρ o).run Tryd.prog w = .ok (.value (.slice (some ⟨w.heap.size, 0, none⟩) 0 0)) (w.alloc (.cells #[] 56)) := by
  unfold execOp
  simp only [ho]
  simp [go_sem, Tryd.underlying27, Tryd.underlying56]
theorem xm_fieldB {x : Operand} {q k f : Nat} (ho : o.op = .fieldAddr 56 x f) (hf : f < 3) (hx : ρ x = .pointer (some ⟨q, k, none⟩)) : (execOp ρ o).run Tryd.prog w = .ok (.value (.pointer (some ⟨q, k + f, none⟩))) w := by
  have : f = 0 ∨ f = 1 ∨ f = 2 := by omega
  unfold execOp
  rcases this with rfl | rfl | rfl <;> (simp only [ho, hx]; simp [go_sem])
end
section
variable {ops : Array Oper} {Q : Exit → Act → World → Prop} {a0 : Act} {l : List (Nat × Value)} {W : Nat → World} {acts : List Nat} {J : World → Prop} {i : Nat} {o : Oper}
theorem av_lit0 {m : Nat} (hg : o.guard = none) (ho : o.op = .buildSlice 27 0 #[]) (hl : valV l i = .slice (some ⟨(W m).heap.size, 0, none⟩) 0 0) (hW : W (m + 1) = (W m).alloc (.cells #[] 56)) : ActV Tryd.prog ops a0 l W m i o :=
  ⟨hg, fun a e => by rw [hl, hW]; exact xm_lit0 (ρ := a.eval) ho⟩
theorem cv_fieldB {d : Tmp} {j : Nat} {oj : Oper} {q k f : Nat} (hg : MetV ops l o) (ho : o.op = .fieldAddr 56 (.tmp d) f) (hf : f < 3) (hj : ops[j]? = some oj) (hjd : oj.dst = some d) (hdp : depB o j = true) (hv : valV l j = .pointer (some ⟨q, k, none⟩)) (hl : valV l i = .pointer (some ⟨q, k + f, none⟩)) : ConstV Tryd.prog ops Q a0 l J i o :=
  cv_run hg fun a w _ e => by rw [hl]; exact xm_fieldB (ρ := a.eval) ho hf ((e.deps j oj d hj hjd hdp).trans hv)
end
section
variable {w wr w1 : World} {B gx gr : Nat} {bv way : Value} {p : List Int} {vs : Nat → Value} {ls : Nat → List (Int × Int × Int)}
/-- the cells that the loops read -/
structure Rds (wr : World) (gx gb gw : Nat) (bv : Value) (vs : Nat → Value) (p : List Int) : Prop where
  c0 : wr.cell? ⟨gx, 0, none⟩ = some bv
  c1 : wr.cell? ⟨gx, 1, none⟩ = some (vs 0)
  f1 : wr.frozen? ⟨gx, 1, none⟩ = false
  cb : ∀ q, q < 7 → wr.cell? ⟨gb, q, none⟩ = some (vs (q + 2))
  fb : ∀ q, wr.frozen? ⟨gb, q, none⟩ = false
  cw : ∀ k x, p[k]? = some x → wr.cell? ⟨gw, 0 + k, none⟩ = some (.int .i64 x)
theorem rds_of {gb cb gw cw n : Nat} (hr : Row wr gx 29 [.slice (some ⟨gb, 0, none⟩) 7 cb, vs 0]) (hb : Gr wr B 27 1 (.slice (some ⟨gb, 0, none⟩) 7 cb) 7 (tab 7 fun i => vs (i + 2))) (hw : Gr wr B 3 1 (.slice (some ⟨gw, 0, none⟩) n cw) n (ints p)) (hn : 0 < n) :
    Rds wr gx gb gw (.slice (some ⟨gb, 0, none⟩) 7 cb) vs p := by
  obtain ⟨_, _, hv, _, _, _, hfb, hcb, _⟩ := hb.at (show 0 < 7 by omega)
  cases hv
  obtain ⟨_, _, hv, _, _, _, _, hcw, _⟩ := hw.at hn
  cases hv
  refine ⟨hr.cell (i := 0) rfl, hr.cell (i := 1) rfl, hr.free 1, fun q hq => hcb q _ (tab_get (fun i => vs (i + 2)) hq), hfb, fun k x hx => ?_⟩
  rw [Nat.zero_add]
  exact hcw k _ (by unfold ints; rw [List.getElem?_map, hx]; rfl)
theorem UT.rds {gb cb gw cw : Nat} (h : UT w B gx gr (.slice (some ⟨gb, 0, none⟩) 7 cb) (.slice (some ⟨gw, 0, none⟩) 3 cw) p vs ls wr) (hp : p.length = 3) : Rds wr gx gb gw (.slice (some ⟨gb, 0, none⟩) 7 cb) vs p :=
  rds_of h.m.1 h.m.2.1 (by have := h.way; rwa [hp] at this) (by omega)
theorem UT.blk {M : List (Int × Int × Int)} {gs n c i : Nat} (h : UT w B gx gr bv way p vs ls wr) (h0 : ls 0 = M) (hi : i < M.length) (hv : vs 0 = .slice (some ⟨gs, 0, none⟩) n c) :
    wr.cell? ⟨gs, i * 3, none⟩ = some (.int .i64 (bat M i).1) ∧ wr.cell? ⟨gs, i * 3 + 1, none⟩ = some (.int .i64 (bat M i).2.1) ∧ wr.cell? ⟨gs, i * 3 + 2, none⟩ = some (.int .i64 (bat M i).2.2) := by
  have g0 := (h.m.2.2 0 (by omega)).1
  rw [h0] at g0
  obtain ⟨g, c', hve, -, -, -, hcell, -⟩ := gr_one g0 (by omega)
  rw [hv] at hve
  cases hve
  obtain ⟨d0, d1, d2⟩ := blks_get hi
  exact ⟨hcell _ _ d0, hcell _ _ d1, hcell _ _ d2⟩
/-- behind an append, ahead of its store -/
theorem UT.mid {gb cb gw cw j : Nat} {v1 : Value} {l' : List (Int × Int × Int)} (h : UT w B gx gr (.slice (some ⟨gb, 0, none⟩) 7 cb) (.slice (some ⟨gw, 0, none⟩) 3 cw) p vs ls wr) (hp : p.length = 3) (hj : j < 9) (g1 : Gr w1 B 56 3 v1 l'.length (blks l')) (r1 : wr.grownBy w1 (gBlock (vs j))) (k1 : gBlock v1 = gBlock (vs j) ∨ gBlock v1 = some wr.heap.size) :
    Rds w1 gx gb gw (.slice (some ⟨gb, 0, none⟩) 7 cb) vs p := by
  have hne : ∀ g, gBlock (.slice (some ⟨gb, 0, none⟩) 7 cb) = some g → gBlock (vs j) ≠ some g := fun g hg e => h.m.neb (i := j) (by omega) g e hg
  refine rds_of (B := B) (cw := cw) (h.m.1.grown r1 (fun e => h.m.nex (i := j) (by omega) _ e rfl)) (h.m.2.1.kept r1 hne) ?_ (show 0 < 3 by omega)
  have := (h.keep r1 (fun g e => ((h.m.2.2 j (by omega)).1.lt g e).1) (h.wayx (by omega))).1
  rwa [hp] at this
end
end Go.Proofs.YtbnplohlfiefhaaDoor
