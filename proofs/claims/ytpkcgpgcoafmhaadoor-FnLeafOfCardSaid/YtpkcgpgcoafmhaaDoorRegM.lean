/- the operations of a region with values known ahead, over memories -/
import Derived.Test.YtpkcgpgcoafmhaaDoorRegV
import Derived.Test.YtpkcgpgcoafmhaaDoorMemoX
namespace Go.Proofs.YtpkcgpgcoafmhaaDoor
open Go.RowKit
section
variable {ρ : Operand → Value} {w : World} {o : Oper}
theorem xm_move {P : Program} {x : Operand} (ho : o.op = .move x ∨ o.op = .assign x) : (execOp ρ o).run P w = .ok (.value (ρ x)) w := by
  rcases ho with ho | ho <;> (unfold execOp; simp only [ho]; rfl)
theorem xm_field {x : Operand} {q k : Nat} (ho : o.op = .fieldAddr 26 x k) (hk : k < 2) (hx : ρ x = .pointer (some ⟨q, 0, none⟩)) : (execOp ρ o).run Tryd.prog w = .ok (.value (.pointer (some ⟨q, k, none⟩))) w := by
  have : k = 0 ∨ k = 1 := by omega
  unfold execOp
  rcases this with rfl | rfl <;> (simp only [ho, hx]; simp [go_sem])
theorem xm_load {t : TypeId} {x : Operand} {ad : Addr} {u : Value} (ht : t = 23 ∨ t = 24 ∨ t = 3 ∨ t = 31) (ho : o.op = .load t x) (hx : ρ x = .pointer (some ad)) (hc : w.cell? ad = some u) : (execOp ρ o).run Tryd.prog w = .ok (.value u) w := by
  unfold execOp
  rcases ht with rfl | rfl | rfl | rfl <;> (simp only [ho, hx]; simp [go_sem, hc, Tryd.underlying23, Tryd.underlying24, Tryd.underlying3, Tryd.underlying31])
theorem xm_loadB {x : Operand} {g k : Nat} {a b c : Int} (ho : o.op = .load 44 x) (hx : ρ x = .pointer (some ⟨g, k, none⟩)) (h0 : w.cell? ⟨g, k, none⟩ = some (.int .i64 a)) (h1 : w.cell? ⟨g, k + 1, none⟩ = some (.int .i64 b)) (h2 : w.cell? ⟨g, k + 2, none⟩ = some (.int .i64 c)) :
    (execOp ρ o).run Tryd.prog w = .ok (.value (.agg #[.int .i64 a, .int .i64 b, .int .i64 c])) w := by
  unfold execOp
  simp only [ho, hx]
  simp [go_sem, h0, h1, h2]
theorem xm_indexBs {x i : Operand} {g n c k : Nat} (ho : o.op = .indexAddr 23 x i) (hx : ρ x = .slice (some ⟨g, 0, none⟩) n c) (hi : ρ i = .int .i64 (k : Int)) (hk : k < n) : (execOp ρ o).run Tryd.prog w = .ok (.value (.pointer (some ⟨g, k, none⟩))) w := by
  unfold execOp
  have h1 : (0 : Int) ≤ (k : Int) := by omega
  have h2 : (k : Int) < (n : Int) := by omega
  simp only [ho, hx, hi]
  simp [go_sem, Tryd.underlying23, h1, h2, hk]
theorem xm_indexB {x i : Operand} {g n c k : Nat} (ho : o.op = .indexAddr 24 x i) (hx : ρ x = .slice (some ⟨g, 0, none⟩) n c) (hi : ρ i = .int .i64 (k : Int)) (hk : k < n) : (execOp ρ o).run Tryd.prog w = .ok (.value (.pointer (some ⟨g, k * 3, none⟩))) w := by
  unfold execOp
  have h1 : (0 : Int) ≤ (k : Int) := by omega
  have h2 : (k : Int) < (n : Int) := by omega
  simp only [ho, hx, hi]
  simp [go_sem, Tryd.underlying24, h1, h2, hk]
theorem xm_indexI {x i : Operand} {g off n c k : Nat} (ho : o.op = .indexAddr 31 x i) (hx : ρ x = .slice (some ⟨g, off, none⟩) n c) (hi : ρ i = .int .i64 (k : Int)) (hk : k < n) : (execOp ρ o).run Tryd.prog w = .ok (.value (.pointer (some ⟨g, off + k, none⟩))) w := by
  unfold execOp
  have h1 : (0 : Int) ≤ (k : Int) := by omega
  have h2 : (k : Int) < (n : Int) := by omega
  simp only [ho, hx, hi]
  simp [go_sem, Tryd.underlying31, h1, h2, hk]
theorem xm_lit1 {x : Operand} {a b c : Int} (ho : o.op = .buildSlice 24 1 #[(0, x)]) (hx : ρ x = .agg #[.int .i64 a, .int .i64 b, .int .i64 c]) :
    (execOp ρ o).run Tryd.prog w = .ok (.value (.slice (some ⟨w.heap.size, 0, none⟩) 1 1)) (w.alloc (.cells #[.int .i64 a, .int .i64 b, .int .i64 c] 44)) := by
  unfold execOp
  simp only [ho, hx, List.map_toArray, List.map_cons, List.map_nil]
  simp [go_sem, Tryd.underlying24, Tryd.underlying44]
theorem xm_build {x y z : Operand} {a b c : Int} (ho : o.op = .build 44 #[(0, x), (1, y), (2, z)]) (hx : ρ x = .int .i64 a) (hy : ρ y = .int .i64 b) (hz : ρ z = .int .i64 c) : (execOp ρ o).run Tryd.prog w = .ok (.value (.agg #[.int .i64 a, .int .i64 b, .int .i64 c])) w := by
  unfold execOp
  simp only [ho, hx, hy, hz, List.map_toArray, List.map_cons, List.map_nil]
  simp [go_sem]
theorem xm_app {x y : Operand} {t : TypeId} {v xv v' : Value} {w' : World} (ho : o.op = .call { callee := .builtin .append, args := #[x, y], argTypes := #[t, t] }) (hx : ρ x = v) (hy : ρ y = xv) (hr : (Builtin.append_ #[t, t] o.type #[v, xv]).run Tryd.prog w = .ok v' w') :
    (execOp ρ o).run Tryd.prog w = .ok (.value v') w' := by
  unfold execOp
  simp only [ho, resolve, invoke, builtin, Sem.run_bind, Sem.run_pure, Result.andThen_ok, List.map_toArray, List.map_cons, List.map_nil, hx, hy, hr]
theorem xm_store {x y : Operand} {ad : Addr} {u : Value} {aa : Option Addr} {n c : Nat} (ho : o.op = .store 24 x y) (hx : ρ x = .pointer (some ad)) (hy : ρ y = .slice aa n c) (hc : w.cell? ad = some u) (hf : w.frozen? ad = false) : (execOp ρ o).run Tryd.prog w = .ok .skip (w.setCell ad (.slice aa n c)) := by
  unfold execOp
  simp only [ho, hx, hy]
  simp [go_sem, hc, hf]
end
section
variable {ops : Array Oper} {a0 : Act} {l : List (Nat × Value)} {W : Nat → World} {acts : List Nat} {i : Nat} {o : Oper}
theorem pv_fresh {d : Tmp} (hg : o.guard = none) (ho : o.op = .move (.tmp d) ∨ o.op = .assign (.tmp d)) (hf : freshB ops i d = true) (hV : a0.tmps.getD d undef = valV l i) : PureV Tryd.prog ops a0 l W acts i o :=
  ⟨hg, fun a k _ e => by rw [xm_move ho]; rw [show a.eval (.tmp d) = _ from (e.fresh d hf).trans hV]⟩
theorem pv_const {v : Value} (hg : o.guard = none) (ho : o.op = .move (.const v) ∨ o.op = .assign (.const v)) (hV : valV l i = v) : PureV Tryd.prog ops a0 l W acts i o :=
  ⟨hg, fun a k _ e => by rw [xm_move ho, hV]; rfl⟩
theorem pv_same {d : Tmp} {j : Nat} {oj : Oper} (hg : o.guard = none) (ho : o.op = .move (.tmp d) ∨ o.op = .assign (.tmp d)) (hj : ops[j]? = some oj) (hjd : oj.dst = some d) (hdp : depB o j = true) (hV : valV l i = valV l j) : PureV Tryd.prog ops a0 l W acts i o :=
  ⟨hg, fun a k _ e => by rw [xm_move ho, hV]; rw [show a.eval (.tmp d) = _ from e.deps j oj d hj hjd hdp]⟩
theorem pv_field {d : Tmp} {q f : Nat} (hg : o.guard = none) (ho : o.op = .fieldAddr 26 (.tmp d) f) (hk : f < 2) (hf : freshB ops i d = true) (hV : a0.tmps.getD d undef = .pointer (some ⟨q, 0, none⟩)) (hl : valV l i = .pointer (some ⟨q, f, none⟩)) : PureV Tryd.prog ops a0 l W acts i o :=
  ⟨hg, fun a k _ e => by rw [hl]; exact xm_field (ρ := a.eval) ho hk ((e.fresh d hf).trans hV)⟩
theorem pv_load {t : TypeId} {d : Tmp} {j : Nat} {oj : Oper} {ad : Addr} (ht : t = 23 ∨ t = 24 ∨ t = 3 ∨ t = 31) (hg : o.guard = none) (ho : o.op = .load t (.tmp d)) (hj : ops[j]? = some oj) (hjd : oj.dst = some d) (hdp : depB o j = true) (hvj : valV l j = .pointer (some ad))
    (hc : ∀ k, k ≤ limV ops i acts → (W k).cell? ad = some (valV l i)) : PureV Tryd.prog ops a0 l W acts i o :=
  ⟨hg, fun a k hk e => xm_load (ρ := a.eval) ht ho ((e.deps j oj d hj hjd hdp).trans hvj) (hc k hk)⟩
theorem pv_loadB {d : Tmp} {g : Nat} {x y z : Int} (hg : o.guard = none) (ho : o.op = .load 44 (.tmp d)) (hf : freshB ops i d = true) (hV : a0.tmps.getD d undef = .pointer (some ⟨g, 0, none⟩))
    (hr : ∀ k, k ≤ limV ops i acts → Row (W k) g 44 [.int .i64 x, .int .i64 y, .int .i64 z]) (hl : valV l i = .agg #[.int .i64 x, .int .i64 y, .int .i64 z]) : PureV Tryd.prog ops a0 l W acts i o :=
  ⟨hg, fun a k hk e => by
    rw [hl]
    have h := hr k hk
    exact xm_loadB (ρ := a.eval) ho ((e.fresh d hf).trans hV) (h.cell (i := 0) rfl) (h.cell (i := 1) rfl) (h.cell (i := 2) rfl)⟩
theorem pv_loadBAt {d : Tmp} {j : Nat} {oj : Oper} {g q : Nat} {x y z : Int} (hg : o.guard = none) (ho : o.op = .load 44 (.tmp d)) (hj : ops[j]? = some oj) (hjd : oj.dst = some d) (hdp : depB o j = true) (hvj : valV l j = .pointer (some ⟨g, q, none⟩))
    (hr : ∀ k, k ≤ limV ops i acts → (W k).cell? ⟨g, q, none⟩ = some (.int .i64 x) ∧ (W k).cell? ⟨g, q + 1, none⟩ = some (.int .i64 y) ∧ (W k).cell? ⟨g, q + 2, none⟩ = some (.int .i64 z)) (hl : valV l i = .agg #[.int .i64 x, .int .i64 y, .int .i64 z]) : PureV Tryd.prog ops a0 l W acts i o :=
  ⟨hg, fun a k hk e => by
    rw [hl]
    obtain ⟨h0, h1, h2⟩ := hr k hk
    exact xm_loadB (ρ := a.eval) ho ((e.deps j oj d hj hjd hdp).trans hvj) h0 h1 h2⟩
theorem pv_indexBs {d e' : Tmp} {j j' : Nat} {oj oj' : Oper} {g n c q : Nat} (hg : o.guard = none) (ho : o.op = .indexAddr 23 (.tmp d) (.tmp e')) (hj : ops[j]? = some oj) (hjd : oj.dst = some d) (hdp : depB o j = true) (hj' : ops[j']? = some oj') (hjd' : oj'.dst = some e') (hdp' : depB o j' = true)
    (hv : valV l j = .slice (some ⟨g, 0, none⟩) n c) (hv' : valV l j' = .int .i64 (q : Int)) (hq : q < n) (hl : valV l i = .pointer (some ⟨g, q, none⟩)) : PureV Tryd.prog ops a0 l W acts i o :=
  ⟨hg, fun a k _ e => by rw [hl]; exact xm_indexBs (ρ := a.eval) ho ((e.deps j oj d hj hjd hdp).trans hv) ((e.deps j' oj' e' hj' hjd' hdp').trans hv') hq⟩
theorem pv_indexB {d e' : Tmp} {j j' : Nat} {oj oj' : Oper} {g n c q : Nat} (hg : o.guard = none) (ho : o.op = .indexAddr 24 (.tmp d) (.tmp e')) (hj : ops[j]? = some oj) (hjd : oj.dst = some d) (hdp : depB o j = true) (hj' : ops[j']? = some oj') (hjd' : oj'.dst = some e') (hdp' : depB o j' = true)
    (hv : valV l j = .slice (some ⟨g, 0, none⟩) n c) (hv' : valV l j' = .int .i64 (q : Int)) (hq : q < n) (hl : valV l i = .pointer (some ⟨g, q * 3, none⟩)) : PureV Tryd.prog ops a0 l W acts i o :=
  ⟨hg, fun a k _ e => by rw [hl]; exact xm_indexB (ρ := a.eval) ho ((e.deps j oj d hj hjd hdp).trans hv) ((e.deps j' oj' e' hj' hjd' hdp').trans hv') hq⟩
theorem pv_indexI {d e' : Tmp} {j j' : Nat} {oj oj' : Oper} {g off n c q : Nat} (hg : o.guard = none) (ho : o.op = .indexAddr 31 (.tmp d) (.tmp e')) (hj : ops[j]? = some oj) (hjd : oj.dst = some d) (hdp : depB o j = true) (hj' : ops[j']? = some oj') (hjd' : oj'.dst = some e') (hdp' : depB o j' = true)
    (hv : valV l j = .slice (some ⟨g, off, none⟩) n c) (hv' : valV l j' = .int .i64 (q : Int)) (hq : q < n) (hl : valV l i = .pointer (some ⟨g, off + q, none⟩)) : PureV Tryd.prog ops a0 l W acts i o :=
  ⟨hg, fun a k _ e => by rw [hl]; exact xm_indexI (ρ := a.eval) ho ((e.deps j oj d hj hjd hdp).trans hv) ((e.deps j' oj' e' hj' hjd' hdp').trans hv') hq⟩
theorem pv_build {d e' f' : Tmp} {j j' j2 : Nat} {oj oj' oj2 : Oper} {x y z : Int} (hg : o.guard = none) (ho : o.op = .build 44 #[(0, .tmp d), (1, .tmp e'), (2, .tmp f')]) (hj : ops[j]? = some oj) (hjd : oj.dst = some d) (hdp : depB o j = true) (hj' : ops[j']? = some oj') (hjd' : oj'.dst = some e') (hdp' : depB o j' = true)
    (hj2 : ops[j2]? = some oj2) (hjd2 : oj2.dst = some f') (hdp2 : depB o j2 = true) (hx : valV l j = .int .i64 x) (hy : valV l j' = .int .i64 y) (hz : valV l j2 = .int .i64 z) (hl : valV l i = .agg #[.int .i64 x, .int .i64 y, .int .i64 z]) : PureV Tryd.prog ops a0 l W acts i o :=
  ⟨hg, fun a k _ e => by rw [hl]; exact xm_build (ρ := a.eval) ho ((e.deps j oj d hj hjd hdp).trans hx) ((e.deps j' oj' e' hj' hjd' hdp').trans hy) ((e.deps j2 oj2 f' hj2 hjd2 hdp2).trans hz)⟩
theorem av_lit1 {m : Nat} {d : Tmp} {j : Nat} {oj : Oper} {x y z : Int} (hg : o.guard = none) (ho : o.op = .buildSlice 24 1 #[(0, .tmp d)]) (hj : ops[j]? = some oj) (hjd : oj.dst = some d) (hdp : depB o j = true) (hv : valV l j = .agg #[.int .i64 x, .int .i64 y, .int .i64 z])
    (hl : valV l i = .slice (some ⟨(W m).heap.size, 0, none⟩) 1 1) (hW : W (m + 1) = (W m).alloc (.cells #[.int .i64 x, .int .i64 y, .int .i64 z] 44)) : ActV Tryd.prog ops a0 l W m i o :=
  ⟨hg, fun a e => by rw [hl, hW]; exact xm_lit1 (ρ := a.eval) ho ((e.deps j oj d hj hjd hdp).trans hv)⟩
theorem av_app {m : Nat} {t : TypeId} {d e' : Tmp} {j j' : Nat} {oj oj' : Oper} (hg : o.guard = none) (ho : o.op = .call { callee := .builtin .append, args := #[.tmp d, .tmp e'], argTypes := #[t, t] }) (hj : ops[j]? = some oj) (hjd : oj.dst = some d) (hdp : depB o j = true) (hj' : ops[j']? = some oj') (hjd' : oj'.dst = some e') (hdp' : depB o j' = true)
    (hr : (Builtin.append_ #[t, t] o.type #[valV l j, valV l j']).run Tryd.prog (W m) = .ok (valV l i) (W (m + 1))) : ActV Tryd.prog ops a0 l W m i o :=
  ⟨hg, fun a e => xm_app (ρ := a.eval) ho (e.deps j oj d hj hjd hdp) (e.deps j' oj' e' hj' hjd' hdp') hr⟩
theorem lv_store {wl : World} {d e' : Tmp} {j j' : Nat} {oj oj' : Oper} {ad : Addr} {u : Value} {aa : Option Addr} {n c : Nat} (hg : o.guard = none) (ho : o.op = .store 24 (.tmp d) (.tmp e')) (hj : ops[j]? = some oj) (hjd : oj.dst = some d) (hdp : depB o j = true) (hj' : ops[j']? = some oj') (hjd' : oj'.dst = some e') (hdp' : depB o j' = true)
    (hv : valV l j = .pointer (some ad)) (hv' : valV l j' = .slice aa n c) (hc : (W acts.length).cell? ad = some u) (hf : (W acts.length).frozen? ad = false) (hwl : wl = (W acts.length).setCell ad (.slice aa n c)) : LastV Tryd.prog ops a0 l W acts.length wl i o :=
  ⟨hg, fun a e => by rw [hwl]; exact xm_store (ρ := a.eval) ho ((e.deps j oj d hj hjd hdp).trans hv) ((e.deps j' oj' e' hj' hjd' hdp').trans hv') hc hf⟩
end
end Go.Proofs.YtpkcgpgcoafmhaaDoor
