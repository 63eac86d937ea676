/- more operations with values known ahead: equality, the first part of '||' counts -/
import Derived.Test.YtbnplohlfiefhaaDoorRegD
namespace Go.Proofs.YtbnplohlfiefhaaDoor
open Go.RowKit
section
variable {ρ : Operand → Value} {w : World} {o : Oper}
theorem xe_eql {x y : Operand} {p q : Int} {u : TypeId} (ho : o.op = .binOp .eql 3 x y u) (hx : ρ x = .int .i64 p) (hy : ρ y = .int .i64 q) : (execOp ρ o).run Tryd.prog w = .ok (.value (.bool (p == q))) w := by
  unfold execOp
  simp only [ho, hx, hy]
  simp [go_sem, Tryd.underlying3]
end
section
variable {ops : Array Oper} {Q : Exit → Act → World → Prop} {a0 : Act} {l : List (Nat × Value)} {J : World → Prop} {i : Nat} {o : Oper}
theorem cv_eql {u : TypeId} {d e' : Tmp} {j j' : Nat} {oj oj' : Oper} {p q : Int} {b : Bool} (hg : MetV ops l o) (ho : o.op = .binOp .eql 3 (.tmp d) (.tmp e') u) (hj : ops[j]? = some oj) (hjd : oj.dst = some d) (hdp : depB o j = true) (hj' : ops[j']? = some oj') (hjd' : oj'.dst = some e') (hdp' : depB o j' = true)
    (hv : valV l j = .int .i64 p) (hv' : valV l j' = .int .i64 q) (hb : (p == q) = b) (hl : valV l i = .bool b) : ConstV Tryd.prog ops Q a0 l J i o :=
  cv_run hg fun a w _ e => by rw [hl, ← hb]; exact xe_eql (ρ := a.eval) ho ((e.deps j oj d hj hjd hdp).trans hv) ((e.deps j' oj' e' hj' hjd' hdp').trans hv')
/-- the first part of '||' counts -/
theorem cv_pickT {d : Tmp} {v : Value} {y : Operand} {j : Nat} {oj : Oper} (hg : MetV ops l o) (ho : o.op = .pick (.tmp d) (.const v) y) (hj : ops[j]? = some oj) (hjd : oj.dst = some d) (hdp : depB o j = true) (hv : valV l j = .bool true) (hl : valV l i = v) : ConstV Tryd.prog ops Q a0 l J i o :=
  cv_run hg fun a w _ e => by rw [hl, xc_pick (ρ := a.eval) ho ((e.deps j oj d hj hjd hdp).trans hv), if_pos rfl]; rfl
end
end Go.Proofs.YtbnplohlfiefhaaDoor
