/- copies of tables: of the program and of the specification -/
import Derived.Test.YtajgghifamebkaaDoorTabO
import Derived.Test.YtajgghifamebkaaDoorRegB
import Derived.Deep.RegionLaw
namespace Go.Proofs.YtajgghifamebkaaDoor
set_option linter.unusedSimpArgs false
set_option linter.unusedVariables false
open Go.RowKit
section
variable {ρ : Operand → Value} {w : World} {o : Oper}
theorem xt_field {x : Operand} {q k : Nat} (ho : o.op = .fieldAddr 26 x k) (hk : k < 2) (hx : ρ x = .pointer (some ⟨q, 0, none⟩)) : (execOp ρ o).run Tryd.prog w = .ok (.value (.pointer (some ⟨q, k, none⟩))) w := by
  have : k = 0 ∨ k = 1 := by omega
  unfold execOp
  rcases this with rfl | rfl <;> (simp only [ho, hx]; simp [go_sem])
theorem xt_load {t : TypeId} {x : Operand} {ad : Addr} {u : Value} (ht : t = 23 ∨ t = 24) (ho : o.op = .load t x) (hx : ρ x = .pointer (some ad)) (hc : w.cell? ad = some u) : (execOp ρ o).run Tryd.prog w = .ok (.value u) w := by
  unfold execOp
  simp only [ho, hx]
  rcases ht with rfl | rfl
  · simp [go_sem, hc, Tryd.underlying23]
  · simp [go_sem, hc, Tryd.underlying24]
theorem xt_build {x y : Operand} {ad ad2 : Option Addr} {n c n2 c2 : Nat} (ho : o.op = .build 26 #[(0, x), (1, y)]) (hx : ρ x = .slice ad n c) (hy : ρ y = .slice ad2 n2 c2) : (execOp ρ o).run Tryd.prog w = .ok (.value (.agg #[.slice ad n c, .slice ad2 n2 c2])) w := by
  unfold execOp
  simp only [ho, List.map_toArray, List.map_cons, List.map_nil, hx, hy]
  simp [go_sem]
theorem xt_store {x y : Operand} {q : Nat} {ad ad2 : Option Addr} {n c n2 c2 : Nat} {a b : Value} (ho : o.op = .store 26 x y) (hx : ρ x = .pointer (some ⟨q, 0, none⟩)) (hy : ρ y = .agg #[.slice ad n c, .slice ad2 n2 c2]) (hr : Row w q 26 [a, b]) :
    (execOp ρ o).run Tryd.prog w = .ok .skip ((w.setCell ⟨q, 0, none⟩ (.slice ad n c)).setCell ⟨q, 1, none⟩ (.slice ad2 n2 c2)) := by
  have k0 : w.cell? ⟨q, 0, none⟩ = some a := hr.cell rfl
  have k1 : w.cell? ⟨q, 1, none⟩ = some b := hr.cell rfl
  have f0 := hr.free 0
  have f1 := hr.free 1
  unfold execOp
  simp only [ho, hx, hy]
  simp [go_sem, k0, k1, f0, f1]
end
end Go.Proofs.YtajgghifamebkaaDoor
