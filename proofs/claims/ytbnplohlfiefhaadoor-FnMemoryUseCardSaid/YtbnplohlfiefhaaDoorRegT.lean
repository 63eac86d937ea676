/- regions in which the reader is called and a memory is stored into the result's box -/
import Derived.Test.YtbnplohlfiefhaaDoorRegS
import Derived.Test.YtbnplohlfiefhaaDoorMemDraw
namespace Go.Proofs.YtbnplohlfiefhaaDoor
open Go.RowKit
theorem Gr.gr2 {R T : Nat} {w w' : World} {base e sz v n cs} (h : Gr w base e sz v n cs) (hg : Gr2 R T w w') (hR : R < base) (hT : T < base) : Gr w' base e sz v n cs := by
  rcases h with ⟨h1, ⟨h2, h3⟩ | ⟨g, cap, cur, hv, hB, hgg, hc, hm, hs, ht⟩⟩ | h
  · exact .inl ⟨h1, .inl ⟨h2, h3⟩⟩
  · refine .inl ⟨h1, .inr ⟨g, cap, cur, hv, hB, ?_, hc, hm, hs, ht⟩⟩
    rw [hg.block g (Array.getElem?_eq_some_iff.1 hgg).1 (by omega) (by omega)]
    exact hgg
  · exact .inr h
theorem Fam.gr2 {R T : Nat} {w w' : World} {B N : Nat} {vs : Nat → Value} {ls : Nat → List (Int × Int × Int)} (h : Fam w B N vs ls) (hg : Gr2 R T w w') (hR : R < B) (hT : T < B) : Fam w' B N vs ls := fun i hi => ⟨(h i hi).1.gr2 hg hR hT, (h i hi).2⟩
theorem MemK.gr2 {R T : Nat} {w w' : World} {B n : Nat} {v : Value} {f : Nat → List (Int × Int × Int)} {st : List (Int × Int × Int)} (h : MemK w B v n f st) (hg : Gr2 R T w w') (hR : R < B) (hT : T < B) : MemK w' B v n f st := by
  rcases h with ⟨ls, ⟨bv, vs, rfl, h1, h2⟩, rfl, rfl⟩ | ⟨gb, cb, vs, ls, rfl, rfl, rfl, rfl, h1, h2⟩
  · exact .inl ⟨ls, ⟨bv, vs, rfl, h1.gr2 hg hR hT, h2.gr2 hg hR hT⟩, rfl, rfl⟩
  · exact .inr ⟨gb, cb, vs, ls, rfl, rfl, rfl, rfl, h1.gr2 hg hR hT, h2.gr2 hg hR hT⟩
section
variable {ρ : Operand → Value} {w : World} {o : Oper}
theorem xt_loadM {x : Operand} {g : Nat} {a b : Value} (ho : o.op = .load 29 x) (hx : ρ x = .pointer (some ⟨g, 0, none⟩)) (hr : Row w g 29 [a, b]) : (execOp ρ o).run Tryd.prog w = .ok (.value (.agg #[a, b])) w := by
  have h0 := hr.cell (i := 0) rfl
  have h1 := hr.cell (i := 1) rfl
  unfold execOp
  simp only [ho, hx]
  simp [go_sem, h0, h1]
theorem xt_storeM {x y : Operand} {q : Nat} {a c : Option Addr} {n k m l : Nat} {u v : Value} (ho : o.op = .store 29 x y) (hx : ρ x = .pointer (some ⟨q, 0, none⟩)) (hy : ρ y = .agg #[.slice a n k, .slice c m l]) (hr : Row w q 29 [u, v]) :
    (execOp ρ o).run Tryd.prog w = .ok .skip ((w.setCell ⟨q, 0, none⟩ (.slice a n k)).setCell ⟨q, 1, none⟩ (.slice c m l)) := by
  have k0 := hr.cell (i := 0) rfl
  have k1 := hr.cell (i := 1) rfl
  have f0 := hr.free 0
  have f1 := hr.free 1
  unfold execOp
  simp only [ho, hx, hy]
  simp [go_sem, k0, k1, f0, f1]
theorem xt_eql {x y : Operand} {p q : Int} {t u : TypeId} (ho : o.op = .binOp .eql 3 x y u) (hx : ρ x = .int .i64 p) (hy : ρ y = .int .i64 q) : (execOp ρ o).run Tryd.prog w = .ok (.value (.bool (p == q))) w := by
  unfold execOp
  simp only [ho, hx, hy]
  simp [go_sem, Tryd.underlying3]
theorem xt_quo {x : Operand} {p : Nat} {u : TypeId} (ho : o.op = .binOp .quo 3 x (.const (.int .i64 13)) u) (hx : ρ x = .int .i64 (p : Int)) (hc : ρ (.const (.int .i64 13)) = .int .i64 13) (hp : p < 14) : (execOp ρ o).run Tryd.prog w = .ok (.value (.int .i64 ((p / 13 : Nat) : Int))) w := by
  unfold execOp
  have z0 : IntKind.i64.wrap 0 = 0 := IntWalk.i64_in 0 ⟨by omega, by omega⟩
  have z1 : IntKind.i64.wrap 1 = 1 := IntWalk.i64_in 1 ⟨by omega, by omega⟩
  simp only [ho, hx, hc]
  have : p = 0 ∨ p = 1 ∨ p = 2 ∨ p = 3 ∨ p = 4 ∨ p = 5 ∨ p = 6 ∨ p = 7 ∨ p = 8 ∨ p = 9 ∨ p = 10 ∨ p = 11 ∨ p = 12 ∨ p = 13 := by omega
  rcases this with rfl | rfl | rfl | rfl | rfl | rfl | rfl | rfl | rfl | rfl | rfl | rfl | rfl | rfl <;> simp [go_sem, Tryd.underlying3, z0, z1]
end
def BoxAtM (T : Nat) (w : World) : Prop := ∃ u v, Row w T 29 [u, v]
def BoxIsM (T : Nat) (u v : Value) (w : World) : Prop := Row w T 29 [u, v]
theorem keep_atM {R T : Nat} (h : T ≠ R) : KeepR R (BoxAtM T) := fun _ _ hg ⟨u, v, hr⟩ => ⟨u, v, hr.grown hg (some_ne (fun e => h e.symm))⟩
theorem keep_isM {R T : Nat} (h : T ≠ R) (u v : Value) : KeepR R (BoxIsM T u v) := fun _ _ hg hr => Row.grown hr hg (some_ne (fun e => h e.symm))
section
variable {ops : Array Oper} {Q : Exit → Act → World → Prop} {a0 : Act} {φ : Nat → Value → World → Prop} {R T : Nat} {v : Value} {bs : List Int} {p0 : Nat} {w0 : World} {i : Nat} {o : Oper}
theorem op2_boxM {d e : Tmp} {j : Nat} {oj : Oper} {a c : Option Addr} {n k m l : Nat} (hRT : R ≠ T) (hv : 0 < bs.length → ∀ g, v.ownBlock = some g → g ≠ T) (hg : o.guard = none) (hd : o.dst = none) (ho : o.op = .store 29 (.tmp d) (.tmp e))
    (hf : freshB ops i d = true) (hV : a0.tmps.getD d undef = .pointer (some ⟨T, 0, none⟩)) (hj : ops[j]? = some oj) (hjd : oj.dst = some e) (hdp : depB o j = true) (hφj : φ j = IsV (.agg #[.slice a n k, .slice c m l])) (hφ : φ i = IsSt (BoxIsM T (.slice a n k) (.slice c m l))) :
    OpOk Tryd.prog ops Q a0 φ (RdI2 R T (BoxAtM T) v bs p0 w0) (Rel2 R T (BoxIsM T (.slice a n k) (.slice c m l))) i o :=
  op2_store hg hd hφ fun a' w hJ _ h => by
    obtain ⟨u', v', hr⟩ := hJ
    have h1 := h.1 j oj e hj hjd hdp
    rw [hφj] at h1
    have h2 := (h.2 d hf).trans hV
    have hrow : Row ((w.setCell ⟨T, 0, none⟩ (.slice a n k)).setCell ⟨T, 1, none⟩ (.slice c m l)) T 29 [.slice a n k, .slice c m l] := (hr.set 0 _).set 1 _
    exact ⟨_, xt_storeM (ρ := a'.eval) ho (show a'.eval (.tmp d) = _ from h2) (show a'.eval (.tmp e) = _ from h1) hr, hrow, (Gr2.set w 0 _).trans (Gr2.set _ 1 _), ⟨_, _, hrow⟩, fun p hp => (hp.setOther 0 _ hRT hv).setOther 1 _ hRT hv⟩
end
end Go.Proofs.YtbnplohlfiefhaaDoor
