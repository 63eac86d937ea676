/- a region that draws its order and calls the reader (and draws that read many numbers) beside written lists; tables in it -/
import Derived.Test.YtajgghifamebkaaDoorReg
import Derived.Test.YtajgghifamebkaaDoorPick
namespace Go.Proofs.YtajgghifamebkaaDoor
set_option linter.unusedSimpArgs false
set_option linter.unusedVariables false
open Go.RowKit
section
variable {ρ : Operand → Value} {w : World} {o : Oper}
theorem x_move {P : Program} {x : Operand} (ho : o.op = .move x ∨ o.op = .assign x) : (execOp ρ o).run P w = .ok (.value (ρ x)) w := by
  rcases ho with ho | ho <;> (unfold execOp; simp only [ho]; rfl)
theorem x_load {x : Operand} {ad : Addr} {y : Int} (ho : o.op = .load 3 x) (hx : ρ x = .pointer (some ad)) (hc : w.cell? ad = some (.int .i64 y)) : (execOp ρ o).run Tryd.prog w = .ok (.value (.int .i64 y)) w := by
  unfold execOp
  simp only [ho, hx]
  simp [go_sem, hc, Tryd.underlying3]
theorem x_index {x i : Operand} {g n c k : Nat} (ho : o.op = .indexAddr 38 x i) (hx : ρ x = .slice (some ⟨g, 0, none⟩) n c) (hi : ρ i = .int .i64 (k : Int)) (hk : k < n) : (execOp ρ o).run Tryd.prog w = .ok (.value (.pointer (some ⟨g, k, none⟩))) w := by
  unfold execOp
  have h1 : (0 : Int) ≤ (k : Int) := by omega
  have h2 : (k : Int) < (n : Int) := by omega
  simp only [ho, hx, hi]
  simp [go_sem, Tryd.underlying38, h1, h2, hk]
theorem x_pick {x y : Operand} {n : Int} {R : Nat} {ts : Array TypeId} (ho : o.op = .call { callee := .value (.func 26), args := #[x, y], argTypes := ts }) (hx : ρ x = .pointer (some ⟨R, 0, none⟩)) (hy : ρ y = .int .i64 n) (hf : ρ (.func 26) = .func (.func 26) #[] #[]) :
    (execOp ρ o).run Tryd.prog w = .ok (.enter 26 #[.pointer (some ⟨R, 0, none⟩), .int .i64 n]) w := by
  unfold execOp
  simp only [ho, resolve, hx, hy, hf, List.map_toArray, List.map_cons, List.map_nil]
  simp [invoke, go_sem, Tryd.func26]

theorem x_lit2 {x0 x1 : Operand} {y0 y1 : Int} (ho : o.op = .buildSlice 38 2 #[(0, x0), (1, x1)]) (h0 : ρ x0 = .int .i64 y0) (h1 : ρ x1 = .int .i64 y1) :
    (execOp ρ o).run Tryd.prog w = .ok (.value (.slice (some ⟨w.heap.size, 0, none⟩) 2 2)) (w.alloc (.cells (ints [y0, y1]).toArray 3)) := by
  unfold execOp
  simp only [ho, h0, h1, List.map_toArray, List.map_cons, List.map_nil]
  simp [go_sem, Tryd.underlying38, Tryd.underlying3, ints]
theorem x_lit3 {x0 x1 x2 : Operand} {y0 y1 y2 : Int} (ho : o.op = .buildSlice 38 3 #[(0, x0), (1, x1), (2, x2)]) (h0 : ρ x0 = .int .i64 y0) (h1 : ρ x1 = .int .i64 y1) (h2 : ρ x2 = .int .i64 y2) :
    (execOp ρ o).run Tryd.prog w = .ok (.value (.slice (some ⟨w.heap.size, 0, none⟩) 3 3)) (w.alloc (.cells (ints [y0, y1, y2]).toArray 3)) := by
  unfold execOp
  simp only [ho, h0, h1, h2, List.map_toArray, List.map_cons, List.map_nil]
  simp [go_sem, Tryd.underlying38, Tryd.underlying3, ints]
theorem x_lit4 {x0 x1 x2 x3 : Operand} {y0 y1 y2 y3 : Int} (ho : o.op = .buildSlice 38 4 #[(0, x0), (1, x1), (2, x2), (3, x3)]) (h0 : ρ x0 = .int .i64 y0) (h1 : ρ x1 = .int .i64 y1) (h2 : ρ x2 = .int .i64 y2) (h3 : ρ x3 = .int .i64 y3) :
    (execOp ρ o).run Tryd.prog w = .ok (.value (.slice (some ⟨w.heap.size, 0, none⟩) 4 4)) (w.alloc (.cells (ints [y0, y1, y2, y3]).toArray 3)) := by
  unfold execOp
  simp only [ho, h0, h1, h2, h3, List.map_toArray, List.map_cons, List.map_nil]
  simp [go_sem, Tryd.underlying38, Tryd.underlying3, ints]
theorem x_lit5 {x0 x1 x2 x3 x4 : Operand} {y0 y1 y2 y3 y4 : Int} (ho : o.op = .buildSlice 38 5 #[(0, x0), (1, x1), (2, x2), (3, x3), (4, x4)]) (h0 : ρ x0 = .int .i64 y0) (h1 : ρ x1 = .int .i64 y1) (h2 : ρ x2 = .int .i64 y2) (h3 : ρ x3 = .int .i64 y3) (h4 : ρ x4 = .int .i64 y4) :
    (execOp ρ o).run Tryd.prog w = .ok (.value (.slice (some ⟨w.heap.size, 0, none⟩) 5 5)) (w.alloc (.cells (ints [y0, y1, y2, y3, y4]).toArray 3)) := by
  unfold execOp
  simp only [ho, h0, h1, h2, h3, h4, List.map_toArray, List.map_cons, List.map_nil]
  simp [go_sem, Tryd.underlying38, Tryd.underlying3, ints]
theorem x_lit7 {x0 x1 x2 x3 x4 x5 x6 : Operand} {y0 y1 y2 y3 y4 y5 y6 : Int} (ho : o.op = .buildSlice 38 7 #[(0, x0), (1, x1), (2, x2), (3, x3), (4, x4), (5, x5), (6, x6)]) (h0 : ρ x0 = .int .i64 y0) (h1 : ρ x1 = .int .i64 y1) (h2 : ρ x2 = .int .i64 y2) (h3 : ρ x3 = .int .i64 y3) (h4 : ρ x4 = .int .i64 y4) (h5 : ρ x5 = .int .i64 y5) (h6 : ρ x6 = .int .i64 y6) :
    (execOp ρ o).run Tryd.prog w = .ok (.value (.slice (some ⟨w.heap.size, 0, none⟩) 7 7)) (w.alloc (.cells (ints [y0, y1, y2, y3, y4, y5, y6]).toArray 3)) := by
  unfold execOp
  simp only [ho, h0, h1, h2, h3, h4, h5, h6, List.map_toArray, List.map_cons, List.map_nil]
  simp [go_sem, Tryd.underlying38, Tryd.underlying3, ints]
theorem x_add {x y : Operand} {p q : Int} {t u : TypeId} (ho : o.op = .binOp .add t x y u) (ht : Tryd.prog.underlying t = some (.int .i64)) (hx : ρ x = .int .i64 p) (hy : ρ y = .int .i64 q) (h1 : -9223372036854775808 ≤ p + q) (h2 : p + q ≤ 9223372036854775807) :
    (execOp ρ o).run Tryd.prog w = .ok (.value (.int .i64 (p + q))) w := by
  unfold execOp
  simp only [ho, hx, hy]
  have := IntWalk.i64_in (p + q) ⟨h1, h2⟩
  simp [go_sem, ht, this]
theorem x_mul {x y : Operand} {p q : Int} {t u : TypeId} (ho : o.op = .binOp .mul t x y u) (ht : Tryd.prog.underlying t = some (.int .i64)) (hx : ρ x = .int .i64 p) (hy : ρ y = .int .i64 q) (h1 : -9223372036854775808 ≤ p * q) (h2 : p * q ≤ 9223372036854775807) :
    (execOp ρ o).run Tryd.prog w = .ok (.value (.int .i64 (p * q))) w := by
  unfold execOp
  simp only [ho, hx, hy]
  have := IntWalk.i64_in (p * q) ⟨h1, h2⟩
  simp [go_sem, ht, this]
end
def IsV (V : Value) (v : Value) (_ : World) : Prop := v = V
def IsNat (n : Nat) (v : Value) (_ : World) : Prop := ∃ x : Nat, v = .int .i64 x ∧ x < n
def IsP (P : Int → Prop) (v : Value) (_ : World) : Prop := ∃ x : Int, v = .int .i64 x ∧ P x
def LitP (R n : Nat) (P : Int → Prop) (v : Value) (w : World) : Prop := ∃ (g : Nat) (l : List Int), v = .slice (some ⟨g, 0, none⟩) n n ∧ l.length = n ∧ g ≠ R ∧ Row w g 3 (ints l) ∧ ∀ x ∈ l, P x
def ElemP (R : Nat) (P : Int → Prop) (v : Value) (w : World) : Prop := ∃ (ad : Addr) (y : Int), v = .pointer (some ad) ∧ ad.block ≠ R ∧ w.cell? ad = some (.int .i64 y) ∧ P y
def Stab (R : Nat) (ψ : Value → World → Prop) : Prop := ∀ v w w', ψ v w → w.grownBy w' (some R) → ψ v w'
theorem stab_v (R : Nat) (V : Value) : Stab R (IsV V) := fun _ _ _ h _ => h
theorem stab_n (R n : Nat) : Stab R (IsNat n) := fun _ _ _ h _ => h
theorem stab_p (R : Nat) (P : Int → Prop) : Stab R (IsP P) := fun _ _ _ h _ => h
theorem stab_l (R n : Nat) (P : Int → Prop) : Stab R (LitP R n P) := fun _ _ _ ⟨g, l, h1, h2, h3, h4, h5⟩ hg => ⟨g, l, h1, h2, h3, h4.grown hg (some_ne (fun e => h3 e.symm)), h5⟩
theorem stab_e (R : Nat) (P : Int → Prop) : Stab R (ElemP R P) := fun _ _ _ ⟨ad, y, h1, h2, h3, h4⟩ hg => ⟨ad, y, h1, h2, hg.cell h3 (fun e => h2 (Option.some.inj e)), h4⟩
def AllStab (R : Nat) : List (Value → World → Prop) → Prop
  | [] => True
  | ψ :: l => Stab R ψ ∧ AllStab R l
def phi (l : List (Value → World → Prop)) (i : Nat) : Value → World → Prop := l.getD i (fun _ _ => True)
theorem phi_stab {R : Nat} : ∀ {l : List (Value → World → Prop)}, AllStab R l → ∀ j, Stab R (phi l j)
  | [], _, j => fun _ _ _ _ _ => by simp [phi]
  | ψ :: l, h, 0 => h.1
  | ψ :: l, h, j + 1 => phi_stab (l := l) h.2 j
/-- the reader, c operations on -/
def RdI (R : Nat) (v : Value) (bs : List Int) (p0 : Nat) (w0 : World) (c : Nat) (w : World) : Prop := (∃ p : Nat, p0 ≤ p ∧ p ≤ p0 + 400 * c ∧ Rd w R v bs ((p : Nat) : Int)) ∧ w0.grownBy w (some R)
def RelR (R : Nat) (w w' : World) : Prop := w.grownBy w' (some R)
section
variable {ops : Array Oper} {Q : Exit → Act → World → Prop} {a0 : Act} {φ : Nat → Value → World → Prop} {R : Nat} {v : Value} {bs : List Int} {p0 : Nat} {w0 : World} {i : Nat} {o : Oper}
theorem RdI.step {c : Nat} {w : World} (h : RdI R v bs p0 w0 c w) : RdI R v bs p0 w0 (c + 1) w := by
  obtain ⟨⟨p, h1, h2, h3⟩, h4⟩ := h
  exact ⟨⟨p, h1, by omega, h3⟩, h4⟩
theorem grown_alloc (w : World) (b : Option Nat) (ob : Obj) : w.grownBy (w.alloc ob) b := grown_below (grown_refl w b) ((Below.refl _ _).alloc (Nat.le_refl _) ob)
theorem RdI.alloc {c : Nat} {w : World} (h : RdI R v bs p0 w0 c w) (ob : Obj) : RdI R v bs p0 w0 (c + 1) (w.alloc ob) := by
  obtain ⟨⟨p, h1, h2, h3⟩, h4⟩ := h
  exact ⟨⟨p, h1, by omega, h3.below ((Below.refl _ _).alloc (Nat.le_refl _) ob) h3.low.1 h3.low.2⟩, grown_trans h4 (grown_alloc w _ ob)⟩
/-- what an operation may lean on -/
def Leans (ops : Array Oper) (a0 : Act) (φ : Nat → Value → World → Prop) (i : Nat) (o : Oper) (a : Act) (w : World) : Prop :=
  (∀ j oj d, ops[j]? = some oj → oj.dst = some d → depB o j = true → φ j (a.tmps.getD d undef) w) ∧ ∀ d, freshB ops i d = true → a.tmps.getD d undef = a0.tmps.getD d undef
theorem op_run (hg : o.guard = none) (h : ∀ a w, Leans ops a0 φ i o a w → ∃ x, (execOp a.eval o).run Tryd.prog w = .ok (.value x) w ∧ φ i x w) : OpOk Tryd.prog ops Q a0 φ (RdI R v bs p0 w0) (RelR R) i o := by
  intro c a w _ _ _ hI hd hf K hK
  obtain ⟨x, hr, hx⟩ := h a w ⟨hd, hf⟩
  rw [if_pos (by simp [Region.wanted, hg])]
  unfold Oper.wp
  rw [hr]
  exact hK x w hx (grown_refl _ _) hI.step
theorem op_alloc (hg : o.guard = none) (h : ∀ a w, R < w.heap.size → Leans ops a0 φ i o a w → ∃ x ob, (execOp a.eval o).run Tryd.prog w = .ok (.value x) (w.alloc ob) ∧ φ i x (w.alloc ob)) : OpOk Tryd.prog ops Q a0 φ (RdI R v bs p0 w0) (RelR R) i o := by
  intro c a w _ _ _ hI hd hf K hK
  have hlow : R < w.heap.size := by obtain ⟨⟨p, _, _, h3⟩, _⟩ := hI; exact h3.low.1
  obtain ⟨x, ob, hr, hx⟩ := h a w hlow ⟨hd, hf⟩
  rw [if_pos (by simp [Region.wanted, hg])]
  unfold Oper.wp
  rw [hr]
  exact hK x _ hx (grown_alloc _ _ _) (hI.alloc ob)
theorem op_pick {d : Tmp} {n : Nat} {ts : Array TypeId} {j : Nat} {oj : Oper} (hg : o.guard = none) (ho : o.op = .call { callee := .value (.func 26), args := #[.tmp d, .const (.int .i64 (n : Int))], argTypes := ts })
    (hj : ops[j]? = some oj) (hjd : oj.dst = some d) (hdp : depB o j = true) (hφj : φ j = IsV (.pointer (some ⟨R, 0, none⟩))) (hφ : φ i = IsNat n) (hn : 0 < n) (hp : p0 + 400 * ops.size ≤ 1000000000) : OpOk Tryd.prog ops Q a0 φ (RdI R v bs p0 w0) (RelR R) i o := by
  intro c a w hc _ _ hI hd hf K hK
  obtain ⟨⟨p, h1, h2, h3⟩, h4⟩ := hI
  have hv := hd j oj d hj hjd hdp
  rw [hφj] at hv
  rw [if_pos (by simp [Region.wanted, hg])]
  unfold Oper.wp
  rw [x_pick (ρ := a.eval) (w := w) ho (show a.eval (.tmp d) = _ from hv) rfl rfl]
  refine (pick_nat R v bs n p w h3 (by omega) hn).mono ?_
  rintro e w' ⟨x, rfl, hx, hr, hgr⟩
  exact hK _ _ (by rw [hφ]; exact ⟨x, rfl, hx⟩) hgr ⟨⟨p + 1, by omega, by omega, hr⟩, grown_trans h4 hgr⟩
theorem op_fresh {d : Tmp} {V : Value} (hg : o.guard = none) (ho : o.op = .move (.tmp d) ∨ o.op = .assign (.tmp d)) (hf : freshB ops i d = true) (hV : a0.tmps.getD d undef = V) (hφ : φ i = IsV V) : OpOk Tryd.prog ops Q a0 φ (RdI R v bs p0 w0) (RelR R) i o :=
  op_run hg fun a w h => ⟨_, x_move ho, by rw [hφ]; exact (h.2 d hf).trans hV⟩
theorem op_same {d : Tmp} {j : Nat} {oj : Oper} (hg : o.guard = none) (ho : o.op = .move (.tmp d) ∨ o.op = .assign (.tmp d)) (hj : ops[j]? = some oj) (hjd : oj.dst = some d) (hdp : depB o j = true) (hφ : φ i = φ j) : OpOk Tryd.prog ops Q a0 φ (RdI R v bs p0 w0) (RelR R) i o :=
  op_run hg fun a w h => ⟨_, x_move ho, by rw [hφ]; exact h.1 j oj d hj hjd hdp⟩
theorem op_index {d e : Tmp} {n m : Nat} {P : Int → Prop} {j k : Nat} {oj ok : Oper} (hg : o.guard = none) (ho : o.op = .indexAddr 38 (.tmp d) (.tmp e)) (hj : ops[j]? = some oj) (hjd : oj.dst = some d) (hdp : depB o j = true)
    (hk : ops[k]? = some ok) (hkd : ok.dst = some e) (hdk : depB o k = true) (hφj : φ j = LitP R n P) (hφk : φ k = IsNat m) (hm : m ≤ n) (hφ : φ i = ElemP R P) : OpOk Tryd.prog ops Q a0 φ (RdI R v bs p0 w0) (RelR R) i o :=
  op_run hg fun a w h => by
    have h1 := h.1 j oj d hj hjd hdp
    have h2 := h.1 k ok e hk hkd hdk
    rw [hφj] at h1
    rw [hφk] at h2
    obtain ⟨g, l, hv, hl, hne, hrow, hP⟩ := h1
    obtain ⟨x, hx, hxm⟩ := h2
    obtain ⟨y, hy, hPy⟩ := row_at hrow hP (i := x) (by omega)
    refine ⟨_, x_index (ρ := a.eval) ho (show a.eval (.tmp d) = _ from hv) (show a.eval (.tmp e) = _ from hx) (by omega), ?_⟩
    rw [hφ]
    exact ⟨_, y, rfl, hne, hy, hPy⟩
theorem op_load {d : Tmp} {P : Int → Prop} {ψ : Value → World → Prop} {j : Nat} {oj : Oper} (hg : o.guard = none) (ho : o.op = .load 3 (.tmp d)) (hj : ops[j]? = some oj) (hjd : oj.dst = some d) (hdp : depB o j = true)
    (hφj : φ j = ElemP R P) (hφ : φ i = ψ) (hP : ∀ y w, P y → ψ (.int .i64 y) w) : OpOk Tryd.prog ops Q a0 φ (RdI R v bs p0 w0) (RelR R) i o :=
  op_run hg fun a w h => by
    have h1 := h.1 j oj d hj hjd hdp
    rw [hφj] at h1
    obtain ⟨ad, y, hv, hne, hy, hPy⟩ := h1
    exact ⟨_, x_load (ρ := a.eval) ho (show a.eval (.tmp d) = _ from hv) hy, by rw [hφ]; exact hP y w hPy⟩
theorem nat_of {n : Nat} (y : Int) (w : World) (h : 0 ≤ y ∧ y < n) : IsNat n (.int .i64 y) w := by
  obtain ⟨x, rfl⟩ := Int.eq_ofNat_of_zero_le h.1
  exact ⟨x, rfl, by omega⟩
theorem lit_mk {w : World} {n : Nat} {P : Int → Prop} {l : List Int} (hR : R < w.heap.size) (hl : l.length = n) (hP : ∀ x ∈ l, P x) : LitP R n P (.slice (some ⟨w.heap.size, 0, none⟩) n n) (w.alloc (.cells (ints l).toArray 3)) :=
  ⟨_, l, rfl, hl, by omega, Row.new w _ _, hP⟩
end
/-- the frame behind the region: the slots of ds hold U -/
def nf (ds : List Nat) (U : Nat → Value) : Nat → List Value → List Value
  | _, [] => []
  | k, v :: l => (if ds.contains k then U k else v) :: nf ds U (k + 1) l
theorem nf_eq (ds : List Nat) (u : Array Value) : ∀ (l : List Value) (k : Nat), (l.zipIdx k).map (fun x => if ds.contains x.2 then u.getD x.2 undef else x.1) = nf ds (fun d => u.getD d undef) k l
  | [], _ => rfl
  | v :: l, k => by simp only [List.zipIdx_cons, List.map_cons, nf, nf_eq ds u l (k + 1)]
/-- the whole region; behind it the frame is the old one but for the region's slots -/
theorem reader_region {ops : Array Oper} {id : Nat} {Q : Exit → Act → World → Prop} {a0 : Act} {w0 : World} {R : Nat} {v : Value} {bs : List Int} {p0 : Nat} (l : List (Value → World → Prop)) (n : Nat) (ds : List Nat) (hn : a0.tmps.size = n) (hr : Rd w0 R v bs ((p0 : Nat) : Int))
    (hm : Tryd.prog.follows .mixedOrders = true) (hb : backB ops = true) (hd : dstsB ops n = true) (hds : (ops.toList.all fun o => match o.dst with | some d => ds.contains d | none => true) = true) (hs : AllStab R l)
    (hops : OpsOk Tryd.prog ops Q a0 (phi l) (RdI R v bs p0 w0.drew) (RelR R) 0 ops.toList)
    (fin : ∀ (U : Nat → Value) (w : World), (∃ p : Nat, p0 ≤ p ∧ p ≤ p0 + 400 * ops.size ∧ Rd w R v bs ((p : Nat) : Int)) → w0.grownBy w (some R) → (∀ i o d, ops[i]? = some o → o.dst = some d → phi l i (U d) w) → Q .normal ⟨(nf ds U 0 a0.tmps.toList).toArray, a0.defers⟩ w) :
    (Code.region id ops true).wp Tryd.prog Q a0 w0 := by
  refine region_inv hm hb n hn hd (phi l) (RdI R v bs p0 w0.drew) (RelR R) (fun j v w w' h hg => phi_stab hs j v w w' h hg) ⟨⟨p0, Nat.le_refl _, by omega, hr⟩, grown_refl _ _⟩ none (fun i o hi _ => ?_) (fun i o _ h => by cases h) (fun a w _ h1 h2 hI h3 h4 _ => ?_) (fun l h => by cases h)
  · have := opsOk_at ops.toList 0 hops i o (by simpa using hi)
    simpa using this
  · obtain ⟨c, hc, ⟨p, q1, q2, q3⟩, q4⟩ := hI
    rw [frame_of (ds := ds) h1 h2 (fun d hdd => h4 d (fun i o hi ho => by
      have := List.all_eq_true.1 hds o (by rw [← Array.mem_def]; exact Array.mem_of_getElem? hi)
      rw [ho] at this
      simp only at this
      rw [this] at hdd
      cases hdd))]
    have := fin (fun d => a.tmps.getD d undef) w ⟨p, q1, by omega, q3⟩ (grown_drew q4) h3
    rwa [← nf_eq] at this
section
variable {ρ : Operand → Value} {w : World} {o : Oper}
theorem x_loadS {x : Operand} {ad : Addr} {u : Value} (ho : o.op = .load 38 x) (hx : ρ x = .pointer (some ad)) (hc : w.cell? ad = some u) : (execOp ρ o).run Tryd.prog w = .ok (.value u) w := by
  unfold execOp
  simp only [ho, hx]
  simp [go_sem, hc, Tryd.underlying38]
theorem x_storeI {x y : Operand} {ad : Addr} {u : Value} {m : Int} (ho : o.op = .store 3 x y) (hx : ρ x = .pointer (some ad)) (hy : ρ y = .int .i64 m) (hc : w.cell? ad = some u) (hf : w.frozen? ad = false) : (execOp ρ o).run Tryd.prog w = .ok .skip (w.setCell ad (.int .i64 m)) := by
  unfold execOp
  simp only [ho, hx, hy]
  simp [go_sem, hc, hf]
end
/-- the whole region, whose last operation is a store -/
theorem reader_region_last {ops : Array Oper} {id : Nat} {Q : Exit → Act → World → Prop} {a0 : Act} {w0 : World} {R : Nat} {v : Value} {bs : List Int} {p0 : Nat} (l : List (Value → World → Prop)) (n : Nat) (ds : List Nat) (lo : Oper) (hn : a0.tmps.size = n) (hr : Rd w0 R v bs ((p0 : Nat) : Int))
    (hm : Tryd.prog.follows .mixedOrders = true) (hb : backB ops = true) (hd : dstsB ops n = true) (hds : (ops.toList.all fun o => match o.dst with | some d => ds.contains d | none => true) = true) (hs : AllStab R l)
    (hlo : ops[ops.size - 1]? = some lo) (hlg : lo.guard = none) (hld : lo.dst = none) (hdep : ((List.range (ops.size - 1)).all fun j => depB lo j) = true)
    (hops : OpsOk Tryd.prog ops Q a0 (phi l) (RdI R v bs p0 w0.drew) (RelR R) 0 ops.toList.dropLast)
    (fin : ∀ (U : Nat → Value) (w : World), (∃ p : Nat, p0 ≤ p ∧ p ≤ p0 + 400 * ops.size ∧ Rd w R v bs ((p : Nat) : Int)) → w0.grownBy w (some R) → (∀ i o d, i ≠ ops.size - 1 → ops[i]? = some o → o.dst = some d → phi l i (U d) w) →
      ∃ w', (execOp (Act.eval ⟨(nf ds U 0 a0.tmps.toList).toArray, a0.defers⟩) lo).run Tryd.prog w = .ok .skip w' ∧ Q .normal ⟨(nf ds U 0 a0.tmps.toList).toArray, a0.defers⟩ w') :
    (Code.region id ops true).wp Tryd.prog Q a0 w0 := by
  have hsz : ops.size - 1 < ops.size := (Array.getElem?_eq_some_iff.1 hlo).1
  refine region_inv hm hb n hn hd (phi l) (RdI R v bs p0 w0.drew) (RelR R) (fun j v w w' h hg => phi_stab hs j v w w' h hg) ⟨⟨p0, Nat.le_refl _, by omega, hr⟩, grown_refl _ _⟩ (some (ops.size - 1)) (fun i o hi hne => ?_) (fun i o hi he => ?_) (fun a w h => by cases h) (fun l h => by cases h; exact hsz)
  · have hlt : i < ops.size := (Array.getElem?_eq_some_iff.1 hi).1
    have hne' : i ≠ ops.size - 1 := fun e => hne (by rw [e])
    have := opsOk_at ops.toList.dropLast 0 hops i o (by rw [List.getElem?_dropLast, if_pos (by simp; omega)]; simpa using hi)
    simpa using this
  · obtain rfl : i = ops.size - 1 := Option.some.inj he
    obtain rfl : lo = o := Option.some.inj (hlo.symm.trans hi)
    refine ⟨fun j hj hne => List.all_eq_true.1 hdep j (by simp; omega), ?_⟩
    intro c a w hc h1 h2 hI h3 h4 K hK
    rw [if_pos (by simp [Region.wanted, hlg])]
    obtain ⟨⟨p, q1, q2, q3⟩, q4⟩ := hI
    have e := frame_of (ds := ds) h1 h2 (fun d hdd => h4 d (fun j oj hj hdj => by
      have := List.all_eq_true.1 hds oj (by rw [← Array.mem_def]; exact Array.mem_of_getElem? hj)
      rw [hdj] at this
      simp only at this
      rw [this] at hdd
      cases hdd))
    obtain ⟨w', hrun, hq⟩ := fin (fun d => a.tmps.getD d undef) w ⟨p, q1, by omega, q3⟩ (grown_drew q4) (fun i o d hne ho hod => h3 i o d ho hod hne)
    rw [← nf_eq] at hrun hq
    have e' : a = ⟨(List.map (fun x => if ds.contains x.2 = true then a.tmps.getD x.2 undef else x.1) (a0.tmps.toList.zipIdx 0)).toArray, a0.defers⟩ := e
    rw [← e'] at hrun hq
    unfold Oper.wp
    rw [hrun, Oper.upon_skip, hld]
    exact hK _ _ hq
section
variable {ops : Array Oper} {Q : Exit → Act → World → Prop} {a0 : Act} {φ : Nat → Value → World → Prop} {R : Nat} {v : Value} {bs : List Int} {p0 : Nat} {w0 : World} {i : Nat} {o : Oper}
theorem op_allocB (hg : o.guard = none) (h : ∀ a w, R < w.heap.size → w0.heap.size ≤ w.heap.size → Leans ops a0 φ i o a w → ∃ x ob, (execOp a.eval o).run Tryd.prog w = .ok (.value x) (w.alloc ob) ∧ φ i x (w.alloc ob)) : OpOk Tryd.prog ops Q a0 φ (RdI R v bs p0 w0) (RelR R) i o := by
  intro c a w _ _ _ hI hd hf K hK
  have hlow : R < w.heap.size := by obtain ⟨⟨p, _, _, h3⟩, _⟩ := hI; exact h3.low.1
  obtain ⟨x, ob, hr, hx⟩ := h a w hlow hI.2.size ⟨hd, hf⟩
  rw [if_pos (by simp [Region.wanted, hg])]
  unfold Oper.wp
  rw [hr]
  exact hK x _ hx (grown_alloc _ _ _) (hI.alloc ob)
theorem op_runB (hg : o.guard = none) (h : ∀ a w, w0.grownBy w (some R) → Leans ops a0 φ i o a w → ∃ x, (execOp a.eval o).run Tryd.prog w = .ok (.value x) w ∧ φ i x w) : OpOk Tryd.prog ops Q a0 φ (RdI R v bs p0 w0) (RelR R) i o := by
  intro c a w _ _ _ hI hd hf K hK
  obtain ⟨x, hr, hx⟩ := h a w hI.2 ⟨hd, hf⟩
  rw [if_pos (by simp [Region.wanted, hg])]
  unfold Oper.wp
  rw [hr]
  exact hK x w hx (grown_refl _ _) hI.step
end
end Go.Proofs.YtajgghifamebkaaDoor
