/- regions that draw their order, call the reader and store into a box: the reader's law with two blocks -/
import Derived.Test.YtbnplohlfiefhaaDoorRegL
namespace Go.Proofs.YtbnplohlfiefhaaDoor
open Go.RowKit
/-- all blocks but R and T are as before -/
structure Gr2 (R T : Nat) (w w' : World) : Prop where
  os : w'.os = w.os
  tape : w'.tape = w.tape
  output : w'.output = w.output
  size : w.heap.size ≤ w'.heap.size
  block : ∀ k, k < w.heap.size → k ≠ R → k ≠ T → w'.heap[k]? = w.heap[k]?
theorem Gr2.refl (R T : Nat) (w : World) : Gr2 R T w w := ⟨rfl, rfl, rfl, Nat.le_refl _, fun _ _ _ _ => rfl⟩
theorem Gr2.trans {R T : Nat} {a b c : World} (h : Gr2 R T a b) (k : Gr2 R T b c) : Gr2 R T a c :=
  ⟨k.os.trans h.os, k.tape.trans h.tape, k.output.trans h.output, Nat.le_trans h.size k.size, fun i hi h1 h2 => (k.block i (Nat.lt_of_lt_of_le hi h.size) h1 h2).trans (h.block i hi h1 h2)⟩
theorem Gr2.of {R : Nat} {w w' : World} (h : w.grownBy w' (some R)) (T : Nat) : Gr2 R T w w' := ⟨h.os, h.tape, h.output, h.size, fun k hk h1 _ => h.block k hk (some_ne h1)⟩
theorem Gr2.drew {R T : Nat} {w w' : World} (h : Gr2 R T w.drew w') : Gr2 R T w w' := ⟨h.os, h.tape, h.output, h.size, h.block⟩
theorem Gr2.cell {R T : Nat} {w w' : World} (hg : Gr2 R T w w') {a : Addr} {v : Value} (h : w.cell? a = some v) (h1 : a.block ≠ R) (h2 : a.block ≠ T) : w'.cell? a = some v :=
  (World.cell?_of_block (hg.block a.block (World.block_lt_of_cell? w a h) h1 h2)).trans h
theorem Gr2.set {R T : Nat} (w : World) (k : Nat) (u : Value) : Gr2 R T w (w.setCell ⟨T, k, none⟩ u) :=
  ⟨rfl, rfl, rfl, by simp [World.setCell], fun i _ _ h2 => Below.heap_setCell w ⟨T, k, none⟩ u i h2⟩
theorem Gr2.below {R T B : Nat} {w w' : World} (h : Gr2 R T w w') (hB : B ≤ w.heap.size) (hR : B ≤ R) (hT : B ≤ T) : Below B w w' :=
  ⟨h.os, h.tape, h.output, h.size, fun k hk => h.block k (by omega) (by omega) (by omega)⟩
theorem Row.gr2 {R T : Nat} {w w' : World} {g e cs} (h : Row w g e cs) (hg : Gr2 R T w w') (h1 : g ≠ R) (h2 : g ≠ T) : Row w' g e cs := (hg.block g h.lt h1 h2).trans h
theorem Rd.setOther {w : World} {R : Nat} {v : Value} {bs : List Int} {p : Int} (h : Rd w R v bs p) {T : Nat} (k : Nat) (u : Value) (h1 : R ≠ T) (h2 : 0 < bs.length → ∀ g, v.ownBlock = some g → g ≠ T) : Rd (w.setCell ⟨T, k, none⟩ u) R v bs p := by
  obtain ⟨r1, ⟨r2, r3⟩, r4, r5⟩ := h
  refine ⟨r1.setOther (p := ⟨T, k, none⟩) h1 u, ⟨?_, r3⟩, r4, r5⟩
  obtain ⟨q1, q2, q3 | ⟨q3, b, off, c, hv, hc, hcell⟩⟩ := r2
  · exact ⟨q1, q2, .inl q3⟩
  · refine ⟨q1, q2, .inr ⟨q3, b, off, c, hv, hc, fun i u' hu => ?_⟩⟩
    have hne : b ≠ T := h2 q3 b (by rw [hv]; rfl)
    rw [World.cell?_of_block (Below.heap_setCell w ⟨T, k, none⟩ u b hne)]
    exact hcell i u' hu
def Rel2 (R T : Nat) (St : World → Prop) (w w' : World) : Prop := Gr2 R T w w' ∧ (St w → St w')
def RdI2 (R T : Nat) (J : World → Prop) (v : Value) (bs : List Int) (p0 : Nat) (w0 : World) (c : Nat) (w : World) : Prop := (∃ p : Nat, p0 ≤ p ∧ p ≤ p0 + c ∧ Rd w R v bs ((p : Nat) : Int)) ∧ Gr2 R T w0 w ∧ J w
def KeepR (R : Nat) (J : World → Prop) : Prop := ∀ w w', w.grownBy w' (some R) → J w → J w'
def Stab2 (R T : Nat) (St : World → Prop) (ψ : Value → World → Prop) : Prop := ∀ v w w', ψ v w → Rel2 R T St w w' → ψ v w'
def LitB (R B n : Nat) (P : Int → Prop) (v : Value) (w : World) : Prop := ∃ (g : Nat) (l : List Int), v = .slice (some ⟨g, 0, none⟩) n n ∧ l.length = n ∧ g ≠ R ∧ B ≤ g ∧ Row w g 3 (ints l) ∧ ∀ x ∈ l, P x
def ElemB (R B : Nat) (P : Int → Prop) (v : Value) (w : World) : Prop := ∃ (ad : Addr) (y : Int), v = .pointer (some ad) ∧ ad.block ≠ R ∧ B ≤ ad.block ∧ w.cell? ad = some (.int .i64 y) ∧ P y
def IsSt (St : World → Prop) (_ : Value) (w : World) : Prop := St w
section
variable (R T : Nat) (St : World → Prop)
theorem stab2_v (V : Value) : Stab2 R T St (IsV V) := fun _ _ _ h _ => h
theorem stab2_n (n : Nat) : Stab2 R T St (IsNat n) := fun _ _ _ h _ => h
theorem stab2_p (P : Int → Prop) : Stab2 R T St (IsP P) := fun _ _ _ h _ => h
theorem stab2_s : Stab2 R T St (IsSt St) := fun _ _ _ h hr => hr.2 h
theorem stab2_any (ψ : Value → Prop) : Stab2 R T St (fun v _ => ψ v) := fun _ _ _ h _ => h
theorem stab2_l {B : Nat} (hT : T < B) (n : Nat) (P : Int → Prop) : Stab2 R T St (LitB R B n P) := fun _ _ _ ⟨g, l, h1, h2, h3, h4, h5, h6⟩ hg => ⟨g, l, h1, h2, h3, h4, h5.gr2 hg.1 h3 (by omega), h6⟩
theorem stab2_e {B : Nat} (hT : T < B) (P : Int → Prop) : Stab2 R T St (ElemB R B P) := fun _ _ _ ⟨ad, y, h1, h2, h3, h4, h5⟩ hg => ⟨ad, y, h1, h2, h3, hg.1.cell h4 h2 (by omega), h5⟩
end
def AllStab2 (R T : Nat) (St : World → Prop) : List (Value → World → Prop) → Prop
  | [] => True
  | ψ :: l => Stab2 R T St ψ ∧ AllStab2 R T St l
theorem phi_stab2 {R T : Nat} {St : World → Prop} : ∀ {l : List (Value → World → Prop)}, AllStab2 R T St l → ∀ j, Stab2 R T St (phi l j)
  | [], _, j => fun _ _ _ _ _ => by simp [phi]
  | ψ :: l, h, 0 => h.1
  | ψ :: l, h, j + 1 => phi_stab2 (l := l) h.2 j
section
variable {ops : Array Oper} {Q : Exit → Act → World → Prop} {a0 : Act} {φ : Nat → Value → World → Prop} {R T : Nat} {St J : World → Prop} {v : Value} {bs : List Int} {p0 : Nat} {w0 : World} {i : Nat} {o : Oper}
theorem op2_run (hg : o.guard = none) (h : ∀ a w, Gr2 R T w0 w → Leans ops a0 φ i o a w → ∃ x, (execOp a.eval o).run Tryd.prog w = .ok (.value x) w ∧ φ i x w) : OpOk Tryd.prog ops Q a0 φ (RdI2 R T J v bs p0 w0) (Rel2 R T St) i o := by
  intro c a w _ _ _ hI hd hf K hK
  obtain ⟨⟨p, h1, h2, h3⟩, h4, h5⟩ := hI
  obtain ⟨x, hr, hx⟩ := h a w h4 ⟨hd, hf⟩
  rw [if_pos (by simp [Region.wanted, hg])]
  unfold Oper.wp
  rw [hr]
  exact hK x w hx ⟨Gr2.refl _ _ _, id⟩ ⟨⟨p, h1, by omega, h3⟩, h4, h5⟩
theorem op2_alloc (hJ : KeepR R J) (hS : KeepR R St) (hg : o.guard = none) (h : ∀ a w, R < w.heap.size → w0.heap.size ≤ w.heap.size → Leans ops a0 φ i o a w → ∃ x ob, (execOp a.eval o).run Tryd.prog w = .ok (.value x) (w.alloc ob) ∧ φ i x (w.alloc ob)) : OpOk Tryd.prog ops Q a0 φ (RdI2 R T J v bs p0 w0) (Rel2 R T St) i o := by
  intro c a w _ _ _ hI hd hf K hK
  obtain ⟨⟨p, h1, h2, h3⟩, h4, h5⟩ := hI
  obtain ⟨x, ob, hr, hx⟩ := h a w h3.low.1 h4.size ⟨hd, hf⟩
  rw [if_pos (by simp [Region.wanted, hg])]
  unfold Oper.wp
  rw [hr]
  have hgr := grown_alloc w (some R) ob
  exact hK x _ hx ⟨Gr2.of hgr T, hS _ _ hgr⟩ ⟨⟨p, h1, by omega, h3.below ((Below.refl _ _).alloc (Nat.le_refl _) ob) h3.low.1 h3.low.2⟩, h4.trans (Gr2.of hgr T), hJ _ _ hgr h5⟩
theorem op2_pick (hJ : KeepR R J) (hS : KeepR R St) {d : Tmp} {n : Nat} {ts : Array TypeId} {j : Nat} {oj : Oper} (hg : o.guard = none) (ho : o.op = .call { callee := .value (.func 27), args := #[.tmp d, .const (.int .i64 (n : Int))], argTypes := ts })
    (hj : ops[j]? = some oj) (hjd : oj.dst = some d) (hdp : depB o j = true) (hφj : φ j = IsV (.pointer (some ⟨R, 0, none⟩))) (hφ : φ i = IsNat n) (hn : 0 < n) (hp : p0 + ops.size ≤ 1000000000) : OpOk Tryd.prog ops Q a0 φ (RdI2 R T J v bs p0 w0) (Rel2 R T St) i o := by
  intro c a w hc _ _ hI hd hf K hK
  obtain ⟨⟨p, h1, h2, h3⟩, h4, h5⟩ := hI
  have hv := hd j oj d hj hjd hdp
  rw [hφj] at hv
  rw [if_pos (by simp [Region.wanted, hg])]
  unfold Oper.wp
  rw [x_pick (ρ := a.eval) (w := w) ho (show a.eval (.tmp d) = _ from hv) rfl rfl]
  refine (pick_nat R v bs n p w h3 (by omega) hn).mono ?_
  rintro e w' ⟨x, rfl, hx, hr, hgr⟩
  exact hK _ _ (by rw [hφ]; exact ⟨x, rfl, hx⟩) ⟨Gr2.of hgr T, hS _ _ hgr⟩ ⟨⟨p + 1, by omega, by omega, hr⟩, h4.trans (Gr2.of hgr T), hJ _ _ hgr h5⟩
theorem op2_fresh {d : Tmp} {V : Value} (hg : o.guard = none) (ho : o.op = .move (.tmp d) ∨ o.op = .assign (.tmp d)) (hf : freshB ops i d = true) (hV : a0.tmps.getD d undef = V) (hφ : φ i = IsV V) : OpOk Tryd.prog ops Q a0 φ (RdI2 R T J v bs p0 w0) (Rel2 R T St) i o :=
  op2_run hg fun a w _ h => ⟨_, x_move ho, by rw [hφ]; exact (h.2 d hf).trans hV⟩
theorem op2_same {d : Tmp} {j : Nat} {oj : Oper} (hg : o.guard = none) (ho : o.op = .move (.tmp d) ∨ o.op = .assign (.tmp d)) (hj : ops[j]? = some oj) (hjd : oj.dst = some d) (hdp : depB o j = true) (hφ : φ i = φ j) : OpOk Tryd.prog ops Q a0 φ (RdI2 R T J v bs p0 w0) (Rel2 R T St) i o :=
  op2_run hg fun a w _ h => ⟨_, x_move ho, by rw [hφ]; exact h.1 j oj d hj hjd hdp⟩
theorem op2_index {d e : Tmp} {n m B : Nat} {P : Int → Prop} {j k : Nat} {oj ok : Oper} (hg : o.guard = none) (ho : o.op = .indexAddr 23 (.tmp d) (.tmp e)) (hj : ops[j]? = some oj) (hjd : oj.dst = some d) (hdp : depB o j = true)
    (hk : ops[k]? = some ok) (hkd : ok.dst = some e) (hdk : depB o k = true) (hφj : φ j = LitB R B n P) (hφk : φ k = IsNat m) (hm : m ≤ n) (hφ : φ i = ElemB R B P) : OpOk Tryd.prog ops Q a0 φ (RdI2 R T J v bs p0 w0) (Rel2 R T St) i o :=
  op2_run hg fun a w _ h => by
    have h1 := h.1 j oj d hj hjd hdp
    have h2 := h.1 k ok e hk hkd hdk
    rw [hφj] at h1
    rw [hφk] at h2
    obtain ⟨g, l, hv, hl, hne, hB, hrow, hP⟩ := h1
    obtain ⟨x, hx, hxm⟩ := h2
    obtain ⟨y, hy, hPy⟩ := row_at hrow hP (i := x) (by omega)
    refine ⟨_, x_index (ρ := a.eval) ho (show a.eval (.tmp d) = _ from hv) (show a.eval (.tmp e) = _ from hx) (by omega), ?_⟩
    rw [hφ]
    exact ⟨_, y, rfl, hne, hB, hy, hPy⟩
theorem op2_load {d : Tmp} {B : Nat} {P : Int → Prop} {ψ : Value → World → Prop} {j : Nat} {oj : Oper} (hg : o.guard = none) (ho : o.op = .load 3 (.tmp d)) (hj : ops[j]? = some oj) (hjd : oj.dst = some d) (hdp : depB o j = true)
    (hφj : φ j = ElemB R B P) (hφ : φ i = ψ) (hP : ∀ y w, P y → ψ (.int .i64 y) w) : OpOk Tryd.prog ops Q a0 φ (RdI2 R T J v bs p0 w0) (Rel2 R T St) i o :=
  op2_run hg fun a w _ h => by
    have h1 := h.1 j oj d hj hjd hdp
    rw [hφj] at h1
    obtain ⟨ad, y, hv, hne, hB, hy, hPy⟩ := h1
    exact ⟨_, x_load (ρ := a.eval) ho (show a.eval (.tmp d) = _ from hv) hy, by rw [hφ]; exact hP y w hPy⟩
theorem litB_mk {w : World} {B n : Nat} {P : Int → Prop} {l : List Int} (hR : R < w.heap.size) (hB : B ≤ w.heap.size) (hl : l.length = n) (hP : ∀ x ∈ l, P x) : LitB R B n P (.slice (some ⟨w.heap.size, 0, none⟩) n n) (w.alloc (.cells (ints l).toArray 3)) :=
  ⟨_, l, rfl, hl, by omega, hB, Row.new w _ _, hP⟩
theorem op2_store (hg : o.guard = none) (hd : o.dst = none) (hφ : φ i = IsSt St)
    (h : ∀ a w, J w → Gr2 R T w0 w → Leans ops a0 φ i o a w → ∃ w', (execOp a.eval o).run Tryd.prog w = .ok .skip w' ∧ St w' ∧ Gr2 R T w w' ∧ J w' ∧ ∀ p, Rd w R v bs p → Rd w' R v bs p) : OpOk Tryd.prog ops Q a0 φ (RdI2 R T J v bs p0 w0) (Rel2 R T St) i o := by
  intro c a w _ _ _ hI hd' hf K hK
  obtain ⟨⟨p, h1, h2, h3⟩, h4, h5⟩ := hI
  obtain ⟨w', hr, hs, hgr, hj, hrd⟩ := h a w h5 h4 ⟨hd', hf⟩
  rw [if_pos (by simp [Region.wanted, hg])]
  unfold Oper.wp
  rw [hr, Oper.upon_skip]
  exact hK _ w' (by rw [hφ]; exact hs) ⟨hgr, fun _ => hs⟩ ⟨⟨p, h1, by omega, hrd _ h3⟩, h4.trans hgr, hj⟩
end
/-- the whole region -/
theorem reader_region_store {ops : Array Oper} {id : Nat} {Q : Exit → Act → World → Prop} {a0 : Act} {w0 : World} {R T : Nat} {St J : World → Prop} {v : Value} {bs : List Int} {p0 : Nat} (l : List (Value → World → Prop)) (n : Nat) (ds : List Nat) (hn : a0.tmps.size = n) (hr : Rd w0 R v bs ((p0 : Nat) : Int)) (hJ : J w0.drew)
    (hm : Tryd.prog.follows .mixedOrders = true) (hb : backB ops = true) (hd : dstsB ops n = true) (hds : (ops.toList.all fun o => match o.dst with | some d => ds.contains d | none => true) = true) (hs : AllStab2 R T St l)
    (hops : OpsOk Tryd.prog ops Q a0 (phi l) (RdI2 R T J v bs p0 w0.drew) (Rel2 R T St) 0 ops.toList)
    (fin : ∀ (U : Nat → Value) (w : World), (∃ p : Nat, p0 ≤ p ∧ p ≤ p0 + ops.size ∧ Rd w R v bs ((p : Nat) : Int)) → Gr2 R T w0 w → J w → (∀ i o d, ops[i]? = some o → o.dst = some d → phi l i (U d) w) → (∀ i o, ops[i]? = some o → o.dst = none → ∃ x, phi l i x w) → Q .normal ⟨(nf ds U 0 a0.tmps.toList).toArray, a0.defers⟩ w) :
    (Code.region id ops true).wp Tryd.prog Q a0 w0 := by
  refine region_inv hm hb n hn hd (phi l) (RdI2 R T J v bs p0 w0.drew) (Rel2 R T St) (fun j v w w' h hg => phi_stab2 hs j v w w' h hg) ⟨⟨p0, Nat.le_refl _, by omega, hr⟩, Gr2.refl _ _ _, hJ⟩ none (fun i o hi _ => ?_) (fun i o _ h => by cases h) (fun a w _ h1 h2 hI h3 h4 h5 => ?_) (fun l h => by cases h)
  · have := opsOk_at ops.toList 0 hops i o (by simpa using hi)
    simpa using this
  · obtain ⟨c, hc, ⟨p, q1, q2, q3⟩, q4, q5⟩ := hI
    rw [frame_of (ds := ds) h1 h2 (fun d hdd => h4 d (fun i o hi ho => by
      have := List.all_eq_true.1 hds o (by rw [← Array.mem_def]; exact Array.mem_of_getElem? hi)
      rw [ho] at this
      simp only at this
      rw [this] at hdd
      cases hdd))]
    have := fin (fun d => a.tmps.getD d undef) w ⟨p, q1, by omega, q3⟩ q4.drew q5 h3 h5
    rwa [← nf_eq] at this
end Go.Proofs.YtbnplohlfiefhaaDoor
