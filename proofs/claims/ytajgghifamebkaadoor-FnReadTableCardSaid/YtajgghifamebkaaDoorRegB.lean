/- a region that draws its order, whose operations make memory and change none: what each value is stays true -/
import Derived.Test.YtajgghifamebkaaDoorRegJ
namespace Go.Proofs.YtajgghifamebkaaDoor
set_option linter.unusedSimpArgs false
set_option linter.unusedVariables false
open Go.RowKit
def StabB (ψ : Value → World → Prop) : Prop := ∀ v w w', ψ v w → Below w.heap.size w w' → ψ v w'
theorem stabB_v (V : Value) : StabB (IsV V) := fun _ _ _ h _ => h
def AllStabB : List (Value → World → Prop) → Prop
  | [] => True
  | ψ :: l => StabB ψ ∧ AllStabB l
theorem phi_stabB : ∀ {l : List (Value → World → Prop)}, AllStabB l → ∀ j, StabB (phi l j)
  | [], _, j => fun _ _ _ _ _ => by simp [phi]
  | ψ :: l, h, 0 => h.1
  | ψ :: l, h, j + 1 => phi_stabB (l := l) h.2 j
def IB (w0 : World) (_ : Nat) (w : World) : Prop := Below w0.heap.size w0 w
def RelB (w w' : World) : Prop := Below w.heap.size w w'
section
variable {ops : Array Oper} {Q : Exit → Act → World → Prop} {a0 : Act} {φ : Nat → Value → World → Prop} {w0 : World} {i : Nat} {o : Oper}
theorem ob_run (hg : o.guard = none) (h : ∀ a w, Below w0.heap.size w0 w → Leans ops a0 φ i o a w → ∃ x, (execOp a.eval o).run Tryd.prog w = .ok (.value x) w ∧ φ i x w) : OpOk Tryd.prog ops Q a0 φ (IB w0) RelB i o := by
  intro c a w _ _ _ hI hd hf K hK
  obtain ⟨x, hr, hx⟩ := h a w hI ⟨hd, hf⟩
  rw [if_pos (by simp [Region.wanted, hg])]
  unfold Oper.wp
  rw [hr]
  exact hK x w hx (Below.refl _ _) hI
theorem ob_alloc (hg : o.guard = none) (h : ∀ a w, Below w0.heap.size w0 w → Leans ops a0 φ i o a w → ∃ x ob, (execOp a.eval o).run Tryd.prog w = .ok (.value x) (w.alloc ob) ∧ φ i x (w.alloc ob)) : OpOk Tryd.prog ops Q a0 φ (IB w0) RelB i o := by
  intro c a w _ _ _ hI hd hf K hK
  obtain ⟨x, ob, hr, hx⟩ := h a w hI ⟨hd, hf⟩
  rw [if_pos (by simp [Region.wanted, hg])]
  unfold Oper.wp
  rw [hr]
  exact hK x _ hx ((Below.refl _ _).alloc (Nat.le_refl _) ob) (hI.alloc hI.size ob)
theorem ob_enter (hg : o.guard = none) (h : ∀ a w, Below w0.heap.size w0 w → Leans ops a0 φ i o a w → ∃ f args, (execOp a.eval o).run Tryd.prog w = .ok (.enter f args) w ∧ Calls Tryd.prog f args w fun e w' => ∃ v, e = .returned v ∧ φ i v w' ∧ Below w.heap.size w w') : OpOk Tryd.prog ops Q a0 φ (IB w0) RelB i o := by
  intro c a w _ _ _ hI hd hf K hK
  obtain ⟨f, args, hr, hc⟩ := h a w hI ⟨hd, hf⟩
  rw [if_pos (by simp [Region.wanted, hg])]
  unfold Oper.wp
  rw [hr]
  refine hc.mono ?_
  rintro e w' ⟨v, rfl, hv, hb⟩
  exact hK v w' hv hb (hI.trans (hb.mono hI.size))
theorem ob_fresh {d : Tmp} {V : Value} (hg : o.guard = none) (ho : o.op = .move (.tmp d) ∨ o.op = .assign (.tmp d)) (hf : freshB ops i d = true) (hV : a0.tmps.getD d undef = V) (hφ : φ i = IsV V) : OpOk Tryd.prog ops Q a0 φ (IB w0) RelB i o :=
  ob_run hg fun a w _ h => ⟨_, x_move ho, by rw [hφ]; exact (h.2 d hf).trans hV⟩
theorem ob_same {d : Tmp} {j : Nat} {oj : Oper} (hg : o.guard = none) (ho : o.op = .move (.tmp d) ∨ o.op = .assign (.tmp d)) (hj : ops[j]? = some oj) (hjd : oj.dst = some d) (hdp : depB o j = true) (hφ : φ i = φ j) : OpOk Tryd.prog ops Q a0 φ (IB w0) RelB i o :=
  ob_run hg fun a w _ h => ⟨_, x_move ho, by rw [hφ]; exact h.1 j oj d hj hjd hdp⟩
end
/-- the whole region; behind it the frame is the old one but for the region's slots -/
theorem below_region {ops : Array Oper} {id : Nat} {Q : Exit → Act → World → Prop} {a0 : Act} {w0 : World} (l : List (Value → World → Prop)) (n : Nat) (ds : List Nat) (hn : a0.tmps.size = n)
    (hm : Tryd.prog.follows .mixedOrders = true) (hb : backB ops = true) (hd : dstsB ops n = true) (hds : (ops.toList.all fun o => match o.dst with | some d => ds.contains d | none => true) = true) (hs : AllStabB l)
    (hops : OpsOk Tryd.prog ops Q a0 (phi l) (IB w0) RelB 0 ops.toList)
    (fin : ∀ (U : Nat → Value) (w : World), Below w0.heap.size w0 w → (∀ i o d, ops[i]? = some o → o.dst = some d → phi l i (U d) w) → Q .normal ⟨(nf ds U 0 a0.tmps.toList).toArray, a0.defers⟩ w) :
    (Code.region id ops true).wp Tryd.prog Q a0 w0 := by
  refine region_inv hm hb n hn hd (phi l) (IB w0) RelB (fun j v w w' h hg => phi_stabB hs j v w w' h hg) ((Below.refl _ _).drew) none (fun i o hi _ => ?_) (fun i o _ h => by cases h) (fun a w _ h1 h2 hI h3 h4 _ => ?_) (fun l h => by cases h)
  · have := opsOk_at ops.toList 0 hops i o (by simpa using hi)
    simpa using this
  · obtain ⟨c, hc, hbw⟩ := hI
    rw [frame_of (ds := ds) h1 h2 (fun d hdd => h4 d (fun i o hi ho => by
      have := List.all_eq_true.1 hds o (by rw [← Array.mem_def]; exact Array.mem_of_getElem? hi)
      rw [ho] at this
      simp only at this
      rw [this] at hdd
      cases hdd))]
    have := fin (fun d => a.tmps.getD d undef) w hbw h3
    rwa [← nf_eq] at this
/-- the same, its last operation a store -/
theorem below_region_last {ops : Array Oper} {id : Nat} {Q : Exit → Act → World → Prop} {a0 : Act} {w0 : World} (l : List (Value → World → Prop)) (n : Nat) (ds : List Nat) (lo : Oper) (hn : a0.tmps.size = n)
    (hm : Tryd.prog.follows .mixedOrders = true) (hb : backB ops = true) (hd : dstsB ops n = true) (hds : (ops.toList.all fun o => match o.dst with | some d => ds.contains d | none => true) = true) (hs : AllStabB l)
    (hlo : ops[ops.size - 1]? = some lo) (hlg : lo.guard = none) (hld : lo.dst = none) (hdep : ((List.range (ops.size - 1)).all fun j => depB lo j) = true)
    (hops : OpsOk Tryd.prog ops Q a0 (phi l) (IB w0) RelB 0 ops.toList.dropLast)
    (fin : ∀ (U : Nat → Value) (w : World), Below w0.heap.size w0 w → (∀ i o d, i ≠ ops.size - 1 → ops[i]? = some o → o.dst = some d → phi l i (U d) w) →
      ∃ w', (execOp (Act.eval ⟨(nf ds U 0 a0.tmps.toList).toArray, a0.defers⟩) lo).run Tryd.prog w = .ok .skip w' ∧ Q .normal ⟨(nf ds U 0 a0.tmps.toList).toArray, a0.defers⟩ w') :
    (Code.region id ops true).wp Tryd.prog Q a0 w0 := by
  have hsz : ops.size - 1 < ops.size := (Array.getElem?_eq_some_iff.1 hlo).1
  refine region_inv hm hb n hn hd (phi l) (IB w0) RelB (fun j v w w' h hg => phi_stabB hs j v w w' h hg) ((Below.refl _ _).drew) (some (ops.size - 1)) (fun i o hi hne => ?_) (fun i o hi he => ?_) (fun a w h => by cases h) (fun l h => by cases h; exact hsz)
  · have hlt : i < ops.size := (Array.getElem?_eq_some_iff.1 hi).1
    have hne' : i ≠ ops.size - 1 := fun e => hne (by rw [e])
    have := opsOk_at ops.toList.dropLast 0 hops i o (by rw [List.getElem?_dropLast, if_pos (by simp; omega)]; simpa using hi)
    simpa using this
  · obtain rfl : i = ops.size - 1 := Option.some.inj he
    obtain rfl : lo = o := Option.some.inj (hlo.symm.trans hi)
    refine ⟨fun j hj hne => List.all_eq_true.1 hdep j (by simp; omega), ?_⟩
    intro c a w hc h1 h2 hI h3 h4 K hK
    rw [if_pos (by simp [Region.wanted, hlg])]
    have e := frame_of (ds := ds) h1 h2 (fun d hdd => h4 d (fun j oj hj hdj => by
      have := List.all_eq_true.1 hds oj (by rw [← Array.mem_def]; exact Array.mem_of_getElem? hj)
      rw [hdj] at this
      simp only at this
      rw [this] at hdd
      cases hdd))
    obtain ⟨w', hrun, hq⟩ := fin (fun d => a.tmps.getD d undef) w hI (fun i o d hne ho hod => h3 i o d ho hod hne)
    rw [← nf_eq] at hrun hq
    have e' : a = ⟨(List.map (fun x => if ds.contains x.2 = true then a.tmps.getD x.2 undef else x.1) (a0.tmps.toList.zipIdx 0)).toArray, a0.defers⟩ := e
    rw [← e'] at hrun hq
    unfold Oper.wp
    rw [hrun, Oper.upon_skip, hld]
    exact hK _ _ hq
end Go.Proofs.YtajgghifamebkaaDoor
