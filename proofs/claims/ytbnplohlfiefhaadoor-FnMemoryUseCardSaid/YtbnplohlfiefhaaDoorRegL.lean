/- regions that draw their order and end in a store: the reader's law with a last operation; boxes of stacks -/
import Derived.Test.YtbnplohlfiefhaaDoorReg2
namespace Go.Proofs.YtbnplohlfiefhaaDoor
open Go.RowKit
section
variable {ρ : Operand → Value} {w : World} {o : Oper}
theorem x_loadS {x : Operand} {ad : Addr} {u : Value} (ho : o.op = .load 23 x) (hx : ρ x = .pointer (some ad)) (hc : w.cell? ad = some u) : (execOp ρ o).run Tryd.prog w = .ok (.value u) w := by
  unfold execOp
  simp only [ho, hx]
  simp [go_sem, hc, Tryd.underlying23]
theorem x_storeI {x y : Operand} {ad : Addr} {u : Value} {m : Int} (ho : o.op = .store 3 x y) (hx : ρ x = .pointer (some ad)) (hy : ρ y = .int .i64 m) (hc : w.cell? ad = some u) (hf : w.frozen? ad = false) : (execOp ρ o).run Tryd.prog w = .ok .skip (w.setCell ad (.int .i64 m)) := by
  unfold execOp
  simp only [ho, hx, hy]
  simp [go_sem, hc, hf]
theorem Tryd.mk8 (w : World) : (Instr.makeSlice 23 (.int .i64 8) (.int .i64 8)).run Tryd.prog w = .ok (.slice (some ⟨w.heap.size, 0, none⟩) 8 8) (w.alloc (.cells (ints [0, 0, 0, 0, 0, 0, 0, 0]).toArray 3)) := by kernel_rfl
theorem x_make {x y : Operand} (ho : o.op = .makeSlice 23 x y) (hx : ρ x = .int .i64 8) (hy : ρ y = .int .i64 8) : (execOp ρ o).run Tryd.prog w = .ok (.value (.slice (some ⟨w.heap.size, 0, none⟩) 8 8)) (w.alloc (.cells (ints [0, 0, 0, 0, 0, 0, 0, 0]).toArray 3)) := by
  unfold execOp
  simp only [ho, hx, hy]
  simp [Tryd.mk8, Result.andThen]
end
/-- the whole region, whose last operation is a store -/
theorem reader_region_last {ops : Array Oper} {id : Nat} {Q : Exit → Act → World → Prop} {a0 : Act} {w0 : World} {R : Nat} {v : Value} {bs : List Int} {p0 : Nat} (l : List (Value → World → Prop)) (n : Nat) (ds : List Nat) (lo : Oper) (hn : a0.tmps.size = n) (hr : Rd w0 R v bs ((p0 : Nat) : Int))
    (hm : Tryd.prog.follows .mixedOrders = true) (hb : backB ops = true) (hd : dstsB ops n = true) (hds : (ops.toList.all fun o => match o.dst with | some d => ds.contains d | none => true) = true) (hs : AllStab R l)
    (hlo : ops[ops.size - 1]? = some lo) (hlg : lo.guard = none) (hld : lo.dst = none) (hdep : ((List.range (ops.size - 1)).all fun j => depB lo j) = true)
    (hops : OpsOk Tryd.prog ops Q a0 (phi l) (RdI R v bs p0 w0.drew) (RelR R) 0 ops.toList.dropLast)
    (fin : ∀ (U : Nat → Value) (w : World), (∃ p : Nat, p0 ≤ p ∧ p ≤ p0 + ops.size ∧ Rd w R v bs ((p : Nat) : Int)) → w0.grownBy w (some R) → (∀ i o d, i ≠ ops.size - 1 → ops[i]? = some o → o.dst = some d → phi l i (U d) w) →
      ∃ w', (execOp (Act.eval ⟨(nf ds U 0 a0.tmps.toList).toArray, a0.defers⟩) lo).run Tryd.prog w = .ok .skip w' ∧ Q .normal ⟨(nf ds U 0 a0.tmps.toList).toArray, a0.defers⟩ w') :
    (Code.region id ops true).wp Tryd.prog Q a0 w0 := by
  have hsz : ops.size - 1 < ops.size := (Array.getElem?_eq_some_iff.1 hlo).1
  refine region_inv hm hb n hn hd (phi l) (RdI R v bs p0 w0.drew) (RelR R) (fun j v w w' h hg => phi_stab hs j v w w' h hg) ⟨⟨p0, Nat.le_refl _, by omega, hr⟩, grown_refl _ _⟩ (some (ops.size - 1)) (fun i o hi hne => ?_) (fun i o hi he => ?_) (fun a w h => by cases h) (fun l h => by cases h; exact hsz)
  · have hlt : i < ops.size := (Array.getElem?_eq_some_iff.1 hi).1
    have hne' : i ≠ ops.size - 1 := fun e => hne (by rw [e])
    have := opsOk_at ops.toList.dropLast 0 hops i o (by rw [List.getElem?_dropLast, if_pos (by simp; omega)]; simpa using hi)
    simpa using this
  · obtain rfl : i = ops.size - 1 := Option.some.inj he
    obtain rfl : lo = o := Option.some.inj (hlo.symm.trans hi)
    refine ⟨fun j hj hne => List.all_eq_true.1 hdep j (by simp; omega), ?_⟩
    intro c a w hc h1 h2 hI h3 h4 K hK
    rw [if_pos (by simp [Region.wanted, hlg])]
    obtain ⟨⟨p, q1, q2, q3⟩, q4⟩ := hI
    have e := frame_of (ds := ds) h1 h2 (fun d hdd => h4 d (fun j oj hj hdj => by
      have := List.all_eq_true.1 hds oj (by rw [← Array.mem_def]; exact Array.mem_of_getElem? hj)
      rw [hdj] at this
      simp only at this
      rw [this] at hdd
      cases hdd))
    obtain ⟨w', hrun, hq⟩ := fin (fun d => a.tmps.getD d undef) w ⟨p, q1, by omega, q3⟩ (grown_drew q4) (fun i o d hne ho hod => h3 i o d ho hod hne)
    rw [← nf_eq] at hrun hq
    have e' : a = ⟨(List.map (fun x => if ds.contains x.2 = true then a.tmps.getD x.2 undef else x.1) (a0.tmps.toList.zipIdx 0)).toArray, a0.defers⟩ := e
    rw [← e'] at hrun hq
    unfold Oper.wp
    rw [hrun, Oper.upon_skip, hld]
    exact hK _ _ hq
end Go.Proofs.YtbnplohlfiefhaaDoor
