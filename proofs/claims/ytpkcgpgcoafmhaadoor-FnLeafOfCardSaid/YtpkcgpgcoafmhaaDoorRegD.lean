/- more operations of regions with values known ahead; what can be read where a memory is used -/
import Derived.Test.YtpkcgpgcoafmhaaDoorRegC
import Derived.Test.YtpkcgpgcoafmhaaDoorMemoU2
namespace Go.Proofs.YtpkcgpgcoafmhaaDoor
open Go.RowKit
section
variable {ρ : Operand → Value} {w : World} {o : Oper}
theorem xm_lit0 (ho : o.op = .buildSlice 24 0 #[]) : (execOp ρ o).run Tryd.prog w = .ok (.value (.slice (some ⟨w.heap.size, 0, none⟩) 0 0)) (w.alloc (.cells #[] 44)) := by
  unfold execOp
  simp only [ho]
  simp [go_sem, Tryd.underlying24, Tryd.underlying44]
theorem xm_fieldB {x : Operand} {q k f : Nat} (ho : o.op = .fieldAddr 44 x f) (hf : f < 3) (hx : ρ x = .pointer (some ⟨q, k, none⟩)) : (execOp ρ o).run Tryd.prog w = .ok (.value (.pointer (some ⟨q, k + f, none⟩))) w := by
  have : f = 0 ∨ f = 1 ∨ f = 2 := by omega
  unfold execOp
  rcases this with rfl | rfl | rfl <;> (simp only [ho, hx]; simp [go_sem])
end
section
variable {ops : Array Oper} {Q : Exit → Act → World → Prop} {a0 : Act} {l : List (Nat × Value)} {W : Nat → World} {acts : List Nat} {J : World → Prop} {i : Nat} {o : Oper}
theorem av_lit0 {m : Nat} (hg : o.guard = none) (ho : o.op = .buildSlice 24 0 #[]) (hl : valV l i = .slice (some ⟨(W m).heap.size, 0, none⟩) 0 0) (hW : W (m + 1) = (W m).alloc (.cells #[] 44)) : ActV Tryd.prog ops a0 l W m i o :=
  ⟨hg, fun a e => by rw [hl, hW]; exact xm_lit0 (ρ := a.eval) ho⟩
theorem cv_fieldB {d : Tmp} {j : Nat} {oj : Oper} {q k f : Nat} (hg : MetV ops l o) (ho : o.op = .fieldAddr 44 (.tmp d) f) (hf : f < 3) (hj : ops[j]? = some oj) (hjd : oj.dst = some d) (hdp : depB o j = true) (hv : valV l j = .pointer (some ⟨q, k, none⟩)) (hl : valV l i = .pointer (some ⟨q, k + f, none⟩)) : ConstV Tryd.prog ops Q a0 l J i o :=
  cv_run hg fun a w _ e => by rw [hl]; exact xm_fieldB (ρ := a.eval) ho hf ((e.deps j oj d hj hjd hdp).trans hv)
end
section
variable {w wr w1 : World} {B gx gr : Nat} {bv way : Value} {p : List Int} {vs : Nat → Value} {ls : Nat → List (Int × Int × Int)}
/-- the cells that the loops read -/
structure Rds (wr : World) (gx gb gw : Nat) (bv : Value) (vs : Nat → Value) (p : List Int) : Prop where
  c0 : wr.cell? ⟨gx, 0, none⟩ = some bv
  c1 : wr.cell? ⟨gx, 1, none⟩ = some (vs 0)
  f1 : wr.frozen? ⟨gx, 1, none⟩ = false
  cb : ∀ q, q < 7 → wr.cell? ⟨gb, q, none⟩ = some (vs (q + 2))
  fb : ∀ q, wr.frozen? ⟨gb, q, none⟩ = false
  cw : ∀ k x, p[k]? = some x → wr.cell? ⟨gw, 0 + k, none⟩ = some (.int .i64 x)
theorem rds_of {gb cb gw cw n : Nat} (hr : Row wr gx 26 [.slice (some ⟨gb, 0, none⟩) 7 cb, vs 0]) (hb : Gr wr B 24 1 (.slice (some ⟨gb, 0, none⟩) 7 cb) 7 (tab 7 fun i => vs (i + 2))) (hw : Gr wr B 3 1 (.slice (some ⟨gw, 0, none⟩) n cw) n (ints p)) (hn : 0 < n) :
    Rds wr gx gb gw (.slice (some ⟨gb, 0, none⟩) 7 cb) vs p := by
  obtain ⟨_, _, hv, _, _, _, hfb, hcb, _⟩ := hb.at (show 0 < 7 by omega)
  cases hv
  obtain ⟨_, _, hv, _, _, _, _, hcw, _⟩ := hw.at hn
  cases hv
  refine ⟨hr.cell (i := 0) rfl, hr.cell (i := 1) rfl, hr.free 1, fun q hq => hcb q _ (tab_get (fun i => vs (i + 2)) hq), hfb, fun k x hx => ?_⟩
  rw [Nat.zero_add]
  exact hcw k _ (by unfold ints; rw [List.getElem?_map, hx]; rfl)
theorem UT.rds {gb cb gw cw : Nat} (h : UT w B gx gr (.slice (some ⟨gb, 0, none⟩) 7 cb) (.slice (some ⟨gw, 0, none⟩) 3 cw) p vs ls wr) (hp : p.length = 3) : Rds wr gx gb gw (.slice (some ⟨gb, 0, none⟩) 7 cb) vs p :=
  rds_of h.m.1 h.m.2.1 (by have := h.way; rwa [hp] at this) (by omega)
theorem UT.blk {M : List (Int × Int × Int)} {gs n c i : Nat} (h : UT w B gx gr bv way p vs ls wr) (h0 : ls 0 = M) (hi : i < M.length) (hv : vs 0 = .slice (some ⟨gs, 0, none⟩) n c) :
    wr.cell? ⟨gs, i * 3, none⟩ = some (.int .i64 (bat M i).1) ∧ wr.cell? ⟨gs, i * 3 + 1, none⟩ = some (.int .i64 (bat M i).2.1) ∧ wr.cell? ⟨gs, i * 3 + 2, none⟩ = some (.int .i64 (bat M i).2.2) := by
  have g0 := (h.m.2.2 0 (by omega)).1
  rw [h0] at g0
  obtain ⟨g, c', hve, -, -, -, hcell, -⟩ := gr_one g0 (by omega)
  rw [hv] at hve
  cases hve
  obtain ⟨d0, d1, d2⟩ := blks_get hi
  exact ⟨hcell _ _ d0, hcell _ _ d1, hcell _ _ d2⟩
/-- behind an append, ahead of its store -/
theorem UT.mid {gb cb gw cw j : Nat} {v1 : Value} {l' : List (Int × Int × Int)} (h : UT w B gx gr (.slice (some ⟨gb, 0, none⟩) 7 cb) (.slice (some ⟨gw, 0, none⟩) 3 cw) p vs ls wr) (hp : p.length = 3) (hj : j < 9) (g1 : Gr w1 B 44 3 v1 l'.length (blks l')) (r1 : wr.grownBy w1 (gBlock (vs j))) (k1 : gBlock v1 = gBlock (vs j) ∨ gBlock v1 = some wr.heap.size) :
    Rds w1 gx gb gw (.slice (some ⟨gb, 0, none⟩) 7 cb) vs p := by
  have hne : ∀ g, gBlock (.slice (some ⟨gb, 0, none⟩) 7 cb) = some g → gBlock (vs j) ≠ some g := fun g hg e => h.m.neb (i := j) (by omega) g e hg
  refine rds_of (B := B) (cw := cw) (h.m.1.grown r1 (fun e => h.m.nex (i := j) (by omega) _ e rfl)) (h.m.2.1.kept r1 hne) ?_ (show 0 < 3 by omega)
  have := (h.keep r1 (fun g e => ((h.m.2.2 j (by omega)).1.lt g e).1) (h.wayx (by omega))).1
  rwa [hp] at this
end
end Go.Proofs.YtpkcgpgcoafmhaaDoor
