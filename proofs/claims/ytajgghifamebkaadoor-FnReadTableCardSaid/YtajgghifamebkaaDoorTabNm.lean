/- the draw of a table's names -/
import Derived.Test.YtajgghifamebkaaDoorTabDr
namespace Go.Proofs.YtajgghifamebkaaDoor
set_option linter.unusedSimpArgs false
set_option linter.unusedVariables false
open Go.RowKit
/-- a written list of one to three short texts -/
def LitS (R : Nat) (v : Value) (w : World) : Prop := ∃ (g : Nat) (l : List ByteArray), v = .slice (some ⟨g, 0, none⟩) l.length l.length ∧ 1 ≤ l.length ∧ l.length ≤ 3 ∧ g ≠ R ∧ Row w g 9 (strs l) ∧ ∀ s ∈ l, s.size ≤ 9
/-- six such lists -/
def LitSS (R : Nat) (v : Value) (w : World) : Prop := ∃ (g : Nat) (us : Nat → Value), v = .slice (some ⟨g, 0, none⟩) 6 6 ∧ g ≠ R ∧ Row w g 23 (tab 6 us) ∧ ∀ i, i < 6 → LitS R (us i) w
def ElemSS (R : Nat) (v : Value) (w : World) : Prop := ∃ (g x : Nat) (u : Value), v = .pointer (some ⟨g, x, none⟩) ∧ g ≠ R ∧ w.cell? ⟨g, x, none⟩ = some u ∧ LitS R u w
theorem stab_s (R : Nat) : Stab R (LitS R) := fun _ _ _ ⟨g, l, h1, h2, h3, h4, h5, h6⟩ hg => ⟨g, l, h1, h2, h3, h4, h5.grown hg (some_ne (fun e => h4 e.symm)), h6⟩
theorem stab_ss (R : Nat) : Stab R (LitSS R) := fun _ _ _ ⟨g, us, h1, h2, h3, h4⟩ hg => ⟨g, us, h1, h2, h3.grown hg (some_ne (fun e => h2 e.symm)), fun i hi => stab_s R _ _ _ (h4 i hi) hg⟩
theorem stab_es (R : Nat) : Stab R (ElemSS R) := fun _ _ _ ⟨g, x, u, h1, h2, h3, h4⟩ hg => ⟨g, x, u, h1, h2, hg.cell h3 (fun e => h2 (Option.some.inj e)), stab_s R _ _ _ h4 hg⟩
theorem lits_mk {R : Nat} {w : World} (l : List ByteArray) (hR : R < w.heap.size) (h1 : 1 ≤ l.length) (h3 : l.length ≤ 3) (hs : ∀ s ∈ l, s.size ≤ 9) : LitS R (.slice (some ⟨w.heap.size, 0, none⟩) l.length l.length) (w.alloc (.cells (strs l).toArray 9)) :=
  ⟨w.heap.size, l, rfl, h1, h3, by omega, Row.new w 9 (strs l), hs⟩
theorem LitS.lit {R : Nat} {v : Value} {w : World} (h : LitS R v w) : ∃ a n c, v = .slice a n c := by
  obtain ⟨g, l, rfl, _⟩ := h
  exact ⟨_, _, _, rfl⟩
section
variable {ρ : Operand → Value} {w : World} {o : Oper}
theorem x_str1 {a : ByteArray} (ho : o.op = .buildSlice 23 1 #[(0, .const (.string a))]) (hc : ∀ v, ρ (.const v) = v) : (execOp ρ o).run Tryd.prog w = .ok (.value (.slice (some ⟨w.heap.size, 0, none⟩) 1 1)) (w.alloc (.cells (strs [a]).toArray 9)) := by
  unfold execOp
  simp only [ho, hc, List.map_toArray, List.map_cons, List.map_nil]
  simp [go_sem, Tryd.underlying23, Tryd.underlying9, strs]
theorem x_str2 {a b : ByteArray} (ho : o.op = .buildSlice 23 2 #[(0, .const (.string a)), (1, .const (.string b))]) (hc : ∀ v, ρ (.const v) = v) : (execOp ρ o).run Tryd.prog w = .ok (.value (.slice (some ⟨w.heap.size, 0, none⟩) 2 2)) (w.alloc (.cells (strs [a, b]).toArray 9)) := by
  unfold execOp
  simp only [ho, hc, List.map_toArray, List.map_cons, List.map_nil]
  simp [go_sem, Tryd.underlying23, Tryd.underlying9, strs]
theorem x_str3 {a b c : ByteArray} (ho : o.op = .buildSlice 23 3 #[(0, .const (.string a)), (1, .const (.string b)), (2, .const (.string c))]) (hc : ∀ v, ρ (.const v) = v) : (execOp ρ o).run Tryd.prog w = .ok (.value (.slice (some ⟨w.heap.size, 0, none⟩) 3 3)) (w.alloc (.cells (strs [a, b, c]).toArray 9)) := by
  unfold execOp
  simp only [ho, hc, List.map_toArray, List.map_cons, List.map_nil]
  simp [go_sem, Tryd.underlying23, Tryd.underlying9, strs]
theorem x_six {x0 x1 x2 x3 x4 x5 : Operand} {us : Nat → Value} (ho : o.op = .buildSlice 87 6 #[(0, x0), (1, x1), (2, x2), (3, x3), (4, x4), (5, x5)]) (h0 : ρ x0 = us 0) (h1 : ρ x1 = us 1) (h2 : ρ x2 = us 2) (h3 : ρ x3 = us 3) (h4 : ρ x4 = us 4) (h5 : ρ x5 = us 5)
    (hl : ∀ i, i < 6 → ∃ a n c, us i = .slice a n c) : (execOp ρ o).run Tryd.prog w = .ok (.value (.slice (some ⟨w.heap.size, 0, none⟩) 6 6)) (w.alloc (.cells (tab 6 us).toArray 23)) := by
  obtain ⟨a0, n0, c0, e0⟩ := hl 0 (by omega)
  obtain ⟨a1, n1, c1, e1⟩ := hl 1 (by omega)
  obtain ⟨a2, n2, c2, e2⟩ := hl 2 (by omega)
  obtain ⟨a3, n3, c3, e3⟩ := hl 3 (by omega)
  obtain ⟨a4, n4, c4, e4⟩ := hl 4 (by omega)
  obtain ⟨a5, n5, c5, e5⟩ := hl 5 (by omega)
  have ht : tab 6 us = [us 0, us 1, us 2, us 3, us 4, us 5] := rfl
  unfold execOp
  simp only [ho, h0, h1, h2, h3, h4, h5, ht, List.map_toArray, List.map_cons, List.map_nil]
  rw [e0, e1, e2, e3, e4, e5]
  simp [go_sem, Tryd.underlying87, Tryd.underlying23]
theorem x_indexSS {x i : Operand} {g n c k : Nat} (ho : o.op = .indexAddr 87 x i) (hx : ρ x = .slice (some ⟨g, 0, none⟩) n c) (hi : ρ i = .int .i64 (k : Int)) (hk : k < n) : (execOp ρ o).run Tryd.prog w = .ok (.value (.pointer (some ⟨g, k, none⟩))) w := by
  unfold execOp
  have h1 : (0 : Int) ≤ (k : Int) := by omega
  have h2 : (k : Int) < (n : Int) := by omega
  simp only [ho, hx, hi]
  simp [go_sem, Tryd.underlying87, h1, h2, hk]
theorem x_loadSS {x : Operand} {ad : Addr} {u : Value} (ho : o.op = .load 23 x) (hx : ρ x = .pointer (some ad)) (hc : w.cell? ad = some u) : (execOp ρ o).run Tryd.prog w = .ok (.value u) w := by
  unfold execOp
  simp only [ho, hx]
  simp [go_sem, hc, Tryd.underlying23]
end
def NamesDr (R : Nat) (v : Value) (bs : List Int) (p : Nat) (w : World) (e : Ending) (w' : World) : Prop :=
  ∃ (a : Option Addr) (c : Nat) (ns : List ByteArray) (p' : Nat), e = .returned (.slice a ns.length c) ∧ Strs w' (.slice a ns.length c) ns ∧ 1 ≤ ns.length ∧ ns.length ≤ 3 ∧ (∀ s ∈ ns, s.size ≤ 9) ∧ p ≤ p' ∧ p' ≤ p + 10000 ∧ Rd w' R v bs ((p' : Nat) : Int) ∧ w.grownBy w' (some R)
set_option maxRecDepth 20000 in
set_option maxHeartbeats 1000000 in
theorem names_any (R : Nat) (v : Value) (bs : List Int) (kind : Nat) (p : Nat) (w : World) (h : Rd w R v bs p) (hp : p ≤ 100000000) (hk : kind < 3) :
    Calls Tryd.prog 52 #[.pointer (some ⟨R, 0, none⟩), .int .i64 kind] w (NamesDr R v bs p w) := by
  have H := Lib.hid h
  clear h
  go_enter Tryd.func52, Tryd.ntmps52
  go_wp2_with fail
  refine reader_region (R := R) (v := v) (bs := bs) (p0 := p) [LitS R, LitS R, LitS R, LitS R, LitS R, LitS R, LitSS R, LitP R 3 (fun x => 0 ≤ x ∧ x < (6 : Nat)), IsV (.pointer (some ⟨R, 0, none⟩)), IsNat 3, ElemP R (fun x => 0 ≤ x ∧ x < (6 : Nat)), IsNat 6, LitP R 2 (fun x => 0 ≤ x ∧ x < (6 : Nat)), IsV (.pointer (some ⟨R, 0, none⟩)), IsNat 2, ElemP R (fun x => 0 ≤ x ∧ x < (6 : Nat)), IsNat 6, LitP R 3 (fun x => 0 ≤ x ∧ x < (6 : Nat)), IsV (.int .i64 kind), ElemP R (fun x => 0 ≤ x ∧ x < (6 : Nat)), IsNat 6, ElemSS R, LitS R, LitS R]
    28 [4, 5, 6, 7, 8, 9, 10, 11, 12, 13, 14, 15, 16, 17, 18, 19, 20, 21, 22, 23, 24, 25, 26, 27] rfl H.out (by kernel_rfl) (by kernel_rfl) (by kernel_rfl) (by kernel_rfl)
    ⟨stab_s _, stab_s _, stab_s _, stab_s _, stab_s _, stab_s _, stab_ss _, stab_l _ _ _, stab_v _ _, stab_n _ _, stab_e _ _, stab_n _ _, stab_l _ _ _, stab_v _ _, stab_n _ _, stab_e _ _, stab_n _ _, stab_l _ _ _, stab_v _ _, stab_e _ _, stab_n _ _, stab_es _, stab_s _, stab_s _, trivial⟩ ?_ ?_
  · refine ⟨?_, ?_, ?_, ?_, ?_, ?_, ?_, ?_, ?_, ?_, ?_, ?_, ?_, ?_, ?_, ?_, ?_, ?_, ?_, ?_, ?_, ?_, ?_, ?_, trivial⟩
    · exact op_alloc rfl fun a w' hR h => ⟨_, _, x_str2 (ρ := a.eval) rfl (fun _ => rfl), lits_mk [⟨#[97]⟩, ⟨#[98]⟩] hR (by decide) (by decide) (by decide)⟩
    · exact op_alloc rfl fun a w' hR h => ⟨_, _, x_str3 (ρ := a.eval) rfl (fun _ => rfl), lits_mk [⟨#[97]⟩, ⟨#[98]⟩, ⟨#[99]⟩] hR (by decide) (by decide) (by decide)⟩
    · exact op_alloc rfl fun a w' hR h => ⟨_, _, x_str2 (ρ := a.eval) rfl (fun _ => rfl), lits_mk [⟨#[107, 101, 121]⟩, ⟨#[118, 97, 108, 117, 101]⟩] hR (by decide) (by decide) (by decide)⟩
    · exact op_alloc rfl fun a w' hR h => ⟨_, _, x_str1 (ρ := a.eval) rfl (fun _ => rfl), lits_mk [⟨#[97]⟩] hR (by decide) (by decide) (by decide)⟩
    · exact op_alloc rfl fun a w' hR h => ⟨_, _, x_str3 (ρ := a.eval) rfl (fun _ => rfl), lits_mk [⟨#[107, 101, 121]⟩, ⟨#[110, 97, 109, 101]⟩, ⟨#[118, 97, 108, 117, 101]⟩] hR (by decide) (by decide) (by decide)⟩
    · exact op_alloc rfl fun a w' hR h => ⟨_, _, x_str2 (ρ := a.eval) rfl (fun _ => rfl), lits_mk [⟨#[98]⟩, ⟨#[107, 101, 121]⟩] hR (by decide) (by decide) (by decide)⟩
    · exact op_alloc rfl fun a w' hR h => by
        have h0 := h.1 0 _ 5 rfl rfl (by kernel_rfl)
        have h1 := h.1 1 _ 6 rfl rfl (by kernel_rfl)
        have h2 := h.1 2 _ 7 rfl rfl (by kernel_rfl)
        have h3 := h.1 3 _ 8 rfl rfl (by kernel_rfl)
        have h4 := h.1 4 _ 9 rfl rfl (by kernel_rfl)
        have h5 := h.1 5 _ 10 rfl rfl (by kernel_rfl)
        have hall : ∀ i, i < 6 → LitS R (a.tmps.getD (i + 5) undef) w' := fun i hi => by
          have : i = 0 ∨ i = 1 ∨ i = 2 ∨ i = 3 ∨ i = 4 ∨ i = 5 := by omega
          rcases this with rfl | rfl | rfl | rfl | rfl | rfl
          · exact h0
          · exact h1
          · exact h2
          · exact h3
          · exact h4
          · exact h5
        refine ⟨_, _, x_six (ρ := a.eval) (us := fun i => a.tmps.getD (i + 5) undef) rfl rfl rfl rfl rfl rfl rfl (fun i hi => (hall i hi).lit), w'.heap.size, _, rfl, by omega, Row.new w' 23 (tab 6 fun i => a.tmps.getD (i + 5) undef), fun i hi => ?_⟩
        exact stab_s R _ _ _ (hall i hi) (grown_alloc w' _ _)
    · exact op_alloc rfl fun a w' hR h => ⟨_, _, x_lit3 (ρ := a.eval) rfl rfl rfl rfl, lit_mk hR rfl (by decide)⟩
    · exact op_fresh rfl (.inl rfl) (by kernel_rfl) rfl rfl
    · exact op_pick (n := 3) (j := 8) rfl rfl rfl rfl (by kernel_rfl) rfl rfl (by omega) (by show p + 400 * 24 ≤ 1000000000; omega)
    · exact op_index (j := 7) (k := 9) rfl rfl rfl rfl (by kernel_rfl) rfl rfl (by kernel_rfl) rfl rfl (Nat.le_refl _) rfl
    · exact op_load (j := 10) rfl rfl rfl rfl (by kernel_rfl) rfl rfl (fun y w h => nat_of y w h)
    · exact op_alloc rfl fun a w' hR h => ⟨_, _, x_lit2 (ρ := a.eval) rfl rfl rfl, lit_mk hR rfl (by decide)⟩
    · exact op_fresh rfl (.inl rfl) (by kernel_rfl) rfl rfl
    · exact op_pick (n := 2) (j := 13) rfl rfl rfl rfl (by kernel_rfl) rfl rfl (by omega) (by show p + 400 * 24 ≤ 1000000000; omega)
    · exact op_index (j := 12) (k := 14) rfl rfl rfl rfl (by kernel_rfl) rfl rfl (by kernel_rfl) rfl rfl (Nat.le_refl _) rfl
    · exact op_load (j := 15) rfl rfl rfl rfl (by kernel_rfl) rfl rfl (fun y w h => nat_of y w h)
    · exact op_alloc rfl fun a w' hR h => by
        obtain ⟨x, hx, hxl⟩ := h.1 11 _ 16 rfl rfl (by kernel_rfl)
        obtain ⟨y, hy, hyl⟩ := h.1 16 _ 21 rfl rfl (by kernel_rfl)
        exact ⟨_, _, x_lit3 (ρ := a.eval) rfl hx hy rfl, lit_mk hR rfl (by intro z hz; simp at hz; omega)⟩
    · exact op_fresh rfl (.inl rfl) (by kernel_rfl) rfl rfl
    · exact op_run rfl fun a w' h => by
        obtain ⟨g, l, hv, hl, hne, hrow, hP⟩ := h.1 17 _ 22 rfl rfl (by kernel_rfl)
        have hi : a.tmps.getD 23 undef = .int .i64 kind := h.1 18 _ 23 rfl rfl (by kernel_rfl)
        obtain ⟨y, hy, hPy⟩ := row_at hrow hP (i := kind) (by omega)
        exact ⟨_, x_index (ρ := a.eval) rfl hv hi hk, ⟨g, kind, none⟩, y, rfl, hne, hy, hPy⟩
    · exact op_load (j := 19) rfl rfl rfl rfl (by kernel_rfl) rfl rfl (fun y w h => nat_of y w h)
    · exact op_run rfl fun a w' h => by
        obtain ⟨g, us, hv, hne, hrow, hall⟩ := h.1 6 _ 11 rfl rfl (by kernel_rfl)
        obtain ⟨x, hx, hxl⟩ := h.1 20 _ 25 rfl rfl (by kernel_rfl)
        exact ⟨_, x_indexSS (ρ := a.eval) rfl hv hx hxl, g, x, us x, rfl, hne, hrow.cell (tab_get us hxl), hall x hxl⟩
    · exact op_run rfl fun a w' h => by
        obtain ⟨g, x, u, hv, hne, hc, hu⟩ := h.1 21 _ 26 rfl rfl (by kernel_rfl)
        exact ⟨_, x_loadSS (ρ := a.eval) rfl hv hc, hu⟩
    · exact op_same (j := 22) rfl (.inr rfl) rfl rfl (by kernel_rfl) rfl
  · intro U w1 hr hg hφ
    obtain ⟨g, l, h4, h41, h43, hne, hrow, hs⟩ : LitS R (U 4) w1 := hφ 23 _ 4 rfl rfl
    obtain ⟨p1, hp1, hp2, hrd⟩ := hr
    have hp3 : p1 ≤ p + 400 * 24 := hp2
    have HS : Hid (Strs w1 (.slice (some ⟨g, 0, none⟩) l.length l.length) l) := View.of_row hrow (by simp) (by unfold maxLen; omega) (Nat.le_refl _)
    have HSZ := Lib.hid hs
    have HRD := Lib.hid hrd
    have HG := Lib.hid hg
    have H13 := Lib.hid (And.intro h41 h43)
    clear hrd hg hφ hrow hs hp2 h41 h43
    simp [nf]
    rw [h4]
    clear h4
    go_wp2
    go_ret
    exact ⟨_, _, l, p1, rfl, HS.out, H13.out.1, H13.out.2, HSZ.out, hp1, by omega, HRD.out, HG.out⟩
end Go.Proofs.YtajgghifamebkaaDoor
