/- the draw of FnFindTable -/
import Derived.Test.YtiiipaemplihnaaDoorCatDr
import Derived.Test.YtiiipaemplihnaaDoorDoor
namespace Go.Proofs.YtiiipaemplihnaaDoor
open Go.RowKit
def DrawnCat (w : World) (e : Ending) (w' : World) : Prop := ∃ u x n en, e = .returned (.tuple #[u, .string x]) ∧ CatIn w' u n en ∧ SmallC n en ∧ Below w.heap.size w w'
def LitN (R n : Nat) (v : Value) (w : World) : Prop := ∃ (g : Nat) (l : List ByteArray), v = .slice (some ⟨g, 0, none⟩) n n ∧ l.length = n ∧ g ≠ R ∧ Row w g 9 (strs l)
def ElemN (R : Nat) (v : Value) (w : World) : Prop := ∃ (ad : Addr) (s : ByteArray), v = .pointer (some ad) ∧ ad.block ≠ R ∧ w.cell? ad = some (.string s)
def StrP (v : Value) (_ : World) : Prop := ∃ s : ByteArray, v = .string s
theorem stab_ln (R n : Nat) : Stab R (LitN R n) := fun _ _ _ ⟨g, l, h1, h2, h3, h4⟩ hg => ⟨g, l, h1, h2, h3, h4.grown hg (some_ne (fun e => h3 e.symm))⟩
theorem stab_en (R : Nat) : Stab R (ElemN R) := fun _ _ _ ⟨ad, s, h1, h2, h3⟩ hg => ⟨ad, s, h1, h2, hg.cell h3 (fun e => h2 (Option.some.inj e))⟩
theorem stab_sp (R : Nat) : Stab R StrP := fun _ _ _ h _ => h
section
variable {ρ : Operand → Value} {w : World} {o : Oper}
theorem x_str4 {a b c d : ByteArray} (ho : o.op = .buildSlice 26 4 #[(0, .const (.string a)), (1, .const (.string b)), (2, .const (.string c)), (3, .const (.string d))]) (hc : ∀ v, ρ (.const v) = v) : (execOp ρ o).run Tryd.prog w = .ok (.value (.slice (some ⟨w.heap.size, 0, none⟩) 4 4)) (w.alloc (.cells (strs [a, b, c, d]).toArray 9)) := by
  unfold execOp
  simp only [ho, hc, List.map_toArray, List.map_cons, List.map_nil]
  simp [go_sem, Tryd.underlying26, Tryd.underlying9, strs]
theorem x_loadN {x : Operand} {ad : Addr} {s : ByteArray} (ho : o.op = .load 9 x) (hx : ρ x = .pointer (some ad)) (hc : w.cell? ad = some (.string s)) : (execOp ρ o).run Tryd.prog w = .ok (.value (.string s)) w := by
  unfold execOp
  simp only [ho, hx]
  simp [go_sem, hc]
end
set_option maxRecDepth 20000 in
set_option maxHeartbeats 1000000 in
theorem draw_FindTable (v : Value) (bs : List Int) (w : World) (h : Bts w v bs) : Calls Tryd.prog 4 #[v] w (DrawnCat w) := by
  have H := Lib.hid h
  clear h
  go_enter Tryd.func4, Tryd.ntmps4
  go_wp2_with fail
  refine (open_any v bs w H.out).mono ?_
  rintro e w1 ⟨v1, bs1, rfl, hr, hb⟩
  have HR := Lib.hid hr
  have HB := Lib.hid hb
  clear hr hb H
  obtain ⟨R, hRR⟩ : ∃ R, w.heap.size = R := ⟨_, rfl⟩
  rw [hRR] at HR
  have HRR := Lib.hid hRR
  go_wp2_with fail
  try rw [hRR]
  clear hRR
  refine (catalog_any R v1 bs1 9 0 w1 HR.out (by omega) (by omega)).mono ?_
  rintro e w2 ⟨cv, n, en, nv, rv, p2, rfl, q1, q2, hc⟩
  obtain ⟨ac, cc, hcv⟩ := hc.c.lit
  subst hcv
  have HC := Lib.hid hc
  clear hc
  go_wp2_with fail
  refine reader_region (R := R) (v := v1) (bs := bs1) (p0 := p2) [IsV (.slice ac n cc), LitN R 4, IsV (.pointer (some ⟨R, 0, none⟩)), IsNat 4, ElemN R, StrP, IsV (.slice ac n cc), StrP]
    16 [10, 11, 12, 13, 14, 15, 2, 3] rfl HC.out.rd (by kernel_rfl) (by kernel_rfl) (by kernel_rfl) (by kernel_rfl)
    ⟨stab_v _ _, stab_ln _ _, stab_v _ _, stab_n _ _, stab_en _, stab_sp _, stab_v _ _, stab_sp _, trivial⟩ ?_ ?_
  · refine ⟨?_, ?_, ?_, ?_, ?_, ?_, ?_, ?_, trivial⟩
    · exact op_fresh rfl (.inl rfl) (by kernel_rfl) rfl rfl
    · exact op_alloc rfl fun a w' hR h => ⟨_, _, x_str4 (ρ := a.eval) rfl (fun _ => rfl), _, _, rfl, rfl, by omega, Row.new w' 9 _⟩
    · exact op_fresh rfl (.inl rfl) (by kernel_rfl) rfl rfl
    · exact op_pick (n := 4) (j := 2) rfl rfl rfl rfl (by kernel_rfl) rfl rfl (by omega) (by show p2 + 400 * 8 ≤ 1000000000; omega)
    · exact op_run rfl fun a w' h => by
        obtain ⟨g, l, hv, hl, hne, hrow⟩ := h.1 1 _ 11 rfl rfl (by kernel_rfl)
        obtain ⟨x, hx, hxn⟩ := h.1 3 _ 13 rfl rfl (by kernel_rfl)
        obtain ⟨s, hs, -⟩ := row_atS hrow (P := fun _ => True) (fun _ _ => trivial) (i := x) (by omega)
        exact ⟨_, x_indexN (ρ := a.eval) rfl hv hx (by omega), _, s, rfl, hne, hs⟩
    · exact op_run rfl fun a w' h => by
        obtain ⟨ad, s, hv, hne, hs⟩ := h.1 4 _ 14 rfl rfl (by kernel_rfl)
        exact ⟨_, x_loadN (ρ := a.eval) rfl hv hs, s, rfl⟩
    · exact op_same (j := 0) rfl (.inr rfl) rfl rfl (by kernel_rfl) rfl
    · exact op_same (j := 5) rfl (.inr rfl) rfl rfl (by kernel_rfl) rfl
  intro U w3 hr hg hφ
  have h2 : U 2 = .slice ac n cc := hφ 6 _ 2 rfl rfl
  obtain ⟨s, h3⟩ : StrP (U 3) w3 := hφ 7 _ 3 rfl rfl
  obtain ⟨p3, hp3, hp4, hrd⟩ := hr
  have HC3 := Lib.hid (HC.out.read hrd hg)
  have HB3 : Hid (Below w.heap.size w w3) := HB.out.grown (grown_trans HC.out.gw hg) (by have := HB.out.size; omega) (fun g hg => by cases hg; have := HRR.out; omega)
  clear hrd hg hφ HC HB hp4
  simp [nf]
  rw [h2, h3]
  clear h2 h3
  go_wp2
  exact bodyPost_ret (v := .tuple #[.slice ac n cc, .string s]) (by simp [results, Tryd.results4, go_sem]) rfl ⟨_, s, n, en, rfl, HC3.out.cat, HC3.out.s, HB3.out⟩
end Go.Proofs.YtiiipaemplihnaaDoor
