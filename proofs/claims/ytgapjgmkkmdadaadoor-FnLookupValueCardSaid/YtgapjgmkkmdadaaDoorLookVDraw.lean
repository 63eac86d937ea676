/- the draw of LookupValue -/
import Derived.Test.YtgapjgmkkmdadaaDoorReg2
namespace Go.Proofs.YtgapjgmkkmdadaaDoor
open Go.RowKit
/-- two numbers drawn -/
def DrawnTwo (w : World) (e : Ending) (w' : World) : Prop := ∃ a b : Int, e = .returned (.tuple #[.int .i64 a, .int .i64 b]) ∧ Below w.heap.size w w'
set_option maxHeartbeats 1000000 in
theorem draw_LookupValue (v : Value) (bs : List Int) (w : World) (h : Bts w v bs) : Calls Tryd.prog 13 #[v] w (DrawnTwo w) := by
  have H := Lib.hid h
  clear h
  go_enter Tryd.func13, Tryd.ntmps13
  go_wp2_with fail
  refine (open_any v bs w H.out).mono ?_
  rintro e w1 ⟨v1, bs1, rfl, hr, hb⟩
  have HR := Lib.hid hr
  have B1 := nxt (Lib.hid (Below.refl _ _)) hb
  clear hr hb H
  go_wp2
  refine reader_region (R := w.heap.size) (v := v1) (bs := bs1) (p0 := 0)
    [IsV (.pointer (some ⟨w.heap.size, 0, none⟩)), IsNat 256, IsP (fun y => 0 ≤ y ∧ y ≤ 127500), IsV (.pointer (some ⟨w.heap.size, 0, none⟩)), IsNat 256, IsP (fun y => 0 ≤ y ∧ y ≤ 76500), LitP w.heap.size 4 (fun y => -1 ≤ y ∧ y ≤ 200001), LitP w.heap.size 7 (fun y => 0 ≤ y ∧ y < (4 : Nat)), IsV (.pointer (some ⟨w.heap.size, 0, none⟩)), IsNat 7, ElemP w.heap.size (fun y => 0 ≤ y ∧ y < (4 : Nat)), IsNat 4, ElemP w.heap.size (fun y => -1 ≤ y ∧ y ≤ 200001), IsP (fun y => -1 ≤ y ∧ y ≤ 200001), IsP (fun y => 0 ≤ y ∧ y ≤ 127500), IsP (fun y => -1 ≤ y ∧ y ≤ 200001)]
    21 [7, 8, 9, 10, 11, 12, 13, 14, 15, 16, 17, 18, 19, 20, 2, 3] rfl HR.out (by kernel_rfl) (by kernel_rfl) (by kernel_rfl) (by kernel_rfl)
    ⟨stab_v _ _, stab_n _ _, stab_p _ _, stab_v _ _, stab_n _ _, stab_p _ _, stab_l _ _ _, stab_l _ _ _, stab_v _ _, stab_n _ _, stab_e _ _, stab_n _ _, stab_e _ _, stab_p _ _, stab_p _ _, stab_p _ _, trivial⟩ ?_ ?_
  · refine ⟨?_, ?_, ?_, ?_, ?_, ?_, ?_, ?_, ?_, ?_, ?_, ?_, ?_, ?_, ?_, ?_, trivial⟩
    · exact op_fresh rfl (.inl rfl) (by kernel_rfl) rfl rfl
    · exact op_pick (n := 256) (j := 0) rfl rfl rfl rfl (by kernel_rfl) rfl rfl (by omega) (by show 0 + 16 ≤ 1000000000; omega)
    · exact op_run rfl fun a w h => by
        obtain ⟨x, hx, xl⟩ := h.1 1 _ _ rfl rfl (by kernel_rfl)
        exact ⟨_, x_mul (p := (x : Int)) (q := (500 : Int)) (ρ := a.eval) rfl Tryd.underlying3 hx rfl (by omega) (by omega), show IsP (fun y => 0 ≤ y ∧ y ≤ 127500) _ w from ⟨_, rfl, by omega, by omega⟩⟩
    · exact op_fresh rfl (.inl rfl) (by kernel_rfl) rfl rfl
    · exact op_pick (n := 256) (j := 3) rfl rfl rfl rfl (by kernel_rfl) rfl rfl (by omega) (by show 0 + 16 ≤ 1000000000; omega)
    · exact op_run rfl fun a w h => by
        obtain ⟨x, hx, xl⟩ := h.1 4 _ _ rfl rfl (by kernel_rfl)
        exact ⟨_, x_mul (p := (x : Int)) (q := (300 : Int)) (ρ := a.eval) rfl Tryd.underlying3 hx rfl (by omega) (by omega), show IsP (fun y => 0 ≤ y ∧ y ≤ 76500) _ w from ⟨_, rfl, by omega, by omega⟩⟩
    · exact op_alloc rfl fun a w hR h => by
        obtain ⟨z12, hz12, lz12, mz12⟩ := h.1 5 _ _ rfl rfl (by kernel_rfl)
        exact ⟨_, _, x_lit4 (ρ := a.eval) rfl hz12 rfl rfl rfl, lit_mk hR rfl (by simp; omega)⟩
    · exact op_alloc rfl fun a w hR h => ⟨_, _, x_lit7 (ρ := a.eval) rfl rfl rfl rfl rfl rfl rfl rfl, lit_mk hR rfl (by simp)⟩
    · exact op_fresh rfl (.inl rfl) (by kernel_rfl) rfl rfl
    · exact op_pick (n := 7) (j := 8) rfl rfl rfl rfl (by kernel_rfl) rfl rfl (by omega) (by show 0 + 16 ≤ 1000000000; omega)
    · exact op_index (j := 7) (k := 9) rfl rfl rfl rfl (by kernel_rfl) rfl rfl (by kernel_rfl) rfl rfl (by omega) rfl
    · exact op_load (j := 10) rfl rfl rfl rfl (by kernel_rfl) rfl rfl (fun y w h => nat_of y w h)
    · exact op_index (j := 6) (k := 11) rfl rfl rfl rfl (by kernel_rfl) rfl rfl (by kernel_rfl) rfl rfl (by omega) rfl
    · exact op_load (j := 12) rfl rfl rfl rfl (by kernel_rfl) rfl rfl (fun y w h => ⟨y, rfl, h⟩)
    · exact op_same (j := 2) rfl (.inr rfl) rfl rfl (by kernel_rfl) rfl
    · exact op_same (j := 13) rfl (.inr rfl) rfl rfl (by kernel_rfl) rfl
  · intro U w9 hr hg hφ
    obtain ⟨y2, h2, y20, y21⟩ : IsP (fun y => 0 ≤ y ∧ y ≤ 127500) (U 2) w9 := hφ 14 _ _ rfl rfl
    obtain ⟨y3, h3, y30, y31⟩ : IsP (fun y => -1 ≤ y ∧ y ≤ 200001) (U 3) w9 := hφ 15 _ _ rfl rfl
    have B2 := nxtG B1 hg (fun g h => by cases h; exact Nat.le_refl _)
    clear hr hg hφ
    simp [nf]
    rw [h2, h3]
    clear h2 h3
    go_wp2
    exact bodyPost_ret (v := .tuple #[.int .i64 y2, .int .i64 y3]) (by simp [results, Tryd.results13, go_sem]) rfl ⟨_, _, rfl, B2.out⟩
end Go.Proofs.YtgapjgmkkmdadaaDoor
