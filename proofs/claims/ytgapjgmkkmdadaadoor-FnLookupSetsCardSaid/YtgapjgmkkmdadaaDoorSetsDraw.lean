/- the draw of LookupSets -/
import Derived.Test.YtgapjgmkkmdadaaDoorReg2
namespace Go.Proofs.YtgapjgmkkmdadaaDoor
open Go.RowKit
section
variable {ρ : Operand → Value} {w : World} {o : Oper}
theorem x_lit9 {x0 x1 x2 x3 x4 x5 x6 x7 x8 : Operand} {y0 y1 y2 y3 y4 y5 y6 y7 y8 : Int} (ho : o.op = .buildSlice 30 9 #[(0, x0), (1, x1), (2, x2), (3, x3), (4, x4), (5, x5), (6, x6), (7, x7), (8, x8)]) (h0 : ρ x0 = .int .i64 y0) (h1 : ρ x1 = .int .i64 y1) (h2 : ρ x2 = .int .i64 y2) (h3 : ρ x3 = .int .i64 y3) (h4 : ρ x4 = .int .i64 y4) (h5 : ρ x5 = .int .i64 y5) (h6 : ρ x6 = .int .i64 y6) (h7 : ρ x7 = .int .i64 y7) (h8 : ρ x8 = .int .i64 y8) :
    (execOp ρ o).run Tryd.prog w = .ok (.value (.slice (some ⟨w.heap.size, 0, none⟩) 9 9)) (w.alloc (.cells (ints [y0, y1, y2, y3, y4, y5, y6, y7, y8]).toArray 3)) := by
  unfold execOp
  simp only [ho, h0, h1, h2, h3, h4, h5, h6, h7, h8, List.map_toArray, List.map_cons, List.map_nil]
  simp [go_sem, Tryd.underlying30, Tryd.underlying3, ints]
end
def KeyPost (R : Nat) (v : Value) (bs : List Int) (p : Nat) (w : World) (e : Ending) (w' : World) : Prop :=
  ∃ (a b : Int) (p' : Nat), e = .returned (.tuple #[.int .i64 a, .int .i64 b]) ∧ p ≤ p' ∧ p' ≤ p + 24 ∧ Rd w' R v bs ((p' : Nat) : Int) ∧ w.grownBy w' (some R)
set_option maxHeartbeats 1000000 in
theorem key_any (R : Nat) (v : Value) (bs : List Int) (p : Nat) (w : World) (h : Rd w R v bs p) (hp : p ≤ 1000000) : Calls Tryd.prog 39 #[.pointer (some ⟨R, 0, none⟩)] w (KeyPost R v bs p w) := by
  have HR := Lib.hid h
  clear h
  go_enter Tryd.func39, Tryd.ntmps39
  go_wp2
  refine reader_region (R := R) (v := v) (bs := bs) (p0 := p)
    [IsV (.pointer (some ⟨R, 0, none⟩)), IsNat 256, IsP (fun y => 0 ≤ y ∧ y ≤ 765000), LitP R 5 (fun y => -1 ≤ y ∧ y ≤ 1000001), LitP R 9 (fun y => 0 ≤ y ∧ y < (5 : Nat)), IsV (.pointer (some ⟨R, 0, none⟩)), IsNat 9, ElemP R (fun y => 0 ≤ y ∧ y < (5 : Nat)), IsNat 5, ElemP R (fun y => -1 ≤ y ∧ y ≤ 1000001), IsP (fun y => -1 ≤ y ∧ y ≤ 1000001), IsV (.pointer (some ⟨R, 0, none⟩)), IsNat 256, IsP (fun y => 0 ≤ y ∧ y ≤ 25500000), LitP R 5 (fun y => -1 ≤ y ∧ y ≤ 1000000001), LitP R 9 (fun y => 0 ≤ y ∧ y < (5 : Nat)), IsV (.pointer (some ⟨R, 0, none⟩)), IsNat 9, ElemP R (fun y => 0 ≤ y ∧ y < (5 : Nat)), IsNat 5, ElemP R (fun y => -1 ≤ y ∧ y ≤ 1000000001), IsP (fun y => -1 ≤ y ∧ y ≤ 1000000001), IsP (fun y => -1 ≤ y ∧ y ≤ 1000001), IsP (fun y => -1 ≤ y ∧ y ≤ 1000000001)]
    26 [4, 5, 6, 7, 8, 9, 10, 11, 12, 13, 14, 15, 16, 17, 18, 19, 20, 21, 22, 23, 24, 25, 2, 3] rfl HR.out (by kernel_rfl) (by kernel_rfl) (by kernel_rfl) (by kernel_rfl)
    ⟨stab_v _ _, stab_n _ _, stab_p _ _, stab_l _ _ _, stab_l _ _ _, stab_v _ _, stab_n _ _, stab_e _ _, stab_n _ _, stab_e _ _, stab_p _ _, stab_v _ _, stab_n _ _, stab_p _ _, stab_l _ _ _, stab_l _ _ _, stab_v _ _, stab_n _ _, stab_e _ _, stab_n _ _, stab_e _ _, stab_p _ _, stab_p _ _, stab_p _ _, trivial⟩ ?_ ?_
  · refine ⟨?_, ?_, ?_, ?_, ?_, ?_, ?_, ?_, ?_, ?_, ?_, ?_, ?_, ?_, ?_, ?_, ?_, ?_, ?_, ?_, ?_, ?_, ?_, ?_, trivial⟩
    · exact op_fresh rfl (.inl rfl) (by kernel_rfl) rfl rfl
    · exact op_pick (n := 256) (j := 0) rfl rfl rfl rfl (by kernel_rfl) rfl rfl (by omega) (by show p + 24 ≤ 1000000000; omega)
    · exact op_run rfl fun a w h => by
        obtain ⟨x, hx, xl⟩ := h.1 1 _ _ rfl rfl (by kernel_rfl)
        exact ⟨_, x_mul (p := (x : Int)) (q := (3000 : Int)) (ρ := a.eval) rfl Tryd.underlying3 hx rfl (by omega) (by omega), show IsP (fun y => 0 ≤ y ∧ y ≤ 765000) _ w from ⟨_, rfl, by omega, by omega⟩⟩
    · exact op_alloc rfl fun a w hR h => by
        obtain ⟨z6, hz6, lz6, mz6⟩ := h.1 2 _ _ rfl rfl (by kernel_rfl)
        exact ⟨_, _, x_lit5 (ρ := a.eval) rfl hz6 rfl rfl rfl rfl, lit_mk hR rfl (by simp; omega)⟩
    · exact op_alloc rfl fun a w hR h => ⟨_, _, x_lit9 (ρ := a.eval) rfl rfl rfl rfl rfl rfl rfl rfl rfl rfl, lit_mk hR rfl (by simp)⟩
    · exact op_fresh rfl (.inl rfl) (by kernel_rfl) rfl rfl
    · exact op_pick (n := 9) (j := 5) rfl rfl rfl rfl (by kernel_rfl) rfl rfl (by omega) (by show p + 24 ≤ 1000000000; omega)
    · exact op_index (j := 4) (k := 6) rfl rfl rfl rfl (by kernel_rfl) rfl rfl (by kernel_rfl) rfl rfl (by omega) rfl
    · exact op_load (j := 7) rfl rfl rfl rfl (by kernel_rfl) rfl rfl (fun y w h => nat_of y w h)
    · exact op_index (j := 3) (k := 8) rfl rfl rfl rfl (by kernel_rfl) rfl rfl (by kernel_rfl) rfl rfl (by omega) rfl
    · exact op_load (j := 9) rfl rfl rfl rfl (by kernel_rfl) rfl rfl (fun y w h => ⟨y, rfl, h⟩)
    · exact op_fresh rfl (.inl rfl) (by kernel_rfl) rfl rfl
    · exact op_pick (n := 256) (j := 11) rfl rfl rfl rfl (by kernel_rfl) rfl rfl (by omega) (by show p + 24 ≤ 1000000000; omega)
    · exact op_run rfl fun a w h => by
        obtain ⟨x, hx, xl⟩ := h.1 12 _ _ rfl rfl (by kernel_rfl)
        exact ⟨_, x_mul (p := (x : Int)) (q := (100000 : Int)) (ρ := a.eval) rfl Tryd.underlying3 hx rfl (by omega) (by omega), show IsP (fun y => 0 ≤ y ∧ y ≤ 25500000) _ w from ⟨_, rfl, by omega, by omega⟩⟩
    · exact op_alloc rfl fun a w hR h => by
        obtain ⟨z17, hz17, lz17, mz17⟩ := h.1 13 _ _ rfl rfl (by kernel_rfl)
        exact ⟨_, _, x_lit5 (ρ := a.eval) rfl hz17 rfl rfl rfl rfl, lit_mk hR rfl (by simp; omega)⟩
    · exact op_alloc rfl fun a w hR h => ⟨_, _, x_lit9 (ρ := a.eval) rfl rfl rfl rfl rfl rfl rfl rfl rfl rfl, lit_mk hR rfl (by simp)⟩
    · exact op_fresh rfl (.inl rfl) (by kernel_rfl) rfl rfl
    · exact op_pick (n := 9) (j := 16) rfl rfl rfl rfl (by kernel_rfl) rfl rfl (by omega) (by show p + 24 ≤ 1000000000; omega)
    · exact op_index (j := 15) (k := 17) rfl rfl rfl rfl (by kernel_rfl) rfl rfl (by kernel_rfl) rfl rfl (by omega) rfl
    · exact op_load (j := 18) rfl rfl rfl rfl (by kernel_rfl) rfl rfl (fun y w h => nat_of y w h)
    · exact op_index (j := 14) (k := 19) rfl rfl rfl rfl (by kernel_rfl) rfl rfl (by kernel_rfl) rfl rfl (by omega) rfl
    · exact op_load (j := 20) rfl rfl rfl rfl (by kernel_rfl) rfl rfl (fun y w h => ⟨y, rfl, h⟩)
    · exact op_same (j := 10) rfl (.inr rfl) rfl rfl (by kernel_rfl) rfl
    · exact op_same (j := 21) rfl (.inr rfl) rfl rfl (by kernel_rfl) rfl
  · intro U w9 hr hg hφ
    obtain ⟨y2, h2, y20, y21⟩ : IsP (fun y => -1 ≤ y ∧ y ≤ 1000001) (U 2) w9 := hφ 22 _ _ rfl rfl
    obtain ⟨y3, h3, y30, y31⟩ : IsP (fun y => -1 ≤ y ∧ y ≤ 1000000001) (U 3) w9 := hφ 23 _ _ rfl rfl
    obtain ⟨q, hq1, hq2, hrd⟩ := hr
    have hq3 : q ≤ p + 24 := hq2
    have HRD := Lib.hid hrd
    have HG := Lib.hid hg
    clear hrd hg hφ hq2
    simp [nf]
    rw [h2, h3]
    clear h2 h3
    go_wp2
    exact bodyPost_ret (v := .tuple #[.int .i64 y2, .int .i64 y3]) (by simp [results, Tryd.results39, go_sem]) rfl ⟨_, _, q, rfl, hq1, hq3, HRD.out, HG.out⟩
def DrawnSets (w : World) (e : Ending) (w' : World) : Prop := ∃ s m a : Int, e = .returned (.tuple #[.int .i64 s, .int .i64 m, .int .i64 a]) ∧ Below w.heap.size w w'
set_option maxHeartbeats 1000000 in
theorem draw_LookupSets (v : Value) (bs : List Int) (w : World) (h : Bts w v bs) : Calls Tryd.prog 22 #[v] w (DrawnSets w) := by
  have H := Lib.hid h
  clear h
  go_enter Tryd.func22, Tryd.ntmps22
  go_wp2_with fail
  refine (open_any v bs w H.out).mono ?_
  rintro e w1 ⟨v1, bs1, rfl, hr, hb⟩
  have HR := Lib.hid hr
  have lowV := Lib.hid hr.low.2
  have B1 := nxt (Lib.hid (Below.refl _ _)) hb
  have z1 := hr.low.1
  clear hr hb H
  go_wp2_with fail
  refine (pick_nat _ v1 bs1 12 0 _ HR.out (by omega) (by omega)).mono ?_
  rintro e w2 ⟨x, rfl, hx, hr, hg⟩
  have HR2 := Lib.hid hr
  have B2 := nxtG B1 hg (fun g h => by cases h; exact Nat.le_refl _)
  have z2 := hg.size
  clear hr hg B1 HR
  go_wp2_with fail
  have hb3 : Below w2.heap.size w2 ((w2.alloc (.cells #[.int .i64 (1 + (x : Int)), .int .i64 32, .int .i64 0, .int .i64 33] 3)).alloc (.cells #[.int .i64 0, .int .i64 0, .int .i64 0, .int .i64 0, .int .i64 1, .int .i64 2, .int .i64 3] 3)) := ((Below.refl _ _).alloc (Nat.le_refl _) _).alloc (by simp) _
  refine (pick_nat _ v1 bs1 7 1 _ (HR2.out.below hb3 (by omega) (fun h0 g hg => by have := lowV.out h0 g hg; omega)) (by omega) (by omega)).mono ?_
  rintro e w3 ⟨x2, rfl, hx2, hr, hg⟩
  have hrow1 := ((Row.new w2 3 (ints [1 + (x : Int), 32, 0, 33])).alloc (.cells #[.int .i64 0, .int .i64 0, .int .i64 0, .int .i64 0, .int .i64 1, .int .i64 2, .int .i64 3] 3)).grown hg (some_ne (by omega))
  have hrow2 := (Row.new (w2.alloc (.cells #[.int .i64 (1 + (x : Int)), .int .i64 32, .int .i64 0, .int .i64 33] 3)) 3 (ints [0, 0, 0, 0, 1, 2, 3])).grown hg (some_ne (by simp; omega))
  obtain ⟨j, hj, hj4⟩ := row_nat hrow2 (n := 4) (by simp) hx2
  obtain ⟨m, hm, hm0, hm1⟩ := row_at hrow1 (P := fun y => 0 ≤ y ∧ y ≤ 33) (by simp; omega) hj4
  simp only [World.size_alloc] at hj
  have HR3 := Lib.hid hr
  have B3 := nxt B2 hb3
  have B4 := nxtG B3 hg (fun g h => by cases h; omega)
  clear hr hg hrow1 hrow2 hb3 HR2 B2 B3
  go_wp2_with fail
  refine (key_any _ v1 bs1 2 _ HR3.out (by omega)).mono ?_
  rintro e w4 ⟨s, b, p4, rfl, hp4, hp4', hr, hg⟩
  have HR4 := Lib.hid hr
  have B5 := nxtG B4 hg (fun g h => by cases h; omega)
  clear hr hg HR3 B4 hm hj
  go_wp2_with fail
  all_goals
    refine (pick_any _ v1 bs1 _ p4 _ HR4.out (by omega)).mono ?_
    rintro e w5 ⟨a, rfl, a0, a1, a2, hr, hg, -⟩
    have HR5 := Lib.hid (HR4.out.next hr hg)
    have B6 := nxtG B5 hg (fun g h => by cases h; omega)
    have a33 : a ≤ 33 := by omega
    clear hr hg HR4 B5 a1 a2
    go_wp2_with fail
    refine (pick_nat _ v1 bs1 14 (p4 + 1) _ HR5.out (by omega) (by omega)).mono ?_
    rintro e w6 ⟨x6, rfl, hx6, hr, hg⟩
    have HR6 := Lib.hid hr
    have B7 := nxtG B6 hg (fun g h => by cases h; omega)
    obtain ⟨j6, hj6⟩ : ∃ j : Nat, (x6 : Int) / 13 = j := ⟨x6 / 13, by omega⟩
    have hj61 : j6 ≤ 1 := by omega
    obtain ⟨t6, ht6, ht60, ht61⟩ : ∃ t : Int, (j6 : Int) * m = t ∧ 0 ≤ t ∧ t ≤ 33 := by
      have : j6 = 0 ∨ j6 = 1 := by omega
      rcases this with rfl | rfl
      · exact ⟨0, by simp, by omega, by omega⟩
      · exact ⟨m, by simp, by omega, by omega⟩
    clear hr hg HR5 B6
    go_wp2_with fail
    refine (pick_nat _ v1 bs1 14 (p4 + 1 + 1) _ HR6.out (by omega) (by omega)).mono ?_
    rintro e w7 ⟨x7, rfl, hx7, -, hg⟩
    have B8 := nxtG B7 hg (fun g h => by cases h; omega)
    obtain ⟨j7, hj7⟩ : ∃ j : Nat, (x7 : Int) / 13 = j := ⟨x7 / 13, by omega⟩
    have hj71 : j7 ≤ 1 := by omega
    clear hg HR6 B7
    go_wp2
    exact bodyPost_ret (v := .tuple #[.int .i64 s, .int .i64 m, .int .i64 (a + t6 - j7)]) (by simp [results, Tryd.results22, go_sem]) rfl ⟨_, _, _, rfl, B8.out⟩
end Go.Proofs.YtgapjgmkkmdadaaDoor
