/- the draw of FillBins -/
import Derived.Test.YtkekacnnjmbelaaDoorReg2
import Derived.Test.YtkekacnnjmbelaaDoorFillDraw
namespace Go.Proofs.YtkekacnnjmbelaaDoor
open Go.RowKit
set_option maxHeartbeats 2000000 in
theorem draw_FillBins (v : Value) (bs : List Int) (w : World) (h : Bts w v bs) : Calls Tryd.prog 25 #[v] w (DrawnFill w) := by
  have H := Lib.hid h
  clear h
  go_enter Tryd.func25, Tryd.ntmps25
  go_wp2_with fail
  refine (open_any v bs w H.out).mono ?_
  rintro e w1 ⟨v1, bs1, rfl, hr, hb⟩
  have HR := Lib.hid hr
  have lowR := hr.low.1
  have LV := Lib.hid hr.low.2
  have z1 : w.heap.size ≤ w1.heap.size := hb.size
  have B1 := nxt (Lib.hid (Below.refl _ _)) hb
  clear hr hb H
  go_wp2_with fail
  refine (pick_nat _ v1 bs1 4 0 _ HR.out (by omega) (by omega)).mono ?_
  rintro e w2 ⟨x, rfl, hx, hr, hg⟩
  have HR2 := Lib.hid hr
  have B2 := nxtG B1 hg (fun g h => by cases h; exact Nat.le_refl _)
  have z2 : w1.heap.size ≤ w2.heap.size := hg.size
  clear hr hg B1 HR
  go_wp2_with fail
  refine (binNumbers_any _ v1 bs1 (1 + (x : Int)) 14 _ _ HR2.out (by omega) (by omega) (by omega)).mono ?_
  rintro e w3 ⟨u2, ns, p3, rfl, hG, hnl, -, hp3, hp3', hr, hg⟩
  have HR3 := Lib.hid hr
  have HN3 := Lib.hid (hG.low z2)
  have B3 := nxtG B2 hg (fun g h => by cases h; exact Nat.le_refl _)
  have z3 : w1.heap.size ≤ w3.heap.size := Nat.le_trans z2 hg.size
  obtain ⟨ab, cb, hu2⟩ := hG.lit
  subst hu2
  clear hr hg hG B2 HR2
  go_wp2_with fail
  refine (pick_nat _ v1 bs1 14 p3 _ HR3.out (by omega) (by omega)).mono ?_
  rintro e w4 ⟨x4, rfl, hx4, hr, hg⟩
  have HR4 := Lib.hid hr
  have HN4 := Lib.hid (HN3.out.kept hg (fun g hg he => by have := (HN3.out.lt g hg).1; cases he; omega))
  have B4 := nxtG B3 hg (fun g h => by cases h; exact Nat.le_refl _)
  have z4 : w1.heap.size ≤ w4.heap.size := Nat.le_trans z3 hg.size
  clear hr hg B3 HR3 HN3
  obtain ⟨j, hj⟩ : ∃ j : Nat, (x4 : Int) / 13 = j := ⟨x4 / 13, by omega⟩
  have hj1 : j ≤ 1 := by omega
  go_wp2_with fail
  refine (numbers_any _ v1 bs1 ((ns.length : Int) + j) _ _ HR4.out (by omega) (by omega)).mono ?_
  rintro e w5 ⟨u, xs, p5, rfl, hG, hxl, -, hp5, hp5', hr, hg⟩
  have HR5 := Lib.hid hr
  have HX5 := Lib.hid (hG.low z4)
  have HN5 := Lib.hid (HN4.out.kept hg (fun g hg he => by have := (HN4.out.lt g hg).1; cases he; omega))
  have HAP5 : Hid (∀ g, gBlock (.slice ab ns.length cb) = some g → gBlock u ≠ some g) := fun g h1 h2 => by have := (HN4.out.lt g h1).2; have := (hG.lt g h2).1; omega
  have B5 := nxtG B4 hg (fun g h => by cases h; exact Nat.le_refl _)
  have z5 : w1.heap.size ≤ w5.heap.size := Nat.le_trans z4 hg.size
  have hxl2 : xs.length ≤ 11 := by omega
  have hp5'' : p5 ≤ 100 := by omega
  obtain ⟨au, cu, hu⟩ := hG.lit
  subst hu
  clear hr hg hG B4 HR4 HN4 hxl hp5 hp5' hp3 hp3'
  go_wp2_with fail
  refine (odd_any _ v1 bs1 14 p5 _ HR5.out (by omega) (by omega)).mono ?_
  rintro e w6 ⟨t, p6, rfl, hp6, hp6', hr, hg, _⟩
  have HR6 := Lib.hid hr
  have HX6 := Lib.hid (HX5.out.kept hg (fun g hg he => by have := (HX5.out.lt g hg).1; cases he; omega))
  have HN6 := Lib.hid (HN5.out.kept hg (fun g hg he => by have := (HN5.out.lt g hg).1; cases he; omega))
  have B6 := nxtG B5 hg (fun g h => by cases h; exact Nat.le_refl _)
  have z6 : w1.heap.size ≤ w6.heap.size := Nat.le_trans z5 hg.size
  clear hr hg B5 HR5 HN5 HX5
  cases t
  · go_wp2
    refine reader_region (R := w.heap.size) (v := v1) (bs := bs1) (p0 := p6)
      [IsV (.slice au xs.length cu), IsV (.slice ab ns.length cb), IsV (.int .i64 (1 + (x : Int))), IsV (.pointer (some ⟨w.heap.size, 0, none⟩)), IsNat 6, IsP (fun y => 1 ≤ y ∧ y ≤ 6),
        LitP w.heap.size 4 (fun y => 0 ≤ y ∧ y ≤ 17), LitP w.heap.size 7 (fun y => 0 ≤ y ∧ y < (4 : Nat)), IsV (.pointer (some ⟨w.heap.size, 0, none⟩)), IsNat 7, ElemP w.heap.size (fun y => 0 ≤ y ∧ y < (4 : Nat)), IsNat 4,
        ElemP w.heap.size (fun y => 0 ≤ y ∧ y ≤ 17), IsP (fun y => 0 ≤ y ∧ y ≤ 17), IsV (.slice au xs.length cu), IsV (.slice ab ns.length cb), IsV (.int .i64 (1 + (x : Int))), IsP (fun y => 0 ≤ y ∧ y ≤ 17)]
      54 [40, 41, 42, 43, 44, 45, 46, 47, 48, 49, 50, 51, 52, 53, 2, 3, 4, 5] rfl HR6.out (by kernel_rfl) (by kernel_rfl) (by kernel_rfl) (by kernel_rfl)
      ⟨stab_v _ _, stab_v _ _, stab_v _ _, stab_v _ _, stab_n _ _, stab_p _ _, stab_l _ _ _, stab_l _ _ _, stab_v _ _, stab_n _ _, stab_e _ _, stab_n _ _, stab_e _ _, stab_p _ _, stab_v _ _, stab_v _ _, stab_v _ _, stab_p _ _, trivial⟩ ?_ ?_
    · refine ⟨?_, ?_, ?_, ?_, ?_, ?_, ?_, ?_, ?_, ?_, ?_, ?_, ?_, ?_, ?_, ?_, ?_, ?_, trivial⟩
      · exact op_fresh rfl (.inl rfl) (by kernel_rfl) rfl rfl
      · exact op_fresh rfl (.inl rfl) (by kernel_rfl) rfl rfl
      · exact op_fresh rfl (.inl rfl) (by kernel_rfl) rfl rfl
      · exact op_fresh rfl (.inl rfl) (by kernel_rfl) rfl rfl
      · exact op_pick (n := 6) (j := 3) rfl rfl rfl rfl (by kernel_rfl) rfl rfl (by omega) (by show p6 + 18 ≤ 1000000000; omega)
      · exact op_run rfl fun a w h => by
          obtain ⟨y, hy, hyl⟩ := h.1 4 _ _ rfl rfl (by kernel_rfl)
          refine ⟨_, x_add (p := 1) (q := (y : Int)) (ρ := a.eval) rfl Tryd.underlying3 rfl hy (by omega) (by omega), ?_⟩
          exact show IsP (fun y => 1 ≤ y ∧ y ≤ 6) _ w from ⟨_, rfl, by omega, by omega⟩
      · exact op_alloc rfl fun a w hR h => by
          obtain ⟨y, hy, hyl⟩ := h.1 5 _ _ rfl rfl (by kernel_rfl)
          exact ⟨_, _, x_lit4 (ρ := a.eval) rfl hy rfl rfl rfl, lit_mk hR rfl (by simp; omega)⟩
      · exact op_alloc rfl fun a w hR h => ⟨_, _, x_lit7 (ρ := a.eval) rfl rfl rfl rfl rfl rfl rfl rfl, lit_mk hR rfl (by simp)⟩
      · exact op_fresh rfl (.inl rfl) (by kernel_rfl) rfl rfl
      · exact op_pick (n := 7) (j := 8) rfl rfl rfl rfl (by kernel_rfl) rfl rfl (by omega) (by show p6 + 18 ≤ 1000000000; omega)
      · exact op_index (j := 7) (k := 9) rfl rfl rfl rfl (by kernel_rfl) rfl rfl (by kernel_rfl) rfl rfl (Nat.le_refl _) rfl
      · exact op_load (j := 10) rfl rfl rfl rfl (by kernel_rfl) rfl rfl (fun y w h => nat_of y w h)
      · exact op_index (j := 6) (k := 11) rfl rfl rfl rfl (by kernel_rfl) rfl rfl (by kernel_rfl) rfl rfl (Nat.le_refl _) rfl
      · exact op_load (j := 12) rfl rfl rfl rfl (by kernel_rfl) rfl rfl (fun y w h => ⟨y, rfl, h⟩)
      · exact op_same (j := 0) rfl (.inr rfl) rfl rfl (by kernel_rfl) rfl
      · exact op_same (j := 1) rfl (.inr rfl) rfl rfl (by kernel_rfl) rfl
      · exact op_same (j := 2) rfl (.inr rfl) rfl rfl (by kernel_rfl) rfl
      · exact op_same (j := 13) rfl (.inr rfl) rfl rfl (by kernel_rfl) rfl
    · intro U w7 hr hg hφ
      have h2 : U 2 = _ := hφ 14 _ _ rfl rfl
      have h3 : U 3 = _ := hφ 15 _ _ rfl rfl
      have h4 : U 4 = _ := hφ 16 _ _ rfl rfl
      obtain ⟨r, h5, r0, r1⟩ : IsP (fun y => 0 ≤ y ∧ y ≤ 17) (U 5) w7 := hφ 17 _ _ rfl rfl
      have HX7 := Lib.hid (HX6.out.kept hg (fun g hg he => by have := (HX6.out.lt g hg).1; cases he; omega))
      have HN7 := Lib.hid (HN6.out.kept hg (fun g hg he => by have := (HN6.out.lt g hg).1; cases he; omega))
      have B7 := nxtG B6 hg (fun g h => by cases h; exact Nat.le_refl _)
      clear hr hg hφ
      have HF : Hid (DrawnFill w (.returned (.tuple #[.slice au xs.length cu, .slice ab ns.length cb, .int .i64 (1 + (x : Int)), .int .i64 r])) w7) :=
        ⟨_, xs, _, ns, _, r, rfl, Gr.ints HX7.out rfl, Gr.ints HN7.out rfl, by omega, by omega, by omega, by omega, r0, r1, B7.out⟩
      clear HX7 HN7 B7
      simp [nf]
      rw [h2, h3, h4, h5]
      clear h2 h3 h4 h5
      go_wp2
      exact bodyPost_ret (v := .tuple #[.slice au xs.length cu, .slice ab ns.length cb, .int .i64 (1 + (x : Int)), .int .i64 r]) (by simp [results, Tryd.results25, go_sem]) rfl HF.out
  by_cases h0 : xs.length = 0
  · have h0' : decide (0 < xs.length) = false := by simp [h0]
    clear h0
    go_wp2
    refine reader_region (R := w.heap.size) (v := v1) (bs := bs1) (p0 := p6)
      [IsV (.slice au xs.length cu), IsV (.slice ab ns.length cb), IsV (.int .i64 (1 + (x : Int))), IsV (.pointer (some ⟨w.heap.size, 0, none⟩)), IsNat 6, IsP (fun y => 1 ≤ y ∧ y ≤ 6),
        LitP w.heap.size 4 (fun y => 0 ≤ y ∧ y ≤ 17), LitP w.heap.size 7 (fun y => 0 ≤ y ∧ y < (4 : Nat)), IsV (.pointer (some ⟨w.heap.size, 0, none⟩)), IsNat 7, ElemP w.heap.size (fun y => 0 ≤ y ∧ y < (4 : Nat)), IsNat 4,
        ElemP w.heap.size (fun y => 0 ≤ y ∧ y ≤ 17), IsP (fun y => 0 ≤ y ∧ y ≤ 17), IsV (.slice au xs.length cu), IsV (.slice ab ns.length cb), IsV (.int .i64 (1 + (x : Int))), IsP (fun y => 0 ≤ y ∧ y ≤ 17)]
      54 [40, 41, 42, 43, 44, 45, 46, 47, 48, 49, 50, 51, 52, 53, 2, 3, 4, 5] rfl HR6.out (by kernel_rfl) (by kernel_rfl) (by kernel_rfl) (by kernel_rfl)
      ⟨stab_v _ _, stab_v _ _, stab_v _ _, stab_v _ _, stab_n _ _, stab_p _ _, stab_l _ _ _, stab_l _ _ _, stab_v _ _, stab_n _ _, stab_e _ _, stab_n _ _, stab_e _ _, stab_p _ _, stab_v _ _, stab_v _ _, stab_v _ _, stab_p _ _, trivial⟩ ?_ ?_
    · refine ⟨?_, ?_, ?_, ?_, ?_, ?_, ?_, ?_, ?_, ?_, ?_, ?_, ?_, ?_, ?_, ?_, ?_, ?_, trivial⟩
      · exact op_fresh rfl (.inl rfl) (by kernel_rfl) rfl rfl
      · exact op_fresh rfl (.inl rfl) (by kernel_rfl) rfl rfl
      · exact op_fresh rfl (.inl rfl) (by kernel_rfl) rfl rfl
      · exact op_fresh rfl (.inl rfl) (by kernel_rfl) rfl rfl
      · exact op_pick (n := 6) (j := 3) rfl rfl rfl rfl (by kernel_rfl) rfl rfl (by omega) (by show p6 + 18 ≤ 1000000000; omega)
      · exact op_run rfl fun a w h => by
          obtain ⟨y, hy, hyl⟩ := h.1 4 _ _ rfl rfl (by kernel_rfl)
          refine ⟨_, x_add (p := 1) (q := (y : Int)) (ρ := a.eval) rfl Tryd.underlying3 rfl hy (by omega) (by omega), ?_⟩
          exact show IsP (fun y => 1 ≤ y ∧ y ≤ 6) _ w from ⟨_, rfl, by omega, by omega⟩
      · exact op_alloc rfl fun a w hR h => by
          obtain ⟨y, hy, hyl⟩ := h.1 5 _ _ rfl rfl (by kernel_rfl)
          exact ⟨_, _, x_lit4 (ρ := a.eval) rfl hy rfl rfl rfl, lit_mk hR rfl (by simp; omega)⟩
      · exact op_alloc rfl fun a w hR h => ⟨_, _, x_lit7 (ρ := a.eval) rfl rfl rfl rfl rfl rfl rfl rfl, lit_mk hR rfl (by simp)⟩
      · exact op_fresh rfl (.inl rfl) (by kernel_rfl) rfl rfl
      · exact op_pick (n := 7) (j := 8) rfl rfl rfl rfl (by kernel_rfl) rfl rfl (by omega) (by show p6 + 18 ≤ 1000000000; omega)
      · exact op_index (j := 7) (k := 9) rfl rfl rfl rfl (by kernel_rfl) rfl rfl (by kernel_rfl) rfl rfl (Nat.le_refl _) rfl
      · exact op_load (j := 10) rfl rfl rfl rfl (by kernel_rfl) rfl rfl (fun y w h => nat_of y w h)
      · exact op_index (j := 6) (k := 11) rfl rfl rfl rfl (by kernel_rfl) rfl rfl (by kernel_rfl) rfl rfl (Nat.le_refl _) rfl
      · exact op_load (j := 12) rfl rfl rfl rfl (by kernel_rfl) rfl rfl (fun y w h => ⟨y, rfl, h⟩)
      · exact op_same (j := 0) rfl (.inr rfl) rfl rfl (by kernel_rfl) rfl
      · exact op_same (j := 1) rfl (.inr rfl) rfl rfl (by kernel_rfl) rfl
      · exact op_same (j := 2) rfl (.inr rfl) rfl rfl (by kernel_rfl) rfl
      · exact op_same (j := 13) rfl (.inr rfl) rfl rfl (by kernel_rfl) rfl
    · intro U w7 hr hg hφ
      have h2 : U 2 = _ := hφ 14 _ _ rfl rfl
      have h3 : U 3 = _ := hφ 15 _ _ rfl rfl
      have h4 : U 4 = _ := hφ 16 _ _ rfl rfl
      obtain ⟨r, h5, r0, r1⟩ : IsP (fun y => 0 ≤ y ∧ y ≤ 17) (U 5) w7 := hφ 17 _ _ rfl rfl
      have HX7 := Lib.hid (HX6.out.kept hg (fun g hg he => by have := (HX6.out.lt g hg).1; cases he; omega))
      have HN7 := Lib.hid (HN6.out.kept hg (fun g hg he => by have := (HN6.out.lt g hg).1; cases he; omega))
      have B7 := nxtG B6 hg (fun g h => by cases h; exact Nat.le_refl _)
      clear hr hg hφ
      have HF : Hid (DrawnFill w (.returned (.tuple #[.slice au xs.length cu, .slice ab ns.length cb, .int .i64 (1 + (x : Int)), .int .i64 r])) w7) :=
        ⟨_, xs, _, ns, _, r, rfl, Gr.ints HX7.out rfl, Gr.ints HN7.out rfl, by omega, by omega, by omega, by omega, r0, r1, B7.out⟩
      clear HX7 HN7 B7
      simp [nf]
      rw [h2, h3, h4, h5]
      clear h2 h3 h4 h5
      go_wp2
      exact bodyPost_ret (v := .tuple #[.slice au xs.length cu, .slice ab ns.length cb, .int .i64 (1 + (x : Int)), .int .i64 r]) (by simp [results, Tryd.results25, go_sem]) rfl HF.out
  · have h0' : decide (0 < xs.length) = true := by simp; omega
    obtain ⟨g, c, hv, hgb, -⟩ := HX6.out.at (by omega)
    cases hv
    go_wp2_with fail
    have hb8 : Below w6.heap.size w6 (w6.alloc (.cells #[.int .i64 (-1), .int .i64 100001] 3)) := (Below.refl _ _).alloc (Nat.le_refl _) _
    refine (pick_nat _ v1 bs1 2 p6 _ (HR6.out.below hb8 (by omega) (fun h0 g hg => by have := HR6.out.low.2 h0 g hg; omega)) (by omega) (by omega)).mono ?_
    rintro e w8 ⟨x8, rfl, hx8, hr, hg⟩
    have hrow1 := (Row.new w6 3 (ints [(-1 : Int), 100001])).grown hg (some_ne (by omega))
    obtain ⟨y8, hy8, -⟩ := row_at hrow1 (P := fun _ => True) (by simp) hx8
    have HX8 := Lib.hid ((HX6.out.mono hb8 (Nat.le_refl _)).kept hg (fun g hg he => by have := (HX6.out.lt g hg).1; cases he; omega))
    have HN8 := Lib.hid ((HN6.out.mono hb8 (Nat.le_refl _)).kept hg (fun g hg he => by have := (HN6.out.lt g hg).1; cases he; omega))
    have B8 := nxtG (nxt B6 hb8) hg (fun g h => by cases h; exact Nat.le_refl _)
    obtain ⟨g', c', hv', hgb', hnc, hcm, hfr, hcl, hset⟩ := HX8.out.at (by omega)
    cases hv'
    have hc0 : w8.cell? ⟨g, 0, none⟩ = some (iv xs 0) := hcl 0 _ (ints_get (by omega))
    have hf0 := hfr 0
    have HS := hset 0 (.int .i64 y8) (by omega)
    have HX9 : Hid (Gr (w8.setCell ⟨g, 0, none⟩ (.int .i64 y8)) w1.heap.size 3 1 (.slice (some ⟨g, 0, none⟩) xs.length cu) xs.length (ints (xs.set 0 y8))) := by
      unfold Hid; rw [show ints (xs.set 0 y8) = (ints xs).set 0 (.int .i64 y8) by simp [ints, List.map_set]]; exact HS
    have hgrs := set_other w8 ⟨g, 0, none⟩ (.int .i64 y8) rfl
    have hgN : gBlock (.slice (some ⟨g, 0, none⟩) xs.length cu) = some g := by simp [gBlock]; omega
    have HN9 := Lib.hid (HN8.out.kept hgrs (fun q hq he => by cases he; exact HAP5.out g hq hgN))
    have hgw : g < w8.heap.size := (HX8.out.lt g hgN).2
    have HR9 : Hid (Rd (w8.setCell ⟨g, 0, none⟩ (.int .i64 y8)) w.heap.size v1 bs1 ((p6 + 1 : Nat) : Int)) := by
      have := hr.below ((Below.refl w1.heap.size w8).setCell (p := ⟨g, 0, none⟩) hgb (.int .i64 y8)) lowR (fun h0 q hq => by have := LV.out h0 q hq; omega)
      exact this
    have B9 : Hid (Below w.heap.size w (w8.setCell ⟨g, 0, none⟩ (.int .i64 y8))) := B8.out.setCell (p := ⟨g, 0, none⟩) (by show w.heap.size ≤ g; omega) _
    have HLX : Hid (xs.length = (xs.set 0 y8).length) := by simp [Hid]
    obtain ⟨q8, hq8⟩ : ∃ q8, iv xs 0 = .int .i64 q8 := ⟨_, rfl⟩
    rw [hq8] at hc0
    clear hr hg hrow1 hb8 hfr hcl hset HS hgrs hq8 hgN
    go_wp2
    refine reader_region (R := w.heap.size) (v := v1) (bs := bs1) (p0 := (p6 + 1))
      [IsV (.slice (some ⟨g, 0, none⟩) xs.length cu), IsV (.slice ab ns.length cb), IsV (.int .i64 (1 + (x : Int))), IsV (.pointer (some ⟨w.heap.size, 0, none⟩)), IsNat 6, IsP (fun y => 1 ≤ y ∧ y ≤ 6),
        LitP w.heap.size 4 (fun y => 0 ≤ y ∧ y ≤ 17), LitP w.heap.size 7 (fun y => 0 ≤ y ∧ y < (4 : Nat)), IsV (.pointer (some ⟨w.heap.size, 0, none⟩)), IsNat 7, ElemP w.heap.size (fun y => 0 ≤ y ∧ y < (4 : Nat)), IsNat 4,
        ElemP w.heap.size (fun y => 0 ≤ y ∧ y ≤ 17), IsP (fun y => 0 ≤ y ∧ y ≤ 17), IsV (.slice (some ⟨g, 0, none⟩) xs.length cu), IsV (.slice ab ns.length cb), IsV (.int .i64 (1 + (x : Int))), IsP (fun y => 0 ≤ y ∧ y ≤ 17)]
      54 [40, 41, 42, 43, 44, 45, 46, 47, 48, 49, 50, 51, 52, 53, 2, 3, 4, 5] rfl HR9.out (by kernel_rfl) (by kernel_rfl) (by kernel_rfl) (by kernel_rfl)
      ⟨stab_v _ _, stab_v _ _, stab_v _ _, stab_v _ _, stab_n _ _, stab_p _ _, stab_l _ _ _, stab_l _ _ _, stab_v _ _, stab_n _ _, stab_e _ _, stab_n _ _, stab_e _ _, stab_p _ _, stab_v _ _, stab_v _ _, stab_v _ _, stab_p _ _, trivial⟩ ?_ ?_
    · refine ⟨?_, ?_, ?_, ?_, ?_, ?_, ?_, ?_, ?_, ?_, ?_, ?_, ?_, ?_, ?_, ?_, ?_, ?_, trivial⟩
      · exact op_fresh rfl (.inl rfl) (by kernel_rfl) rfl rfl
      · exact op_fresh rfl (.inl rfl) (by kernel_rfl) rfl rfl
      · exact op_fresh rfl (.inl rfl) (by kernel_rfl) rfl rfl
      · exact op_fresh rfl (.inl rfl) (by kernel_rfl) rfl rfl
      · exact op_pick (n := 6) (j := 3) rfl rfl rfl rfl (by kernel_rfl) rfl rfl (by omega) (by show (p6 + 1) + 18 ≤ 1000000000; omega)
      · exact op_run rfl fun a w h => by
          obtain ⟨y, hy, hyl⟩ := h.1 4 _ _ rfl rfl (by kernel_rfl)
          refine ⟨_, x_add (p := 1) (q := (y : Int)) (ρ := a.eval) rfl Tryd.underlying3 rfl hy (by omega) (by omega), ?_⟩
          exact show IsP (fun y => 1 ≤ y ∧ y ≤ 6) _ w from ⟨_, rfl, by omega, by omega⟩
      · exact op_alloc rfl fun a w hR h => by
          obtain ⟨y, hy, hyl⟩ := h.1 5 _ _ rfl rfl (by kernel_rfl)
          exact ⟨_, _, x_lit4 (ρ := a.eval) rfl hy rfl rfl rfl, lit_mk hR rfl (by simp; omega)⟩
      · exact op_alloc rfl fun a w hR h => ⟨_, _, x_lit7 (ρ := a.eval) rfl rfl rfl rfl rfl rfl rfl rfl, lit_mk hR rfl (by simp)⟩
      · exact op_fresh rfl (.inl rfl) (by kernel_rfl) rfl rfl
      · exact op_pick (n := 7) (j := 8) rfl rfl rfl rfl (by kernel_rfl) rfl rfl (by omega) (by show (p6 + 1) + 18 ≤ 1000000000; omega)
      · exact op_index (j := 7) (k := 9) rfl rfl rfl rfl (by kernel_rfl) rfl rfl (by kernel_rfl) rfl rfl (Nat.le_refl _) rfl
      · exact op_load (j := 10) rfl rfl rfl rfl (by kernel_rfl) rfl rfl (fun y w h => nat_of y w h)
      · exact op_index (j := 6) (k := 11) rfl rfl rfl rfl (by kernel_rfl) rfl rfl (by kernel_rfl) rfl rfl (Nat.le_refl _) rfl
      · exact op_load (j := 12) rfl rfl rfl rfl (by kernel_rfl) rfl rfl (fun y w h => ⟨y, rfl, h⟩)
      · exact op_same (j := 0) rfl (.inr rfl) rfl rfl (by kernel_rfl) rfl
      · exact op_same (j := 1) rfl (.inr rfl) rfl rfl (by kernel_rfl) rfl
      · exact op_same (j := 2) rfl (.inr rfl) rfl rfl (by kernel_rfl) rfl
      · exact op_same (j := 13) rfl (.inr rfl) rfl rfl (by kernel_rfl) rfl
    · intro U w7 hr hg hφ
      have h2 : U 2 = _ := hφ 14 _ _ rfl rfl
      have h3 : U 3 = _ := hφ 15 _ _ rfl rfl
      have h4 : U 4 = _ := hφ 16 _ _ rfl rfl
      obtain ⟨r, h5, r0, r1⟩ : IsP (fun y => 0 ≤ y ∧ y ≤ 17) (U 5) w7 := hφ 17 _ _ rfl rfl
      have HX7 := Lib.hid (HX9.out.kept hg (fun g hg he => by have := (HX9.out.lt g hg).1; cases he; omega))
      have HN7 := Lib.hid (HN9.out.kept hg (fun g hg he => by have := (HN9.out.lt g hg).1; cases he; omega))
      have B7 := nxtG B9 hg (fun g h => by cases h; exact Nat.le_refl _)
      clear hr hg hφ
      have HF : Hid (DrawnFill w (.returned (.tuple #[.slice (some ⟨g, 0, none⟩) xs.length cu, .slice ab ns.length cb, .int .i64 (1 + (x : Int)), .int .i64 r])) w7) :=
        ⟨_, xs.set 0 y8, _, ns, _, r, rfl, Gr.ints HX7.out HLX.out, Gr.ints HN7.out rfl, by rw [← HLX.out]; omega, by omega, by omega, by omega, r0, r1, B7.out⟩
      clear HX7 HN7 B7
      simp [nf]
      rw [h2, h3, h4, h5]
      clear h2 h3 h4 h5
      go_wp2
      exact bodyPost_ret (v := .tuple #[.slice (some ⟨g, 0, none⟩) xs.length cu, .slice ab ns.length cb, .int .i64 (1 + (x : Int)), .int .i64 r]) (by simp [results, Tryd.results25, go_sem]) rfl HF.out
end Go.Proofs.YtkekacnnjmbelaaDoor
