/- draws of the scans -/
import Derived.Test.YtkfhfhcjgeigeaaDoorPick
import Derived.Deep.RegionWith
namespace Go.Proofs.YtkfhfhcjgeigeaaDoor
open Go.RowKit
/-- a list and a number -/
def DrawnScan (w : World) (e : Ending) (w' : World) : Prop := ∃ u xs m, e = .returned (.tuple #[u, .int .i64 m]) ∧ Gr w' w.heap.size 3 1 u xs.length (ints xs) ∧ xs.length ≤ 257 ∧ -1000000 ≤ m ∧ m ≤ 1000000 ∧ Below w.heap.size w w'
theorem zeros_ints (n : Nat) : tab n (fun _ => Value.int .i64 0) = ints (tab n (fun _ => (0 : Int))) := by rw [ints_tabf]
theorem draw_ScanRead (v : Value) (bs : List Int) (w : World) (h : Bts w v bs) : Calls Tryd.prog 12 #[v] w (DrawnScan w) := by
  obtain ⟨i0, hi, hz0, hz1, hz2⟩ := info_parts Tryd.infoInt
  have H := Lib.hid h
  clear h
  go_enter Tryd.func12, Tryd.ntmps12
  go_wp2_with fail
  refine (open_any v bs w H.out).mono ?_
  rintro e w1 ⟨v1, bs1, rfl, hr, hb⟩
  have HR := Lib.hid hr
  have lowR := hr.low.1
  have z1 : w.heap.size ≤ w1.heap.size := hb.size
  have B1 := nxt (Lib.hid (Below.refl _ _)) hb
  clear hr hb H
  go_wp2_with fail
  refine (odd_any _ v1 bs1 24 0 _ HR.out (by omega) (by omega)).mono ?_
  rintro e w2 ⟨t, p2, rfl, hp2, hp2', hr, hg, _⟩
  have HR2 := Lib.hid hr
  have B2 := nxtG B1 hg (fun g h => by cases h; exact Nat.le_refl _)
  have z2 : w.heap.size ≤ w2.heap.size := B2.out.size
  have z12 : w1.heap.size ≤ w2.heap.size := hg.size
  clear hr hg B1 HR
  cases t
  · go_wp2_with fail
    refine (pick_nat _ v1 bs1 9 p2 _ HR2.out (by omega) (by omega)).mono ?_
    rintro e w3 ⟨x, rfl, hx, hr, hg⟩
    have HR3 := Lib.hid hr
    have B3 := nxtG B2 hg (fun g h => by cases h; exact Nat.le_refl _)
    have z3 : w1.heap.size ≤ w3.heap.size := Nat.le_trans z12 hg.size
    clear hr hg B2 HR2
    go_wp2_with fail
    refine (numbers_any _ v1 bs1 x _ _ HR3.out (by omega) (by omega)).mono ?_
    rintro e w4 ⟨u, xs, p4, rfl, hG, hlen, -, hp4, hp4', hr, hg⟩
    have HGK : Hid (∀ w5, w4.grownBy w5 (some w.heap.size) → Gr w5 w1.heap.size 3 1 u xs.length (ints xs)) := fun w5 h5 => (hG.low z3).kept h5 (fun g hg he => by have := ((hG.low z3).lt g hg).1; cases he; omega)
    have HR4 := Lib.hid hr
    have B4 := nxtG B3 hg (fun g h => by cases h; exact Nat.le_refl _)
    have hl2 : xs.length ≤ 257 := by omega
    clear hG hr hg hlen B3 HR3
    go_wp2_with fail
    refine (pick_nat _ v1 bs1 10 p4 _ HR4.out (by omega) (by omega)).mono ?_
    rintro e w5 ⟨x2, rfl, hx2, hr, hg⟩
    have HG5 := Lib.hid ((HGK.out _ hg).low z1)
    have B5 := nxtG B4 hg (fun g h => by cases h; exact Nat.le_refl _)
    clear hr hg
    go_wp2
    go_ret2
    exact ⟨_, xs, _, rfl, HG5.out, hl2, by omega, by omega, B5.out⟩
  · go_wp2_with (at_make; refine wpList_make_full _ rfl _ _ 23 rfl w2.heap.size 3 i0 (.int .i64 0) 1 Tryd.underlying23 hi hz0 hz1 _ _ _ _ 257 rfl rfl rfl rfl ?b2 ?b3 ?b4 ?_)
    case b2 => rw [hz2]; omega
    case b3 => unfold maxLen; omega
    case b4 => exact Nat.le_refl _
    · intro w3 hown hgrow
      have hrow := (row_of_own hown).1
      rw [made_tab, zeros_ints] at hrow
      have HROW := Lib.hid hrow
      have HB : Hid (Below w.heap.size w w3) := B2.out.grown hgrow z2 (by simp)
      clear hown hgrow hrow
      go_wp2
      go_ret2
      refine ⟨_, tab 257 (fun _ => 0), 5, rfl, ?_, Nat.le_of_eq (tab_length _ _), by omega, by omega, HB.out⟩
      rw [tab_length]
      exact Gr.of_made HROW.out (by rw [ints_length, tab_length, Nat.mul_one]) (by unfold maxLen; omega) z2
def DrawnScan2 (w : World) (e : Ending) (w' : World) : Prop := ∃ u xs m q, e = .returned (.tuple #[u, .int .i64 m, .int .i64 q]) ∧ Gr w' w.heap.size 3 1 u xs.length (ints xs) ∧ xs.length ≤ 257 ∧ -1000000 ≤ m ∧ m ≤ 1000000 ∧ -1000000 ≤ q ∧ q ≤ 1000000 ∧ Below w.heap.size w w'
theorem draw_ScanWrite (v : Value) (bs : List Int) (w : World) (h : Bts w v bs) : Calls Tryd.prog 15 #[v] w (DrawnScan2 w) := by
  have H := Lib.hid h
  clear h
  go_enter Tryd.func15, Tryd.ntmps15
  go_wp2_with fail
  refine (draw_ScanRead v bs w H.out).mono ?_
  rintro e w1 ⟨u, xs, m, rfl, hG, hl, m0, m1, hb⟩
  have HG1 := Lib.hid hG
  have H1 := Lib.hid (H.out.mono hb (Nat.le_refl _))
  have B1 := nxt (Lib.hid (Below.refl _ _)) hb
  have z1 := hb.size
  clear hG hb H
  go_wp2_with fail
  refine (open_any v bs _ H1.out).mono ?_
  rintro e w2 ⟨v1, bs1, rfl, hr, hb⟩
  have HR2 := Lib.hid hr
  have HG2 := Lib.hid (HG1.out.mono hb (Nat.le_refl _))
  have HN2 : Hid (∀ g, gBlock u = some g → g < w1.heap.size) := fun g hg => (HG1.out.lt g hg).2
  have B2 := nxt B1 hb
  clear hr hb H1 HG1 B1
  go_wp2_with fail
  refine (pick_nat _ v1 bs1 256 0 _ HR2.out (by omega) (by omega)).mono ?_
  rintro e w5 ⟨x2, rfl, hx2, hr, hg⟩
  have HG5 := Lib.hid (HG2.out.kept hg (fun g hg he => by have := HN2.out g hg; cases he; omega))
  have B5 := nxtG B2 hg (fun g h => by cases h; exact z1)
  clear hr hg
  go_wp2
  go_ret3
  exact ⟨_, xs, m, _, rfl, HG5.out, hl, m0, m1, by omega, by omega, B5.out⟩
theorem draw_ScanFind (v : Value) (bs : List Int) (w : World) (h : Bts w v bs) : Calls Tryd.prog 7 #[v] w (DrawnScan w) := by
  obtain ⟨i0, hi, hz0, hz1, hz2⟩ := info_parts Tryd.infoInt
  have H := Lib.hid h
  clear h
  go_enter Tryd.func7, Tryd.ntmps7
  go_wp2_with fail
  refine (open_any v bs w H.out).mono ?_
  rintro e w1 ⟨v1, bs1, rfl, hr, hb⟩
  have HR := Lib.hid hr
  have lowR := hr.low.1
  have z1 : w.heap.size ≤ w1.heap.size := hb.size
  have B1 := nxt (Lib.hid (Below.refl _ _)) hb
  clear hr hb H
  go_wp2_with fail
  refine (odd_any _ v1 bs1 24 0 _ HR.out (by omega) (by omega)).mono ?_
  rintro e w2 ⟨t, p2, rfl, hp2, hp2', hr, hg, _⟩
  have HR2 := Lib.hid hr
  have B2 := nxtG B1 hg (fun g h => by cases h; exact Nat.le_refl _)
  have z2 : w.heap.size ≤ w2.heap.size := B2.out.size
  have z12 : w1.heap.size ≤ w2.heap.size := hg.size
  clear hr hg B1 HR
  cases t
  · go_wp2_with fail
    refine (pick_nat _ v1 bs1 9 p2 _ HR2.out (by omega) (by omega)).mono ?_
    rintro e w3 ⟨x, rfl, hx, hr, hg⟩
    have HR3 := Lib.hid hr
    have B3 := nxtG B2 hg (fun g h => by cases h; exact Nat.le_refl _)
    have z3 : w1.heap.size ≤ w3.heap.size := Nat.le_trans z12 hg.size
    clear hr hg B2 HR2
    go_wp2_with fail
    refine (numbers_any _ v1 bs1 x _ _ HR3.out (by omega) (by omega)).mono ?_
    rintro e w4 ⟨u, xs, p4, rfl, hG, hlen, hX, hp4, hp4', hr, hg⟩
    have HGK : Hid (∀ w5, w4.grownBy w5 (some w.heap.size) → Gr w5 w1.heap.size 3 1 u xs.length (ints xs)) := fun w5 h5 => (hG.low z3).kept h5 (fun g hg he => by have := ((hG.low z3).lt g hg).1; cases he; omega)
    have HR4 := Lib.hid hr
    have HX := Lib.hid hX
    have B4 := nxtG B3 hg (fun g h => by cases h; exact Nat.le_refl _)
    have hl2 : xs.length ≤ 257 := by omega
    obtain ⟨ad, c, hu⟩ := hG.lit
    subst hu
    clear hG hr hg hlen B3 HR3 hX
    by_cases h0 : xs.length = 0
    · have h0' : decide (0 < xs.length) = false := by simp [h0]
      clear h0
      go_wp2_with fail
      refine (pick_nat _ v1 bs1 20 p4 _ HR4.out (by omega) (by omega)).mono ?_
      rintro e w5 ⟨x2, rfl, hx2, hr, hg⟩
      have HG5 := Lib.hid ((HGK.out _ hg).low z1)
      have B5 := nxtG B4 hg (fun g h => by cases h; exact Nat.le_refl _)
      clear hr hg
      go_wp2
      go_ret2
      exact ⟨_, xs, _, rfl, HG5.out, hl2, by omega, by omega, B5.out⟩
    · have h0' : decide (0 < xs.length) = true := by simp; omega
      go_wp2_with fail
      refine (pick_nat _ v1 bs1 3 p4 _ HR4.out (by omega) (by omega)).mono ?_
      rintro e w5 ⟨x2, rfl, hx2, hr, hg⟩
      have HR5 := Lib.hid hr
      have HG5 := Lib.hid (HGK.out _ hg)
      have B5 := nxtG B4 hg (fun g h => by cases h; exact Nat.le_refl _)
      clear hr hg HGK HR4 B4
      by_cases h2 : 0 < x2
      · obtain ⟨g, c, hv, hgb, -⟩ := HG5.out.at (by omega)
        cases hv
        go_wp2
        go_region_with ((go_at_call 22; refine (pick_nat _ v1 bs1 xs.length (p4 + 1) _ ?_ (by omega) (by omega)).mono ?_; (exact HR5.out); rintro e w6 ⟨x3, rfl, hx3, hr, hg⟩; have hg := grown_drew hg; have HG6 := Lib.hid (HG5.out.kept hg (fun q hq he => by have := (HG5.out.lt q hq).1; cases he; omega)); have HB6 := nxtG B5 hg (fun g h => by cases h; exact Nat.le_refl _); obtain ⟨y, hy, hP⟩ := gr_cellI HG6.out HX.out hx3; clear hr hg))
        go_wp2
        go_ret2
        exact ⟨_, xs, _, rfl, HG6.out.low z1, hl2, by omega, by omega, HB6.out⟩
      · go_wp2_with fail
        refine (pick_nat _ v1 bs1 20 (p4 + 1) _ HR5.out (by omega) (by omega)).mono ?_
        rintro e w6 ⟨x3, rfl, hx3, hr, hg⟩
        have HG6 := Lib.hid ((HG5.out.kept hg (fun g hg he => by have := (HG5.out.lt g hg).1; cases he; omega)).low z1)
        have B6 := nxtG B5 hg (fun g h => by cases h; exact Nat.le_refl _)
        clear hr hg
        go_wp2
        go_ret2
        exact ⟨_, xs, _, rfl, HG6.out, hl2, by omega, by omega, B6.out⟩
  · go_wp2_with (at_make; refine wpList_make_full _ rfl _ _ 23 rfl w2.heap.size 3 i0 (.int .i64 0) 1 Tryd.underlying23 hi hz0 hz1 _ _ _ _ 257 rfl rfl rfl rfl ?b2 ?b3 ?b4 ?_)
    case b2 => rw [hz2]; omega
    case b3 => unfold maxLen; omega
    case b4 => exact Nat.le_refl _
    · intro w3 hown hgrow
      have hrow := (row_of_own hown).1
      rw [made_tab, zeros_ints] at hrow
      have HROW := Lib.hid hrow
      have HB : Hid (Below w.heap.size w w3) := B2.out.grown hgrow z2 (by simp)
      clear hown hgrow hrow
      go_wp2
      go_ret2
      refine ⟨_, tab 257 (fun _ => 0), 0, rfl, ?_, Nat.le_of_eq (tab_length _ _), by omega, by omega, HB.out⟩
      rw [tab_length]
      exact Gr.of_made HROW.out (by rw [ints_length, tab_length, Nat.mul_one]) (by unfold maxLen; omega) z2
end Go.Proofs.YtkfhfhcjgeigeaaDoor
