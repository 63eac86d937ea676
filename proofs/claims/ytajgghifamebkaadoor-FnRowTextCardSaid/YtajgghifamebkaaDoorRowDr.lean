/- the draw of FnRowText -/
import Derived.Test.YtajgghifamebkaaDoorTabDr
import Derived.Test.YtajgghifamebkaaDoorDoor
namespace Go.Proofs.YtajgghifamebkaaDoor
set_option linter.unusedSimpArgs false
set_option linter.unusedVariables false
open Go.RowKit
def DrawnRow (w : World) (e : Ending) (w' : World) : Prop := ∃ u xs, e = .returned u ∧ Ints w' u xs ∧ xs.length ≤ 7 ∧ Below w.heap.size w w'
set_option maxRecDepth 20000 in
set_option maxHeartbeats 1000000 in
theorem draw_RowText (v : Value) (bs : List Int) (w : World) (h : Bts w v bs) : Calls Tryd.prog 19 #[v] w (DrawnRow w) := by
  have H := Lib.hid h
  clear h
  go_enter Tryd.func19, Tryd.ntmps19
  go_wp2_with fail
  refine (open_any v bs w H.out).mono ?_
  rintro e w1 ⟨v1, bs1, rfl, hr, hb⟩
  have HR := Lib.hid hr
  have HB1 := Lib.hid hb
  clear hr hb H
  obtain ⟨R, hRR⟩ : ∃ R, w.heap.size = R := ⟨_, rfl⟩
  have HRR := Lib.hid hRR
  rw [hRR] at HR
  go_wp2_with fail
  try rw [hRR]
  clear hRR
  refine (pick_nat R v1 bs1 8 0 w1 HR.out (by omega) (by omega)).mono ?_
  rintro e w2 ⟨m, rfl, hm, hr, hg⟩
  have R2 := Lib.hid hr
  have HB2 : Hid (Below w.heap.size w w2) := HB1.out.grown hg HB1.out.size (fun g hg => by cases hg; have := HRR.out; omega)
  clear hr hg HR HB1
  go_wp2_with fail
  refine (rows_any R v1 bs1 m 1 (0 + 1) w2 R2.out (by omega) (by omega) (by omega)).mono ?_
  rintro e w3 ⟨u, vs, f, p3, rfl, hO, hF, hp1, hp2, hr, hg⟩
  have R3 := Lib.hid hr
  have HB3 : Hid (Below w.heap.size w w3) := HB2.out.grown hg HB2.out.size (fun g hg => by cases hg; have := HRR.out; omega)
  have HZ2 : Hid (w.heap.size ≤ w2.heap.size) := HB2.out.size
  obtain ⟨gu, cu, hu, -, -, -, -, hcl, -⟩ := hO.1.at (by omega)
  subst hu
  have hfl : (f 0).length = m := (hF 0 (by omega)).1
  have HG0 : Hid (Gr w3 w2.heap.size 3 1 (vs 0) m (ints (f 0))) := by have := hO.2 0 (by omega); rw [hfl] at this; exact this
  have HFL := Lib.hid hfl
  obtain ⟨ar, cr, hv0⟩ := HG0.out.lit
  have d0 : w3.cell? ⟨gu, 0, none⟩ = some (.slice ar m cr) := by rw [← hv0]; exact hcl 0 _ (tab_get vs (by omega))
  rw [hv0] at HG0
  have lowR : R < w2.heap.size := R2.out.low.1
  have hp3 : p3 ≤ 100 := by omega
  clear hr hg hO hF hcl hfl hv0 R2 HB2 hp1 hp2
  by_cases h0 : 0 < m
  · have h0i : (0 : Int) < (m : Int) := by omega
    go_wp2_with fail
    refine (odd_any R v1 bs1 9 p3 w3 R3.out (by omega) (by omega)).mono ?_
    rintro e w4 ⟨b, p5, rfl, q1, q2, hr, hg, -⟩
    have HB4 : Hid (Below w.heap.size w w4) := HB3.out.grown hg HB3.out.size (fun g hg => by cases hg; have := HRR.out; omega)
    have G4 := Lib.hid (HG0.out.kept hg (fun g hg he => by have := (HG0.out.lt g hg).1; cases he; omega))
    clear hr hg HB3 HG0 d0 R3
    cases b
    · have HI : Hid (Ints w4 (.slice ar m cr) (f 0)) := by unfold Hid Ints; rw [HFL.out]; exact G4.out.view
      go_wp2
      go_ret
      exact ⟨_, f 0, rfl, HI.out, by rw [HFL.out]; omega, HB4.out⟩
    · obtain ⟨g, c9, hv9, hBg, hcap, -, hfr, hcl, hset⟩ := G4.out.at h0
      cases hv9
      obtain ⟨y, hy⟩ : ∃ y, (f 0)[0]? = some y := ⟨_, List.getElem?_eq_getElem (by rw [HFL.out]; exact h0)⟩
      have e0 : w4.cell? ⟨g, 0, none⟩ = some (.int .i64 y) := hcl 0 _ (by unfold ints; rw [List.getElem?_map, hy]; rfl)
      have f0 : w4.frozen? ⟨g, 0, none⟩ = false := hfr 0
      have hs := hset 0 (.int .i64 100001) h0
      have HI : Hid (Ints (w4.setCell ⟨g, 0, none⟩ (.int .i64 100001)) (.slice (some ⟨g, 0, none⟩) m cr) ((f 0).set 0 100001)) := by
        unfold Hid Ints
        rw [List.length_set, HFL.out]
        have := hs.view
        rw [show ints ((f 0).set 0 100001) = (ints (f 0)).set 0 (.int .i64 100001) by simp [ints, List.map_set]]
        exact this
      have HB5 : Hid (Below w.heap.size w (w4.setCell ⟨g, 0, none⟩ (.int .i64 100001))) := HB4.out.setCell (p := ⟨g, 0, none⟩) (by have := HZ2.out; show w.heap.size ≤ g; omega) _
      clear hs hset hcl hfr hy
      go_wp2
      go_ret
      exact ⟨_, _, rfl, HI.out, by rw [List.length_set, HFL.out]; omega, HB5.out⟩
  · obtain rfl : m = 0 := by omega
    have HI : Hid (Ints w3 (.slice ar 0 cr) (f 0)) := by unfold Hid Ints; rw [HFL.out]; exact HG0.out.view
    go_wp2
    go_ret
    exact ⟨_, f 0, rfl, HI.out, by rw [HFL.out]; omega, HB3.out⟩
end Go.Proofs.YtajgghifamebkaaDoor
