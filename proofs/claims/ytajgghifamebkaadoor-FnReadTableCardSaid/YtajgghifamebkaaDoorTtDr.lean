/- the draw of FnTableText -/
import Derived.Test.YtajgghifamebkaaDoorTabTb
import Derived.Test.YtajgghifamebkaaDoorDoor
namespace Go.Proofs.YtajgghifamebkaaDoor
set_option linter.unusedSimpArgs false
set_option linter.unusedVariables false
open Go.RowKit
def DrawnTab (w : World) (e : Ending) (w' : World) : Prop := ∃ u ns n f, e = .returned u ∧ TabIn w' u ns n f ∧ SmallS ns ∧ Below w.heap.size w w'
set_option maxRecDepth 20000 in
set_option maxHeartbeats 1000000 in
theorem draw_TableText (v : Value) (bs : List Int) (w : World) (h : Bts w v bs) : Calls Tryd.prog 7 #[v] w (DrawnTab w) := by
  obtain ⟨W1, hW1⟩ : ∃ W1, W1 = w.alloc (.cells #[.slice none 0 0, .slice none 0 0] 26) := ⟨_, rfl⟩
  have HW1 := Lib.hid hW1
  have HB1 : Hid (Below w.heap.size w W1) := by rw [hW1]; exact (Below.refl _ _).alloc (Nat.le_refl _) _
  have HR1 : Hid (Row W1 w.heap.size 26 [.slice none 0 0, .slice none 0 0]) := by rw [hW1]; exact Row.new w 26 [.slice none 0 0, .slice none 0 0]
  have H := Lib.hid (h.mono HB1.out (Nat.le_refl _))
  clear h hW1
  go_enter Tryd.func7, Tryd.ntmps7
  go_wp2_with fail
  rw [← HW1.out]
  refine (open_any v bs W1 H.out).mono ?_
  rintro e w1 ⟨v1, bs1, rfl, hr, hb⟩
  have hg2 : w.heap.size < W1.heap.size := HR1.out.lt
  have HR := Lib.hid hr
  have HB2 := nxt HB1 hb
  have HR2 := Lib.hid (HR1.out.mono hb HR1.out.lt)
  have hz1 : W1.heap.size ≤ w1.heap.size := hb.size
  have HZ1 := Lib.hid hz1
  clear hr hb H HB1 HR1 HW1 hz1
  obtain ⟨R, hRR⟩ : ∃ R, W1.heap.size = R := ⟨_, rfl⟩
  obtain ⟨g2, hgg⟩ : ∃ g2, w.heap.size = g2 := ⟨_, rfl⟩
  rw [hRR] at HR hg2 HZ1
  rw [hgg] at HR2 hg2
  have HGG := Lib.hid hgg
  go_wp2_with fail
  try rw [hRR]
  try rw [hgg]
  clear hRR hgg
  refine (pick_nat R v1 bs1 3 0 w1 HR.out (by omega) (by omega)).mono ?_
  rintro e w2 ⟨x, rfl, hx, hr, hg⟩
  have R2 := Lib.hid hr
  have HB3 : Hid (Below w.heap.size w w2) := HB2.out.grown hg HB2.out.size (fun g hg => by cases hg; have := HGG.out; omega)
  have HR3 := Lib.hid (HR2.out.grown hg (fun e => by have := Option.some.inj e; omega))
  have HZ2 : Hid (R ≤ w2.heap.size) := Nat.le_trans HZ1.out hg.size
  clear hr hg HB2 HR2 HR HZ1
  go_wp2_with fail
  refine (table_any R v1 bs1 x 6 (0 + 1) w2 R2.out (by omega) hx (by omega)).mono ?_
  rintro e w3 ⟨u, ns, n, f, p3, rfl, hT, hl, hs, -, -, -, hr, hg⟩
  obtain ⟨a1, c1, b1, d1, rfl⟩ := hT.lits
  have HB4 : Hid (Below w.heap.size w w3) := HB3.out.grown hg HB3.out.size (fun g hg => by cases hg; have := HGG.out; omega)
  have HR4 := Lib.hid (HR3.out.grown hg (fun e => by have := Option.some.inj e; omega))
  have HT := Lib.hid hT
  have HS : Hid (SmallS ns) := fun y hy => by have := hs y hy; omega
  obtain ⟨l, hl0⟩ : ∃ l, ns.length = l := ⟨_, rfl⟩
  rw [hl0] at HT ⊢
  have x0 := HR4.out.cell (i := 0) rfl
  have x1 := HR4.out.cell (i := 1) rfl
  have z0 := HR4.out.free 0
  have z1 := HR4.out.free 1
  clear hT hl hs hr hg HB3 HR3 hl0
  go_wp2
  have hs : w3.grownBy ((w3.setCell ⟨g2, 0, none⟩ (.slice a1 l c1)).setCell ⟨g2, 1, none⟩ (.slice b1 n d1)) (some g2) := grown_set (set_other w3 ⟨g2, 0, none⟩ _ rfl) _ _
  have HTF := Lib.hid (HT.out.keptB hs (by have := HZ2.out; omega)).view
  have HBF : Hid (Below w.heap.size w ((w3.setCell ⟨g2, 0, none⟩ (.slice a1 l c1)).setCell ⟨g2, 1, none⟩ (.slice b1 n d1))) := HB4.out.grown hs HB4.out.size (fun g hg => by cases hg; have := HGG.out; omega)
  have hrz := (HR4.out.set 0 (.slice a1 l c1)).set 1 (.slice b1 n d1)
  have g0 := hrz.cell (i := 0) rfl
  have g1 := hrz.cell (i := 1) rfl
  clear hrz x0 x1 z0 z1
  exact bodyPost_ret (v := .agg #[.slice a1 l c1, .slice b1 n d1]) (by simp [results, Tryd.results7, go_sem, g0, g1]) rfl ⟨_, ns, n, f, rfl, HTF.out, HS.out, by first | exact HBF.out | (rw [← HGG.out]; exact HBF.out)⟩
end Go.Proofs.YtajgghifamebkaaDoor
