/- the draw of RoutePermutation -/
import Derived.Test.YtnmkficfbnnakaaDoorPermDraw
namespace Go.Proofs.YtnmkficfbnnakaaDoor
open Go.RowKit
/-- a list drawn -/
def DrawnPerm (w : World) (e : Ending) (w' : World) : Prop := ∃ u xs, e = .returned u ∧ Gr w' w.heap.size 3 1 u xs.length (ints xs) ∧ xs.length ≤ 9 ∧ Below w.heap.size w w'
theorem draw_RoutePermutation (v : Value) (bs : List Int) (w : World) (h : Bts w v bs) : Calls Tryd.prog 11 #[v] w (DrawnPerm w) := by
  have H := Lib.hid h
  clear h
  go_enter Tryd.func11, Tryd.ntmps11
  go_wp2_with fail
  refine (open_any v bs w H.out).mono ?_
  rintro e w1 ⟨v1, bs1, rfl, hr, hb⟩
  have HR := Lib.hid hr
  have z1 := hr.low.1
  have B1 := nxt (Lib.hid (Below.refl _ _)) hb
  clear hr hb H
  go_wp2_with fail
  refine (perm_any _ v1 bs1 6 0 _ HR.out (by omega) (by omega) (by omega)).mono ?_
  rintro e w2 ⟨u, xs, p', rfl, hG, hl, -, -, -, hg⟩
  have B2 := nxtG B1 hg (fun g h => by cases h; omega)
  have HG := Lib.hid (hG.low (B' := w.heap.size) (by omega))
  have HL := Lib.hid hl
  clear hg hG hl B1 HR
  go_wp2
  go_ret
  exact ⟨u, xs, rfl, HG.out, HL.out, B2.out⟩
end Go.Proofs.YtnmkficfbnnakaaDoor
