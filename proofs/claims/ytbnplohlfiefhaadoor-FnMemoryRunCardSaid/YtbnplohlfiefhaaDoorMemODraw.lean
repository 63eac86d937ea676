/- the draw of values and leaves -/
import Derived.Test.YtbnplohlfiefhaaDoorDrawN
import Derived.Test.YtbnplohlfiefhaaDoorLaw
import Derived.Test.YtbnplohlfiefhaaDoorInts
import Derived.Test.YtbnplohlfiefhaaDoorRes
import Derived.Test.YtbnplohlfiefhaaDoorApp
namespace Go.Proofs.YtbnplohlfiefhaaDoor
open Go.RowKit
def DrawnOf (w : World) (e : Ending) (w' : World) : Prop :=
  ∃ u v xs ys, e = .returned (.tuple #[u, v]) ∧ Ints w' u xs ∧ Ints w' v ys ∧ xs.length ≤ 8 ∧ ys.length ≤ 9 ∧ Below w.heap.size w w'
theorem ints_drop {w : World} {g k c : Nat} {xs : List Int} (h : View w 1 (.slice (some ⟨g, 0, none⟩) (k + 1) c) (k + 1) (ints xs)) (hl : xs.length = k + 1) (hk : 0 < k) : Ints w (.slice (some ⟨g, 1, none⟩) k (c - 1)) (xs.drop 1) := by
  obtain ⟨h1, h2, h3⟩ := h
  have hdl : (xs.drop 1).length = k := by rw [List.length_drop]; omega
  unfold Ints
  rw [hdl]
  refine ⟨by rw [ints_length, hdl]; omega, by omega, ?_⟩
  rcases h3 with ⟨h3, _⟩ | ⟨h3, b, off, c, hv, hc, hcell⟩
  · omega
  · cases hv
    refine .inr ⟨by omega, g, 1, _, rfl, by omega, fun i u hu => ?_⟩
    have hu' : (ints xs)[1 + i]? = some u := by
      unfold ints at hu ⊢
      rw [List.map_drop, List.getElem?_drop] at hu; exact hu
    have := hcell _ u hu'
    rwa [show 0 + (1 + i) = 1 + i by omega] at this
set_option maxRecDepth 20000 in
set_option maxHeartbeats 2000000 in
theorem draw_MemoryOf (v : Value) (bs : List Int) (w : World) (h : Bts w v bs) : Calls Tryd.prog 9 #[v] w (DrawnOf w) := by
  have H := Lib.hid h
  clear h
  go_enter Tryd.func9, Tryd.ntmps9
  go_wp2_with fail
  refine (open_any v bs w H.out).mono ?_
  rintro e w1 ⟨v1, bs1, rfl, hr, hb⟩
  have lowR := hr.low.1
  have LV := Lib.hid hr.low.2
  have HR := Lib.hid hr
  have B1 := nxt (Lib.hid (Below.refl _ _)) hb
  obtain ⟨R, hRR⟩ : ∃ R, w.heap.size = R := ⟨_, rfl⟩
  have HRR := Lib.hid hRR
  rw [hRR] at HR lowR ⊢
  clear hr hb H hRR
  go_wp2
  have hb2 := ((Below.refl w1.heap.size w1).alloc (Nat.le_refl _) (.cells #[] 3)).alloc (by simp) (.cells #[] 3)
  have HR2 := Lib.hid (HR.out.below hb2 lowR LV.out)
  have HW2 := Lib.hid (grown_below (grown_refl w1 (some R)) hb2)
  clear hb2 HR
  go_loopg [5, 6, 7] 8 (fun gg u y i wr => ∃ (k p' : Nat) (xs ys : List Int), k ≤ 8 ∧ 8 - k ≤ gg ∧ i = .int .i64 k ∧ xs.length = k ∧ ys.length = k ∧ p' ≤ 2 * k ∧ Hid (Gr wr w1.heap.size 3 1 u k (ints xs)) ∧ Hid (Gr wr w1.heap.size 3 1 y k (ints ys)) ∧ Hid (∀ g, gBlock u = some g → gBlock y ≠ some g) ∧ Hid (Rd wr R v1 bs1 ((p' : Nat) : Int)) ∧ Hid (w1.grownBy wr (some R)))
  case atStart => exact ⟨0, 0, [], [], by omega, Nat.le_refl _, rfl, rfl, rfl, by omega, Gr.none0 _ _ _ _ _, Gr.none0 _ _ _ _ _, (fun g hg => by simp [gBlock] at hg), HR2.out, HW2.out⟩
  case round =>
    clear HR2 HW2
    obtain ⟨k, p', xs, ys, hk, hgg, rfl, hxl, hyl, hp', hG, hY, hD, hR, hW⟩ := hrel
    have HXL := Lib.hid hxl
    have HYL := Lib.hid hyl
    clear hxl hyl
    obtain ⟨au, cu, hu⟩ := hG.out.lit
    obtain ⟨ay, cy, hy⟩ := hY.out.lit
    subst hu hy
    have zr : w1.heap.size ≤ wr.heap.size := hW.out.size
    by_cases hlt : k < 8
    · go_wp2_with fail
      refine (pick_nat R v1 bs1 256 p' _ hR.out (by omega) (by omega)).mono ?_
      rintro e w2 ⟨x, rfl, hx, hr, hg⟩
      have R2 := Lib.hid hr
      have W2 := Lib.hid (grown_trans hW.out hg)
      have G2 := Lib.hid (hG.out.kept hg (fun g hg he => by have := (hG.out.lt g hg).1; cases he; omega))
      have Y2 := Lib.hid (hY.out.kept hg (fun g hg he => by have := (hY.out.lt g hg).1; cases he; omega))
      have z2 : w1.heap.size ≤ w2.heap.size := W2.out.size
      have hwr : IntKind.i64.wrap ((x : Int) - 100) = (x : Int) - 100 := IntWalk.i64_in _ ⟨by omega, by omega⟩
      clear hr hg hG hY hR hW
      go_wp2_with (at_builtin; refine wpList_app _ rfl (.tmp 16) (.tmp 20) 23 rfl w1.heap.size 3 (.int .i64 0) 1 8 Tryd.underlying23 Tryd.infoInt rfl (by omega) (.slice au k cu) k (ints xs) rfl (G2.out.alloc _) _ 1 [.int .i64 ((x : Int) - 100)] rfl (view_one _ _ _) (by simp [Value.oneCell']) (by unfold maxLen; omega) (by omega) (by simp; omega) ?_; intro v5 w5 g5 r5 k5; have G5 := Lib.hid g5; have R5 := Lib.hid r5; have K5 := Lib.hid k5; clear g5 r5 k5)
      have hb5 : Below w1.heap.size w2 w5 := ((Below.refl _ _).alloc z2 _).grown R5.out (by simp; omega) (fun g hg => (G2.out.lt g hg).1)
      have R5' := Lib.hid (R2.out.below hb5 lowR LV.out)
      have W5 := Lib.hid (grown_below W2.out hb5)
      have Y5 : Hid (Gr w5 w1.heap.size 3 1 (.slice ay k cy) k (ints ys)) := (Y2.out.alloc _).kept R5.out (fun g hg he => hD.out g he hg)
      have D5 : Hid (∀ g, gBlock v5 = some g → gBlock (.slice ay k cy) ≠ some g) := fun g hg he => by
        rcases K5.out with e | e
        · exact hD.out g (e ▸ hg) he
        · rw [e] at hg
          have := (Y2.out.lt g he).2
          cases hg
          rw [World.size_alloc] at this
          omega
      have z5 : w1.heap.size ≤ w5.heap.size := W5.out.size
      clear hb5 R5 K5 G2 Y2 W2 R2 hD hwr
      refine (pick_nat R v1 bs1 4 (p' + 1) _ R5'.out (by omega) (by omega)).mono ?_
      rintro e w6 ⟨x2, rfl, hx2, hr, hg⟩
      have R6 := Lib.hid hr
      have W6 := Lib.hid (grown_trans W5.out hg)
      have G6 := Lib.hid (G5.out.kept hg (fun g hg he => by have := (G5.out.lt g hg).1; cases he; omega))
      have Y6 := Lib.hid (Y5.out.kept hg (fun g hg he => by have := (Y5.out.lt g hg).1; cases he; omega))
      have z6 : w1.heap.size ≤ w6.heap.size := W6.out.size
      clear hr hg G5 Y5 R5' W5
      go_wp2_with (at_builtin; refine wpList_app _ rfl (.tmp 22) (.tmp 25) 23 rfl w1.heap.size 3 (.int .i64 0) 1 8 Tryd.underlying23 Tryd.infoInt rfl (by omega) (.slice ay k cy) k (ints ys) rfl (Y6.out.alloc _) _ 1 [.int .i64 (x2 : Int)] rfl (view_one _ _ _) (by simp [Value.oneCell']) (by unfold maxLen; omega) (by omega) (by simp; omega) ?_; intro v7 w7 g7 r7 k7; have G7 := Lib.hid g7; have R7 := Lib.hid r7; have K7 := Lib.hid k7; clear g7 r7 k7)
      go_roundg (8 - (k + 1))
      case rel =>
        have hb7 : Below w1.heap.size w6 w7 := ((Below.refl _ _).alloc z6 _).grown R7.out (by simp; omega) (fun g hg => (Y6.out.lt g hg).1)
        refine ⟨k + 1, p' + 1 + 1, xs ++ [(x : Int) - 100], ys ++ [(x2 : Int)], by omega, Nat.le_refl _, by go_num, by rw [List.length_append, HXL.out]; rfl, by rw [List.length_append, HYL.out]; rfl, by omega, ?_, ?_, ?_, R6.out.below hb7 lowR LV.out, grown_below W6.out hb7⟩
        · have := (G6.out.alloc (.cells #[.int .i64 (x2 : Int)] 3)).kept R7.out (fun g hg he => D5.out g hg he)
          simpa [Hid, ints] using this
        · have := G7.out
          simpa [Hid, ints] using this
        · intro g hg he
          rcases K7.out with e | e
          · exact D5.out g hg (e ▸ he)
          · rw [e] at he
            have := (G6.out.lt g hg).2
            cases he
            rw [World.size_alloc] at this
            omega
      case measure => omega
    · obtain rfl : k = 8 := by omega
      go_wp2_with fail
      refine (odd_any _ v1 bs1 4 p' _ hR.out (by omega) (by omega)).mono ?_
      rintro e w2 ⟨t, p2, rfl, hp2, hp2', hr, hg, _⟩
      have R2 := Lib.hid hr
      have W2 := Lib.hid (grown_trans hW.out hg)
      have G2 := Lib.hid (hG.out.kept hg (fun g hg he => by have := (hG.out.lt g hg).1; cases he; omega))
      have Y2 := Lib.hid (hY.out.kept hg (fun g hg he => by have := (hY.out.lt g hg).1; cases he; omega))
      have z2 : w1.heap.size ≤ w2.heap.size := W2.out.size
      have hRw : w.heap.size ≤ R := Nat.le_of_eq HRR.out
      clear hr hg hG hY hR hW
      have HBB : Hid (∀ w', w1.grownBy w' (some R) → Below w.heap.size w w') := fun w' hg => (nxtG B1 hg (fun g h => by cases h; exact hRw)).out
      cases t
      · go_wp2
        go_ret2
        exact ⟨_, _, xs, ys, rfl, Gr.ints G2.out HXL.out.symm, Gr.ints Y2.out HYL.out.symm, by rw [HXL.out]; omega, by rw [HYL.out]; omega, HBB.out _ W2.out⟩
      · go_wp2_with fail
        refine (pick_nat _ v1 bs1 4 p2 _ R2.out (by omega) (by omega)).mono ?_
        rintro e w3 ⟨x, rfl, hx, hr, hg⟩
        have W3 := Lib.hid (grown_trans W2.out hg)
        have G3 := Lib.hid (G2.out.kept hg (fun g hg he => by have := (G2.out.lt g hg).1; cases he; omega))
        have Y3 := Lib.hid (Y2.out.kept hg (fun g hg he => by have := (Y2.out.lt g hg).1; cases he; omega))
        have z3 : w1.heap.size ≤ w3.heap.size := W3.out.size
        clear hr hg G2 Y2 W2 R2
        have hx4 : x = 0 ∨ x = 1 ∨ x = 2 ∨ x = 3 := by omega
        clear hx
        have hB3 := HBB.out _ W3.out
        rcases hx4 with rfl | rfl | rfl | rfl
        · obtain ⟨g, c, hu, -, hc, -⟩ := G3.out.at (by omega)
          cases hu
          have hcu : 1 ≤ cu := by omega
          have hcn : ¬ cu = 1 := by omega
          go_wp2
          go_ret2
          refine ⟨_, _, xs.drop 1, ys, rfl, ints_drop G3.out.view HXL.out (by omega), Gr.ints Y3.out HYL.out.symm, by rw [List.length_drop, HXL.out]; omega, by rw [HYL.out]; omega, hB3⟩
        · go_wp2_with (at_builtin; refine wpList_app _ rfl (.tmp 39) (.tmp 40) 23 rfl w1.heap.size 3 (.int .i64 0) 1 8 Tryd.underlying23 Tryd.infoInt rfl (by omega) (.slice ay 8 cy) 8 (ints ys) rfl (Y3.out.alloc _) _ 1 [.int .i64 0] rfl (view_one _ _ _) (by simp [Value.oneCell']) (by unfold maxLen; omega) (by omega) (by simp; omega) ?_; intro v7 w7 g7 r7 k7; have G7 := Lib.hid g7; have R7 := Lib.hid r7; clear g7 r7 k7)
          go_ret2
          have hb7 : Below w1.heap.size w3 w7 := ((Below.refl _ _).alloc z3 _).grown R7.out (by simp; omega) (fun g hg => (Y3.out.lt g hg).1)
          refine ⟨_, _, xs, ys ++ [0], rfl, Gr.ints ((G3.out.alloc _).kept R7.out (fun g hg he => hD.out g hg he)) HXL.out.symm, Gr.ints (n := 9) (by have := G7.out; simpa [ints] using this) (by rw [List.length_append, HYL.out]; rfl), by rw [HXL.out]; omega, by rw [List.length_append, HYL.out]; simp, HBB.out _ (grown_below W3.out hb7)⟩
        · obtain ⟨g, c, hu, hgB, _, _, hfr, hcell, hset⟩ := Y3.out.at (by omega)
          cases hu
          obtain ⟨y3, hy3⟩ : ∃ y3, ys[3]? = some y3 := ⟨_, List.getElem?_eq_getElem (by rw [HYL.out]; omega)⟩
          have c3 : w3.cell? ⟨g, 3, none⟩ = some (.int .i64 y3) := hcell 3 _ (by simp [ints, hy3])
          have f3 := hfr 3
          have GS := Lib.hid (hset 3 (.int .i64 4) (by omega))
          have GX := Lib.hid (G3.out.setOther g 3 (.int .i64 4) (fun x hx e => by
            subst e
            exact hD.out x hx (by have := (Y3.out.lt x); simp [gBlock]; omega)))
          clear hfr hcell hset hy3
          go_wp2
          go_ret2
          refine ⟨_, _, xs, ys.set 3 4, rfl, Gr.ints GX.out HXL.out.symm, Gr.ints (n := 8) (by have := GS.out; unfold ints at this ⊢; rw [List.map_set]; exact this) (by rw [List.length_set, HYL.out]), by rw [HXL.out]; omega, by rw [List.length_set, HYL.out]; omega, hB3.setCell (p := ⟨g, 3, none⟩) (by show w.heap.size ≤ g; omega) _⟩
        · obtain ⟨g, c, hu, hgB, _, _, hfr, hcell, hset⟩ := G3.out.at (by omega)
          cases hu
          obtain ⟨y3, hy3⟩ : ∃ y3, xs[2]? = some y3 := ⟨_, List.getElem?_eq_getElem (by rw [HXL.out]; omega)⟩
          have c3 : w3.cell? ⟨g, 2, none⟩ = some (.int .i64 y3) := hcell 2 _ (by simp [ints, hy3])
          have f3 := hfr 2
          have GS := Lib.hid (hset 2 (.int .i64 100001) (by omega))
          have GX := Lib.hid (Y3.out.setOther g 2 (.int .i64 100001) (fun x hx e => by
            subst e
            exact hD.out x (by simp [gBlock]; omega) hx))
          clear hfr hcell hset hy3
          go_wp2
          go_ret2
          refine ⟨_, _, xs.set 2 100001, ys, rfl, Gr.ints (n := 8) (by have := GS.out; unfold ints at this ⊢; rw [List.map_set]; exact this) (by rw [List.length_set, HXL.out]), Gr.ints GX.out HYL.out.symm, by rw [List.length_set, HXL.out]; omega, by rw [HYL.out]; omega, hB3.setCell (p := ⟨g, 2, none⟩) (by show w.heap.size ≤ g; omega) _⟩
end Go.Proofs.YtbnplohlfiefhaaDoor
