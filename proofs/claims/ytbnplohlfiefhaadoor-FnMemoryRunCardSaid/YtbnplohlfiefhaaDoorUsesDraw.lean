/- the draw of uses -/
import Derived.Test.YtbnplohlfiefhaaDoorRunS
import Derived.Test.YtbnplohlfiefhaaDoorMemODraw
namespace Go.Proofs.YtbnplohlfiefhaaDoor
open Go.RowKit
def useIn (u : Int × Bool × Int × Int) : Bool := inB u.1 0 7 && inB u.2.2.1 (-100000) 100000 && inB u.2.2.2 0 3
def UsesPost (m : Int) (R : Nat) (v : Value) (bs : List Int) (p : Nat) (w : World) (e : Ending) (w' : World) : Prop :=
  ∃ u us p', e = .returned u ∧ Gr w' w.heap.size 50 4 u us.length (useCs us) ∧ us.length ≤ 12 ∧ (m ≤ 0 → ∀ u ∈ us, useIn u = true) ∧ p ≤ p' ∧ p' ≤ p + 50 ∧ Rd w' R v bs ((p' : Nat) : Int) ∧ w.grownBy w' (some R)
theorem view_use (w : World) (u : Int × Bool × Int × Int) : View (w.alloc (.cells #[.int .i64 u.1, .bool u.2.1, .int .i64 u.2.2.1, .int .i64 u.2.2.2] 50)) 4 (.slice (some ⟨w.heap.size, 0, none⟩) 1 1) 1 (useCs [u]) :=
  View.of_row (Row.new w 50 [.int .i64 u.1, .bool u.2.1, .int .i64 u.2.2.1, .int .i64 u.2.2.2]) rfl (by unfold maxLen; omega) (Nat.le_refl _)
theorem view_use2 (w : World) (o : Obj) (u : Int × Bool × Int × Int) : View ((w.alloc o).alloc (.cells #[.int .i64 u.1, .bool u.2.1, .int .i64 u.2.2.1, .int .i64 u.2.2.2] 50)) 4 (.slice (some ⟨w.heap.size + 1, 0, none⟩) 1 1) 1 (useCs [u]) := by
  have := view_use (w.alloc o) u
  rwa [World.size_alloc] at this
set_option maxRecDepth 20000 in
set_option maxHeartbeats 2000000 in
theorem uses_any (R : Nat) (v : Value) (bs : List Int) (m : Int) (p : Nat) (w : World) (h : Rd w R v bs p) (hp : p ≤ 1000000000) (hm : m ≤ 100000) (hm2 : -100000 ≤ m) :
    Calls Tryd.prog 47 #[.pointer (some ⟨R, 0, none⟩), .int .i64 m] w (UsesPost m R v bs p w) := by
  obtain ⟨lowR, lowV⟩ := h.low
  have H := Lib.hid h
  have LV := Lib.hid lowV
  clear h lowV
  go_enter Tryd.func47, Tryd.ntmps47
  have hb0 := (Below.refl w.heap.size w).alloc (Nat.le_refl _) (.cells #[] 50)
  have H0 := Lib.hid (H.out.below hb0 lowR LV.out)
  have W0 := Lib.hid (grown_below (grown_refl w (some R)) hb0)
  clear hb0 H
  go_wp2_with fail
  refine (pick_nat R v bs 12 p _ H0.out (by omega) (by omega)).mono ?_
  rintro e w1 ⟨x, rfl, hx, hr, hg⟩
  have R1 := Lib.hid hr
  have W1 := Lib.hid (grown_trans W0.out hg)
  clear hr hg H0 W0
  go_wp2
  go_loopg [5, 6] 11 (fun gg u i wr => ∃ (k p' : Nat) (us : List (Int × Bool × Int × Int)), k ≤ 11 ∧ k ≤ gg ∧ i = .int .i64 k ∧ us.length + k = x ∧ p + 1 ≤ p' ∧ p' + 4 * k ≤ p + 45 ∧ Hid (∀ u ∈ us, useIn u = true) ∧ Hid (Gr wr w.heap.size 50 4 u us.length (useCs us)) ∧ Hid (Rd wr R v bs ((p' : Nat) : Int)) ∧ Hid (w.grownBy wr (some R)))
  case atStart => exact ⟨x, p + 1, [], by omega, by omega, rfl, by simp, by omega, by omega, (fun u hu => by cases hu), Gr.none0 _ _ _ _ _, R1.out, W1.out⟩
  case round =>
    clear R1 W1
    obtain ⟨k, p', us, hk, hgg, rfl, hul, hp1, hp2, hI, hG, hR, hW⟩ := hrel
    obtain ⟨nu, hnu⟩ : ∃ nu, us.length = nu := ⟨_, rfl⟩
    rw [hnu] at hG hul
    have HNU := Lib.hid hnu
    obtain ⟨au, cu, hu⟩ := hG.out.lit
    subst hu
    have zr : w.heap.size ≤ wr.heap.size := hW.out.size
    clear hnu
    by_cases hlt : 0 < k
    · have hkd : decide ((k : Int) > 0) = true := decide_eq_true (by omega)
      go_wp2_with fail
      refine (pick_nat R v bs 8 p' _ hR.out (by omega) (by omega)).mono ?_
      rintro e w2 ⟨x1, rfl, hx1, hr, hg⟩
      have R2 := Lib.hid hr
      have W2 := Lib.hid (grown_trans hW.out hg)
      have G2 := Lib.hid (hG.out.kept hg (fun g hg he => by have := (hG.out.lt g hg).1; cases he; omega))
      clear hr hg hG hR hW
      go_wp2_with fail
      refine (pick_nat R v bs 2 (p' + 1) _ R2.out (by omega) (by omega)).mono ?_
      rintro e w3 ⟨x2, rfl, hx2, hr, hg⟩
      have R3 := Lib.hid hr
      have W3 := Lib.hid (grown_trans W2.out hg)
      have G3 := Lib.hid (G2.out.kept hg (fun g hg he => by have := (G2.out.lt g hg).1; cases he; omega))
      clear hr hg G2 R2 W2
      go_wp2_with fail
      refine (pick_nat R v bs 256 (p' + 1 + 1) _ R3.out (by omega) (by omega)).mono ?_
      rintro e w4 ⟨x3, rfl, hx3, hr, hg⟩
      have R4 := Lib.hid hr
      have W4 := Lib.hid (grown_trans W3.out hg)
      have G4 := Lib.hid (G3.out.kept hg (fun g hg he => by have := (G3.out.lt g hg).1; cases he; omega))
      clear hr hg G3 R3 W3
      go_wp2_with fail
      refine (pick_nat R v bs 4 (p' + 1 + 1 + 1) _ R4.out (by omega) (by omega)).mono ?_
      rintro e w5 ⟨x4, rfl, hx4, hr, hg⟩
      have R5 := Lib.hid hr
      have W5 := Lib.hid (grown_trans W4.out hg)
      have G5 := Lib.hid (G4.out.kept hg (fun g hg he => by have := (G4.out.lt g hg).1; cases he; omega))
      clear hr hg G4 R4 W4
      have z5 : w.heap.size ≤ w5.heap.size := W5.out.size
      obtain ⟨t, ht⟩ : ∃ t : Bool, ((x2 : Int) == 0) = t := ⟨_, rfl⟩
      have hwk : IntKind.i64.wrap ((k : Int) - 1) = (k : Int) - 1 := IntWalk.i64_in _ ⟨by omega, by omega⟩
      go_wp2_with (at_builtin; (try rw [ht]); refine wpList_app _ rfl (.tmp 14) (.tmp 25) 44 rfl w.heap.size 50 (.agg #[.int .i64 0, .bool false, .int .i64 0, .int .i64 0]) 4 32 Tryd.underlying44 Tryd.infoUse rfl (by omega) (.slice au nu cu) nu (useCs us) rfl (G5.out.alloc _) _ 1 (useCs [((x1 : Int), t, (x3 : Int), (x4 : Int))]) rfl (view_use _ ((x1 : Int), t, (x3 : Int), (x4 : Int))) (one_useCs _) (by unfold maxLen; omega) (by omega) (by rw [World.size_alloc]; omega) ?_; intro v6 w6 g6 r6 k6; have G6 := Lib.hid g6; have R6 := Lib.hid r6; clear g6 r6 k6)
      go_roundg (k - 1)
      case rel =>
        have hb6 : Below w.heap.size w5 w6 := ((Below.refl _ _).alloc z5 _).grown R6.out (by rw [World.size_alloc]; omega) (fun g hg => (G5.out.lt g hg).1)
        refine ⟨k - 1, p' + 1 + 1 + 1 + 1, us ++ [((x1 : Int), t, (x3 : Int), (x4 : Int))], by omega, Nat.le_refl _, by congr 1; omega, by rw [List.length_append, HNU.out]; simp; omega, by omega, by omega, ?_, ?_, R5.out.below hb6 lowR LV.out, grown_below W5.out hb6⟩
        · intro y hy
          rcases List.mem_append.1 hy with hy | hy
          · exact hI.out y hy
          · obtain rfl : y = _ := List.mem_singleton.1 hy
            unfold useIn
            simp only [Bool.and_eq_true, inB_iff]
            omega
        · have := G6.out
          rw [← useCs_append] at this
          rw [List.length_append, HNU.out]
          exact this
      case measure => omega
    · obtain rfl : k = 0 := by omega
      go_wp2_with fail
      refine (odd_any R v bs m p' _ hR.out (by omega) (by omega)).mono ?_
      rintro e w2 ⟨t, p2, rfl, hq1, hq2, hr, hg, hneg⟩
      have R2 := Lib.hid hr
      have W2 := Lib.hid (grown_trans hW.out hg)
      have G2 := Lib.hid (hG.out.kept hg (fun g hg he => by have := (hG.out.lt g hg).1; cases he; omega))
      have z2 : w.heap.size ≤ w2.heap.size := W2.out.size
      clear hr hg hG hR hW
      cases t
      · go_wp2
        go_ret
        refine ⟨_, us, p2, rfl, ?_, by rw [HNU.out]; omega, fun _ => hI.out, by omega, by omega, R2.out, W2.out⟩
        rw [HNU.out]; exact G2.out
      · have hmp : ¬ m ≤ 0 := fun h => by have := hneg h; cases this
        have hba := (Below.refl w.heap.size w2).alloc z2 (.cells #[.int .i64 8, .bool false, .int .i64 0, .int .i64 0, .int .i64 (-1), .bool false, .int .i64 0, .int .i64 0, .int .i64 0, .bool false, .int .i64 0, .int .i64 4, .int .i64 0, .bool false, .int .i64 100001, .int .i64 0] 50)
        go_wp2_with fail
        refine (pick_nat R v bs 4 p2 _ (R2.out.below hba lowR LV.out) (by omega) (by omega)).mono ?_
        rintro e w3 ⟨y, rfl, hy, hr, hg⟩
        have R3 := Lib.hid hr
        have W3 := Lib.hid (grown_trans (grown_below W2.out hba) hg)
        have G3 := Lib.hid ((G2.out.alloc (.cells #[.int .i64 8, .bool false, .int .i64 0, .int .i64 0, .int .i64 (-1), .bool false, .int .i64 0, .int .i64 0, .int .i64 0, .bool false, .int .i64 0, .int .i64 4, .int .i64 0, .bool false, .int .i64 100001, .int .i64 0] 50)).kept hg (fun g hg he => by have := (G2.out.lt g hg).1; cases he; omega))
        have hrow := (Row.new w2 50 [.int .i64 8, .bool false, .int .i64 0, .int .i64 0, .int .i64 (-1), .bool false, .int .i64 0, .int .i64 0, .int .i64 0, .bool false, .int .i64 0, .int .i64 4, .int .i64 0, .bool false, .int .i64 100001, .int .i64 0]).grown hg (fun e => by cases e; omega)
        obtain ⟨ua, ut, uz, ul, d0, d1, d2, d3⟩ : ∃ (ua : Int) (ut : Bool) (uz ul : Int), w3.cell? ⟨w2.heap.size, y * 4, none⟩ = some (.int .i64 ua) ∧ w3.cell? ⟨w2.heap.size, y * 4 + 1, none⟩ = some (.bool ut) ∧ w3.cell? ⟨w2.heap.size, y * 4 + 2, none⟩ = some (.int .i64 uz) ∧ w3.cell? ⟨w2.heap.size, y * 4 + 3, none⟩ = some (.int .i64 ul) := by
          have : y = 0 ∨ y = 1 ∨ y = 2 ∨ y = 3 := by omega
          rcases this with rfl | rfl | rfl | rfl
          · exact ⟨8, false, 0, 0, hrow.cell rfl, hrow.cell rfl, hrow.cell rfl, hrow.cell rfl⟩
          · exact ⟨-1, false, 0, 0, hrow.cell rfl, hrow.cell rfl, hrow.cell rfl, hrow.cell rfl⟩
          · exact ⟨0, false, 0, 4, hrow.cell rfl, hrow.cell rfl, hrow.cell rfl, hrow.cell rfl⟩
          · exact ⟨0, false, 100001, 0, hrow.cell rfl, hrow.cell rfl, hrow.cell rfl, hrow.cell rfl⟩
        have z3 : w.heap.size ≤ w3.heap.size := W3.out.size
        clear hr hg hrow hba R2 W2 G2
        go_wp2_with (at_builtin; refine wpList_app _ rfl (.tmp 30) (.tmp 40) 44 rfl w.heap.size 50 (.agg #[.int .i64 0, .bool false, .int .i64 0, .int .i64 0]) 4 32 Tryd.underlying44 Tryd.infoUse rfl (by omega) (.slice au nu cu) nu (useCs us) rfl (G3.out.alloc _) _ 1 (useCs [(ua, ut, uz, ul)]) rfl (view_use _ (ua, ut, uz, ul)) (one_useCs _) (by unfold maxLen; omega) (by omega) (by rw [World.size_alloc]; omega) ?_; intro v6 w6 g6 r6 k6; have G6 := Lib.hid g6; have R6 := Lib.hid r6; clear g6 r6 k6)
        go_ret
        have hb6 : Below w.heap.size w3 w6 := ((Below.refl _ _).alloc z3 _).grown R6.out (by rw [World.size_alloc]; omega) (fun g hg => (G3.out.lt g hg).1)
        refine ⟨_, us ++ [(ua, ut, uz, ul)], p2 + 1, rfl, ?_, by rw [List.length_append, HNU.out]; simp; omega, fun h => by omega, by omega, by omega, R3.out.below hb6 lowR LV.out, grown_below W3.out hb6⟩
        have := G6.out
        rw [← useCs_append] at this
        rw [List.length_append, HNU.out]
        exact this
end Go.Proofs.YtbnplohlfiefhaaDoor
