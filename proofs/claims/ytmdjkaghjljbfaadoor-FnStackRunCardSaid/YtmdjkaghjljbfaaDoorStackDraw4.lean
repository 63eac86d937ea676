/- draws of stacks: DrawStackRun -/
import Derived.Test.YtmdjkaghjljbfaaDoorPick
namespace Go.Proofs.YtmdjkaghjljbfaaDoor
open Go.RowKit
/-- numbers drawn -/
def DrawnRun (w : World) (e : Ending) (w' : World) : Prop := ∃ u xs, e = .returned u ∧ Gr w' w.heap.size 3 1 u xs.length (ints xs) ∧ xs.length ≤ 14 ∧ Below w.heap.size w w'
theorem ints_snoc {xs : List Int} {y : Int} : ints xs ++ [.int .i64 y] = ints (xs ++ [y]) := by simp [ints]
set_option maxHeartbeats 4000000 in
theorem draw_StackRun (v : Value) (bs : List Int) (w : World) (h : Bts w v bs) : Calls Tryd.prog 20 #[v] w (DrawnRun w) := by
  have H := Lib.hid h
  clear h
  go_enter Tryd.func20, Tryd.ntmps20
  go_wp2_with fail
  refine (open_any v bs w H.out).mono ?_
  rintro e w0 ⟨v1, bs1, rfl, hr, hb⟩
  have hlow := hr.low
  have hb0 : Below w0.heap.size w0 (w0.alloc (.cells #[] 3)) := (Below.refl _ _).alloc (Nat.le_refl _) _
  have HR0 := Lib.hid (hr.below hb0 hlow.1 hlow.2)
  have LV := Lib.hid hlow.2
  have lowR := hlow.1
  have B0 := nxt (Lib.hid (Below.refl _ _)) hb
  have W0 := Lib.hid (grown_below (grown_refl w0 (some w.heap.size)) hb0)
  clear hr hb hb0 H hlow
  go_wp2_with fail
  refine (pick_nat _ v1 bs1 14 0 _ HR0.out (by omega) (by omega)).mono ?_
  rintro e w1 ⟨x, rfl, hx, hr, hg⟩
  have HR1 := Lib.hid hr
  have W1 := Lib.hid (grown_trans W0.out hg)
  clear hr hg HR0 W0
  go_wp2
  go_loopw [4, 5, 6] (fun u m i wr => ∃ (k p' : Nat) (xs : List Int) (z : Int), k + xs.length ≤ 13 ∧ i = .int .i64 k ∧ m = .int .i64 z ∧ -(xs.length : Int) ≤ z ∧ z ≤ xs.length ∧ p' ≤ 1 + 4 * xs.length ∧ Hid (Gr wr w0.heap.size 3 1 u xs.length (ints xs)) ∧ Hid (Rd wr w.heap.size v1 bs1 ((p' : Nat) : Int)) ∧ Hid (w0.grownBy wr (some w.heap.size)))
    (fun _ _ i _ => (intOf i).toNat)
  case atStart => exact ⟨x, 1, [], 0, by simp; omega, rfl, rfl, by simp, by simp, by simp, Gr.none0 _ _ _ _ _, HR1.out, W1.out⟩
  case round =>
    obtain ⟨k, p', xs, z, hk, rfl, rfl, hz1, hz2, hp, hG, hR, hW⟩ := hrel
    obtain ⟨q, hq⟩ : ∃ q, xs.length = q := ⟨_, rfl⟩
    have HL := Lib.hid hq
    rw [hq] at hk hz1 hz2 hp hG
    clear hq
    by_cases hlt : 0 < k
    · obtain ⟨k, rfl⟩ : ∃ q, k = q + 1 := ⟨k - 1, by omega⟩
      go_wp2_with fail
      refine (pick_nat _ v1 bs1 50 p' _ hR.out (by omega) (by omega)).mono ?_
      rintro e w2 ⟨x2, rfl, hx2, hr, hg⟩
      have R2 := Lib.hid hr
      have W2 := Lib.hid (grown_trans hW.out hg)
      have G2 := Lib.hid (hG.out.kept hg (fun g hg he => by have := (hG.out.lt g hg).1; cases he; omega))
      clear hr hg hG hR hW
      go_wp2_with fail
      refine (pick_nat _ v1 bs1 50 (p' + 1) _ R2.out (by omega) (by omega)).mono ?_
      rintro e w3 ⟨x3, rfl, hx3, hr, hg⟩
      have R3 := Lib.hid hr
      have W3 := Lib.hid (grown_trans W2.out hg)
      have G3 := Lib.hid (G2.out.kept hg (fun g hg he => by have := (G2.out.lt g hg).1; cases he; omega))
      have z3 : w0.heap.size ≤ w3.heap.size := W3.out.size
      clear hr hg G2 R2 W2
      go_wp2_with fail
      have hb4 := (Below.refl w0.heap.size w3).alloc z3 (.cells #[.int .i64 x2, .int .i64 x3, .int .i64 (-1), .int .i64 (-2)] 3)
      refine (pick_nat _ v1 bs1 4 (p' + 1 + 1) _ (R3.out.below hb4 lowR LV.out) (by omega) (by omega)).mono ?_
      rintro e w4 ⟨x4, rfl, hx4, hr, hg⟩
      have R4 := Lib.hid hr
      have W4 := Lib.hid (grown_trans (grown_below W3.out hb4) hg)
      have G4 := Lib.hid ((G3.out.alloc (.cells #[.int .i64 x2, .int .i64 x3, .int .i64 (-1), .int .i64 (-2)] 3)).kept hg (fun g hg he => by have := (G3.out.lt g hg).1; cases he; omega))
      have hrow := (Row.new w3 3 (ints [(x2 : Int), (x3 : Int), -1, -2])).grown hg (some_ne (by omega))
      obtain ⟨y, hy, y0, y1⟩ := row_at hrow (P := fun y => -2 ≤ y ∧ y ≤ 49) (by simp; omega) hx4
      have z4 : w0.heap.size ≤ w4.heap.size := W4.out.size
      clear hr hg hrow hb4 G3 R3 W3
      by_cases hm1 : y = -1
      · subst hm1
        by_cases hz0 : z = 0
        · subst hz0
          go_wp2_with fail
          refine (pick_nat _ v1 bs1 4 (p' + 1 + 1 + 1) _ R4.out (by omega) (by omega)).mono ?_
          rintro e w5 ⟨x5, rfl, hx5, hr, hg⟩
          have R5 := Lib.hid hr
          have W5 := Lib.hid (grown_trans W4.out hg)
          have G5 := Lib.hid (G4.out.kept hg (fun g hg he => by have := (G4.out.lt g hg).1; cases he; omega))
          have z5 : w0.heap.size ≤ w5.heap.size := W5.out.size
          clear hr hg G4 R4 W4
          by_cases h5 : 0 < x5
          · go_wp2_with (at_builtin; refine wpList_app _ rfl (.tmp 45) (.tmp 47) 23 rfl w0.heap.size 3 (.int .i64 0) 1 8 Tryd.underlying23 Tryd.infoInt rfl (by omega) u4 q (ints xs) rfl (G5.out.alloc _) _ 1 [.int .i64 7] rfl (view_one _ _ _) (by simp [Value.oneCell']) (by unfold maxLen; omega) (by omega) (by simp; omega) ?_; intro v9 w9 g9 r9 k9; have G9 := Lib.hid g9; have R9 := Lib.hid r9; clear g9 r9 k9)
            go_roundw
            case rel =>
              have hb9 : Below w0.heap.size w5 w9 := ((Below.refl _ _).alloc z5 _).grown R9.out (by simp; omega) (fun g hg => (G5.out.lt g hg).1)
              refine ⟨k, p' + 1 + 1 + 1 + 1, xs ++ [7], 1, by rw [List.length_append, HL.out, List.length_singleton]; omega, by go_num, by first | rfl | go_num, by rw [List.length_append, HL.out, List.length_singleton]; omega, by rw [List.length_append, HL.out, List.length_singleton]; omega, by rw [List.length_append, HL.out, List.length_singleton]; omega, ?_, R5.out.below hb9 lowR LV.out, grown_below W5.out hb9⟩
              rw [List.length_append, HL.out, ← ints_snoc]
              exact G9.out
            case measure => simp [intOf] <;> omega
          · go_wp2_with (at_builtin; refine wpList_app _ rfl (.tmp 45) (.tmp 47) 23 rfl w0.heap.size 3 (.int .i64 0) 1 8 Tryd.underlying23 Tryd.infoInt rfl (by omega) u4 q (ints xs) rfl (G5.out.alloc _) _ 1 [.int .i64 (-1)] rfl (view_one _ _ _) (by simp [Value.oneCell']) (by unfold maxLen; omega) (by omega) (by simp; omega) ?_; intro v9 w9 g9 r9 k9; have G9 := Lib.hid g9; have R9 := Lib.hid r9; clear g9 r9 k9)
            go_roundw
            case rel =>
              have hb9 : Below w0.heap.size w5 w9 := ((Below.refl _ _).alloc z5 _).grown R9.out (by simp; omega) (fun g hg => (G5.out.lt g hg).1)
              refine ⟨k, p' + 1 + 1 + 1 + 1, xs ++ [(-1)], (-1), by rw [List.length_append, HL.out, List.length_singleton]; omega, by go_num, by first | rfl | go_num, by rw [List.length_append, HL.out, List.length_singleton]; omega, by rw [List.length_append, HL.out, List.length_singleton]; omega, by rw [List.length_append, HL.out, List.length_singleton]; omega, ?_, R5.out.below hb9 lowR LV.out, grown_below W5.out hb9⟩
              rw [List.length_append, HL.out, ← ints_snoc]
              exact G9.out
            case measure => simp [intOf] <;> omega
        · go_wp2_with (at_builtin; refine wpList_app _ rfl (.tmp 45) (.tmp 47) 23 rfl w0.heap.size 3 (.int .i64 0) 1 8 Tryd.underlying23 Tryd.infoInt rfl (by omega) u4 q (ints xs) rfl (G4.out.alloc _) _ 1 [.int .i64 (-1)] rfl (view_one _ _ _) (by simp [Value.oneCell']) (by unfold maxLen; omega) (by omega) (by simp; omega) ?_; intro v9 w9 g9 r9 k9; have G9 := Lib.hid g9; have R9 := Lib.hid r9; clear g9 r9 k9)
          go_roundw
          case rel =>
            have hb9 : Below w0.heap.size w4 w9 := ((Below.refl _ _).alloc z4 _).grown R9.out (by simp; omega) (fun g hg => (G4.out.lt g hg).1)
            refine ⟨k, p' + 1 + 1 + 1, xs ++ [(-1)], (z - 1), by rw [List.length_append, HL.out, List.length_singleton]; omega, by go_num, by first | rfl | go_num, by rw [List.length_append, HL.out, List.length_singleton]; omega, by rw [List.length_append, HL.out, List.length_singleton]; omega, by rw [List.length_append, HL.out, List.length_singleton]; omega, ?_, R4.out.below hb9 lowR LV.out, grown_below W4.out hb9⟩
            rw [List.length_append, HL.out, ← ints_snoc]
            exact G9.out
          case measure => simp [intOf] <;> omega
      · have hm2 : (y == -1) = false := by simpa using hm1
        by_cases h0 : 0 ≤ y
        · go_wp2_with (at_builtin; refine wpList_app _ rfl (.tmp 45) (.tmp 47) 23 rfl w0.heap.size 3 (.int .i64 0) 1 8 Tryd.underlying23 Tryd.infoInt rfl (by omega) u4 q (ints xs) rfl (G4.out.alloc _) _ 1 [.int .i64 y] rfl (view_one _ _ _) (by simp [Value.oneCell']) (by unfold maxLen; omega) (by omega) (by simp; omega) ?_; intro v9 w9 g9 r9 k9; have G9 := Lib.hid g9; have R9 := Lib.hid r9; clear g9 r9 k9)
          go_roundw
          case rel =>
            have hb9 : Below w0.heap.size w4 w9 := ((Below.refl _ _).alloc z4 _).grown R9.out (by simp; omega) (fun g hg => (G4.out.lt g hg).1)
            refine ⟨k, p' + 1 + 1 + 1, xs ++ [y], (z + 1), by rw [List.length_append, HL.out, List.length_singleton]; omega, by go_num, by first | rfl | go_num, by rw [List.length_append, HL.out, List.length_singleton]; omega, by rw [List.length_append, HL.out, List.length_singleton]; omega, by rw [List.length_append, HL.out, List.length_singleton]; omega, ?_, R4.out.below hb9 lowR LV.out, grown_below W4.out hb9⟩
            rw [List.length_append, HL.out, ← ints_snoc]
            exact G9.out
          case measure => simp [intOf] <;> omega
        · go_wp2_with (at_builtin; refine wpList_app _ rfl (.tmp 45) (.tmp 47) 23 rfl w0.heap.size 3 (.int .i64 0) 1 8 Tryd.underlying23 Tryd.infoInt rfl (by omega) u4 q (ints xs) rfl (G4.out.alloc _) _ 1 [.int .i64 y] rfl (view_one _ _ _) (by simp [Value.oneCell']) (by unfold maxLen; omega) (by omega) (by simp; omega) ?_; intro v9 w9 g9 r9 k9; have G9 := Lib.hid g9; have R9 := Lib.hid r9; clear g9 r9 k9)
          go_roundw
          case rel =>
            have hb9 : Below w0.heap.size w4 w9 := ((Below.refl _ _).alloc z4 _).grown R9.out (by simp; omega) (fun g hg => (G4.out.lt g hg).1)
            refine ⟨k, p' + 1 + 1 + 1, xs ++ [y], z, by rw [List.length_append, HL.out, List.length_singleton]; omega, by go_num, by first | rfl | go_num, by rw [List.length_append, HL.out, List.length_singleton]; omega, by rw [List.length_append, HL.out, List.length_singleton]; omega, by rw [List.length_append, HL.out, List.length_singleton]; omega, ?_, R4.out.below hb9 lowR LV.out, grown_below W4.out hb9⟩
            rw [List.length_append, HL.out, ← ints_snoc]
            exact G9.out
          case measure => simp [intOf] <;> omega
    · obtain rfl : k = 0 := by omega
      go_wp2_with fail
      refine (odd_any _ v1 bs1 14 p' _ hR.out (by omega) (by omega)).mono ?_
      rintro e w2 ⟨t, p2, rfl, hp3, hp4, hr, hg, -⟩
      have R2 := Lib.hid hr
      have W2 := Lib.hid (grown_trans hW.out hg)
      have G2 := Lib.hid (hG.out.kept hg (fun g hg he => by have := (hG.out.lt g hg).1; cases he; omega))
      have z2 : w0.heap.size ≤ w2.heap.size := W2.out.size
      clear hr hg hG hR hW
      cases t
      · go_wp2
        go_ret
        exact ⟨_, xs, rfl, by rw [HL.out]; exact G2.out.low (by omega), by rw [HL.out]; omega, (nxtG B0 W2.out (fun g h => by cases h; exact Nat.le_refl _)).out⟩
      · go_wp2_with fail
        have hb4 := (Below.refl w0.heap.size w2).alloc z2 (.cells #[.int .i64 (-3), .int .i64 100001] 3)
        refine (pick_nat _ v1 bs1 2 p2 _ (R2.out.below hb4 lowR LV.out) (by omega) (by omega)).mono ?_
        rintro e w4 ⟨x4, rfl, hx4, hr, hg⟩
        have W4 := Lib.hid (grown_trans (grown_below W2.out hb4) hg)
        have G4 := Lib.hid ((G2.out.alloc (.cells #[.int .i64 (-3), .int .i64 100001] 3)).kept hg (fun g hg he => by have := (G2.out.lt g hg).1; cases he; omega))
        have hrow := (Row.new w2 3 (ints [-3, 100001])).grown hg (some_ne (by omega))
        obtain ⟨y, hy, -⟩ := row_at hrow (P := fun _ => True) (by simp) hx4
        have z4 : w0.heap.size ≤ w4.heap.size := W4.out.size
        clear hr hg hrow hb4 G2 R2 W2
        go_wp2_with (at_builtin; refine wpList_app _ rfl (.tmp 51) (.tmp 57) 23 rfl w0.heap.size 3 (.int .i64 0) 1 8 Tryd.underlying23 Tryd.infoInt rfl (by omega) u4 q (ints xs) rfl (G4.out.alloc _) _ 1 [.int .i64 y] rfl (view_one _ _ _) (by simp [Value.oneCell']) (by unfold maxLen; omega) (by omega) (by simp; omega) ?_; intro v9 w9 g9 r9 k9; have G9 := Lib.hid g9; have R9 := Lib.hid r9; clear g9 r9 k9)
        have hb9 : Below w0.heap.size w4 w9 := ((Below.refl _ _).alloc z4 _).grown R9.out (by simp; omega) (fun g hg => (G4.out.lt g hg).1)
        have HF : Hid (DrawnRun w (.returned v9) w9) := ⟨_, xs ++ [y], rfl, by rw [List.length_append, HL.out, ← ints_snoc]; exact G9.out.low (by omega), by rw [List.length_append, HL.out]; simp; omega, (nxtG B0 (grown_below W4.out hb9) (fun g h => by cases h; exact Nat.le_refl _)).out⟩
        clear hb9 G9 R9
        go_wp2
        go_ret
        exact HF.out
end Go.Proofs.YtmdjkaghjljbfaaDoor
