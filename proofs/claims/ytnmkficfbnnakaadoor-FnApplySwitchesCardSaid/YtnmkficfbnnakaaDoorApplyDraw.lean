/- the draw of ApplySwitches -/
import Derived.Test.YtnmkficfbnnakaaDoorPick
import Derived.Test.YtnmkficfbnnakaaDoorScal
namespace Go.Proofs.YtnmkficfbnnakaaDoor
open Go.RowKit
def DrawnApply (w : World) (e : Ending) (w' : World) : Prop := ∃ u v st xs, e = .returned (.tuple #[u, v]) ∧ Bools w' u st ∧ Ints w' v xs ∧ st.length ≤ 21 ∧ xs.length ≤ 8 ∧ Below w.heap.size w w'
theorem swc_le (n : Int) : -1 ≤ swc n ∧ swc n ≤ 20 := by unfold swc; split <;> (try split) <;> (try split) <;> (try split) <;> omega
set_option maxHeartbeats 4000000 in
theorem draw_ApplySwitches (v : Value) (bs : List Int) (w : World) (h : Bts w v bs) : Calls Tryd.prog 6 #[v] w (DrawnApply w) := by
  have H := Lib.hid h
  clear h
  go_enter Tryd.func6, Tryd.ntmps6
  go_wp2_with fail
  refine (open_any v bs w H.out).mono ?_
  rintro e w1 ⟨v1, bs1, rfl, hr, hb⟩
  have lowR := hr.low.1
  have LV := Lib.hid hr.low.2
  have B1 := nxt (Lib.hid (Below.refl _ _)) hb
  have hb2 : Below w1.heap.size w1 ((w1.alloc (.cells #[.int .i64 1, .int .i64 2, .int .i64 4, .int .i64 8, .int .i64 3] 3)).alloc (.cells #[.int .i64 0, .int .i64 1, .int .i64 1, .int .i64 2, .int .i64 2, .int .i64 3, .int .i64 3, .int .i64 4] 3)) := ((Below.refl _ _).alloc (Nat.le_refl _) _).alloc (by simp) _
  have HR2 := Lib.hid (hr.below hb2 lowR LV.out)
  have W2 := Lib.hid (grown_below (grown_refl w1 (some w.heap.size)) hb2)
  clear hr hb hb2 H
  go_wp2_with fail
  refine (pick_nat _ v1 bs1 8 0 _ HR2.out (by omega) (by omega)).mono ?_
  rintro e w3 ⟨x2, rfl, hx2, hr, hg⟩
  have hrow1 := ((Row.new w1 3 (ints [1, 2, 4, 8, 3])).alloc (.cells #[.int .i64 0, .int .i64 1, .int .i64 1, .int .i64 2, .int .i64 2, .int .i64 3, .int .i64 3, .int .i64 4] 3)).grown hg (some_ne (by omega))
  have hrow2 := (Row.new (w1.alloc (.cells #[.int .i64 1, .int .i64 2, .int .i64 4, .int .i64 8, .int .i64 3] 3)) 3 (ints [0, 1, 1, 2, 2, 3, 3, 4])).grown hg (some_ne (by simp; omega))
  obtain ⟨j, hj, hj4⟩ := row_nat hrow2 (n := 5) (by simp) hx2
  obtain ⟨m, hm, m0, m1⟩ := row_at hrow1 (P := fun y => 1 ≤ y ∧ y ≤ 8) (by simp) hj4
  obtain ⟨m, rfl⟩ := Int.eq_ofNat_of_zero_le (show 0 ≤ m by omega)
  simp only [World.size_alloc] at hj
  have W3 := grown_trans W2.out hg
  have hb4 : Below w1.heap.size w3 (w3.alloc (.cells #[] 3)) := (Below.refl _ _).alloc W3.size _
  have HR3 := Lib.hid (hr.below hb4 lowR LV.out)
  have W4 := Lib.hid (grown_below W3 hb4)
  clear hr hg hrow1 hrow2 HR2 W2 W3 hb4
  go_wp2
  clear hm hj
  go_loopw [6, 7] (fun u i wr => ∃ (k p' : Nat) (xs : List Int), k ≤ m ∧ i = .int .i64 k ∧ xs.length = k ∧ p' = 1 + k ∧ Hid (Gr wr w1.heap.size 3 1 u k (ints xs)) ∧ Hid (Rd wr w.heap.size v1 bs1 ((p' : Nat) : Int)) ∧ Hid (w1.grownBy wr (some w.heap.size)))
    (fun _ i _ => m - (intOf i).toNat)
  case atStart => exact ⟨0, 1, [], by omega, rfl, rfl, rfl, Gr.none0 _ _ _ _ _, HR3.out, W4.out⟩
  case round =>
    obtain ⟨k, p', xs, hk, rfl, hxl, hp, hG, hR, hW⟩ := hrel
    have HL := Lib.hid hxl
    clear hxl
    by_cases hlt : k < m
    · go_wp2_with fail
      refine (pick_nat _ v1 bs1 20 p' _ hR.out (by omega) (by omega)).mono ?_
      rintro e w5 ⟨x5, rfl, hx5, hr, hg⟩
      have R5 := Lib.hid hr
      have W5 := Lib.hid (grown_trans hW.out hg)
      have G5 := Lib.hid (hG.out.kept hg (fun g hg he => by have := (hG.out.lt g hg).1; cases he; omega))
      have z5 : w1.heap.size ≤ w5.heap.size := W5.out.size
      clear hr hg hG hR hW
      go_wp2_with (at_builtin; refine wpList_app _ rfl (.tmp 26) (.tmp 29) 24 rfl w1.heap.size 3 (.int .i64 0) 1 8 Tryd.underlying24 Tryd.infoInt rfl (by omega) u6 k (ints xs) rfl (G5.out.alloc _) _ 1 [.int .i64 x5] rfl (view_one _ _ _) (by simp [Value.oneCell']) (by unfold maxLen; omega) (by omega) (by simp; omega) ?_; intro v9 w9 g9 r9 k9; have G9 := Lib.hid g9; have R9 := Lib.hid r9; clear g9 r9 k9)
      go_roundw
      case rel =>
        have hb9 : Below w1.heap.size w5 w9 := ((Below.refl _ _).alloc z5 _).grown R9.out (by simp; omega) (fun g hg => (G5.out.lt g hg).1)
        refine ⟨k + 1, p' + 1, xs ++ [(x5 : Int)], by omega, by go_num, by rw [List.length_append, HL.out]; rfl, by omega, ?_, R5.out.below hb9 lowR LV.out, grown_below W5.out hb9⟩
        have := G9.out
        simpa [Hid, ints] using this
      case measure => simp [intOf]; omega
    · have hkm : k = m := by omega
      subst hkm
      have hb5 : Below w1.heap.size wr (wr.alloc (.cells #[] 4)) := (Below.refl _ _).alloc hW.out.size _
      have HR5 := Lib.hid (hR.out.below hb5 lowR LV.out)
      have W5 := Lib.hid (grown_below hW.out hb5)
      have X5 := Lib.hid (hG.out.alloc (.cells #[] 4))
      clear hb5 hG hR hW
      obtain ⟨z, hz⟩ : ∃ z, swc (k : Int) = z := ⟨_, rfl⟩
      have hzb := swc_le (k : Int)
      rw [hz] at hzb
      obtain ⟨z0, z1⟩ := hzb
      have Z := Lib.hid hz
      clear hz
      go_wp2_with (go_at_call 19; refine (spec_sw_any _ _).mono ?_; rw [Z.out]; rintro e w' ⟨rfl, rfl⟩)
      all_goals
        refine (pick_nat _ v1 bs1 9 p' _ HR5.out (by omega) (by omega)).mono ?_
        rintro e w6 ⟨x6, rfl, hx6, hr, hg⟩
        have R6 := Lib.hid hr
        have W6 := Lib.hid (grown_trans W5.out hg)
        have X6 := Lib.hid (X5.out.kept hg (fun g hg he => by have := (X5.out.lt g hg).1; cases he; omega))
        obtain ⟨j6, hj6⟩ : ∃ j : Nat, (x6 : Int) / 8 = j := ⟨x6 / 8, by omega⟩
        have hj61 : j6 ≤ 1 := by omega
        clear hr hg HR5 W5 X5
        go_wp2
        go_loopw [8, 9] (fun u i wr => ∃ (q p : Nat) (st : List Bool), q + st.length ≤ 21 ∧ i = .int .i64 q ∧ p = p' + 1 + st.length ∧ Hid (Gr wr w1.heap.size 4 1 u st.length (bools st)) ∧ Hid (∀ g, gBlock u = some g → gBlock u6 ≠ some g) ∧ Hid (Gr wr w1.heap.size 3 1 u6 k (ints xs)) ∧ Hid (Rd wr w.heap.size v1 bs1 ((p : Nat) : Int)) ∧ Hid (w1.grownBy wr (some w.heap.size)))
          (fun _ i _ => (intOf i).toNat)
        case atStart => first
          | exact ⟨j6, p' + 1, [], by simp; omega, rfl, rfl, Gr.none0 _ _ _ _ _, (fun g hg => by simp [gBlock] at hg), X6.out, R6.out, W6.out⟩
          | exact ⟨(z + (j6 : Int)).toNat, p' + 1, [], by simp; omega, by congr 1; omega, rfl, Gr.none0 _ _ _ _ _, (fun g hg => by simp [gBlock] at hg), X6.out, R6.out, W6.out⟩
        case round =>
          obtain ⟨q, p, st, hq, rfl, hp2, hG, hap, hX, hR, hW⟩ := hrel
          obtain ⟨n, hn⟩ : ∃ n, st.length = n := ⟨_, rfl⟩
          have HL2 := Lib.hid hn
          rw [hn] at hq hp2 hG
          clear hn
          by_cases hlt2 : 0 < q
          · obtain ⟨q, rfl⟩ : ∃ r, q = r + 1 := ⟨q - 1, by omega⟩
            go_wp2_with fail
            refine (pick_nat _ v1 bs1 2 p _ hR.out (by omega) (by omega)).mono ?_
            rintro e w7 ⟨x7, rfl, hx7, hr, hg⟩
            have R7 := Lib.hid hr
            have W7 := Lib.hid (grown_trans hW.out hg)
            have G7 := Lib.hid (hG.out.kept hg (fun g hg he => by have := (hG.out.lt g hg).1; cases he; omega))
            have X7 := Lib.hid (hX.out.kept hg (fun g hg he => by have := (hX.out.lt g hg).1; cases he; omega))
            have z7 : w1.heap.size ≤ w7.heap.size := W7.out.size
            obtain ⟨t, ht⟩ : ∃ t : Bool, ((x7 : Int) == 0) = t := ⟨_, rfl⟩
            clear hr hg hG hR hW hX
            go_wp2_with (at_builtin; refine wpList_app _ rfl (.tmp 43) (.tmp 47) 23 rfl w1.heap.size 4 (.bool false) 1 1 Tryd.underlying23 Tryd.infoBool rfl (by omega) u8 n (bools st) rfl (G7.out.alloc _) _ 1 [.bool t] rfl (view_one _ _ _) (by simp [Value.oneCell']) (by unfold maxLen; omega) (by omega) (by simp; omega) ?_; intro v9 w9 g9 r9 k9; have G9 := Lib.hid g9; have R9 := Lib.hid r9; have K9 := Lib.hid k9; clear g9 r9 k9)
            go_roundw
            case rel =>
              have hb9 : Below w1.heap.size w7 w9 := ((Below.refl _ _).alloc z7 _).grown R9.out (by simp; omega) (fun g hg => (G7.out.lt g hg).1)
              refine ⟨q, p + 1, st ++ [t], by rw [List.length_append, HL2.out, List.length_singleton]; omega, by go_num, by rw [List.length_append, HL2.out, List.length_singleton]; omega, ?_, ?_, ?_, R7.out.below hb9 lowR LV.out, grown_below W7.out hb9⟩
              · rw [List.length_append, HL2.out]
                have := G9.out
                simpa [Hid, bools] using this
              · intro g hg hg2
                rcases K9.out with e | e
                · rw [e] at hg; exact hap.out g hg hg2
                · rw [e] at hg
                  have := (X7.out.lt g hg2).2
                  simp at hg; omega
              · exact (X7.out.alloc _).kept R9.out (fun g hg he => hap.out g he hg)
            case measure => simp [intOf] <;> omega
          · obtain rfl : q = 0 := by omega
            have HF : Hid (DrawnApply w (.returned (.tuple #[u8, u6])) wr) := ⟨u8, u6, st, xs, rfl, by have := hG.out.view; unfold Bools; rw [HL2.out]; exact this, by have := hX.out.view; unfold Ints; rw [HL.out]; exact this, by rw [HL2.out]; omega, by rw [HL.out]; omega, (nxtG B1 hW.out (fun g h => by cases h; exact Nat.le_refl _)).out⟩
            clear hG hX hR hW
            go_wp2
            exact bodyPost_ret (v := .tuple #[u8, u6]) (by simp [results, Tryd.results6, go_sem]) rfl HF.out
end Go.Proofs.YtnmkficfbnnakaaDoor
