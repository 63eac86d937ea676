/- draws of CompactWays and CompactRows -/
import Derived.Test.YtkekacnnjmbelaaDoorDrawN
import Derived.Test.YtkekacnnjmbelaaDoorRes
import Derived.Test.YtkekacnnjmbelaaDoorLaw
namespace Go.Proofs.YtkekacnnjmbelaaDoor
open Go.RowKit
/-- values and marks, both of the call's own -/
def DrawnRows (w : World) (e : Ending) (w' : World) : Prop :=
  ∃ u v xs st, e = .returned (.tuple #[u, v]) ∧ Gr w' w.heap.size 3 1 u xs.length (ints xs) ∧ Gr w' w.heap.size 4 1 v st.length (bools st) ∧ xs.length ≤ 11 ∧ st.length ≤ 12 ∧
    (∀ x ∈ xs, 0 ≤ x ∧ x ≤ 100000) ∧ Below w.heap.size w w'
set_option maxHeartbeats 1000000 in
theorem draw_CompactRows (v : Value) (bs : List Int) (w : World) (h : Bts w v bs) : Calls Tryd.prog 22 #[v] w (DrawnRows w) := by
  have H := Lib.hid h
  clear h
  go_enter Tryd.func22, Tryd.ntmps22
  go_wp2_with fail
  refine (open_any v bs w H.out).mono ?_
  rintro e w1 ⟨v1, bs1, rfl, hr, hb⟩
  have HR := Lib.hid hr
  have lowR := hr.low.1
  have B1 := nxt (Lib.hid (Below.refl _ _)) hb
  clear hr hb H
  go_wp2_with fail
  refine (pick_nat _ v1 bs1 12 0 _ HR.out (by omega) (by omega)).mono ?_
  rintro e w2 ⟨x, rfl, hx, hr, hg⟩
  have HR2 := Lib.hid hr
  have B2 := nxtG B1 hg (fun g h => by cases h; exact Nat.le_refl _)
  have z2 := hg.size
  clear hr hg B1 HR
  go_wp2_with fail
  refine (numbers_any _ v1 bs1 x _ _ HR2.out (by omega) (by omega)).mono ?_
  rintro e w3 ⟨u, xs, p3, rfl, hG, hlen, hX, hp3, hp3', hr, hg⟩
  have HG3 := Lib.hid (hG.low (B' := w1.heap.size) z2)
  have HX3 := Lib.hid hX
  have HR3 := Lib.hid hr
  have B3 := nxtG B2 hg (fun g h => by cases h; exact Nat.le_refl _)
  have hp3'' : p3 ≤ 100 := by omega
  have hlen2 : xs.length ≤ 11 := by omega
  clear hr hg B2 HR2 hG hX hp3 hp3' hlen hx
  obtain ⟨ad, c, hu, _, _⟩ := (Gr.ints HG3.out rfl).open
  subst hu
  go_wp2_with fail
  refine (pick_nat _ v1 bs1 9 p3 _ HR3.out (by omega) (by omega)).mono ?_
  rintro e w7 ⟨x3, rfl, hx3, hr, hg⟩
  have HG7 := Lib.hid (HG3.out.kept hg (fun g hg he => by have := (HG3.out.lt g hg).1; cases he; omega))
  have HR7 := Lib.hid hr
  have B7 := nxtG B3 hg (fun g h => by cases h; exact Nat.le_refl _)
  have z7 : w.heap.size ≤ w7.heap.size := B7.out.size
  clear hr hg B3 HR3 HG3
  obtain ⟨j, hj⟩ : ∃ j : Nat, (x3 : Int) / 8 = j := ⟨x3 / 8, by omega⟩
  have hj1 : j ≤ 1 := by omega
  go_wp2_with fail
  refine (marks_any _ v1 bs1 ((xs.length : Int) + j) _ _ HR7.out (by omega) (by omega)).mono ?_
  rintro e w8 ⟨v2, st, p8, rfl, hm, hst, _, _, _, hg⟩
  have HG8 := Lib.hid (HG7.out.kept hg (fun g hg he => by have := (HG7.out.lt g hg).1; cases he; omega))
  have HM8 := Lib.hid (hm.low z7)
  have B8 := nxtG B7 hg (fun g h => by cases h; exact Nat.le_refl _)
  have hst : st.length ≤ 12 := by omega
  clear hm hg B7 HR7 HG7
  go_wp2
  go_ret2
  exact ⟨_, _, xs, st, rfl, HG8.out.low (by omega), HM8.out, hlen2, hst, HX3.out, B8.out⟩
def DrawnMarks (w : World) (e : Ending) (w' : World) : Prop := ∃ v st, e = .returned v ∧ Gr w' w.heap.size 4 1 v st.length (bools st) ∧ st.length ≤ 257 ∧ Below w.heap.size w w'
theorem draw_CompactWays (v : Value) (bs : List Int) (w : World) (h : Bts w v bs) : Calls Tryd.prog 15 #[v] w (DrawnMarks w) := by
  obtain ⟨i0, hi, hz0, hz1, hz2⟩ := info_parts Tryd.infoBool
  have H := Lib.hid h
  clear h
  go_enter Tryd.func15, Tryd.ntmps15
  go_wp2_with fail
  refine (open_any v bs w H.out).mono ?_
  rintro e w1 ⟨v1, bs1, rfl, hr, hb⟩
  have HR := Lib.hid hr
  have B1 := nxt (Lib.hid (Below.refl _ _)) hb
  clear hr hb H
  go_wp2_with fail
  refine (odd_any _ v1 bs1 24 0 _ HR.out (by omega) (by omega)).mono ?_
  rintro e w2 ⟨t, p2, rfl, hp2, hp2', hr, hg, _⟩
  have HR2 := Lib.hid hr
  have B2 := nxtG B1 hg (fun g h => by cases h; exact Nat.le_refl _)
  have z2 : w.heap.size ≤ w2.heap.size := B2.out.size
  clear hr hg B1 HR
  cases t
  · go_wp2_with fail
    refine (pick_nat _ v1 bs1 12 p2 _ HR2.out (by omega) (by omega)).mono ?_
    rintro e w3 ⟨x, rfl, hx, hr, hg⟩
    have HR3 := Lib.hid hr
    have B3 := nxtG B2 hg (fun g h => by cases h; exact Nat.le_refl _)
    have z3 : w.heap.size ≤ w3.heap.size := B3.out.size
    clear hr hg B2 HR2
    go_wp2_with fail
    refine (marks_any _ v1 bs1 x _ _ HR3.out (by omega) (by omega)).mono ?_
    rintro e w8 ⟨v2, st, p8, rfl, hm, hst, _, _, _, hg⟩
    have HM8 := Lib.hid (hm.low z3)
    have B8 := nxtG B3 hg (fun g h => by cases h; exact Nat.le_refl _)
    have hst : st.length ≤ 257 := by omega
    clear hm hg B3 HR3
    go_wp2
    go_ret
    exact ⟨_, st, rfl, HM8.out, hst, B8.out⟩
  · go_wp2_with (at_make; refine wpList_make_full _ rfl _ _ 29 rfl w2.heap.size 4 i0 (.bool false) 1 Tryd.underlying29 hi hz0 hz1 _ _ _ _ 257 rfl rfl rfl rfl ?b2 ?b3 ?b4 ?_)
    case b2 => rw [hz2]; omega
    case b3 => unfold maxLen; omega
    case b4 => exact Nat.le_refl _
    · intro w3 hown hgrow
      have hrow := (row_of_own hown).1
      rw [made_tab] at hrow
      have HROW := Lib.hid hrow
      have HB : Hid (Below w.heap.size w w3) := B2.out.grown hgrow z2 (by simp)
      clear hown hgrow hrow
      go_wp2
      go_ret
      refine ⟨_, tab 257 (fun _ => false), rfl, ?_, Nat.le_of_eq (tab_length _ _), HB.out⟩
      rw [tab_length]
      exact Gr.of_made (by rw [bools_tabf]; exact HROW.out) (by rw [bools_tabf, tab_length, Nat.mul_one]) (by unfold maxLen; omega) z2
end Go.Proofs.YtkekacnnjmbelaaDoor
