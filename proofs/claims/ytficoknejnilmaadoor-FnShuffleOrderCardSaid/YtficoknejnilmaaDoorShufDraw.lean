/- draws of the shuffles -/
import Derived.Test.YtficoknejnilmaaDoorDrawN
import Derived.Test.YtficoknejnilmaaDoorRes
import Derived.Test.YtficoknejnilmaaDoorLaw
namespace Go.Proofs.YtficoknejnilmaaDoor
open Go.RowKit
def TagsPost (m : Int) (R : Nat) (v : Value) (bs : List Int) (p : Nat) (w : World) (e : Ending) (w' : World) : Prop :=
  ∃ u xs p', e = .returned u ∧ Gr w' w.heap.size 3 1 u xs.length (ints xs) ∧ xs.length = m.toNat ∧ p ≤ p' ∧ p' ≤ p + 4 * m.toNat ∧ Rd w' R v bs ((p' : Nat) : Int) ∧ w.grownBy w' (some R)
set_option maxHeartbeats 1000000 in
theorem tags_any (R : Nat) (v : Value) (bs : List Int) (m : Int) (p : Nat) (w : World) (h : Rd w R v bs p) (hp : p ≤ 1000000000) (hm : m ≤ 100000) :
    Calls Tryd.prog 20 #[.pointer (some ⟨R, 0, none⟩), .int .i64 m] w (TagsPost m R v bs p w) := by
  obtain ⟨lowR, lowV⟩ := h.low
  have H := Lib.hid h
  have LV := Lib.hid lowV
  clear h lowV
  go_enter Tryd.func20, Tryd.ntmps20
  go_wp2
  go_loopw [5, 6] (fun u i wr => ∃ (k p' : Nat) (xs : List Int), (k : Int) ≤ max m 0 ∧ i = .int .i64 k ∧ xs.length = k ∧ p ≤ p' ∧ p' ≤ p + 4 * k ∧ Hid (Gr wr w.heap.size 3 1 u k (ints xs)) ∧ Hid (Rd wr R v bs ((p' : Nat) : Int)) ∧ Hid (w.grownBy wr (some R)))
    (fun _ i _ => m.toNat - (intOf i).toNat)
  case atStart =>
    have hb := (Below.refl w.heap.size w).alloc (Nat.le_refl _) (.cells #[] 3)
    exact ⟨0, p, [], by omega, rfl, rfl, by omega, by omega, Gr.none0 _ _ _ _ _, H.out.below hb lowR LV.out, grown_below (grown_refl _ _) hb⟩
  case round =>
    obtain ⟨k, p', xs, hk, rfl, hxl, hp1, hp2, hG, hR, hW⟩ := hrel
    have HL := Lib.hid hxl
    clear hxl
    by_cases hlt : (k : Int) < m
    · go_wp2_with fail
      refine (pick_nat R v bs 5 p' _ hR.out (by omega) (by omega)).mono ?_
      rintro e w1 ⟨x1, rfl, hx1, hr1, hg1⟩
      have R1 := Lib.hid hr1
      have W1 := Lib.hid (grown_trans hW.out hg1)
      have G1 := Lib.hid (hG.out.kept hg1 (fun g hg he => by have := (hG.out.lt g hg).1; cases he; omega))
      clear hr1 hg1 hG hR hW
      go_wp2_with fail
      refine (pick_nat R v bs 256 (p' + 1) _ R1.out (by omega) (by omega)).mono ?_
      rintro e w2 ⟨x2, rfl, hx2, hr2, hg2⟩
      have R2 := Lib.hid hr2
      have W2 := Lib.hid (grown_trans W1.out hg2)
      have G2 := Lib.hid (G1.out.kept hg2 (fun g hg he => by have := (G1.out.lt g hg).1; cases he; omega))
      clear hr2 hg2 G1 R1 W1
      go_wp2_with fail
      refine (pick_nat R v bs 9 (p' + 1 + 1) _ R2.out (by omega) (by omega)).mono ?_
      rintro e w3 ⟨x3, rfl, hx3, hr3, hg3⟩
      have R3 := Lib.hid hr3
      have W3 := Lib.hid (grown_trans W2.out hg3)
      have G3 := Lib.hid (G2.out.kept hg3 (fun g hg he => by have := (G2.out.lt g hg).1; cases he; omega))
      clear hr3 hg3 G2 R2 W2
      have hneg : IntKind.i64.wrap (-(x3 : Int)) = -(x3 : Int) := by rw [IntKind.wrap_i64]; omega
      go_wp2_with fail
      have hz2 : w.heap.size ≤ w3.heap.size := W3.out.size
      have hb3 := (Below.refl w.heap.size w3).alloc hz2 (.cells #[.int .i64 x1, .int .i64 x2, .int .i64 (-(x3 : Int))] 3)
      refine (pick_nat R v bs 3 (p' + 1 + 1 + 1) _ (R3.out.below hb3 lowR LV.out) (by omega) (by omega)).mono ?_
      rintro e w4 ⟨x4, rfl, hx4, hr4, hg4⟩
      have R4 := Lib.hid hr4
      have W4 := Lib.hid (grown_trans (grown_below W3.out hb3) hg4)
      have G4 := Lib.hid ((G3.out.alloc (.cells #[.int .i64 x1, .int .i64 x2, .int .i64 (-(x3 : Int))] 3)).kept hg4 (fun g hg he => by have := (G3.out.lt g hg).1; cases he; omega))
      have hrow := (Row.new w3 3 [.int .i64 x1, .int .i64 x2, .int .i64 (-(x3 : Int))]).grown hg4 (fun e => by cases e; omega)
      obtain ⟨y, hy⟩ : ∃ y : Int, w4.cell? ⟨w3.heap.size, x4, none⟩ = some (.int .i64 y) := by
        have : x4 = 0 ∨ x4 = 1 ∨ x4 = 2 := by omega
        rcases this with rfl | rfl | rfl
        · exact ⟨x1, hrow.cell rfl⟩
        · exact ⟨(x2 : Int), hrow.cell rfl⟩
        · exact ⟨-(x3 : Int), hrow.cell rfl⟩
      have hz4 : w.heap.size ≤ w4.heap.size := W4.out.size
      clear hr4 hg4 hrow hb3 G3 R3 W3 hneg
      go_wp2_with (at_builtin; refine wpList_app _ rfl (.tmp 13) (.tmp 26) 23 rfl w.heap.size 3 (.int .i64 0) 1 8 Tryd.underlying23 Tryd.infoInt rfl (by omega) u5 k (ints xs) rfl (G4.out.alloc _) _ 1 [.int .i64 y] rfl (view_one _ _ _) (by simp [Value.oneCell']) (by unfold maxLen; omega) (by omega) (by simp; omega) ?_; intro v5 w5 g5 r5 k5; have G5 := Lib.hid g5; have R5 := Lib.hid r5; clear g5 r5 k5)
      go_roundw
      case rel =>
        have hb5 : Below w.heap.size w4 w5 := ((Below.refl _ _).alloc hz4 _).grown R5.out (by simp; omega) (fun g hg => (G4.out.lt g hg).1)
        refine ⟨k + 1, p' + 1 + 1 + 1 + 1, xs ++ [y], by omega, by go_num, by rw [List.length_append, HL.out]; rfl, by omega, by omega, ?_, R4.out.below hb5 lowR LV.out, grown_below W4.out hb5⟩
        have := G5.out
        simpa [Hid, ints] using this
      case measure => simp [intOf]; omega
    · have hkm : xs.length = m.toNat := by rw [HL.out]; omega
      have HK := Lib.hid hkm
      clear hkm
      go_wp2
      go_ret
      refine ⟨_, xs, p', rfl, ?_, HK.out, hp1, ?_, hR.out, hW.out⟩
      · rw [HL.out]; exact hG.out
      · rw [← HK.out, HL.out]; exact hp2
/-- tags of the call's own: at most 12, or 33 -/
def DrawnTags (w : World) (e : Ending) (w' : World) : Prop :=
  ∃ u xs, e = .returned u ∧ Gr w' w.heap.size 3 1 u xs.length (ints xs) ∧ xs.length ≤ 33 ∧ Below w.heap.size w w'
set_option maxHeartbeats 1000000 in
theorem draw_ShuffleOrder (v : Value) (bs : List Int) (w : World) (h : Bts w v bs) : Calls Tryd.prog 7 #[v] w (DrawnTags w) := by
  obtain ⟨i0, hi, hz0, hz1, hz2⟩ := info_parts Tryd.infoInt
  have H := Lib.hid h
  clear h
  go_enter Tryd.func7, Tryd.ntmps7
  go_wp2_with fail
  refine (open_any v bs w H.out).mono ?_
  rintro e w1 ⟨v1, bs1, rfl, hr, hb⟩
  have HR := Lib.hid hr
  have lowR := hr.low.1
  have B1 := nxt (Lib.hid (Below.refl _ _)) hb
  clear hr hb H
  have z1 : w.heap.size ≤ w1.heap.size := B1.out.size
  go_wp2_with fail
  refine (odd_any _ v1 bs1 24 0 _ HR.out (by omega) (by omega)).mono ?_
  rintro e w2 ⟨t, p2, rfl, hp2, hp2', hr, hg, _⟩
  have HR2 := Lib.hid hr
  have B2 := nxtG B1 hg (fun g h => by cases h; exact Nat.le_refl _)
  have z2 : w.heap.size ≤ w2.heap.size := B2.out.size
  clear hr hg B1 HR
  cases t
  · go_wp2_with fail
    refine (pick_nat _ v1 bs1 12 p2 _ HR2.out (by omega) (by omega)).mono ?_
    rintro e w3 ⟨x, rfl, hx, hr, hg⟩
    have HR3 := Lib.hid hr
    have B3 := nxtG B2 hg (fun g h => by cases h; exact Nat.le_refl _)
    have z3 : w.heap.size ≤ w3.heap.size := B3.out.size
    clear hr hg B2 HR2
    go_wp2_with fail
    refine (tags_any _ v1 bs1 x _ _ HR3.out (by omega) (by omega)).mono ?_
    rintro e w4 ⟨u, xs, p4, rfl, hG, hlen, _, _, _, hg⟩
    have HG4 := Lib.hid (hG.low z3)
    have B4 := nxtG B3 hg (fun g h => by cases h; exact Nat.le_refl _)
    have hl2 : xs.length ≤ 33 := by omega
    clear hG hg hlen B3 HR3
    go_wp2
    go_ret
    exact ⟨_, xs, rfl, HG4.out, hl2, B4.out⟩
  · go_wp2_with (at_make; refine wpList_make_full _ rfl _ _ 23 rfl w2.heap.size 3 i0 (.int .i64 0) 1 Tryd.underlying23 hi hz0 hz1 _ _ _ _ 33 rfl rfl rfl rfl ?b2 ?b3 ?b4 ?_)
    case b2 => rw [hz2]; omega
    case b3 => unfold maxLen; omega
    case b4 => exact Nat.le_refl _
    · intro w3 hown hgrow
      have hrow := (row_of_own hown).1
      rw [made_tab, ← ints_tabf] at hrow
      have HROW := Lib.hid hrow
      have HB : Hid (Below w.heap.size w w3) := B2.out.grown hgrow z2 (by simp)
      clear hown hgrow hrow
      go_wp2
      go_ret
      refine ⟨_, tab 33 (fun _ => (0 : Int)), rfl, ?_, Nat.le_of_eq (tab_length _ _), HB.out⟩
      rw [tab_length]
      exact Gr.of_made HROW.out (by rw [ints_length, tab_length, Nat.mul_one]) (by unfold maxLen; omega) z2
/-- values and tags, both of the call's own -/
def DrawnShuf (w : World) (e : Ending) (w' : World) : Prop :=
  ∃ u v xs ys, e = .returned (.tuple #[u, v]) ∧ Gr w' w.heap.size 3 1 u xs.length (ints xs) ∧ Gr w' w.heap.size 3 1 v ys.length (ints ys) ∧ xs.length ≤ 11 ∧ ys.length ≤ 12 ∧ Below w.heap.size w w'
set_option maxHeartbeats 1000000 in
theorem draw_ShuffleRows (v : Value) (bs : List Int) (w : World) (h : Bts w v bs) : Calls Tryd.prog 12 #[v] w (DrawnShuf w) := by
  have H := Lib.hid h
  clear h
  go_enter Tryd.func12, Tryd.ntmps12
  go_wp2_with fail
  refine (open_any v bs w H.out).mono ?_
  rintro e w1 ⟨v1, bs1, rfl, hr, hb⟩
  have HR := Lib.hid hr
  have lowR := hr.low.1
  have B1 := nxt (Lib.hid (Below.refl _ _)) hb
  clear hr hb H
  go_wp2_with fail
  refine (pick_nat _ v1 bs1 12 0 _ HR.out (by omega) (by omega)).mono ?_
  rintro e w2 ⟨x, rfl, hx, hr, hg⟩
  have HR2 := Lib.hid hr
  have B2 := nxtG B1 hg (fun g h => by cases h; exact Nat.le_refl _)
  have z2 := hg.size
  clear hr hg B1 HR
  go_wp2_with fail
  refine (numbers_any _ v1 bs1 x _ _ HR2.out (by omega) (by omega)).mono ?_
  rintro e w3 ⟨u, xs, p3, rfl, hG, hlen, hX, hp3, hp3', hr, hg⟩
  have HG3 := Lib.hid (hG.low (B' := w1.heap.size) z2)
  have HR3 := Lib.hid hr
  have B3 := nxtG B2 hg (fun g h => by cases h; exact Nat.le_refl _)
  have hp3'' : p3 ≤ 100 := by omega
  have hlen2 : xs.length ≤ 11 := by omega
  clear hr hg B2 HR2 hG hX hp3 hp3' hlen hx
  obtain ⟨ad, c, hu, _, _⟩ := (Gr.ints HG3.out rfl).open
  subst hu
  go_wp2_with fail
  refine (pick_nat _ v1 bs1 9 p3 _ HR3.out (by omega) (by omega)).mono ?_
  rintro e w7 ⟨x3, rfl, hx3, hr, hg⟩
  have HG7 := Lib.hid (HG3.out.kept hg (fun g hg he => by have := (HG3.out.lt g hg).1; cases he; omega))
  have HR7 := Lib.hid hr
  have B7 := nxtG B3 hg (fun g h => by cases h; exact Nat.le_refl _)
  have z7 : w.heap.size ≤ w7.heap.size := B7.out.size
  clear hr hg B3 HR3 HG3
  obtain ⟨j, hj⟩ : ∃ j : Nat, (x3 : Int) / 8 = j := ⟨x3 / 8, by omega⟩
  have hj1 : j ≤ 1 := by omega
  go_wp2_with fail
  refine (tags_any _ v1 bs1 ((xs.length : Int) + j) _ _ HR7.out (by omega) (by omega)).mono ?_
  rintro e w8 ⟨v2, ys, p8, rfl, hm, hst, _, _, _, hg⟩
  have HG8 := Lib.hid (HG7.out.kept hg (fun g hg he => by have := (HG7.out.lt g hg).1; cases he; omega))
  have HM8 := Lib.hid (hm.low z7)
  have B8 := nxtG B7 hg (fun g h => by cases h; exact Nat.le_refl _)
  have hst : ys.length ≤ 12 := by omega
  clear hm hg B7 HR7 HG7
  go_wp2
  go_ret2
  exact ⟨_, _, xs, ys, rfl, HG8.out.low (by omega), HM8.out, hlen2, hst, B8.out⟩
theorem draw_UnshuffleRows (v : Value) (bs : List Int) (w : World) (h : Bts w v bs) : Calls Tryd.prog 16 #[v] w (DrawnShuf w) := by
  have H := Lib.hid h
  clear h
  go_enter Tryd.func16, Tryd.ntmps16
  go_wp2_with fail
  refine (draw_ShuffleRows v bs w H.out).mono ?_
  rintro e w' ⟨u, v, xs, ys, rfl, h⟩
  have HH := Lib.hid h
  clear h
  go_wp2
  go_ret2
  exact ⟨u, v, xs, ys, rfl, HH.out⟩
end Go.Proofs.YtficoknejnilmaaDoor
