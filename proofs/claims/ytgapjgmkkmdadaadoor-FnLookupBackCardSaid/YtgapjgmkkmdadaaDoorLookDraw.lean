/- draws of LookupAnswer; the walks of FnLookupAnswer -/
import Derived.Test.YtgapjgmkkmdadaaDoorDrawN
import Derived.Test.YtgapjgmkkmdadaaDoorLook
import Derived.Test.YtgapjgmkkmdadaaDoorRes
import Derived.Test.YtgapjgmkkmdadaaDoorName
namespace Go.Proofs.YtgapjgmkkmdadaaDoor
open Go.RowKit
/-- values and a set, both of the call's own -/
def DrawnAns (w : World) (e : Ending) (w' : World) : Prop :=
  ∃ u v xs st, e = .returned (.tuple #[u, v]) ∧ Gr w' w.heap.size 3 1 u xs.length (ints xs) ∧ Gr w' w.heap.size 4 1 v st.length (bools st) ∧ xs.length ≤ 11 ∧ st.length ≤ 12 ∧
    (∀ x ∈ xs, -1 ≤ x ∧ x ≤ 100001) ∧ Below w.heap.size w w'
set_option maxHeartbeats 1000000 in
theorem draw_LookupAnswer (v : Value) (bs : List Int) (w : World) (h : Bts w v bs) : Calls Tryd.prog 19 #[v] w (DrawnAns w) := by
  have H := Lib.hid h
  clear h
  go_enter Tryd.func19, Tryd.ntmps19
  go_wp2_with fail
  refine (open_any v bs w H.out).mono ?_
  rintro e w1 ⟨v1, bs1, rfl, hr, hb⟩
  have HR := Lib.hid hr
  have lowR := hr.low.1
  have LV := Lib.hid hr.low.2
  have B1 := nxt (Lib.hid (Below.refl _ _)) hb
  clear hr hb H
  go_wp2_with fail
  refine (pick_nat _ v1 bs1 12 0 _ HR.out (by omega) (by omega)).mono ?_
  rintro e w2 ⟨x, rfl, hx, hr, hg⟩
  have HR2 := Lib.hid hr
  have B2 := nxtG B1 hg (fun g h => by cases h; exact Nat.le_refl _)
  have z2 := hg.size
  clear hr hg B1 HR
  go_wp2_with fail
  refine (numbers_any _ v1 bs1 x _ _ HR2.out (by omega) (by omega)).mono ?_
  rintro e w3 ⟨u, xs, p3, rfl, hG, hlen, hX, hp3, hp3', hr, hg⟩
  have HG3 := Lib.hid (hG.low (B' := w1.heap.size) z2)
  have HX3 := Lib.hid hX
  have HR3 := Lib.hid hr
  have B3 := nxtG B2 hg (fun g h => by cases h; exact Nat.le_refl _)
  have hp3'' : p3 ≤ 100 := by omega
  have hlen2 : xs.length ≤ 11 := by omega
  clear hr hg B2 HR2 hG hX hp3 hp3' hlen hx
  go_wp2_with fail
  refine (odd_any _ v1 bs1 12 p3 _ HR3.out (by omega) (by omega)).mono ?_
  rintro e w4 ⟨t, p4, rfl, hp4, hp4', hr, hg, _⟩
  have HG4 := Lib.hid (HG3.out.kept hg (fun g hg he => by have := (HG3.out.lt g hg).1; cases he; omega))
  have HR4 := Lib.hid hr
  have B4 := nxtG B3 hg (fun g h => by cases h; exact Nat.le_refl _)
  have z4 : w.heap.size ≤ w4.heap.size := B4.out.size
  clear hr hg B3 HR3 HG3
  have HF : Hid (∀ u' v' w8 (ys : {ys : List Int // ys.length = xs.length ∧ ∀ x ∈ ys, -1 ≤ x ∧ x ≤ 100001}) st, Gr w8 w1.heap.size 3 1 u' xs.length (ints ys.1) → Gr w8 w.heap.size 4 1 v' st.length (bools st) → st.length ≤ 12 → Below w.heap.size w w8 →
      DrawnAns w (.returned (.tuple #[u', v'])) w8) := fun u' v' w8 ys st h1 h2 h3 h4 => ⟨u', v', ys.1, st, rfl, by rw [ys.2.1]; exact h1.low (by omega), h2, by rw [ys.2.1]; exact hlen2, h3, ys.2.2, h4⟩
  cases t
  · obtain ⟨ad, c, hu, _, _⟩ := (Gr.ints HG4.out rfl).open
    subst hu
    go_wp2_with fail
    refine (pick_nat _ v1 bs1 12 p4 _ HR4.out (by omega) (by omega)).mono ?_
    rintro e w7 ⟨x3, rfl, hx3, hr, hg⟩
    have HG7 := Lib.hid (HG4.out.kept hg (fun g hg he => by have := (HG4.out.lt g hg).1; cases he; omega))
    have HR7 := Lib.hid hr
    have B7 := nxtG B4 hg (fun g h => by cases h; exact Nat.le_refl _)
    have z7 : w.heap.size ≤ w7.heap.size := B7.out.size
    clear hr hg B4 HR4 HG4
    obtain ⟨j, hj⟩ : ∃ j : Nat, (x3 : Int) / 11 = j := ⟨x3 / 11, by omega⟩
    have hj1 : j ≤ 1 := by omega
    go_wp2_with fail
    refine (marks_any _ v1 bs1 ((xs.length : Int) + j) _ _ HR7.out (by omega) (by omega)).mono ?_
    rintro e w8 ⟨v2, st, p8, rfl, hm, hst, _, _, _, hg⟩
    have HG8 := Lib.hid (HG7.out.kept hg (fun g hg he => by have := (HG7.out.lt g hg).1; cases he; omega))
    have HM8 := Lib.hid (hm.low z7)
    have B8 := nxtG B7 hg (fun g h => by cases h; exact Nat.le_refl _)
    have hst : st.length ≤ 12 := by omega
    clear hm hg B7 HR7 HG7
    go_wp2
    go_ret2
    exact HF.out _ _ _ ⟨xs, rfl, fun x hx => by have := HX3.out x hx; omega⟩ _ HG8.out HM8.out hst B8.out
  · by_cases h0 : 0 < xs.length
    · have hd : decide ((0 : Int) < (xs.length : Int)) = true := by simp; omega
      obtain ⟨g, c, rfl, hB, _, hmax, _⟩ := HG4.out.at h0
      unfold maxLen at hmax
      obtain ⟨x0, hx0⟩ : ∃ x0, xs[0]? = some x0 := ⟨_, List.getElem?_eq_getElem h0⟩
      have hx0' : (ints xs)[0]? = some (.int .i64 x0) := by simp [ints, hx0]
      have HX0 := Lib.hid hx0'
      clear hx0 hx0'
      go_wp2_with fail
      have hb := (Below.refl w4.heap.size w4).alloc (Nat.le_refl _) (.cells #[.int .i64 (-1), .int .i64 100001] 3)
      refine (pick_nat _ v1 bs1 2 p4 _ (HR4.out.below hb HR4.out.low.1 HR4.out.low.2) (by omega) (by omega)).mono ?_
      rintro e w5 ⟨x2, rfl, hx2, hr, hg⟩
      have HG5 := Lib.hid ((HG4.out.alloc (.cells #[.int .i64 (-1), .int .i64 100001] 3)).kept hg (fun g hg he => by have := (HG4.out.lt g hg).1; cases he; omega))
      have HR5 := Lib.hid hr
      have B5 := nxtG (nxt B4 hb) hg (fun g h => by cases h; exact Nat.le_refl _)
      have hrow := (Row.new w4 3 [.int .i64 (-1), .int .i64 100001]).grown hg (fun e => by have := Option.some.inj e; have := HR4.out.low.1; omega)
      obtain ⟨y, hy, y0, y1⟩ : ∃ y : Int, w5.cell? ⟨w4.heap.size, x2, none⟩ = some (.int .i64 y) ∧ -1 ≤ y ∧ y ≤ 100001 := by
        have : x2 = 0 ∨ x2 = 1 := by omega
        rcases this with rfl | rfl
        · exact ⟨-1, hrow.cell rfl, by omega, by omega⟩
        · exact ⟨100001, hrow.cell rfl, by omega, by omega⟩
      obtain ⟨g', c', hv', hB', _, _, hfz, hcell, hset⟩ := HG5.out.at h0
      cases hv'
      have hf0 := hfz 0
      have hc0 := hcell 0 _ HX0.out
      have hs0 := hset 0 (.int .i64 y) h0
      have HS0 : Hid (Gr (w5.setCell ⟨g, 0, none⟩ (.int .i64 y)) w1.heap.size 3 1 (.slice (some ⟨g, 0, none⟩) xs.length c) xs.length (ints (xs.set 0 y))) := by
        have e : (ints xs).set 0 (.int .i64 y) = ints (xs.set 0 y) := by simp [ints, List.map_set]
        rw [e] at hs0; exact hs0
      have HR6 := Lib.hid (HR5.out.below ((Below.refl w1.heap.size w5).setCell (p := ⟨g, 0, none⟩) hB (.int .i64 y)) lowR LV.out)
      have B6 : Hid (Below w.heap.size w (w5.setCell ⟨g, 0, none⟩ (.int .i64 y))) := B5.out.setCell (p := ⟨g, 0, none⟩) (Nat.le_trans (Nat.le_of_lt lowR) hB) _
      have HY : Hid ((xs.set 0 y).length = xs.length ∧ ∀ x ∈ xs.set 0 y, -1 ≤ x ∧ x ≤ 100001) := ⟨by simp, fun x hx => by
        rcases List.mem_or_eq_of_mem_set hx with h | rfl
        · have := HX3.out x h; omega
        · exact ⟨y0, y1⟩⟩
      clear hr hg hrow hb hfz hcell hset hs0 HR5 B5 HG5 HG4 HR4 B4 hB' HX0
      go_wp2_with fail
      refine (pick_nat _ v1 bs1 12 (p4 + 1) _ HR6.out (by omega) (by omega)).mono ?_
      rintro e w7 ⟨x3, rfl, hx3, hr, hg⟩
      have HG7 := Lib.hid (HS0.out.kept hg (fun g hg he => by have := (HS0.out.lt g hg).1; cases he; omega))
      have HR7 := Lib.hid hr
      have B7 := nxtG B6 hg (fun g h => by cases h; exact Nat.le_refl _)
      have z7 : w.heap.size ≤ w7.heap.size := B7.out.size
      clear hr hg B6 HR6 HS0
      obtain ⟨j, hj⟩ : ∃ j : Nat, (x3 : Int) / 11 = j := ⟨x3 / 11, by omega⟩
      have hj1 : j ≤ 1 := by omega
      go_wp2_with fail
      refine (marks_any _ v1 bs1 ((xs.length : Int) + j) _ _ HR7.out (by omega) (by omega)).mono ?_
      rintro e w8 ⟨v2, st, p8, rfl, hm, hst, _, _, _, hg⟩
      have HG8 := Lib.hid (HG7.out.kept hg (fun g hg he => by have := (HG7.out.lt g hg).1; cases he; omega))
      have HM8 := Lib.hid (hm.low z7)
      have B8 := nxtG B7 hg (fun g h => by cases h; exact Nat.le_refl _)
      have hst : st.length ≤ 12 := by omega
      clear hm hg B7 HR7 HG7
      go_wp2
      go_ret2
      exact HF.out _ _ _ ⟨xs.set 0 y, HY.out⟩ _ HG8.out HM8.out hst B8.out
    · have hd : decide ((0 : Int) < (xs.length : Int)) = false := decide_eq_false (by omega)
      obtain ⟨ad, c, hu, _, _⟩ := (Gr.ints HG4.out rfl).open
      subst hu
      go_wp2_with fail
      refine (pick_nat _ v1 bs1 12 p4 _ HR4.out (by omega) (by omega)).mono ?_
      rintro e w7 ⟨x3, rfl, hx3, hr, hg⟩
      have HG7 := Lib.hid (HG4.out.kept hg (fun g hg he => by have := (HG4.out.lt g hg).1; cases he; omega))
      have HR7 := Lib.hid hr
      have B7 := nxtG B4 hg (fun g h => by cases h; exact Nat.le_refl _)
      have z7 : w.heap.size ≤ w7.heap.size := B7.out.size
      clear hr hg B4 HR4 HG4
      obtain ⟨j, hj⟩ : ∃ j : Nat, (x3 : Int) / 11 = j := ⟨x3 / 11, by omega⟩
      have hj1 : j ≤ 1 := by omega
      go_wp2_with fail
      refine (marks_any _ v1 bs1 ((xs.length : Int) + j) _ _ HR7.out (by omega) (by omega)).mono ?_
      rintro e w8 ⟨v2, st, p8, rfl, hm, hst, _, _, _, hg⟩
      have HG8 := Lib.hid (HG7.out.kept hg (fun g hg he => by have := (HG7.out.lt g hg).1; cases he; omega))
      have HM8 := Lib.hid (hm.low z7)
      have B8 := nxtG B7 hg (fun g h => by cases h; exact Nat.le_refl _)
      have hst : st.length ≤ 12 := by omega
      clear hm hg B7 HR7 HG7
      go_wp2
      go_ret2
      exact HF.out _ _ _ ⟨xs, rfl, fun x hx => by have := HX3.out x hx; omega⟩ _ HG8.out HM8.out hst B8.out
end Go.Proofs.YtgapjgmkkmdadaaDoor
