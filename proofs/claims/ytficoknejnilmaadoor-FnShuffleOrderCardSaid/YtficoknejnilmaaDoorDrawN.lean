/- draws of lists: numbers, marks; the reader kept over other writing -/
import Derived.Test.YtficoknejnilmaaDoorDraw
import Derived.Test.YtficoknejnilmaaDoorApp
import Derived.Test.YtficoknejnilmaaDoorInts
namespace Go.Proofs.YtficoknejnilmaaDoor
open Go.RowKit
theorem Rd.low {w : World} {R v bs p} (h : Rd w R v bs p) : R < w.heap.size ∧ (0 < bs.length → ∀ g, v.ownBlock = some g → g < w.heap.size) := by
  obtain ⟨hr, hb, hl, hne⟩ := h
  refine ⟨hr.lt, fun h0 g hg => ?_⟩
  obtain ⟨h1, h2, ⟨h3, _⟩ | ⟨h3, b, off, c, hv, hc, hcell⟩⟩ := hb.1
  · omega
  · rw [hv] at hg
    cases hg
    exact World.block_lt_of_cell? w _ (hcell 0 _ (List.getElem?_eq_getElem (by simp [u8s]; omega)))
/-- what is written from B on leaves the reader -/
theorem Rd.below {w w' : World} {R v bs p} (h : Rd w R v bs p) {B : Nat} (hb : Below B w w') (hR : R < B) (hv : 0 < bs.length → ∀ g, v.ownBlock = some g → g < B) : Rd w' R v bs p := by
  obtain ⟨hr, hbs, hl, hne⟩ := h
  refine ⟨hr.mono hb hR, ⟨?_, hbs.2⟩, hl, hne⟩
  obtain ⟨h1, h2, h3 | ⟨h3, b, off, c, hvv, hc, hcell⟩⟩ := hbs.1
  · exact ⟨h1, h2, .inl h3⟩
  · refine ⟨h1, h2, .inr ⟨h3, b, off, c, hvv, hc, fun i u hu => ?_⟩⟩
    rw [hb.cell (p := ⟨b, off + i, none⟩) (hv h3 b (by rw [hvv]; rfl))]
    exact hcell i u hu
/-- a draw of one number below n -/
def PickN (n : Nat) (R : Nat) (v : Value) (bs : List Int) (p : Nat) (w : World) (e : Ending) (w' : World) : Prop :=
  ∃ x : Nat, e = .returned (.int .i64 x) ∧ x < n ∧ Rd w' R v bs ((p + 1 : Nat) : Int) ∧ w.grownBy w' (some R)
theorem pick_nat (R : Nat) (v : Value) (bs : List Int) (n p : Nat) (w : World) (h : Rd w R v bs p) (hp : p ≤ 1000000000000) (hn : 0 < n) :
    Calls Tryd.prog 21 #[.pointer (some ⟨R, 0, none⟩), .int .i64 n] w (PickN n R v bs p w) :=
  (pick_any R v bs n p w h hp).mono fun e w' ⟨x, he, x0, x1, _, hr, hg, _⟩ => by
    obtain ⟨y, rfl⟩ := Int.eq_ofNat_of_zero_le x0
    exact ⟨y, he, by have := x1 (by omega); omega, h.next hr hg, hg⟩
def NumsPost (m : Int) (R : Nat) (v : Value) (bs : List Int) (p : Nat) (w : World) (e : Ending) (w' : World) : Prop :=
  ∃ u xs p', e = .returned u ∧ Gr w' w.heap.size 3 1 u xs.length (ints xs) ∧ xs.length = m.toNat ∧ (∀ x ∈ xs, 0 ≤ x ∧ x ≤ 100000) ∧ p ≤ p' ∧ p' ≤ p + 3 * m.toNat ∧ Rd w' R v bs ((p' : Nat) : Int) ∧ w.grownBy w' (some R)
theorem numbers_any (R : Nat) (v : Value) (bs : List Int) (m : Int) (p : Nat) (w : World) (h : Rd w R v bs p) (hp : p ≤ 1000000000) (hm : m ≤ 100000) :
    Calls Tryd.prog 26 #[.pointer (some ⟨R, 0, none⟩), .int .i64 m] w (NumsPost m R v bs p w) := by
  obtain ⟨lowR, lowV⟩ := h.low
  have H := Lib.hid h
  have LV := Lib.hid lowV
  clear h lowV
  go_enter Tryd.func26, Tryd.ntmps26
  go_wp2
  go_loopw [5, 6] (fun u i wr => ∃ (k p' : Nat) (xs : List Int), (k : Int) ≤ max m 0 ∧ i = .int .i64 k ∧ xs.length = k ∧ p ≤ p' ∧ p' ≤ p + 3 * k ∧ Hid (Gr wr w.heap.size 3 1 u k (ints xs)) ∧ Hid (∀ x ∈ xs, 0 ≤ x ∧ x ≤ 100000) ∧ Hid (Rd wr R v bs ((p' : Nat) : Int)) ∧ Hid (w.grownBy wr (some R)))
    (fun _ i _ => m.toNat - (intOf i).toNat)
  case atStart =>
    have hb := (Below.refl w.heap.size w).alloc (Nat.le_refl _) (.cells #[] 3)
    exact ⟨0, p, [], by omega, rfl, rfl, by omega, by omega, Gr.none0 _ _ _ _ _, (fun x hx => by cases hx), H.out.below hb lowR LV.out, grown_below (grown_refl _ _) hb⟩
  case round =>
    obtain ⟨k, p', xs, hk, rfl, hxl, hp1, hp2, hG, hX, hR, hW⟩ := hrel
    have HL := Lib.hid hxl
    clear hxl
    by_cases hlt : (k : Int) < m
    · go_wp2_with fail
      refine (pick_nat R v bs 20 p' _ hR.out (by omega) (by omega)).mono ?_
      rintro e w1 ⟨x1, rfl, hx1, hr1, hg1⟩
      have R1 := Lib.hid hr1
      have W1 := Lib.hid (grown_trans hW.out hg1)
      have G1 := Lib.hid (hG.out.kept hg1 (fun g hg he => by have := (hG.out.lt g hg).1; cases he; omega))
      clear hr1 hg1 hG hR hW
      go_wp2_with fail
      refine (pick_nat R v bs 256 (p' + 1) _ R1.out (by omega) (by omega)).mono ?_
      rintro e w2 ⟨x2, rfl, hx2, hr2, hg2⟩
      have R2 := Lib.hid hr2
      have W2 := Lib.hid (grown_trans W1.out hg2)
      have G2 := Lib.hid (G1.out.kept hg2 (fun g hg he => by have := (G1.out.lt g hg).1; cases he; omega))
      clear hr2 hg2 G1 R1 W1
      go_wp2_with fail
      have hz2 : w.heap.size ≤ w2.heap.size := W2.out.size
      have hb3 := (Below.refl w.heap.size w2).alloc hz2 (.cells #[.int .i64 x1, .int .i64 ((x2 : Int) * 300)] 3)
      refine (pick_nat R v bs 3 (p' + 1 + 1) _ (R2.out.below hb3 lowR LV.out) (by omega) (by omega)).mono ?_
      rintro e w3 ⟨x3, rfl, hx3, hr3, hg3⟩
      have R3 := Lib.hid hr3
      have W3 := Lib.hid (grown_trans (grown_below W2.out hb3) hg3)
      have G3 := Lib.hid ((G2.out.alloc (.cells #[.int .i64 x1, .int .i64 ((x2 : Int) * 300)] 3)).kept hg3 (fun g hg he => by have := (G2.out.lt g hg).1; cases he; omega))
      have hrow := (Row.new w2 3 [.int .i64 x1, .int .i64 ((x2 : Int) * 300)]).grown hg3 (fun e => by cases e; omega)
      obtain ⟨j, hj⟩ : ∃ j : Nat, (x3 : Int) / 2 = j := ⟨x3 / 2, by omega⟩
      have hjl : j < 2 := by omega
      obtain ⟨y, hy, y0, y1⟩ : ∃ y : Int, w3.cell? ⟨w2.heap.size, j, none⟩ = some (.int .i64 y) ∧ 0 ≤ y ∧ y ≤ 100000 := by
        have : j = 0 ∨ j = 1 := by omega
        rcases this with rfl | rfl
        · exact ⟨x1, hrow.cell rfl, by omega, by omega⟩
        · exact ⟨(x2 : Int) * 300, hrow.cell rfl, by omega, by omega⟩
      have hz3 : w.heap.size ≤ w3.heap.size := W3.out.size
      clear hr3 hg3 hrow hb3 G2 R2 W2
      have HA : Hid (∀ x ∈ xs ++ [y], 0 ≤ x ∧ x ≤ 100000) := fun x hx => by
        rcases List.mem_append.1 hx with h | h
        · exact hX.out x h
        · simp at h; subst h; exact ⟨y0, y1⟩
      go_wp2_with (at_builtin; refine wpList_app _ rfl (.tmp 13) (.tmp 25) 23 rfl w.heap.size 3 (.int .i64 0) 1 8 Tryd.underlying23 Tryd.infoInt rfl (by omega) u5 k (ints xs) rfl (G3.out.alloc _) _ 1 [.int .i64 y] rfl (view_one _ _ _) (by simp [Value.oneCell']) (by unfold maxLen; omega) (by omega) (by simp; omega) ?_; intro v4 w4 g4 r4 k4; have G4 := Lib.hid g4; have R4 := Lib.hid r4; clear g4 r4 k4)
      go_roundw
      case rel =>
        have hb4 : Below w.heap.size w3 w4 := ((Below.refl _ _).alloc hz3 _).grown R4.out (by simp; omega) (fun g hg => (G3.out.lt g hg).1)
        refine ⟨k + 1, p' + 1 + 1 + 1, xs ++ [y], by omega, by go_num, by rw [List.length_append, HL.out]; rfl, by omega, by omega, ?_, HA, R3.out.below hb4 lowR LV.out, grown_below W3.out hb4⟩
        have := G4.out
        simpa [Hid, ints] using this
      case measure => simp [intOf]; omega
    · have hkm : xs.length = m.toNat := by rw [HL.out]; omega
      have HK := Lib.hid hkm
      clear hkm
      go_wp2
      go_ret
      refine ⟨_, xs, p', rfl, ?_, HK.out, hX.out, hp1, ?_, hR.out, hW.out⟩
      · rw [HL.out]; exact hG.out
      · rw [← HK.out, HL.out]; exact hp2
end Go.Proofs.YtficoknejnilmaaDoor
