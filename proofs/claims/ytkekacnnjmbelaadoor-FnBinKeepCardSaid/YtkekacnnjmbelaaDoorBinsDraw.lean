/- draws of bins -/
import Derived.Test.YtkekacnnjmbelaaDoorPick
namespace Go.Proofs.YtkekacnnjmbelaaDoor
open Go.RowKit
def BinNums (m : Int) (R : Nat) (v : Value) (bs : List Int) (p : Nat) (w : World) (e : Ending) (w' : World) : Prop :=
  ∃ u xs p', e = .returned u ∧ Gr w' w.heap.size 3 1 u xs.length (ints xs) ∧ xs.length ≤ 10 ∧ (∀ x ∈ xs, -1 ≤ x ∧ x ≤ max 1 m) ∧ p ≤ p' ∧ p' ≤ p + 12 ∧ Rd w' R v bs ((p' : Nat) : Int) ∧ w.grownBy w' (some R)
set_option maxHeartbeats 1000000 in
theorem binNumbers_any (R : Nat) (v : Value) (bs : List Int) (m n : Int) (p : Nat) (w : World) (h : Rd w R v bs p) (hp : p ≤ 1000000000) (hm : 0 ≤ m ∧ m ≤ 100) (hn : 0 ≤ n ∧ n ≤ 100) :
    Calls Tryd.prog 38 #[.pointer (some ⟨R, 0, none⟩), .int .i64 m, .int .i64 n] w (BinNums m R v bs p w) := by
  obtain ⟨lowR, lowV⟩ := h.low
  have H := Lib.hid h
  have LV := Lib.hid lowV
  clear h lowV
  go_enter Tryd.func38, Tryd.ntmps38
  have hb := (Below.refl w.heap.size w).alloc (Nat.le_refl _) (.cells #[] 3)
  have H0 := Lib.hid (H.out.below hb lowR LV.out)
  have W0 := Lib.hid (grown_below (grown_refl w (some R)) hb)
  clear hb
  go_wp2_with fail
  refine (pick_nat R v bs 10 p _ H0.out (by omega) (by omega)).mono ?_
  rintro e w1 ⟨x, rfl, hx, hr, hg⟩
  have R1 := Lib.hid hr
  have W1 := Lib.hid (grown_trans W0.out hg)
  have z1 : w.heap.size ≤ w1.heap.size := W1.out.size
  clear hr hg H0 W0 H
  go_wp2
  go_loopw [7, 8] (fun u i wr => ∃ (k p' : Nat) (xs : List Int), k + xs.length ≤ 9 ∧ i = .int .i64 k ∧ p + 1 ≤ p' ∧ p' + k ≤ p + 10 ∧ Hid (Gr wr w.heap.size 3 1 u xs.length (ints xs)) ∧ Hid (∀ x ∈ xs, -1 ≤ x ∧ x ≤ max 1 m) ∧ Hid (Rd wr R v bs ((p' : Nat) : Int)) ∧ Hid (w.grownBy wr (some R)))
    (fun _ i _ => (intOf i).toNat)
  case atStart => exact ⟨x, p + 1, [], by simp; omega, rfl, by omega, by omega, Gr.none0 _ _ _ _ _, (fun x hx => by cases hx), R1.out, W1.out⟩
  case round =>
    obtain ⟨k, p', xs, hk, rfl, hp1, hp2, hG, hX, hR, hW⟩ := hrel
    obtain ⟨q, hq⟩ : ∃ q, xs.length = q := ⟨_, rfl⟩
    have HL := Lib.hid hq
    rw [hq] at hk hG
    clear hq
    by_cases hlt : 0 < k
    · obtain ⟨k, rfl⟩ : ∃ q, k = q + 1 := ⟨k - 1, by omega⟩
      go_wp2_with fail
      all_goals
        refine (pick_any R v bs _ p' _ hR.out (by omega)).mono ?_
        rintro e w2 ⟨y, rfl, hy0, hy1, -, hr, hg, -⟩
        have R2 := Lib.hid (hR.out.next hr hg)
        have W2 := Lib.hid (grown_trans hW.out hg)
        have G2 := Lib.hid (hG.out.kept hg (fun g hg he => by have := (hG.out.lt g hg).1; cases he; omega))
        have z2 : w.heap.size ≤ w2.heap.size := W2.out.size
        have HY : Hid (-1 ≤ y ∧ y ≤ max 1 m) := ⟨by omega, by have := hy1 (by omega); omega⟩
        clear hr hg hG hR hW hy1
        go_wp2_with (at_builtin; refine wpList_app _ rfl (.tmp 16) (.tmp 21) 31 rfl w.heap.size 3 (.int .i64 0) 1 8 Tryd.underlying31 Tryd.infoInt rfl (by omega) u7 q (ints xs) rfl (G2.out.alloc _) _ 1 [.int .i64 y] rfl (view_one _ _ _) (by simp [Value.oneCell']) (by unfold maxLen; omega) (by omega) (by simp; omega) ?_; intro v4 w4 g4 r4 k4; have G4 := Lib.hid g4; have R4 := Lib.hid r4; clear g4 r4 k4)
        go_roundw
        case rel =>
          have hb4 : Below w.heap.size w2 w4 := ((Below.refl _ _).alloc z2 _).grown R4.out (by simp; omega) (fun g hg => (G2.out.lt g hg).1)
          refine ⟨k, p' + 1, xs ++ [y], by rw [List.length_append, HL.out, List.length_singleton]; omega, by go_num, by omega, by omega, ?_, fun a ha => ?_, R2.out.below hb4 lowR LV.out, grown_below W2.out hb4⟩
          · have := G4.out
            rw [List.length_append, HL.out]
            simpa [Hid, ints] using this
          · rcases List.mem_append.1 ha with h | h
            · exact hX.out a h
            · simp at h; subst h; exact HY.out
        case measure => simp [intOf] <;> omega
    · obtain rfl : k = 0 := by omega
      have z2 : w.heap.size ≤ wr.heap.size := hW.out.size
      go_wp2_with fail
      refine (odd_any R v bs n p' _ hR.out (by omega) (by omega)).mono ?_
      rintro e w2 ⟨t, p2, rfl, hp2, hp2', hr, hg, -⟩
      have R2 := Lib.hid hr
      have W2 := Lib.hid (grown_trans hW.out hg)
      have G2 := Lib.hid (hG.out.kept hg (fun g hg he => by have := (hG.out.lt g hg).1; cases he; omega))
      have z2 : w.heap.size ≤ w2.heap.size := W2.out.size
      clear hr hg hG hR hW
      cases t
      · go_wp2
        go_ret
        exact ⟨_, xs, p2, rfl, by rw [HL.out]; exact G2.out, by rw [HL.out]; omega, hX.out, by omega, by omega, R2.out, W2.out⟩
      · go_wp2_with fail
        have hb3 : Below w2.heap.size w2 (w2.alloc (.cells #[.int .i64 (-1), .int .i64 m] 3)) := (Below.refl _ _).alloc (Nat.le_refl _) _
        refine (pick_nat R v bs 2 p2 _ (R2.out.below hb3 (by omega) (fun h0 g hg => by have := LV.out h0 g hg; omega)) (by omega) (by omega)).mono ?_
        rintro e w3 ⟨x2, rfl, hx2, hr, hg⟩
        have hrow1 := (Row.new w2 3 (ints [(-1 : Int), m])).grown hg (some_ne (by omega))
        obtain ⟨y, hy, HY⟩ := row_at hrow1 (P := fun y => -1 ≤ y ∧ y ≤ max 1 m) (by simp; omega) hx2
        have HY := Lib.hid HY
        have G3 := Lib.hid ((G2.out.mono hb3 (Nat.le_refl _)).kept hg (fun g hg he => by have := (G2.out.lt g hg).1; cases he; omega))
        have R3 := Lib.hid hr
        have W3 := Lib.hid (grown_trans (grown_below W2.out (hb3.mono z2)) hg)
        have z3 : w.heap.size ≤ w3.heap.size := W3.out.size
        clear hr hg hrow1 hb3 G2 R2 W2
        go_wp2_with (at_builtin; refine wpList_app _ rfl (.tmp 26) (.tmp 33) 31 rfl w.heap.size 3 (.int .i64 0) 1 8 Tryd.underlying31 Tryd.infoInt rfl (by omega) u7 q (ints xs) rfl (G3.out.alloc _) _ 1 [.int .i64 y] rfl (view_one _ _ _) (by simp [Value.oneCell']) (by unfold maxLen; omega) (by omega) (by simp; omega) ?_; intro v4 w4 g4 r4 k4; have G4 := Lib.hid g4; have R4 := Lib.hid r4; clear g4 r4 k4)
        go_ret
        have hb4 : Below w.heap.size w3 w4 := ((Below.refl _ _).alloc z3 _).grown R4.out (by simp; omega) (fun g hg => (G3.out.lt g hg).1)
        refine ⟨_, xs ++ [y], p2 + 1, rfl, ?_, by rw [List.length_append, HL.out, List.length_singleton]; omega, fun a ha => ?_, by omega, by omega, R3.out.below hb4 lowR LV.out, grown_below W3.out hb4⟩
        · have := G4.out
          rw [List.length_append, HL.out]
          simpa [Hid, ints] using this
        · rcases List.mem_append.1 ha with h | h
          · exact hX.out a h
          · simp at h; subst h; exact HY.out
/-- numbers of bins, and how many there are -/
def DrawnLoads (w : World) (e : Ending) (w' : World) : Prop := ∃ u xs m, e = .returned (.tuple #[u, .int .i64 m]) ∧ Gr w' w.heap.size 3 1 u xs.length (ints xs) ∧ xs.length ≤ 10 ∧ 0 ≤ m ∧ m ≤ 9 ∧ Below w.heap.size w w'
theorem draw_BinLoads (v : Value) (bs : List Int) (w : World) (h : Bts w v bs) : Calls Tryd.prog 19 #[v] w (DrawnLoads w) := by
  have H := Lib.hid h
  clear h
  go_enter Tryd.func19, Tryd.ntmps19
  go_wp2_with fail
  refine (open_any v bs w H.out).mono ?_
  rintro e w1 ⟨v1, bs1, rfl, hr, hb⟩
  have HR := Lib.hid hr
  have lowR := hr.low.1
  have lowV := Lib.hid hr.low.2
  have B1 := nxt (Lib.hid (Below.refl _ _)) hb
  clear hr hb H
  go_wp2_with fail
  refine (pick_nat _ v1 bs1 8 0 _ HR.out (by omega) (by omega)).mono ?_
  rintro e w2 ⟨x, rfl, hx, hr, hg⟩
  have HR2 := Lib.hid hr
  have B2 := nxtG B1 hg (fun g h => by cases h; exact Nat.le_refl _)
  have z2 := hg.size
  clear hr hg B1 HR
  go_wp2_with fail
  have hb3 : Below w2.heap.size w2 ((w2.alloc (.cells #[.int .i64 (1 + (x : Int)), .int .i64 0, .int .i64 9] 3)).alloc (.cells #[.int .i64 0, .int .i64 0, .int .i64 0, .int .i64 0, .int .i64 0, .int .i64 1, .int .i64 2] 3)) := ((Below.refl _ _).alloc (Nat.le_refl _) _).alloc (by simp) _
  refine (pick_nat _ v1 bs1 7 1 _ (HR2.out.below hb3 (by omega) (fun h0 g hg => by have := lowV.out h0 g hg; omega)) (by omega) (by omega)).mono ?_
  rintro e w3 ⟨x2, rfl, hx2, hr, hg⟩
  have hrow1 := ((Row.new w2 3 (ints [1 + (x : Int), 0, 9])).alloc (.cells #[.int .i64 0, .int .i64 0, .int .i64 0, .int .i64 0, .int .i64 0, .int .i64 1, .int .i64 2] 3)).grown hg (some_ne (by omega))
  have hrow2 := (Row.new (w2.alloc (.cells #[.int .i64 (1 + (x : Int)), .int .i64 0, .int .i64 9] 3)) 3 (ints [0, 0, 0, 0, 0, 1, 2])).grown hg (some_ne (by simp; omega))
  obtain ⟨j, hj, hj4⟩ := row_nat hrow2 (n := 3) (by simp) hx2
  obtain ⟨m, hm, m0, m1⟩ := row_at hrow1 (P := fun y => 0 ≤ y ∧ y ≤ 9) (by simp; omega) hj4
  simp only [World.size_alloc] at hj
  have B3 := nxt B2 hb3
  have B4 := nxtG B3 hg (fun g h => by cases h; omega)
  have HR3 := Lib.hid hr
  have z3 : w.heap.size ≤ w3.heap.size := B4.out.size
  clear hr hg hrow1 hrow2 hb3 HR2 B2 B3
  go_wp2_with fail
  refine (binNumbers_any _ v1 bs1 m 9 _ _ HR3.out (by omega) (by omega) (by omega)).mono ?_
  rintro e w4 ⟨u, xs, p4, rfl, hG, hxl, -, -, -, -, hg⟩
  have HG := Lib.hid (hG.low z3)
  have B5 := nxtG B4 hg (fun g h => by cases h; exact Nat.le_refl _)
  clear hG hg
  go_wp2
  go_ret2
  exact ⟨_, xs, m, rfl, HG.out, hxl, m0, m1, B5.out⟩
end Go.Proofs.YtkekacnnjmbelaaDoor
