/- the draw of CompactTrace; traces compared -/
import Derived.Test.YtkekacnnjmbelaaDoorPick
import Derived.Test.YtkekacnnjmbelaaDoorTrace
namespace Go.Proofs.YtkekacnnjmbelaaDoor
open Go.RowKit
theorem draw_CompactTrace (v : Value) (bs : List Int) (w : World) (h : Bts w v bs) : Calls Tryd.prog 10 #[v] w (DrawnInt (-1) 257 w) := by
  have H := Lib.hid h
  clear h
  go_enter Tryd.func10, Tryd.ntmps10
  go_wp2_with fail
  refine (open_any v bs w H.out).mono ?_
  rintro e w1 ⟨v1, bs1, rfl, hr, hb⟩
  have HR := Lib.hid hr
  have lowR := hr.low.1
  have lowV := Lib.hid hr.low.2
  have B1 := nxt (Lib.hid (Below.refl _ _)) hb
  clear hr hb H
  go_wp2_with fail
  refine (pick_nat _ v1 bs1 20 0 _ HR.out (by omega) (by omega)).mono ?_
  rintro e w2 ⟨x, rfl, hx, hr, hg⟩
  have HR2 := Lib.hid hr
  have B2 := nxtG B1 hg (fun g h => by cases h; exact Nat.le_refl _)
  have z2 := hg.size
  clear hr hg B1 HR
  go_wp2_with fail
  have hb3 : Below w2.heap.size w2 ((w2.alloc (.cells #[.int .i64 x, .int .i64 256, .int .i64 257, .int .i64 (-1)] 3)).alloc (.cells #[.int .i64 0, .int .i64 0, .int .i64 0, .int .i64 0, .int .i64 1, .int .i64 2, .int .i64 3] 3)) := ((Below.refl _ _).alloc (Nat.le_refl _) _).alloc (by simp) _
  refine (pick_nat _ v1 bs1 7 1 _ (HR2.out.below hb3 (by omega) (fun h0 g hg => by have := lowV.out h0 g hg; omega)) (by omega) (by omega)).mono ?_
  rintro e w3 ⟨x2, rfl, hx2, hr, hg⟩
  have hrow1 := ((Row.new w2 3 (ints [(x : Int), 256, 257, -1])).alloc (.cells #[.int .i64 0, .int .i64 0, .int .i64 0, .int .i64 0, .int .i64 1, .int .i64 2, .int .i64 3] 3)).grown hg (some_ne (by omega))
  have hrow2 := (Row.new (w2.alloc (.cells #[.int .i64 x, .int .i64 256, .int .i64 257, .int .i64 (-1)] 3)) 3 (ints [0, 0, 0, 0, 1, 2, 3])).grown hg (some_ne (by simp; omega))
  obtain ⟨j, hj, hj4⟩ := row_nat hrow2 (n := 4) (by simp) hx2
  obtain ⟨m, hm, m0, m1⟩ := row_at hrow1 (P := fun y => -1 ≤ y ∧ y ≤ 257) (by simp; omega) hj4
  simp only [World.size_alloc] at hj
  have B3 := nxt B2 hb3
  have B4 := nxtG B3 hg (fun g h => by cases h; omega)
  clear hr hg hrow1 hrow2 hb3 HR2 B2 B3
  go_wp2
  go_ret
  exact ⟨m, rfl, m0, m1, B4.out⟩
theorem equalAcc_same (v u : Value) (xs : List (Int × Int × Bool)) (w : World) (h : Accs w v xs) (g : Accs w u xs) :
    Calls Tryd.prog 33 #[v, u] w fun e w' => e = .returned (.bool true) ∧ Below w.heap.size w w' := by
  obtain ⟨ad, c, rfl, hmax, hop⟩ := h.open
  obtain ⟨ad2, c2, rfl, _, hop2⟩ := g.open
  unfold maxLen at hmax
  have HOP := Lib.hid hop
  have HOP2 := Lib.hid hop2
  clear hop hop2 h g
  go_enter Tryd.func33, Tryd.ntmps33
  go_wp2
  go_loopw [13] (fun i wr => ∃ k : Nat, k ≤ xs.length ∧ i = .int .i64 k ∧ Hid (Below w.heap.size w wr)) (fun i _ => xs.length - (intOf i).toNat)
  case atStart => exact ⟨0, Nat.zero_le _, rfl, Below.refl _ _⟩
  case round =>
    obtain ⟨k, hk, rfl, hB⟩ := hrel
    by_cases hlt : k < xs.length
    · obtain ⟨b, off, rfl, hcell⟩ := HOP.out k hlt
      obtain ⟨b2, off2, rfl, hcell2⟩ := HOP2.out k hlt
      obtain ⟨c0, c1, c2⟩ := hcell k hlt
      obtain ⟨d0, d1, d2⟩ := hcell2 k hlt
      have hbk := World.block_lt_of_cell? w _ c0
      have hbk2 := World.block_lt_of_cell? w _ d0
      have c0 := (hB.out.cell (p := ⟨b, off + k * 3, none⟩) hbk).trans c0
      have c1 := (hB.out.cell (p := ⟨b, off + k * 3 + 1, none⟩) hbk).trans c1
      have c2 := (hB.out.cell (p := ⟨b, off + k * 3 + 2, none⟩) hbk).trans c2
      have d0 := (hB.out.cell (p := ⟨b2, off2 + k * 3, none⟩) hbk2).trans d0
      have d1 := (hB.out.cell (p := ⟨b2, off2 + k * 3 + 1, none⟩) hbk2).trans d1
      have d2 := (hB.out.cell (p := ⟨b2, off2 + k * 3 + 2, none⟩) hbk2).trans d2
      clear hcell hcell2 hbk hbk2
      obtain ⟨x, hx⟩ : ∃ x, aat xs k = x := ⟨_, rfl⟩
      rw [hx] at c0 c1 c2 d0 d1 d2
      clear hx
      obtain ⟨r, p, t⟩ := x
      cases t
      all_goals
        go_wp2
        go_quiet (fail)
        go_wp2
        go_roundw
        case rel => exact ⟨k + 1, hlt, by go_num, below_drewN hB.out _⟩
        case measure => simp [intOf]; omega
    · obtain rfl : k = xs.length := by omega
      go_wp2
      go_ret
      exact ⟨rfl, hB.out⟩
theorem sameTrace_same (v u : Value) (xs : List (Int × Int × Bool)) (w : World) (h : Accs w v xs) (g : Accs w u xs) :
    Calls Tryd.prog 12 #[v, u] w fun e w' => e = .returned (.bool true) ∧ Below w.heap.size w w' := by
  have H := Lib.hid h
  have G := Lib.hid g
  clear h g
  go_enter Tryd.func12, Tryd.ntmps12
  go_wp2_with fail
  refine (equalAcc_same _ _ xs _ H.out G.out).mono ?_
  rintro e w' ⟨rfl, hb⟩
  have HB := Lib.hid hb
  clear hb
  go_wp2
  go_ret
  exact ⟨rfl, HB.out⟩
end Go.Proofs.YtkekacnnjmbelaaDoor
