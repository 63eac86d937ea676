/- the draw of CompactTrace; traces compared -/
import Derived.Test.YtmdjkaghjljbfaaDoorPick
import Derived.Test.YtmdjkaghjljbfaaDoorTrace
namespace Go.Proofs.YtmdjkaghjljbfaaDoor
open Go.RowKit
theorem equalAcc_same (v u : Value) (xs : List (Int × Int × Bool)) (w : World) (h : Accs w v xs) (g : Accs w u xs) :
    Calls Tryd.prog 34 #[v, u] w fun e w' => e = .returned (.bool true) ∧ Below w.heap.size w w' := by
  obtain ⟨ad, c, rfl, hmax, hop⟩ := h.open
  obtain ⟨ad2, c2, rfl, _, hop2⟩ := g.open
  unfold maxLen at hmax
  have HOP := Lib.hid hop
  have HOP2 := Lib.hid hop2
  clear hop hop2 h g
  go_enter Tryd.func34, Tryd.ntmps34
  go_wp2
  go_loopw [13] (fun i wr => ∃ k : Nat, k ≤ xs.length ∧ i = .int .i64 k ∧ Hid (Below w.heap.size w wr)) (fun i _ => xs.length - (intOf i).toNat)
  case atStart => exact ⟨0, Nat.zero_le _, rfl, Below.refl _ _⟩
  case round =>
    obtain ⟨k, hk, rfl, hB⟩ := hrel
    by_cases hlt : k < xs.length
    · obtain ⟨b, off, rfl, hcell⟩ := HOP.out k hlt
      obtain ⟨b2, off2, rfl, hcell2⟩ := HOP2.out k hlt
      obtain ⟨c0, c1, c2⟩ := hcell k hlt
      obtain ⟨d0, d1, d2⟩ := hcell2 k hlt
      have hbk := World.block_lt_of_cell? w _ c0
      have hbk2 := World.block_lt_of_cell? w _ d0
      have c0 := (hB.out.cell (p := ⟨b, off + k * 3, none⟩) hbk).trans c0
      have c1 := (hB.out.cell (p := ⟨b, off + k * 3 + 1, none⟩) hbk).trans c1
      have c2 := (hB.out.cell (p := ⟨b, off + k * 3 + 2, none⟩) hbk).trans c2
      have d0 := (hB.out.cell (p := ⟨b2, off2 + k * 3, none⟩) hbk2).trans d0
      have d1 := (hB.out.cell (p := ⟨b2, off2 + k * 3 + 1, none⟩) hbk2).trans d1
      have d2 := (hB.out.cell (p := ⟨b2, off2 + k * 3 + 2, none⟩) hbk2).trans d2
      clear hcell hcell2 hbk hbk2
      obtain ⟨x, hx⟩ : ∃ x, aat xs k = x := ⟨_, rfl⟩
      rw [hx] at c0 c1 c2 d0 d1 d2
      clear hx
      obtain ⟨r, p, t⟩ := x
      cases t
      all_goals
        go_wp2
        go_quiet (fail)
        go_wp2
        go_roundw
        case rel => exact ⟨k + 1, hlt, by go_num, below_drewN hB.out _⟩
        case measure => simp [intOf]; omega
    · obtain rfl : k = xs.length := by omega
      go_wp2
      go_ret
      exact ⟨rfl, hB.out⟩
theorem sameTrace_same (v u : Value) (xs : List (Int × Int × Bool)) (w : World) (h : Accs w v xs) (g : Accs w u xs) :
    Calls Tryd.prog 16 #[v, u] w fun e w' => e = .returned (.bool true) ∧ Below w.heap.size w w' := by
  have H := Lib.hid h
  have G := Lib.hid g
  clear h g
  go_enter Tryd.func16, Tryd.ntmps16
  go_wp2_with fail
  refine (equalAcc_same _ _ xs _ H.out G.out).mono ?_
  rintro e w' ⟨rfl, hb⟩
  have HB := Lib.hid hb
  clear hb
  go_wp2
  go_ret
  exact ⟨rfl, HB.out⟩
end Go.Proofs.YtmdjkaghjljbfaaDoor
