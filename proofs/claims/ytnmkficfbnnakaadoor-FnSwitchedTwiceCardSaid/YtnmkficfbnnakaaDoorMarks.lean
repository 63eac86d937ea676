/- the laws' comparison of lists of marks, at equal lists -/
import Derived.Test.YtnmkficfbnnakaaDoorInts
namespace Go.Proofs.YtnmkficfbnnakaaDoor
open Go.RowKit
theorem sameMarks_same (v u : Value) (xs : List Bool) (w : World) (h : Bools w v xs) (g : Bools w u xs) :
    Calls Tryd.prog 13 #[v, u] w fun e w' => e = .returned (.bool true) ∧ Below w.heap.size w w' := by
  obtain ⟨ad, c, rfl, hmax, hop⟩ := h.open
  obtain ⟨ad2, c2, rfl, _, hop2⟩ := g.open
  unfold maxLen at hmax
  have HOP := Lib.hid hop
  have HOP2 := Lib.hid hop2
  clear hop hop2 h g
  go_enter Tryd.func13, Tryd.ntmps13
  go_wp2
  go_loopw [5] (fun i wr => ∃ k : Nat, k ≤ xs.length ∧ i = .int .i64 k ∧ Below w.heap.size w wr) (fun i _ => xs.length - (intOf i).toNat)
  case atStart => exact ⟨0, Nat.zero_le _, rfl, Below.refl _ _⟩
  case round =>
    obtain ⟨k, hk, rfl, hb⟩ := hrel
    by_cases hlt : k < xs.length
    · obtain ⟨b, off, rfl, hcell⟩ := HOP.out k hlt
      obtain ⟨b2, off2, rfl, hcell2⟩ := HOP2.out k hlt
      have hc1 := hcell k hlt
      have hc1 : wr.cell? ⟨b, off + k, none⟩ = some (bv xs k) := (hb.cell (p := ⟨b, off + k, none⟩) (World.block_lt_of_cell? w _ hc1)).trans hc1
      have hc2 := hcell2 k hlt
      have hc2 : wr.cell? ⟨b2, off2 + k, none⟩ = some (bv xs k) := (hb.cell (p := ⟨b2, off2 + k, none⟩) (World.block_lt_of_cell? w _ hc2)).trans hc2
      clear hcell hcell2
      obtain ⟨x, hx⟩ : ∃ x, bv xs k = .bool x := ⟨_, rfl⟩
      rw [hx] at hc1 hc2
      have HB := Lib.hid hb
      clear hb hx
      cases x
      all_goals
        go_wp2
        go_quiet (fail)
        go_wp2
        go_roundw
        case rel => exact ⟨k + 1, hlt, by go_num, below_drewN HB.out _⟩
        case measure => simp [intOf]; omega
    · obtain rfl : k = xs.length := by omega
      have HB := Lib.hid hb
      clear hb
      go_wp2
      go_ret
      exact ⟨rfl, HB.out⟩
end Go.Proofs.YtnmkficfbnnakaaDoor
