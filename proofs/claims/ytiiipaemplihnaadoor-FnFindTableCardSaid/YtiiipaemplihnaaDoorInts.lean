/- contracts of the helper functions of the exact laws, at lists of ints and of bools: to.., eq.., mark.., held.. -/
import Derived.Test.YtiiipaemplihnaaDoorChecked
import Derived.Test.YtiiipaemplihnaaDoorMem
namespace Go.Proofs.YtiiipaemplihnaaDoor
open Go.RowKit
theorem Tryd.infoInt : (Tryd.prog.info? 3).map (fun i => (i.zero, i.size, i.bytes)) = some (some (.int .i64 0), 1, 8) := by kernel_rfl
theorem Tryd.infoBool : (Tryd.prog.info? 4).map (fun i => (i.zero, i.size, i.bytes)) = some (some (.bool false), 1, 1) := by kernel_rfl
def OwnI (w : World) (b : Option Nat) (v : Value) (xs : List Int) : Prop := Own w b 3 1 v xs.length (ints xs)
def OwnB (w : World) (b : Option Nat) (v : Value) (xs : List Bool) : Prop := Own w b 4 1 v xs.length (bools xs)
theorem OwnI.ints {w b v xs} (h : OwnI w b v xs) : Ints w v xs := Own.view h
theorem OwnB.bools {w b v xs} (h : OwnB w b v xs) : Bools w v xs := Own.view h
theorem OwnI.mono {w w' : World} {b v xs} (h : OwnI w b v xs) (hb : Below w.heap.size w w') : OwnI w' b v xs := Own.mono h hb (Nat.le_refl _)
theorem OwnB.mono {w w' : World} {b v xs} (h : OwnB w b v xs) (hb : Below w.heap.size w w') : OwnB w' b v xs := Own.mono h hb (Nat.le_refl _)

theorem OwnI.grown {w w' : World} {b b' v xs} (h : OwnI w b v xs) (hg : w.grownBy w' b') (hne : ∀ g, b = some g → b' ≠ some g) : OwnI w' b v xs := Own.grown h hg hne
theorem OwnB.grown {w w' : World} {b b' v xs} (h : OwnB w b v xs) (hg : w.grownBy w' b') (hne : ∀ g, b = some g → b' ≠ some g) : OwnB w' b v xs := Own.grown h hg hne
theorem OwnI.lt {w : World} {b v xs} (h : OwnI w b v xs) : ∀ g, b = some g → g < w.heap.size := Own.lt h
theorem OwnB.lt {w : World} {b v xs} (h : OwnB w b v xs) : ∀ g, b = some g → g < w.heap.size := Own.lt h
theorem sameInts_same (v u : Value) (xs : List Int) (w : World) (h : Ints w v xs) (g : Ints w u xs) :
    Calls Tryd.prog 31 #[v, u] w fun e w' => e = .returned (.bool true) ∧ Below w.heap.size w w' := by
  obtain ⟨ad, c, rfl, hmax, hop⟩ := h.open
  obtain ⟨ad2, c2, rfl, _, hop2⟩ := g.open
  unfold maxLen at hmax
  have HOP := Lib.hid hop
  have HOP2 := Lib.hid hop2
  clear hop hop2 h g
  go_enter Tryd.func31, Tryd.ntmps31
  go_wp2
  go_loopw [5] (fun i wr => ∃ k : Nat, k ≤ xs.length ∧ i = .int .i64 k ∧ Below w.heap.size w wr) (fun i _ => xs.length - (intOf i).toNat)
  case atStart => exact ⟨0, Nat.zero_le _, rfl, Below.refl _ _⟩
  case round =>
    obtain ⟨k, hk, rfl, hb⟩ := hrel
    by_cases hlt : k < xs.length
    · obtain ⟨b, off, rfl, hcell⟩ := HOP.out k hlt
      obtain ⟨b2, off2, rfl, hcell2⟩ := HOP2.out k hlt
      have hc1 := hcell k hlt
      have hc1 : wr.cell? ⟨b, off + k, none⟩ = some (iv xs k) := (hb.cell (p := ⟨b, off + k, none⟩) (World.block_lt_of_cell? w _ hc1)).trans hc1
      have hc2 := hcell2 k hlt
      have hc2 : wr.cell? ⟨b2, off2 + k, none⟩ = some (iv xs k) := (hb.cell (p := ⟨b2, off2 + k, none⟩) (World.block_lt_of_cell? w _ hc2)).trans hc2
      clear hcell hcell2
      obtain ⟨x, hx⟩ : ∃ x, iv xs k = .int .i64 x := ⟨_, rfl⟩
      rw [hx] at hc1 hc2
      have HB := Lib.hid hb
      clear hb hx
      go_wp2
      go_quiet (fail)
      go_wp2
      go_roundw
      case rel => exact ⟨k + 1, hlt, by go_num, below_drewN HB.out _⟩
      case measure => simp [intOf]; omega
    · obtain rfl : k = xs.length := by omega
      have HB := Lib.hid hb
      clear hb
      go_wp2
      go_ret
      exact ⟨rfl, HB.out⟩


end Go.Proofs.YtiiipaemplihnaaDoor
