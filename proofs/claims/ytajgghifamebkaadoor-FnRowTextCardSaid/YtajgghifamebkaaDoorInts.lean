/- contracts of the helper functions of the exact laws, at lists of ints and of bools: to.., eq.., mark.., held.. -/
import Derived.Test.YtajgghifamebkaaDoorChecked
import Derived.Test.YtajgghifamebkaaDoorMem
namespace Go.Proofs.YtajgghifamebkaaDoor
set_option linter.unusedSimpArgs false
set_option linter.unusedVariables false
open Go.RowKit
theorem Tryd.infoInt : (Tryd.prog.info? 3).map (fun i => (i.zero, i.size, i.bytes)) = some (some (.int .i64 0), 1, 8) := by kernel_rfl
theorem Tryd.infoBool : (Tryd.prog.info? 4).map (fun i => (i.zero, i.size, i.bytes)) = some (some (.bool false), 1, 1) := by kernel_rfl
def OwnI (w : World) (b : Option Nat) (v : Value) (xs : List Int) : Prop := Own w b 3 1 v xs.length (ints xs)
def OwnB (w : World) (b : Option Nat) (v : Value) (xs : List Bool) : Prop := Own w b 4 1 v xs.length (bools xs)
theorem OwnI.ints {w b v xs} (h : OwnI w b v xs) : Ints w v xs := Own.view h
theorem OwnB.bools {w b v xs} (h : OwnB w b v xs) : Bools w v xs := Own.view h
theorem OwnI.mono {w w' : World} {b v xs} (h : OwnI w b v xs) (hb : Below w.heap.size w w') : OwnI w' b v xs := Own.mono h hb (Nat.le_refl _)
theorem OwnB.mono {w w' : World} {b v xs} (h : OwnB w b v xs) (hb : Below w.heap.size w w') : OwnB w' b v xs := Own.mono h hb (Nat.le_refl _)

theorem OwnI.grown {w w' : World} {b b' v xs} (h : OwnI w b v xs) (hg : w.grownBy w' b') (hne : ∀ g, b = some g → b' ≠ some g) : OwnI w' b v xs := Own.grown h hg hne
theorem OwnB.grown {w w' : World} {b b' v xs} (h : OwnB w b v xs) (hg : w.grownBy w' b') (hne : ∀ g, b = some g → b' ≠ some g) : OwnB w' b v xs := Own.grown h hg hne
theorem OwnI.lt {w : World} {b v xs} (h : OwnI w b v xs) : ∀ g, b = some g → g < w.heap.size := Own.lt h
theorem OwnB.lt {w : World} {b v xs} (h : OwnB w b v xs) : ∀ g, b = some g → g < w.heap.size := Own.lt h
theorem eqIntS_same (v u : Value) (xs : List Int) (w : World) (h : Ints w v xs) (g : Ints w u xs) :
    Calls Tryd.prog 64 #[v, u] w fun e w' => e = .returned (.bool true) ∧ Below w.heap.size w w' := by
  obtain ⟨ad, c, rfl, hmax, hop⟩ := h.open
  obtain ⟨ad2, c2, rfl, _, hop2⟩ := g.open
  unfold maxLen at hmax
  have HOP := Lib.hid hop
  have HOP2 := Lib.hid hop2
  clear hop hop2 h g
  go_enter Tryd.func64, Tryd.ntmps64
  go_wp2
  go_loopw [5] (fun i wr => ∃ k : Nat, k ≤ xs.length ∧ i = .int .i64 k ∧ Below w.heap.size w wr) (fun i _ => xs.length - (intOf i).toNat)
  case atStart => exact ⟨0, Nat.zero_le _, rfl, Below.refl _ _⟩
  case round =>
    obtain ⟨k, hk, rfl, hb⟩ := hrel
    by_cases hlt : k < xs.length
    · obtain ⟨b, off, rfl, hcell⟩ := HOP.out k hlt
      obtain ⟨b2, off2, rfl, hcell2⟩ := HOP2.out k hlt
      have hc1 := hcell k hlt
      have hc1 : wr.cell? ⟨b, off + k, none⟩ = some (iv xs k) := (hb.cell (p := ⟨b, off + k, none⟩) (World.block_lt_of_cell? w _ hc1)).trans hc1
      have hc2 := hcell2 k hlt
      have hc2 : wr.cell? ⟨b2, off2 + k, none⟩ = some (iv xs k) := (hb.cell (p := ⟨b2, off2 + k, none⟩) (World.block_lt_of_cell? w _ hc2)).trans hc2
      clear hcell hcell2
      obtain ⟨x, hx⟩ : ∃ x, iv xs k = .int .i64 x := ⟨_, rfl⟩
      rw [hx] at hc1 hc2
      have HB := Lib.hid hb
      clear hb hx
      go_wp2
      go_quiet (fail)
      go_wp2
      go_roundw
      case rel => exact ⟨k + 1, hlt, by go_num, below_drewN HB.out _⟩
      case measure => simp [intOf]; omega
    · obtain rfl : k = xs.length := by omega
      have HB := Lib.hid hb
      clear hb
      go_wp2
      go_ret
      exact ⟨rfl, HB.out⟩
theorem sameInts_same (v u : Value) (xs : List Int) (w : World) (h : Ints w v xs) (g : Ints w u xs) :
    Calls Tryd.prog 62 #[v, u] w fun e w' => e = .returned (.bool true) ∧ Below w.heap.size w w' := by
  obtain ⟨ad, c, rfl, hmax, hop⟩ := h.open
  obtain ⟨ad2, c2, rfl, _, hop2⟩ := g.open
  unfold maxLen at hmax
  have HOP := Lib.hid hop
  have HOP2 := Lib.hid hop2
  clear hop hop2 h g
  go_enter Tryd.func62, Tryd.ntmps62
  go_wp2
  go_loopw [5] (fun i wr => ∃ k : Nat, k ≤ xs.length ∧ i = .int .i64 k ∧ Below w.heap.size w wr) (fun i _ => xs.length - (intOf i).toNat)
  case atStart => exact ⟨0, Nat.zero_le _, rfl, Below.refl _ _⟩
  case round =>
    obtain ⟨k, hk, rfl, hb⟩ := hrel
    by_cases hlt : k < xs.length
    · obtain ⟨b, off, rfl, hcell⟩ := HOP.out k hlt
      obtain ⟨b2, off2, rfl, hcell2⟩ := HOP2.out k hlt
      have hc1 := hcell k hlt
      have hc1 : wr.cell? ⟨b, off + k, none⟩ = some (iv xs k) := (hb.cell (p := ⟨b, off + k, none⟩) (World.block_lt_of_cell? w _ hc1)).trans hc1
      have hc2 := hcell2 k hlt
      have hc2 : wr.cell? ⟨b2, off2 + k, none⟩ = some (iv xs k) := (hb.cell (p := ⟨b2, off2 + k, none⟩) (World.block_lt_of_cell? w _ hc2)).trans hc2
      clear hcell hcell2
      obtain ⟨x, hx⟩ : ∃ x, iv xs k = .int .i64 x := ⟨_, rfl⟩
      rw [hx] at hc1 hc2
      have HB := Lib.hid hb
      clear hb hx
      go_wp2
      go_quiet (fail)
      go_wp2
      go_roundw
      case rel => exact ⟨k + 1, hlt, by go_num, below_drewN HB.out _⟩
      case measure => simp [intOf]; omega
    · obtain rfl : k = xs.length := by omega
      have HB := Lib.hid hb
      clear hb
      go_wp2
      go_ret
      exact ⟨rfl, HB.out⟩

theorem markIntS_any (v : Value) (b : Option Nat) (xs : List Int) (k0 : Int) (w : World) (h : OwnI w b v xs) (h0 : 0 ≤ k0) (h1 : k0 + xs.length ≤ 4611686018427387904) :
    Calls Tryd.prog 66 #[v, .int .i64 k0] w fun e w' => e = .returned (.int .i64 (k0 + xs.length)) ∧ OwnI w' b v (marks k0 xs.length) ∧ w.grownBy w' b := by
  obtain ⟨hl, hm, ⟨h3, rfl, a, c, rfl⟩ | ⟨h3, g, c, tail, rfl, rfl, hc, hr⟩⟩ := h
  · obtain rfl : xs = [] := List.eq_nil_of_length_eq_zero h3
    go_enter Tryd.func66, Tryd.ntmps66
    go_wp2
    go_loop [1, 5] (fun k i => i = .int .i64 0 ∧ k = .int .i64 k0) (fun _ _ => 0)
    case atStart => exact ⟨rfl, rfl⟩
    case round =>
      obtain ⟨rfl, rfl⟩ := hrel
      go_wp2
      go_ret
      exact ⟨by simp, ⟨by simp [marks, tab], Nat.zero_le _, .inl ⟨by simp, rfl, a, c, by simp⟩⟩, grown_refl _ _⟩
  · unfold maxLen at hm
    rw [ints_tab, ← mix_zero xs.length (iv (marks k0 xs.length))] at hr
    go_enter Tryd.func66, Tryd.ntmps66
    go_wp2
    go_loopw [1, 5] (fun kk i wr => ∃ k : Nat, k ≤ xs.length ∧ i = .int .i64 k ∧ kk = .int .i64 (k0 + k) ∧ Row wr g 3 (tab xs.length (mix k (iv (marks k0 xs.length)) (iv xs)) ++ tail) ∧ w.grownBy wr (some g)) (fun _ i _ => xs.length - (intOf i).toNat)
    case atStart => exact ⟨0, Nat.zero_le _, rfl, by simp, hr, grown_refl _ _⟩
    case round =>
      obtain ⟨k, hk, rfl, rfl, hrow, hgr⟩ := hrel
      have p0 : 0 ≤ k0 + (k : Int) := by omega
      by_cases hlt : k < xs.length
      · have hc2 : wr.cell? ⟨g, k, none⟩ = some (iv xs k) := hrow.cell (mix_at' _ _ _ _ _ hlt)
        obtain ⟨x, hx⟩ : ∃ x, iv xs k = .int .i64 x := ⟨_, rfl⟩
        rw [hx] at hc2
        have hf2 := hrow.free k
        have HX : Hid (iv (marks k0 xs.length) k = .int .i64 (k0 + k)) := iv_marks _ _ _ hlt
        have HR := Lib.hid hrow
        have HB := Lib.hid hgr
        clear hrow hgr hx hr
        go_wp2
        go_roundw
        case rel => exact ⟨k + 1, hlt, by go_num, by go_num, by rw [← mix_step' _ _ _ _ _ hlt, HX.out]; exact HR.out.set k _, grown_set HB.out _ _⟩
        case measure => simp [intOf]; omega
      · obtain rfl : k = xs.length := by omega
        rw [mix_full] at hrow
        have HR := Lib.hid hrow
        have HB := Lib.hid hgr
        clear hrow hgr hr
        go_wp2
        go_ret
        refine ⟨rfl, ⟨by simp, by simpa [maxLen] using hm, .inr ⟨by simpa using h3, g, c, tail, rfl, by simp, by simpa using hc, ?_⟩⟩, HB.out⟩
        rw [ints_tab, marks_length]
        exact HR.out
theorem heldIntS_any (v : Value) (n : Nat) (k0 : Int) (w : World) (h : Ints w v (marks k0 n)) (h0 : 0 ≤ k0) (h1 : k0 + n ≤ 4611686018427387904) :
    Calls Tryd.prog 67 #[v, .int .i64 k0] w fun e w' => e = .returned (.int .i64 (k0 + n)) ∧ Below w.heap.size w w' := by
  obtain ⟨ad, c, rfl, hmax, hop⟩ := h.open
  rw [marks_length] at hmax hop
  rw [marks_length]
  unfold maxLen at hmax
  have HOP := Lib.hid hop
  clear hop h
  go_enter Tryd.func67, Tryd.ntmps67
  go_wp2
  go_loopw [1, 5] (fun kk i wr => ∃ k : Nat, k ≤ n ∧ i = .int .i64 k ∧ kk = .int .i64 (k0 + k) ∧ Below w.heap.size w wr) (fun _ i _ => n - (intOf i).toNat)
  case atStart => exact ⟨0, Nat.zero_le _, rfl, by simp, Below.refl _ _⟩
  case round =>
    obtain ⟨k, hk, rfl, rfl, hb⟩ := hrel
    have p0 : 0 ≤ k0 + (k : Int) := by omega
    by_cases hlt : k < n
    · obtain ⟨b, off, rfl, hcell⟩ := HOP.out k hlt
      have hc1 := hcell k hlt
      have hc1 : wr.cell? ⟨b, off + k, none⟩ = some (iv (marks k0 n) k) := (hb.cell (p := ⟨b, off + k, none⟩) (World.block_lt_of_cell? w _ hc1)).trans hc1
      rw [iv_marks _ _ _ hlt] at hc1
      have HB := Lib.hid hb
      clear hcell hb
      go_wp2
      go_roundw
      case rel => exact ⟨k + 1, hlt, by go_num, by go_num, HB.out⟩
      case measure => simp [intOf]; omega
    · obtain rfl : k = n := by omega
      have HB := Lib.hid hb
      clear hb
      go_wp2
      go_ret
      exact ⟨rfl, HB.out⟩

end Go.Proofs.YtajgghifamebkaaDoor
