/- sameStack at equal stacks -/
import Derived.Test.YtmdjkaghjljbfaaDoorStackLaw
namespace Go.Proofs.YtmdjkaghjljbfaaDoor
open Go.RowKit
theorem sameStack_same (v u : Value) (xs : List Int) {m : Int} (w : World) (h : Ints w v xs) (g : Ints w u xs) :
    Calls Tryd.prog 15 #[.agg #[v, .int .i64 m], .agg #[u, .int .i64 m]] w fun e w' => e = .returned (.bool true) ∧ Below w.heap.size w w' := by
  obtain ⟨ad, c, hv, hmax, _⟩ := h.open
  subst hv
  obtain ⟨ad2, c2, hu, _, _⟩ := g.open
  subst hu
  have hb : Below w.heap.size w ((w.alloc (.cells #[.slice ad xs.length c, .int .i64 m] 25)).alloc (.cells #[.slice ad2 xs.length c2, .int .i64 m] 25)) := ((Below.refl _ _).alloc (Nat.le_refl _) _).alloc (by simp) _
  have H := Lib.hid (h.mono hb (Nat.le_refl _))
  have G := Lib.hid (g.mono hb (Nat.le_refl _))
  have HB := Lib.hid hb
  clear h g hb
  have hmm : (m == m) = true := by simp
  go_enter Tryd.func15, Tryd.ntmps15
  go_wp2_with fail
  refine (sameInts_same _ _ xs _ H.out G.out).mono ?_
  rintro e w1 ⟨rfl, hb⟩
  have B1 : Hid (Below w.heap.size w w1) := HB.out.trans (hb.mono HB.out.size)
  clear hb HB H G
  go_wp2
  go_ret
  exact ⟨rfl, B1.out⟩
theorem sameInts_some (v u : Value) (xs ys : List Int) (w : World) (h : Ints w v xs) (g : Ints w u ys) :
    Calls Tryd.prog 23 #[v, u] w fun e w' => ∃ b, e = .returned (.bool b) ∧ Below w.heap.size w w' := by
  obtain ⟨ad, c, rfl, hmax, hop⟩ := h.open
  obtain ⟨ad2, c2, rfl, hmax2, hop2⟩ := g.open
  unfold maxLen at hmax hmax2
  have HOP := Lib.hid hop
  have HOP2 := Lib.hid hop2
  clear hop hop2 h g
  by_cases hl : xs.length = ys.length
  case neg =>
    have hl' : ((xs.length : Int) != (ys.length : Int)) = true := by simp; omega
    have hl2 : ((xs.length : Int) == (ys.length : Int)) = false := by simp; omega
    clear hl
    go_enter Tryd.func23, Tryd.ntmps23
    go_wp2
    go_ret
    exact ⟨_, rfl, Below.refl _ _⟩
  have hop2 := HOP2.out
  rw [← hl] at hop2 hmax2 ⊢
  clear HOP2
  have HOP2 := Lib.hid hop2
  clear hl hop2
  go_enter Tryd.func23, Tryd.ntmps23
  go_wp2
  go_loopw [5] (fun i wr => ∃ k : Nat, k ≤ xs.length ∧ i = .int .i64 k ∧ Below w.heap.size w wr) (fun i _ => xs.length - (intOf i).toNat)
  case atStart => exact ⟨0, Nat.zero_le _, rfl, Below.refl _ _⟩
  case round =>
    obtain ⟨k, hk, rfl, hb⟩ := hrel
    by_cases hlt : k < xs.length
    · obtain ⟨b, off, rfl, hcell⟩ := HOP.out k hlt
      obtain ⟨b2, off2, rfl, hcell2⟩ := HOP2.out k hlt
      have hc1 := hcell k hlt
      have hc1 : wr.cell? ⟨b, off + k, none⟩ = some (iv xs k) := (hb.cell (p := ⟨b, off + k, none⟩) (World.block_lt_of_cell? w _ hc1)).trans hc1
      have hc2 := hcell2 k hlt
      have hc2 : wr.cell? ⟨b2, off2 + k, none⟩ = some (iv ys k) := (hb.cell (p := ⟨b2, off2 + k, none⟩) (World.block_lt_of_cell? w _ hc2)).trans hc2
      clear hcell hcell2
      obtain ⟨x, hx⟩ : ∃ x, iv xs k = .int .i64 x := ⟨_, rfl⟩
      obtain ⟨y, hy⟩ : ∃ y, iv ys k = .int .i64 y := ⟨_, rfl⟩
      rw [hx] at hc1
      rw [hy] at hc2
      have HB := Lib.hid hb
      clear hb hx hy
      by_cases hxy : x = y
      · subst hxy
        go_wp2
        go_quiet (fail)
        go_wp2
        go_roundw
        case rel => exact ⟨k + 1, hlt, by go_num, below_drewN HB.out _⟩
        case measure => simp [intOf]; omega
      · have h1 : (x == y) = false := by simpa using hxy
        have h2 : (x != y) = true := by simpa using hxy
        clear hxy
        go_wp2
        go_quiet (fail)
        go_wp2
        go_ret
        exact ⟨_, rfl, below_drewN HB.out _⟩
    · obtain rfl : k = xs.length := by omega
      have HB := Lib.hid hb
      clear hb
      go_wp2
      go_ret
      exact ⟨_, rfl, HB.out⟩
theorem sameStack_some (v u : Value) (xs ys : List Int) (m n : Int) (w : World) (h : Ints w v xs) (g : Ints w u ys) :
    Calls Tryd.prog 15 #[.agg #[v, .int .i64 m], .agg #[u, .int .i64 n]] w fun e w' => ∃ b, e = .returned (.bool b) ∧ Below w.heap.size w w' := by
  obtain ⟨ad, c, hv, hmax, _⟩ := h.open
  subst hv
  obtain ⟨ad2, c2, hu, _, _⟩ := g.open
  subst hu
  have hb : Below w.heap.size w ((w.alloc (.cells #[.slice ad xs.length c, .int .i64 m] 25)).alloc (.cells #[.slice ad2 ys.length c2, .int .i64 n] 25)) := ((Below.refl _ _).alloc (Nat.le_refl _) _).alloc (by simp) _
  have H := Lib.hid (h.mono hb (Nat.le_refl _))
  have G := Lib.hid (g.mono hb (Nat.le_refl _))
  have HB := Lib.hid hb
  clear h g hb
  by_cases e : m = n
  · subst e
    have hmm : (m == m) = true := by simp
    go_enter Tryd.func15, Tryd.ntmps15
    go_wp2_with fail
    refine (sameInts_some _ _ xs ys _ H.out G.out).mono ?_
    rintro e w1 ⟨b, rfl, hb⟩
    have B1 : Hid (Below w.heap.size w w1) := HB.out.trans (hb.mono HB.out.size)
    clear hb HB H G
    go_wp2
    go_ret
    exact ⟨_, rfl, B1.out⟩
  · have hmm : (m == n) = false := by simpa using e
    clear e
    go_enter Tryd.func15, Tryd.ntmps15
    go_wp2
    go_ret
    exact ⟨_, rfl, HB.out⟩
end Go.Proofs.YtmdjkaghjljbfaaDoor
