/- contracts of the helpers at stacks, and of StackValid -/
import Derived.Test.YtmdjkaghjljbfaaDoorTrace
import Derived.Test.YtmdjkaghjljbfaaDoorInts
import Derived.Lib.SliceRun
namespace Go.Proofs.YtmdjkaghjljbfaaDoor
open Go.RowKit
/-- a good cell -/
def cellOk (cs : List Int) (m : Int) (k : Nat) : Bool := inB (cs[k]?.getD 0) 0 100000 && !(decide (m ≤ (k : Int)) && (cs[k]?.getD 0 != 0))
def stackB (cs : List Int) (m : Int) : Bool := decide (cs.length = 8) && (inB m 0 8 && (List.range cs.length).all (cellOk cs m))
theorem stackB_iff {cs : List Int} {m : Int} : stackB cs m = true ↔ cs.length = 8 ∧ inB m 0 8 = true ∧ ∀ k, k < cs.length → cellOk cs m k = true := by
  simp only [stackB, Bool.and_eq_true, decide_eq_true_eq, List.all_eq_true, List.mem_range]
theorem stackB_no {cs : List Int} {m : Int} (h : stackB cs m = true → False) : stackB cs m = false := by
  cases e : stackB cs m
  · rfl
  · exact absurd e (fun e => h e)
theorem impl_StackValid (v : Value) (cs : List Int) (m : Int) (w : World) (h : Ints w v cs) :
    Calls Tryd.prog 9 #[.agg #[v, .int .i64 m]] w fun e w' => e = .returned (.bool (stackB cs m)) ∧ Below w.heap.size w w' := by
  obtain ⟨ad, c, hv, hmax, hop⟩ := h.open
  subst hv
  unfold maxLen at hmax
  have HB : Hid (Below w.heap.size w (w.alloc (.cells #[.slice ad cs.length c, .int .i64 m] 25))) := (Below.refl _ _).alloc (Nat.le_refl _) _
  have HOP := Lib.hid hop
  clear hop h
  by_cases hl : cs.length = 8
  case neg =>
    rw [stackB_no (fun h => hl (stackB_iff.1 h).1)]
    have hl' : ((cs.length : Int) != 8) = true := by simp; omega
    clear hl
    go_enter Tryd.func9, Tryd.ntmps9
    go_wp2
    go_ret
    exact ⟨rfl, HB.out⟩
  have hl' : ((cs.length : Int) != 8) = false := by simp; omega
  cases hin : inB m 0 8
  · rw [stackB_no (fun h => by have := (stackB_iff.1 h).2.1; rw [hin] at this; cases this)]
    have HI := Lib.hid hin
    clear hin hl
    go_enter Tryd.func9, Tryd.ntmps9
    go_wp2_with (go_at_call 26; refine (in_any _ _ _ _).mono ?_; rw [HI.out]; rintro e w' ⟨rfl, rfl⟩)
    go_ret
    exact ⟨rfl, HB.out⟩
  · have HL := Lib.hid hl
    have HI := Lib.hid hin
    have hl8 : cs.length ≤ 8 := by omega
    clear hin hl
    go_enter Tryd.func9, Tryd.ntmps9
    go_wp2_with (go_at_call 26; refine (in_any _ _ _ _).mono ?_; rw [HI.out]; rintro e w' ⟨rfl, rfl⟩)
    go_loop [18] (fun i => ∃ k : Nat, k ≤ cs.length ∧ i = .int .i64 k ∧ Hid (∀ j, j < k → cellOk cs m j = true)) (fun i => cs.length - (intOf i).toNat)
    case atStart => exact ⟨0, Nat.zero_le _, rfl, fun j hj => by omega⟩
    case round =>
      obtain ⟨k, hk, rfl, hN⟩ := hrel
      by_cases hlt : k < cs.length
      · obtain ⟨b, off, rfl, hcell⟩ := HOP.out k hlt
        have hc1 := hcell k hlt
        obtain ⟨y, hy⟩ : ∃ y, cs[k]?.getD 0 = y := ⟨_, rfl⟩
        have hx : iv cs k = .int .i64 y := by rw [iv, hy]
        rw [hx] at hc1
        have hlb := World.block_lt_of_cell? w _ hc1
        have hlb' : ¬ w.heap.size = b := fun e => by have : b < w.heap.size := hlb; omega
        have hcok : cellOk cs m k = (inB y 0 100000 && !(decide (m ≤ (k : Int)) && (y != 0))) := by unfold cellOk; rw [hy]
        cases hi1 : inB y 0 100000
        · rw [hi1] at hcok
          have HNo : Hid (stackB cs m = false) := stackB_no (fun h => by have := (stackB_iff.1 h).2.2 k hlt; rw [hcok] at this; simp at this)
          have HI1 := Lib.hid hi1
          clear hcell hx hy hi1 hcok
          go_wp2_with (go_at_call 26; refine (in_any _ _ _ _).mono ?_; rw [HI1.out]; rintro e w' ⟨rfl, rfl⟩)
          go_ret
          exact ⟨ret_bool HNo.out.symm, HB.out⟩
        rw [hi1] at hcok
        have HI1 := Lib.hid hi1
        by_cases hmk : m ≤ (k : Int)
        · by_cases hy0 : y = 0
          · have HA : Hid (∀ j, j < k + 1 → cellOk cs m j = true) := fun j hj => by
              by_cases e : j = k
              · subst e; rw [hcok, hy0]; simp
              · exact hN.out j (by omega)
            subst hy0
            clear hcell hx hy hi1 hcok
            go_wp2_with (go_at_call 26; refine (in_any _ _ _ _).mono ?_; rw [HI1.out]; rintro e w' ⟨rfl, rfl⟩)
            go_round
            case rel => exact ⟨k + 1, hlt, by go_num, HA⟩
            case measure => simp [intOf]; omega
          · have HNo : Hid (stackB cs m = false) := stackB_no (fun h => by have := (stackB_iff.1 h).2.2 k hlt; rw [hcok] at this; simp [hmk, hy0] at this)
            have hy1 : (y != 0) = true := by simpa using hy0
            clear hcell hx hy hi1 hcok hy0
            go_wp2_with (go_at_call 26; refine (in_any _ _ _ _).mono ?_; rw [HI1.out]; rintro e w' ⟨rfl, rfl⟩)
            go_ret
            exact ⟨ret_bool HNo.out.symm, HB.out⟩
        · have HA : Hid (∀ j, j < k + 1 → cellOk cs m j = true) := fun j hj => by
            by_cases e : j = k
            · subst e; rw [hcok]; simp; omega
            · exact hN.out j (by omega)
          have hmk2 : decide (m ≤ (k : Int)) = false := by simpa using hmk
          clear hcell hx hy hi1 hcok
          go_wp2_with (go_at_call 26; refine (in_any _ _ _ _).mono ?_; rw [HI1.out]; rintro e w' ⟨rfl, rfl⟩)
          go_round
          case rel => exact ⟨k + 1, hlt, by go_num, HA⟩
          case measure => simp [intOf]; omega
      · obtain rfl : k = cs.length := by omega
        have HOK : Hid (stackB cs m = true) := stackB_iff.2 ⟨HL.out, HI.out, hN.out⟩
        go_wp2
        go_ret
        exact ⟨ret_bool HOK.out.symm, HB.out⟩
theorem spec_StackValid (v : Value) (cs : List Int) (m : Int) (w : World) (h : Ints w v cs) :
    Calls Tryd.prog 10 #[.agg #[v, .int .i64 m]] w fun e w' => e = .returned (.bool (stackB cs m)) ∧ Below w.heap.size w w' := by
  obtain ⟨ad, c, hv, hmax, hop⟩ := h.open
  subst hv
  unfold maxLen at hmax
  have HB : Hid (Below w.heap.size w (w.alloc (.cells #[.slice ad cs.length c, .int .i64 m] 25))) := (Below.refl _ _).alloc (Nat.le_refl _) _
  have HOP := Lib.hid hop
  clear hop h
  go_enter Tryd.func10, Tryd.ntmps10
  go_wp2
  go_loop [3] (fun i => ∃ k : Nat, k ≤ cs.length ∧ i = .int .i64 k ∧ Hid (∀ j, j < k → cellOk cs m j = true)) (fun i => cs.length - (intOf i).toNat)
  case atStart => exact ⟨0, Nat.zero_le _, rfl, fun j hj => by omega⟩
  case round =>
    obtain ⟨k, hk, rfl, hN⟩ := hrel
    by_cases hlt : k < cs.length
    · obtain ⟨b, off, rfl, hcell⟩ := HOP.out k hlt
      have hc1 := hcell k hlt
      obtain ⟨y, hy⟩ : ∃ y, cs[k]?.getD 0 = y := ⟨_, rfl⟩
      have hx : iv cs k = .int .i64 y := by rw [iv, hy]
      rw [hx] at hc1
      have hlb := World.block_lt_of_cell? w _ hc1
      have hlb' : ¬ w.heap.size = b := fun e => by have : b < w.heap.size := hlb; omega
      have hcok : cellOk cs m k = (inB y 0 100000 && !(decide (m ≤ (k : Int)) && (y != 0))) := by unfold cellOk; rw [hy]
      cases hi1 : inB y 0 100000
      · rw [hi1] at hcok
        have HNo : Hid (stackB cs m = false) := stackB_no (fun h => by have := (stackB_iff.1 h).2.2 k hlt; rw [hcok] at this; simp at this)
        have HI1 := Lib.hid hi1
        clear hcell hx hy hi1 hcok
        go_wp2_with (go_at_call 27; refine (l1In_any _ _ _ _).mono ?_; rw [HI1.out]; rintro e w' ⟨rfl, rfl⟩)
        go_ret
        exact ⟨ret_bool HNo.out.symm, HB.out⟩
      rw [hi1] at hcok
      have HI1 := Lib.hid hi1
      by_cases hmk : m ≤ (k : Int)
      · by_cases hy0 : y = 0
        · have HA : Hid (∀ j, j < k + 1 → cellOk cs m j = true) := fun j hj => by
            by_cases e : j = k
            · subst e; rw [hcok, hy0]; simp
            · exact hN.out j (by omega)
          subst hy0
          clear hcell hx hy hi1 hcok
          go_wp2_with (go_at_call 27; refine (l1In_any _ _ _ _).mono ?_; rw [HI1.out]; rintro e w' ⟨rfl, rfl⟩)
          go_round
          case rel => exact ⟨k + 1, hlt, by go_num, HA⟩
          case measure => simp [intOf]; omega
        · have HNo : Hid (stackB cs m = false) := stackB_no (fun h => by have := (stackB_iff.1 h).2.2 k hlt; rw [hcok] at this; simp [hmk, hy0] at this)
          have hy1 : (y != 0) = true := by simpa using hy0
          clear hcell hx hy hi1 hcok hy0
          go_wp2_with (go_at_call 27; refine (l1In_any _ _ _ _).mono ?_; rw [HI1.out]; rintro e w' ⟨rfl, rfl⟩)
          go_ret
          exact ⟨ret_bool HNo.out.symm, HB.out⟩
      · have HA : Hid (∀ j, j < k + 1 → cellOk cs m j = true) := fun j hj => by
          by_cases e : j = k
          · subst e; rw [hcok]; simp; omega
          · exact hN.out j (by omega)
        have hmk2 : decide (m ≤ (k : Int)) = false := by simpa using hmk
        clear hcell hx hy hi1 hcok
        go_wp2_with (go_at_call 27; refine (l1In_any _ _ _ _).mono ?_; rw [HI1.out]; rintro e w' ⟨rfl, rfl⟩)
        go_round
        case rel => exact ⟨k + 1, hlt, by go_num, HA⟩
        case measure => simp [intOf]; omega
    · obtain rfl : k = cs.length := by omega
      by_cases hl : cs.length = 8
      · have hl' : ((cs.length : Int) == 8) = true := by simp; omega
        have HOK : Hid (stackB cs m = inB m 0 8) := by
          unfold Hid
          cases hin : inB m 0 8
          · exact stackB_no (fun h => by have := (stackB_iff.1 h).2.1; rw [hin] at this; cases this)
          · exact stackB_iff.2 ⟨hl, hin, hN.out⟩
        obtain ⟨t, ht⟩ : ∃ t, inB m 0 8 = t := ⟨_, rfl⟩
        rw [ht] at HOK
        have HT := Lib.hid ht
        clear hl ht
        go_wp2_with (go_at_call 27; refine (l1In_any _ _ _ _).mono ?_; rw [HT.out]; rintro e w' ⟨rfl, rfl⟩)
        go_ret
        exact ⟨ret_bool HOK.out.symm, HB.out⟩
      · have hl' : ((cs.length : Int) == 8) = false := by simp; omega
        have HNo : Hid (stackB cs m = false) := stackB_no (fun h => hl (stackB_iff.1 h).1)
        clear hl
        go_wp2
        go_ret
        exact ⟨ret_bool HNo.out.symm, HB.out⟩
end Go.Proofs.YtmdjkaghjljbfaaDoor
