/- contracts of the helpers at stacks, and of StackValid -/
import Derived.Test.YtmdjkaghjljbfaaTrace
import Derived.Test.YtmdjkaghjljbfaaInts
import Derived.Lib.SliceRun
namespace Go.Proofs.Ytmdjkaghjljbfaa
open Go.RowKit
theorem szIntS_any (v : Value) (xs : List Int) (w : World) (h : Ints w v xs) : Calls Try.prog 27 #[v, .int .i64 1048576] w fun e w' => e = .returned (.int .i64 (if xs.length ≤ 1048576 then 1048576 - (xs.length : Int) else -1)) ∧ w = w' := by
  obtain ⟨ad, c, rfl, hmax, _⟩ := h.open
  unfold maxLen at hmax
  clear h
  by_cases hb : xs.length ≤ 1048576
  · rw [if_pos hb]
    go_enter Try.func27, Try.ntmps27
    go_wp2
    go_ret
    exact ⟨rfl, rfl⟩
  · rw [if_neg hb]
    go_enter Try.func27, Try.ntmps27
    go_wp2
    go_ret
    exact ⟨rfl, rfl⟩
theorem szStack_any (v : Value) (xs : List Int) (m : Int) (w : World) (h : Ints w v xs) : Calls Try.prog 7 #[.agg #[v, .int .i64 m], .int .i64 1048576] w fun e w' => e = .returned (.int .i64 (if xs.length ≤ 1048576 then 1048576 - (xs.length : Int) else -1)) ∧ Below w.heap.size w w' := by
  obtain ⟨ad, c, hv, hmax, _⟩ := h.open
  subst hv
  have hb : Below w.heap.size w (w.alloc (.cells #[.slice ad xs.length c, .int .i64 m] 24)) := (Below.refl _ _).alloc (Nat.le_refl _) _
  have H := Lib.hid (h.mono hb (Nat.le_refl _))
  have HB := Lib.hid hb
  clear h hb
  by_cases hl : xs.length ≤ 1048576
  · rw [if_pos hl]
    go_enter Try.func7, Try.ntmps7
    go_wp2_with (go_at_call 27; refine (szIntS_any _ xs _ H.out).mono ?_; rw [if_pos hl]; rintro e w' ⟨rfl, rfl⟩)
    go_ret
    exact ⟨rfl, HB.out⟩
  · rw [if_neg hl]
    go_enter Try.func7, Try.ntmps7
    go_wp2_with (go_at_call 27; refine (szIntS_any _ xs _ H.out).mono ?_; rw [if_neg hl]; rintro e w' ⟨rfl, rfl⟩)
    go_ret
    exact ⟨rfl, HB.out⟩
theorem toStack_own (v : Value) (xs : List Int) {m : Int} (w : World) (h : Ints w v xs) (hn : xs.length ≤ 1048576) :
    Calls Try.prog 9 #[.agg #[v, .int .i64 m]] w fun e w' => ∃ v' b, e = .returned (.agg #[v', .int .i64 m]) ∧ OwnI w' b v' xs ∧ From w.heap.size b ∧ Below w.heap.size w w' := by
  obtain ⟨ad, c, hv, hmax, _⟩ := h.open
  subst hv
  have hb3 : Below w.heap.size w (((w.alloc (.cells #[.slice ad xs.length c, .int .i64 m] 24)).alloc (.cells #[.slice none 0 0, .int .i64 0] 27)).alloc (.cells #[.slice none 0 0, .int .i64 0] 27)) := (((Below.refl _ _).alloc (Nat.le_refl _) _).alloc (by simp) _).alloc (by simp; omega) _
  have r0 := ((Row.new w 24 [.slice ad xs.length c, .int .i64 m]).alloc (.cells #[.slice none 0 0, .int .i64 0] 27)).alloc (.cells #[.slice none 0 0, .int .i64 0] 27)
  have r1 := (Row.new (w.alloc (.cells #[.slice ad xs.length c, .int .i64 m] 24)) 27 [.slice none 0 0, .int .i64 0]).alloc (.cells #[.slice none 0 0, .int .i64 0] 27)
  have r2 := Row.new ((w.alloc (.cells #[.slice ad xs.length c, .int .i64 m] 24)).alloc (.cells #[.slice none 0 0, .int .i64 0] 27)) 27 [.slice none 0 0, .int .i64 0]
  simp only [World.size_alloc] at r1 r2
  have H := Lib.hid (h.mono hb3 (Nat.le_refl _))
  have HB3 := Lib.hid hb3
  have R0 := Lib.hid r0
  have R1 := Lib.hid r1
  have R2 := Lib.hid r2
  clear h hb3 r0 r1 r2
  go_enter Try.func9, Try.ntmps9
  go_wp2_with fail
  refine (toIntS_own _ xs _ H.out hn).mono ?_
  rintro e w1 ⟨v1, b1, rfl, ho, hf, hb⟩
  have r0 := R0.out.mono hb R0.out.lt
  have r1 := R1.out.mono hb R1.out.lt
  have r2 := R2.out.mono hb R2.out.lt
  obtain ⟨a1, c1, hv1, _, _⟩ := ho.ints.open
  subst hv1
  have HO := Lib.hid ho
  have HF : Hid (∀ g, b1 = some g → w.heap.size + 1 + 1 < g) := fun g hg => by have := hf g hg; simp at this; omega
  have B1 : Hid (Below w.heap.size w w1) := HB3.out.trans (hb.mono HB3.out.size)
  have k0 : w1.cell? ⟨w.heap.size, 1, none⟩ = some (.int .i64 m) := r0.cell rfl
  have k10 : w1.cell? ⟨w.heap.size + 1, 0, none⟩ = some (.slice none 0 0) := r1.cell rfl
  have k11 : w1.cell? ⟨w.heap.size + 1, 1, none⟩ = some (.int .i64 0) := r1.cell rfl
  have k20 : w1.cell? ⟨w.heap.size + 1 + 1, 0, none⟩ = some (.slice none 0 0) := r2.cell rfl
  have k21 : w1.cell? ⟨w.heap.size + 1 + 1, 1, none⟩ = some (.int .i64 0) := r2.cell rfl
  have f10 := r1.free 0
  have f11 := r1.free 1
  have f20 := r2.free 0
  have f21 := r2.free 1
  clear ho hf hb r0 r1 r2 R0 R1 R2 HB3
  go_wp2
  refine bodyPost_ret (v := .agg #[.slice a1 xs.length c1, .int .i64 m]) (by simp [results, Try.results9, go_sem, k10, k11, k20, k21]) rfl ⟨_, b1, rfl, ?_, fun g hg => by have := HF.out g hg; omega, ?_⟩
  · exact (((HO.out.setOther _ _ _ (fun x hx => by have := HF.out x hx; omega)).setOther _ _ _ (fun x hx => by have := HF.out x hx; omega)).setOther _ _ _ (fun x hx => by have := HF.out x hx; omega)).setOther _ _ _ (fun x hx => by have := HF.out x hx; omega)
  · exact (((B1.out.setCell (p := ⟨w.heap.size + 1 + 1, 0, none⟩) (by show w.heap.size ≤ w.heap.size + 1 + 1; omega) _).setCell (p := ⟨w.heap.size + 1 + 1, 1, none⟩) (by show w.heap.size ≤ w.heap.size + 1 + 1; omega) _).setCell (p := ⟨w.heap.size + 1, 0, none⟩) (by show w.heap.size ≤ w.heap.size + 1; omega) _).setCell (p := ⟨w.heap.size + 1, 1, none⟩) (by show w.heap.size ≤ w.heap.size + 1; omega) _
theorem eqStack_same (v u : Value) (xs : List Int) {m : Int} (w : World) (h : Ints w v xs) (g : Ints w u xs) :
    Calls Try.prog 11 #[.agg #[v, .int .i64 m], .agg #[u, .int .i64 m]] w fun e w' => e = .returned (.bool true) ∧ Below w.heap.size w w' := by
  obtain ⟨ad, c, hv, hmax, _⟩ := h.open
  subst hv
  obtain ⟨ad2, c2, hu, _, _⟩ := g.open
  subst hu
  have hb : Below w.heap.size w ((w.alloc (.cells #[.slice ad xs.length c, .int .i64 m] 27)).alloc (.cells #[.slice ad2 xs.length c2, .int .i64 m] 27)) := ((Below.refl _ _).alloc (Nat.le_refl _) _).alloc (by simp) _
  have H := Lib.hid (h.mono hb (Nat.le_refl _))
  have G := Lib.hid (g.mono hb (Nat.le_refl _))
  have HB := Lib.hid hb
  clear h g hb
  have hmm : (m != m) = false := by simp
  go_enter Try.func11, Try.ntmps11
  go_wp2_with fail
  refine (eqIntS_same _ _ xs _ H.out G.out).mono ?_
  rintro e w1 ⟨rfl, hb⟩
  have r0 := ((Row.new w 27 [.slice ad xs.length c, .int .i64 m]).alloc (.cells #[.slice ad2 xs.length c2, .int .i64 m] 27)).mono hb (by simp; omega)
  have r1 := (Row.new (w.alloc (.cells #[.slice ad xs.length c, .int .i64 m] 27)) 27 [.slice ad2 xs.length c2, .int .i64 m]).mono hb (by simp)
  simp only [World.size_alloc] at r1
  have k0 : w1.cell? ⟨w.heap.size, 1, none⟩ = some (.int .i64 m) := r0.cell rfl
  have k1 : w1.cell? ⟨w.heap.size + 1, 1, none⟩ = some (.int .i64 m) := r1.cell rfl
  have B1 : Hid (Below w.heap.size w w1) := HB.out.trans (hb.mono HB.out.size)
  clear hb r0 r1 HB H G
  go_wp2
  go_ret
  exact ⟨rfl, B1.out⟩
theorem markStack_any (v : Value) (b : Option Nat) (xs : List Int) (k0 : Int) {m : Int} (w : World) (h : OwnI w b v xs) (h0 : 0 ≤ k0) (h1 : k0 + xs.length ≤ 4611686018427387904) :
    Calls Try.prog 21 #[.agg #[v, .int .i64 m], .int .i64 k0] w fun e w' => e = .returned (.int .i64 (k0 + xs.length)) ∧ OwnI w' b v (marks k0 xs.length) ∧ w.grownBy w' b := by
  obtain ⟨ad, c, hv, _, _⟩ := h.ints.open
  subst hv
  have hb := (Below.refl w.heap.size w).alloc (Nat.le_refl _) (.cells #[.slice ad xs.length c, .int .i64 m] 27)
  have H := Lib.hid (h.mono hb)
  have HB := Lib.hid (grown_below (grown_refl w b) hb)
  clear h hb
  go_enter Try.func21, Try.ntmps21
  go_wp2_with fail
  refine (markIntS_any _ _ xs k0 _ H.out h0 h1).mono ?_
  rintro e w1 ⟨rfl, ho, hg⟩
  have HO := Lib.hid ho
  have HG := Lib.hid (grown_trans HB.out hg)
  clear ho hg HB H
  go_wp2
  go_ret
  exact ⟨rfl, HO.out, HG.out⟩
theorem heldStack_any (v : Value) (n : Nat) (k0 : Int) {m : Int} (w : World) (h : Ints w v (marks k0 n)) (h0 : 0 ≤ k0) (h1 : k0 + n ≤ 4611686018427387904) :
    Calls Try.prog 23 #[.agg #[v, .int .i64 m], .int .i64 k0] w fun e w' => e = .returned (.int .i64 (k0 + n)) ∧ Below w.heap.size w w' := by
  have h' := h
  obtain ⟨ad, c, hv, _, _⟩ := h'.open
  rw [marks_length] at hv
  subst hv
  have hb := (Below.refl w.heap.size w).alloc (Nat.le_refl _) (.cells #[.slice ad n c, .int .i64 m] 27)
  have H := Lib.hid (h.mono hb (Nat.le_refl _))
  have HB := Lib.hid hb
  have q2 : decide (k0 + (n : Int) < 0) = false := by simp; omega
  clear h h' hb
  go_enter Try.func23, Try.ntmps23
  go_wp2_with fail
  refine (heldIntS_any _ n k0 _ H.out h0 h1).mono ?_
  rintro e w1 ⟨rfl, hb⟩
  have HB1 : Hid (Below w.heap.size w w1) := HB.out.trans (hb.mono HB.out.size)
  clear hb HB H
  go_wp2
  go_ret
  exact ⟨rfl, HB1.out⟩
/-- a good cell -/
def cellOk (cs : List Int) (m : Int) (k : Nat) : Bool := inB (cs[k]?.getD 0) 0 100000 && !(decide (m ≤ (k : Int)) && (cs[k]?.getD 0 != 0))
def stackB (cs : List Int) (m : Int) : Bool := decide (cs.length = 8) && (inB m 0 8 && (List.range cs.length).all (cellOk cs m))
theorem stackB_iff {cs : List Int} {m : Int} : stackB cs m = true ↔ cs.length = 8 ∧ inB m 0 8 = true ∧ ∀ k, k < cs.length → cellOk cs m k = true := by
  simp only [stackB, Bool.and_eq_true, decide_eq_true_eq, List.all_eq_true, List.mem_range]
theorem stackB_no {cs : List Int} {m : Int} (h : stackB cs m = true → False) : stackB cs m = false := by
  cases e : stackB cs m
  · rfl
  · exact absurd e (fun e => h e)
theorem impl_StackValid (v : Value) (cs : List Int) (m : Int) (w : World) (h : Ints w v cs) :
    Calls Try.prog 10 #[.agg #[v, .int .i64 m]] w fun e w' => e = .returned (.bool (stackB cs m)) ∧ Below w.heap.size w w' := by
  obtain ⟨ad, c, hv, hmax, hop⟩ := h.open
  subst hv
  unfold maxLen at hmax
  have HB : Hid (Below w.heap.size w (w.alloc (.cells #[.slice ad cs.length c, .int .i64 m] 27))) := (Below.refl _ _).alloc (Nat.le_refl _) _
  have HOP := Lib.hid hop
  clear hop h
  by_cases hl : cs.length = 8
  case neg =>
    rw [stackB_no (fun h => hl (stackB_iff.1 h).1)]
    have hl' : ((cs.length : Int) != 8) = true := by simp; omega
    clear hl
    go_enter Try.func10, Try.ntmps10
    go_wp2
    go_ret
    exact ⟨rfl, HB.out⟩
  have hl' : ((cs.length : Int) != 8) = false := by simp; omega
  cases hin : inB m 0 8
  · rw [stackB_no (fun h => by have := (stackB_iff.1 h).2.1; rw [hin] at this; cases this)]
    have HI := Lib.hid hin
    clear hin hl
    go_enter Try.func10, Try.ntmps10
    go_wp2_with (go_at_call 29; refine (in_any _ _ _ _).mono ?_; rw [HI.out]; rintro e w' ⟨rfl, rfl⟩)
    go_ret
    exact ⟨rfl, HB.out⟩
  · have HL := Lib.hid hl
    have HI := Lib.hid hin
    have hl8 : cs.length ≤ 8 := by omega
    clear hin hl
    go_enter Try.func10, Try.ntmps10
    go_wp2_with (go_at_call 29; refine (in_any _ _ _ _).mono ?_; rw [HI.out]; rintro e w' ⟨rfl, rfl⟩)
    go_loop [18] (fun i => ∃ k : Nat, k ≤ cs.length ∧ i = .int .i64 k ∧ Hid (∀ j, j < k → cellOk cs m j = true)) (fun i => cs.length - (intOf i).toNat)
    case atStart => exact ⟨0, Nat.zero_le _, rfl, fun j hj => by omega⟩
    case round =>
      obtain ⟨k, hk, rfl, hN⟩ := hrel
      by_cases hlt : k < cs.length
      · obtain ⟨b, off, rfl, hcell⟩ := HOP.out k hlt
        have hc1 := hcell k hlt
        obtain ⟨y, hy⟩ : ∃ y, cs[k]?.getD 0 = y := ⟨_, rfl⟩
        have hx : iv cs k = .int .i64 y := by rw [iv, hy]
        rw [hx] at hc1
        have hlb := World.block_lt_of_cell? w _ hc1
        have hlb' : ¬ w.heap.size = b := fun e => by have : b < w.heap.size := hlb; omega
        have hcok : cellOk cs m k = (inB y 0 100000 && !(decide (m ≤ (k : Int)) && (y != 0))) := by unfold cellOk; rw [hy]
        cases hi1 : inB y 0 100000
        · rw [hi1] at hcok
          have HNo : Hid (stackB cs m = false) := stackB_no (fun h => by have := (stackB_iff.1 h).2.2 k hlt; rw [hcok] at this; simp at this)
          have HI1 := Lib.hid hi1
          clear hcell hx hy hi1 hcok
          go_wp2_with (go_at_call 29; refine (in_any _ _ _ _).mono ?_; rw [HI1.out]; rintro e w' ⟨rfl, rfl⟩)
          go_ret
          exact ⟨ret_bool HNo.out.symm, HB.out⟩
        rw [hi1] at hcok
        have HI1 := Lib.hid hi1
        by_cases hmk : m ≤ (k : Int)
        · by_cases hy0 : y = 0
          · have HA : Hid (∀ j, j < k + 1 → cellOk cs m j = true) := fun j hj => by
              by_cases e : j = k
              · subst e; rw [hcok, hy0]; simp
              · exact hN.out j (by omega)
            subst hy0
            clear hcell hx hy hi1 hcok
            go_wp2_with (go_at_call 29; refine (in_any _ _ _ _).mono ?_; rw [HI1.out]; rintro e w' ⟨rfl, rfl⟩)
            go_round
            case rel => exact ⟨k + 1, hlt, by go_num, HA⟩
            case measure => simp [intOf]; omega
          · have HNo : Hid (stackB cs m = false) := stackB_no (fun h => by have := (stackB_iff.1 h).2.2 k hlt; rw [hcok] at this; simp [hmk, hy0] at this)
            have hy1 : (y != 0) = true := by simpa using hy0
            clear hcell hx hy hi1 hcok hy0
            go_wp2_with (go_at_call 29; refine (in_any _ _ _ _).mono ?_; rw [HI1.out]; rintro e w' ⟨rfl, rfl⟩)
            go_ret
            exact ⟨ret_bool HNo.out.symm, HB.out⟩
        · have HA : Hid (∀ j, j < k + 1 → cellOk cs m j = true) := fun j hj => by
            by_cases e : j = k
            · subst e; rw [hcok]; simp; omega
            · exact hN.out j (by omega)
          have hmk2 : decide (m ≤ (k : Int)) = false := by simpa using hmk
          clear hcell hx hy hi1 hcok
          go_wp2_with (go_at_call 29; refine (in_any _ _ _ _).mono ?_; rw [HI1.out]; rintro e w' ⟨rfl, rfl⟩)
          go_round
          case rel => exact ⟨k + 1, hlt, by go_num, HA⟩
          case measure => simp [intOf]; omega
      · obtain rfl : k = cs.length := by omega
        have HOK : Hid (stackB cs m = true) := stackB_iff.2 ⟨HL.out, HI.out, hN.out⟩
        go_wp2
        go_ret
        exact ⟨ret_bool HOK.out.symm, HB.out⟩
theorem spec_StackValid (v : Value) (cs : List Int) (m : Int) (w : World) (h : Ints w v cs) :
    Calls Try.prog 8 #[.agg #[v, .int .i64 m]] w fun e w' => e = .returned (.bool (stackB cs m)) ∧ Below w.heap.size w w' := by
  obtain ⟨ad, c, hv, hmax, hop⟩ := h.open
  subst hv
  unfold maxLen at hmax
  have HB : Hid (Below w.heap.size w (w.alloc (.cells #[.slice ad cs.length c, .int .i64 m] 27))) := (Below.refl _ _).alloc (Nat.le_refl _) _
  have HOP := Lib.hid hop
  clear hop h
  go_enter Try.func8, Try.ntmps8
  go_wp2
  go_loop [3] (fun i => ∃ k : Nat, k ≤ cs.length ∧ i = .int .i64 k ∧ Hid (∀ j, j < k → cellOk cs m j = true)) (fun i => cs.length - (intOf i).toNat)
  case atStart => exact ⟨0, Nat.zero_le _, rfl, fun j hj => by omega⟩
  case round =>
    obtain ⟨k, hk, rfl, hN⟩ := hrel
    by_cases hlt : k < cs.length
    · obtain ⟨b, off, rfl, hcell⟩ := HOP.out k hlt
      have hc1 := hcell k hlt
      obtain ⟨y, hy⟩ : ∃ y, cs[k]?.getD 0 = y := ⟨_, rfl⟩
      have hx : iv cs k = .int .i64 y := by rw [iv, hy]
      rw [hx] at hc1
      have hlb := World.block_lt_of_cell? w _ hc1
      have hlb' : ¬ w.heap.size = b := fun e => by have : b < w.heap.size := hlb; omega
      have hcok : cellOk cs m k = (inB y 0 100000 && !(decide (m ≤ (k : Int)) && (y != 0))) := by unfold cellOk; rw [hy]
      cases hi1 : inB y 0 100000
      · rw [hi1] at hcok
        have HNo : Hid (stackB cs m = false) := stackB_no (fun h => by have := (stackB_iff.1 h).2.2 k hlt; rw [hcok] at this; simp at this)
        have HI1 := Lib.hid hi1
        clear hcell hx hy hi1 hcok
        go_wp2_with (go_at_call 28; refine (l1In_any _ _ _ _).mono ?_; rw [HI1.out]; rintro e w' ⟨rfl, rfl⟩)
        go_ret
        exact ⟨ret_bool HNo.out.symm, HB.out⟩
      rw [hi1] at hcok
      have HI1 := Lib.hid hi1
      by_cases hmk : m ≤ (k : Int)
      · by_cases hy0 : y = 0
        · have HA : Hid (∀ j, j < k + 1 → cellOk cs m j = true) := fun j hj => by
            by_cases e : j = k
            · subst e; rw [hcok, hy0]; simp
            · exact hN.out j (by omega)
          subst hy0
          clear hcell hx hy hi1 hcok
          go_wp2_with (go_at_call 28; refine (l1In_any _ _ _ _).mono ?_; rw [HI1.out]; rintro e w' ⟨rfl, rfl⟩)
          go_round
          case rel => exact ⟨k + 1, hlt, by go_num, HA⟩
          case measure => simp [intOf]; omega
        · have HNo : Hid (stackB cs m = false) := stackB_no (fun h => by have := (stackB_iff.1 h).2.2 k hlt; rw [hcok] at this; simp [hmk, hy0] at this)
          have hy1 : (y != 0) = true := by simpa using hy0
          clear hcell hx hy hi1 hcok hy0
          go_wp2_with (go_at_call 28; refine (l1In_any _ _ _ _).mono ?_; rw [HI1.out]; rintro e w' ⟨rfl, rfl⟩)
          go_ret
          exact ⟨ret_bool HNo.out.symm, HB.out⟩
      · have HA : Hid (∀ j, j < k + 1 → cellOk cs m j = true) := fun j hj => by
          by_cases e : j = k
          · subst e; rw [hcok]; simp; omega
          · exact hN.out j (by omega)
        have hmk2 : decide (m ≤ (k : Int)) = false := by simpa using hmk
        clear hcell hx hy hi1 hcok
        go_wp2_with (go_at_call 28; refine (l1In_any _ _ _ _).mono ?_; rw [HI1.out]; rintro e w' ⟨rfl, rfl⟩)
        go_round
        case rel => exact ⟨k + 1, hlt, by go_num, HA⟩
        case measure => simp [intOf]; omega
    · obtain rfl : k = cs.length := by omega
      by_cases hl : cs.length = 8
      · have hl' : ((cs.length : Int) == 8) = true := by simp; omega
        have HOK : Hid (stackB cs m = inB m 0 8) := by
          unfold Hid
          cases hin : inB m 0 8
          · exact stackB_no (fun h => by have := (stackB_iff.1 h).2.1; rw [hin] at this; cases this)
          · exact stackB_iff.2 ⟨hl, hin, hN.out⟩
        obtain ⟨t, ht⟩ : ∃ t, inB m 0 8 = t := ⟨_, rfl⟩
        rw [ht] at HOK
        have HT := Lib.hid ht
        clear hl ht
        go_wp2_with (go_at_call 28; refine (l1In_any _ _ _ _).mono ?_; rw [HT.out]; rintro e w' ⟨rfl, rfl⟩)
        go_ret
        exact ⟨ret_bool HOK.out.symm, HB.out⟩
      · have hl' : ((cs.length : Int) == 8) = false := by simp; omega
        have HNo : Hid (stackB cs m = false) := stackB_no (fun h => hl (stackB_iff.1 h).1)
        clear hl
        go_wp2
        go_ret
        exact ⟨ret_bool HNo.out.symm, HB.out⟩
theorem impl_StackValid_own (v : Value) (cs : List Int) (m : Int) (w : World) (h : Ints w v cs) (_ : cs.length ≤ 1048576) : Calls Try.prog 10 #[.agg #[v, .int .i64 m]] w fun e w' => e = .returned (.bool (stackB cs m)) ∧ Below w.heap.size w w' := impl_StackValid v cs m w h
theorem spec_StackValid_own (v : Value) (cs : List Int) (m : Int) (w : World) (h : Ints w v cs) (_ : cs.length ≤ 1048576) : Calls Try.prog 8 #[.agg #[v, .int .i64 m]] w fun e w' => e = .returned (.bool (stackB cs m)) ∧ Below w.heap.size w w' := spec_StackValid v cs m w h
end Go.Proofs.Ytmdjkaghjljbfaa
