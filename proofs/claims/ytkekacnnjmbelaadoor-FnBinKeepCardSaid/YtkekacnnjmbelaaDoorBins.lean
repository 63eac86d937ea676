/- contracts of BinLoads, both -/
import Derived.Test.YtkekacnnjmbelaaDoorRes
import Derived.Test.YtkekacnnjmbelaaDoorScal
namespace Go.Proofs.YtkekacnnjmbelaaDoor
open Go.RowKit
def binOk (xs : List Int) (m : Int) (k : Nat) : Bool := inB (xs[k]?.getD 0) 0 (m - 1)
def binsOk (xs : List Int) (m : Int) : Bool := inB m 1 8 && (decide (xs.length ≤ 128) && (List.range xs.length).all (binOk xs m))
def cntAt (xs : List Int) (k b : Nat) : Int := ((xs.take k).count (b : Int) : Nat)
def loadsV (xs : List Int) (m : Int) : List Int := if binsOk xs m then tab m.toNat (cntAt xs xs.length) else []
theorem binsOk_many {xs : List Int} {m : Int} (h : binsOk xs m = true) : 1 ≤ m ∧ m ≤ 8 ∧ xs.length ≤ 128 ∧ ∀ k, k < xs.length → binOk xs m k = true := by
  simp only [binsOk, Bool.and_eq_true, decide_eq_true_eq, List.all_eq_true, List.mem_range] at h
  obtain ⟨h1, h2, h3⟩ := h
  have := inB_iff.1 h1
  exact ⟨this.1, this.2, h2, h3⟩
theorem binsOk_mk {xs : List Int} {m : Int} (h1 : 1 ≤ m) (h2 : m ≤ 8) (h3 : xs.length ≤ 128) (h4 : ∀ k, k < xs.length → binOk xs m k = true) : binsOk xs m = true := by
  simp only [binsOk, Bool.and_eq_true, decide_eq_true_eq, List.all_eq_true, List.mem_range]
  exact ⟨inB_true h1 h2, h3, h4⟩
theorem binsOk_m {xs : List Int} {m : Int} (h : inB m 1 8 = false) : binsOk xs m = false := by simp [binsOk, h]
theorem binsOk_len {xs : List Int} {m : Int} (h : 128 < xs.length) : binsOk xs m = false := by
  have : decide (xs.length ≤ 128) = false := by simpa using h
  simp [binsOk, this]
theorem binsOk_bad {xs : List Int} {m : Int} {k : Nat} (hk : k < xs.length) (h : binOk xs m k = false) : binsOk xs m = false := by
  cases hb : binsOk xs m
  · rfl
  · have := (binsOk_many hb).2.2.2 k hk
    rw [h] at this; cases this
theorem loadsV_le (xs : List Int) (m : Int) : (loadsV xs m).length ≤ 8 := by
  unfold loadsV
  split
  · rename_i h
    have := binsOk_many h
    simp; omega
  · simp
theorem cntAt_le (xs : List Int) (k b : Nat) : 0 ≤ cntAt xs k b ∧ cntAt xs k b ≤ k := by
  unfold cntAt
  have h1 := List.count_le_length (a := (b : Int)) (l := xs.take k)
  have h2 := List.length_take_le k xs
  omega
theorem cnt_zero (n : Nat) (xs : List Int) : tab n (fun _ => Value.int .i64 0) = tab n (fun b => .int .i64 (cntAt xs 0 b)) := tab_congr fun i _ => by simp [cntAt]
theorem cnt_step {n k : Nat} {xs : List Int} {y : Nat} (hk : k < xs.length) (hy : xs[k]?.getD 0 = (y : Int)) :
    (tab n (fun b => Value.int .i64 (cntAt xs k b))).set y (.int .i64 (cntAt xs k y + 1)) = tab n (fun b => .int .i64 (cntAt xs (k + 1) b)) := by
  rw [tab_set]
  have hy' : xs[k] = (y : Int) := by simpa [hk] using hy
  refine tab_congr fun i _ => ?_
  have e : cntAt xs (k + 1) i = cntAt xs k i + if i = y then 1 else 0 := by
    unfold cntAt
    rw [List.take_succ_eq_append_getElem hk, hy', List.count_append, List.count_singleton]
    by_cases h : i = y
    · subst h; simp
    · have : ¬ (y : Int) = (i : Int) := by omega
      simp [h, this]
  rw [e]
  by_cases h : i = y
  · subst h; simp
  · simp [h]
/-- how many are less than k -/
def cumC (xs : List Int) (k : Nat) : Nat := xs.countP (fun x => decide (x < (k : Int)))
theorem cumC_zero {xs : List Int} (h : ∀ x ∈ xs, 0 ≤ x) : cumC xs 0 = 0 := by
  unfold cumC
  rw [List.countP_eq_zero]
  intro x hx
  have := h x hx
  simp; omega
theorem cumC_all {xs : List Int} {M : Nat} (h : ∀ x ∈ xs, x < M) : cumC xs M = xs.length := by
  unfold cumC
  rw [List.countP_eq_length]
  intro x hx
  simpa using h x hx
theorem cumC_le (xs : List Int) (k : Nat) : cumC xs k ≤ xs.length := List.countP_le_length
theorem cumC_step (k : Nat) : ∀ xs : List Int, cumC xs (k + 1) = cumC xs k + xs.count (k : Int)
  | [] => rfl
  | x :: xs => by
    have ih := cumC_step k xs
    unfold cumC at ih ⊢
    rw [List.countP_cons, List.countP_cons, List.count_cons, ih]
    by_cases h1 : x < (k : Int)
    · rw [decide_eq_true h1, decide_eq_true (show x < ((k + 1 : Nat) : Int) by omega), show (x == (k : Int)) = false from beq_eq_false_iff_ne.2 (by omega)]
      simp only [if_true, Bool.false_eq_true, if_false]
      omega
    · by_cases h2 : x = (k : Int)
      · rw [decide_eq_false h1, decide_eq_true (show x < ((k + 1 : Nat) : Int) by omega), show (x == (k : Int)) = true from beq_iff_eq.2 h2]
        simp only [if_true, Bool.false_eq_true, if_false]
        omega
      · rw [decide_eq_false h1, decide_eq_false (show ¬ x < ((k + 1 : Nat) : Int) by omega), show (x == (k : Int)) = false from beq_eq_false_iff_ne.2 h2]
        simp only [Bool.false_eq_true, if_false]
        omega
theorem cumC_next (xs : List Int) (k : Nat) : (cumC xs (k + 1) : Int) = (cumC xs k : Int) + cntAt xs xs.length k := by
  rw [cumC_step]
  unfold cntAt
  rw [List.take_of_length_le (Nat.le_refl _)]
  push_cast; rfl
theorem binOk_at {xs : List Int} {m : Int} (h : ∀ k, k < xs.length → binOk xs m k = true) : ∀ x ∈ xs, 0 ≤ x ∧ x < m := by
  intro x hx
  obtain ⟨i, hi, rfl⟩ := List.getElem_of_mem hx
  have := h i hi
  unfold binOk at this
  rw [List.getElem?_eq_getElem hi] at this
  have := inB_iff.1 this
  simp at this
  omega
theorem impl_BinLoads (v : Value) (xs : List Int) (m : Int) (w : World) (h : Ints w v xs) : Calls Tryd.prog 20 #[v, .int .i64 m] w (IntsPost (loadsV xs m) w) := by
  obtain ⟨i0, hi, hz0, hz1, hz2⟩ := info_parts Tryd.infoInt
  obtain ⟨ad, c, rfl, hmax, hop⟩ := h.open
  unfold maxLen at hmax
  have HOP := Lib.hid hop
  clear hop h
  have HF0 : Hid (∀ w', binsOk xs m = false → Below w.heap.size w w' → IntsPost (loadsV xs m) w (.returned (.slice none 0 0)) w') := fun w' hb hbel => by
    unfold loadsV; rw [hb]; exact ⟨_, rfl, Gr.nil _ _ _ _, hbel⟩
  by_cases hbig : 128 < xs.length
  · have HB : Hid (binsOk xs m = false) := binsOk_len hbig
    go_enter Tryd.func20, Tryd.ntmps20
    go_wp2
    go_ret
    exact HF0.out _ HB.out (Below.refl _ _)
  have hbig' : decide ((128 : Int) < (xs.length : Int)) = false := by simp; omega
  cases hin : inB m 1 8
  · have HB : Hid (binsOk xs m = false) := binsOk_m hin
    have HI := Lib.hid hin
    clear hin
    go_enter Tryd.func20, Tryd.ntmps20
    go_wp2_with (go_at_call 31; refine (in_any _ _ _ _).mono ?_; rw [HI.out]; rintro e w' ⟨rfl, rfl⟩)
    go_ret
    exact HF0.out _ HB.out (Below.refl _ _)
  · obtain ⟨m0, m1⟩ := inB_iff.1 hin
    obtain ⟨M, rfl⟩ := Int.eq_ofNat_of_zero_le (by omega : 0 ≤ m)
    have HI := Lib.hid hin
    clear hin
    go_enter Tryd.func20, Tryd.ntmps20
    go_wp2_with (first | (go_at_call 31; refine (in_any _ _ _ _).mono ?_; rw [HI.out]; rintro e w' ⟨rfl, rfl⟩) | (at_make; refine wpList_make_full _ rfl _ _ 31 rfl w.heap.size 3 i0 (.int .i64 0) 1 Tryd.underlying31 hi hz0 hz1 _ _ _ _ M rfl rfl rfl rfl ?b2 ?b3 ?b4 ?_))
    case b2 => rw [hz2]; omega
    case b3 => unfold maxLen; omega
    case b4 => exact Nat.le_refl _
    · intro w1 hown hgrow
      have hrow := (row_of_own hown).1
      rw [made_tab, cnt_zero _ xs] at hrow
      have HR := Lib.hid hrow
      have HB : Hid (Below w.heap.size w w1) := (Below.refl _ _).grown hgrow (Nat.le_refl _) (by simp)
      clear hown hgrow hrow
      go_wp2
      go_loopw [20] (fun i wr => ∃ k : Nat, k ≤ xs.length ∧ i = .int .i64 k ∧ Hid (Row wr w.heap.size 3 (tab M (fun b => .int .i64 (cntAt xs k b)))) ∧ Hid (Below w.heap.size w wr) ∧ Hid (∀ j, j < k → binOk xs M j = true)) (fun i _ => xs.length - (intOf i).toNat)
      case atStart => exact ⟨0, Nat.zero_le _, rfl, HR.out, HB.out, fun j hj => by omega⟩
      case round =>
        obtain ⟨k, hk, rfl, hR, hB, hN⟩ := hrel
        by_cases hlt : k < xs.length
        · obtain ⟨b, off, rfl, hcell⟩ := HOP.out k hlt
          have hc1 := hcell k hlt
          have hc1 : wr.cell? ⟨b, off + k, none⟩ = some (iv xs k) := (hB.out.cell (p := ⟨b, off + k, none⟩) (World.block_lt_of_cell? w _ hc1)).trans hc1
          obtain ⟨y, hy⟩ : ∃ y, xs[k]?.getD 0 = y := ⟨_, rfl⟩
          have hx : iv xs k = .int .i64 y := by rw [iv, hy]
          rw [hx] at hc1
          cases hin2 : inB y 0 ((M : Int) - 1)
          · have HBad : Hid (binsOk xs M = false) := binsOk_bad hlt (by unfold binOk; rw [hy, hin2])
            have HI2 := Lib.hid hin2
            clear hcell hx hy hin2
            go_wp2_with (go_at_call 31; refine (in_any _ _ _ _).mono ?_; rw [HI2.out]; rintro e w' ⟨rfl, rfl⟩)
            go_ret
            exact HF0.out _ HBad.out hB.out
          · have HA : Hid (∀ j, j < k + 1 → binOk xs M j = true) := fun j hj => by
              by_cases e : j = k
              · subst e; unfold binOk; rw [hy, hin2]
              · exact hN.out j (by omega)
            obtain ⟨y0, y1⟩ := inB_iff.1 hin2
            obtain ⟨Y, rfl⟩ := Int.eq_ofNat_of_zero_le y0
            have HI2 := Lib.hid hin2
            have hYl : Y < M := by omega
            have hc2 : wr.cell? ⟨w.heap.size, Y, none⟩ = some (.int .i64 (cntAt xs k Y)) := hR.out.cell (tab_get _ hYl)
            have hf2 := hR.out.free Y
            have HS : Hid ((tab M (fun b => Value.int .i64 (cntAt xs k b))).set Y (.int .i64 (cntAt xs k Y + 1)) = tab M (fun b => .int .i64 (cntAt xs (k + 1) b))) := cnt_step hlt hy
            obtain ⟨z0, z1⟩ := cntAt_le xs k Y
            obtain ⟨z, hz⟩ : ∃ z, cntAt xs k Y = z := ⟨_, rfl⟩
            rw [hz] at hc2 z0 z1 HS
            clear hcell hx hy hin2 hz
            go_wp2_with (go_at_call 31; refine (in_any _ _ _ _).mono ?_; rw [HI2.out]; rintro e w' ⟨rfl, rfl⟩)
            go_roundw
            case rel => exact ⟨k + 1, hlt, by go_num, by rw [← HS.out]; exact hR.out.set _ _, hB.out.setCell (Nat.le_refl _) _, HA⟩
            case measure => simp [intOf]; omega
        · obtain rfl : k = xs.length := by omega
          have HF1 : Hid (IntsPost (loadsV xs M) w (.returned (.slice (some ⟨w.heap.size, 0, none⟩) M M)) wr) := by
            unfold loadsV; rw [if_pos (binsOk_mk m0 m1 (by omega) hN.out)]
            refine ⟨_, rfl, ?_, hB.out⟩
            rw [tab_length, Int.toNat_natCast]
            exact Gr.of_made (by rw [ints_tabf]; exact hR.out) (by simp) (by unfold maxLen; omega) (Nat.le_refl _)
          go_wp2
          go_ret
          exact HF1.out
theorem impl_BinLoads_own (v : Value) (xs : List Int) (m : Int) (w : World) (h : Ints w v xs) (_ : xs.length ≤ 1048576) : Calls Tryd.prog 20 #[v, .int .i64 m] w fun e w' => ∃ v b, e = .returned v ∧ OwnI w' b v (loadsV xs m) ∧ From w.heap.size b ∧ Below w.heap.size w w' :=
  (impl_BinLoads v xs m w h).mono fun _ _ h => ints_own h
theorem valid30_any (v : Value) (xs : List Int) (m : Int) (w : World) (h : Ints w v xs) : Calls Tryd.prog 39 #[v, .int .i64 m] w fun e w' => e = .returned (.bool (binsOk xs m)) ∧ w = w' := by
  obtain ⟨ad, c, rfl, hmax, hop⟩ := h.open
  unfold maxLen at hmax
  have HOP := Lib.hid hop
  clear hop h
  cases hin : inB m 1 8
  · have HB : Hid (binsOk xs m = false) := binsOk_m hin
    have HI := Lib.hid hin
    clear hin
    rw [HB.out]
    go_enter Tryd.func39, Tryd.ntmps39
    go_wp2
    go_loop [5] (fun i => ∃ k : Nat, k ≤ xs.length ∧ i = .int .i64 k) (fun i => xs.length - (intOf i).toNat)
    case atStart => exact ⟨0, Nat.zero_le _, rfl⟩
    case round =>
      obtain ⟨k, hk, rfl⟩ := hrel
      by_cases hlt : k < xs.length
      · obtain ⟨b, off, rfl, hcell⟩ := HOP.out k hlt
        have hc1 := hcell k hlt
        obtain ⟨y, hy⟩ : ∃ y, iv xs k = .int .i64 y := ⟨_, rfl⟩
        rw [hy] at hc1
        clear hcell hy
        go_wp2_with fail
        refine (l1In_any _ _ _ _).mono ?_
        rintro e w' ⟨rfl, rfl⟩
        generalize inB y 0 _ = t
        cases t
        · go_wp2
          go_ret
          exact ⟨rfl, rfl⟩
        · go_wp2
          go_round
          case rel => exact ⟨k + 1, hlt, by go_num⟩
          case measure => simp [intOf]; omega
      · obtain rfl : k = xs.length := by omega
        go_wp2_with (go_at_call 41; refine (l1In_any _ _ _ _).mono ?_; rw [HI.out]; rintro e w' ⟨rfl, rfl⟩)
        go_ret
        exact ⟨rfl, rfl⟩
  · obtain ⟨m0, m1⟩ := inB_iff.1 hin
    have HI := Lib.hid hin
    clear hin
    go_enter Tryd.func39, Tryd.ntmps39
    go_wp2
    go_loop [5] (fun i => ∃ k : Nat, k ≤ xs.length ∧ i = .int .i64 k ∧ Hid (∀ j, j < k → binOk xs m j = true)) (fun i => xs.length - (intOf i).toNat)
    case atStart => exact ⟨0, Nat.zero_le _, rfl, fun j hj => by omega⟩
    case round =>
      obtain ⟨k, hk, rfl, hN⟩ := hrel
      by_cases hlt : k < xs.length
      · obtain ⟨b, off, rfl, hcell⟩ := HOP.out k hlt
        have hc1 := hcell k hlt
        obtain ⟨y, hy⟩ : ∃ y, xs[k]?.getD 0 = y := ⟨_, rfl⟩
        have hx : iv xs k = .int .i64 y := by rw [iv, hy]
        rw [hx] at hc1
        cases hin2 : inB y 0 (m - 1)
        · have HBad : Hid (binsOk xs m = false) := binsOk_bad hlt (by unfold binOk; rw [hy, hin2])
          have HI2 := Lib.hid hin2
          clear hcell hx hy hin2
          go_wp2_with (go_at_call 41; refine (l1In_any _ _ _ _).mono ?_; rw [HI2.out]; rintro e w' ⟨rfl, rfl⟩)
          go_ret
          exact ⟨ret_bool HBad.out.symm, rfl⟩
        · have HA : Hid (∀ j, j < k + 1 → binOk xs m j = true) := fun j hj => by
            by_cases e : j = k
            · subst e; unfold binOk; rw [hy, hin2]
            · exact hN.out j (by omega)
          have HI2 := Lib.hid hin2
          clear hcell hx hy hin2
          go_wp2_with (go_at_call 41; refine (l1In_any _ _ _ _).mono ?_; rw [HI2.out]; rintro e w' ⟨rfl, rfl⟩)
          go_round
          case rel => exact ⟨k + 1, hlt, by go_num, HA⟩
          case measure => simp [intOf]; omega
      · obtain rfl : k = xs.length := by omega
        by_cases hl : xs.length ≤ 128
        · have HB : Hid (binsOk xs m = true) := binsOk_mk m0 m1 hl hN.out
          have hl' : decide ((xs.length : Int) ≤ 128) = true := by simp; omega
          go_wp2_with (go_at_call 41; refine (l1In_any _ _ _ _).mono ?_; rw [HI.out]; rintro e w' ⟨rfl, rfl⟩)
          go_ret
          exact ⟨ret_bool HB.out.symm, rfl⟩
        · have HB : Hid (binsOk xs m = false) := binsOk_len (by omega)
          have hl' : decide ((xs.length : Int) ≤ 128) = false := by simp; omega
          go_wp2_with (go_at_call 41; refine (l1In_any _ _ _ _).mono ?_; rw [HI.out]; rintro e w' ⟨rfl, rfl⟩)
          go_ret
          exact ⟨ret_bool HB.out.symm, rfl⟩
theorem spec_BinLoads (v : Value) (xs : List Int) (m : Int) (w : World) (h : Ints w v xs) : Calls Tryd.prog 21 #[v, .int .i64 m] w (IntsPost (loadsV xs m) w) := by
  obtain ⟨i0, hi, hz0, hz1, hz2⟩ := info_parts Tryd.infoInt
  have HH := Lib.hid h
  obtain ⟨ad, c, rfl, hmax, hop⟩ := h.open
  unfold maxLen at hmax
  have HOP := Lib.hid hop
  clear hop h
  cases hok : binsOk xs m
  · have HF0 : Hid (IntsPost (loadsV xs m) w (.returned (.slice (some ⟨w.heap.size, 0, none⟩) 0 0)) (w.alloc (.cells #[] 3))) := by
      unfold loadsV; rw [hok]; exact ⟨_, rfl, Gr.none0 _ _ _ _ _, (Below.refl _ _).alloc (Nat.le_refl _) _⟩
    have HO := Lib.hid hok
    clear hok
    go_enter Tryd.func21, Tryd.ntmps21
    go_wp2_with (go_at_call 39; refine (valid30_any _ _ _ _ HH.out).mono ?_; rw [HO.out]; rintro e w' ⟨rfl, rfl⟩)
    go_ret
    exact HF0.out
  · obtain ⟨m0, m1, hl, hall⟩ := binsOk_many hok
    obtain ⟨M, rfl⟩ := Int.eq_ofNat_of_zero_le (by omega : 0 ≤ m)
    have HO := Lib.hid hok
    have HALL := Lib.hid hall
    clear hok hall
    go_enter Tryd.func21, Tryd.ntmps21
    go_wp2_with (first | (go_at_call 39; refine (valid30_any _ _ _ _ HH.out).mono ?_; rw [HO.out]; rintro e w' ⟨rfl, rfl⟩) | (at_make; refine wpList_make_full _ rfl _ _ 31 rfl w.heap.size 3 i0 (.int .i64 0) 1 Tryd.underlying31 hi hz0 hz1 _ _ _ _ M rfl rfl rfl rfl ?b2 ?b3 ?b4 ?_))
    case b2 => rw [hz2]; omega
    case b3 => unfold maxLen; omega
    case b4 => exact Nat.le_refl _
    · intro w1 hown hgrow
      have hrow := (row_of_own hown).1
      rw [made_tab, cnt_zero _ xs] at hrow
      have HR := Lib.hid hrow
      have HB : Hid (Below w.heap.size w w1) := (Below.refl _ _).grown hgrow (Nat.le_refl _) (by simp)
      clear hown hgrow hrow
      go_wp2
      go_loopw [6] (fun i wr => ∃ k : Nat, k ≤ xs.length ∧ i = .int .i64 k ∧ Hid (Row wr w.heap.size 3 (tab M (fun b => .int .i64 (cntAt xs k b)))) ∧ Hid (Below w.heap.size w wr)) (fun i _ => xs.length - (intOf i).toNat)
      case atStart => exact ⟨0, Nat.zero_le _, rfl, HR.out, HB.out⟩
      case round =>
        obtain ⟨k, hk, rfl, hR, hB⟩ := hrel
        by_cases hlt : k < xs.length
        · obtain ⟨b, off, rfl, hcell⟩ := HOP.out k hlt
          have hc1 := hcell k hlt
          have hc1 : wr.cell? ⟨b, off + k, none⟩ = some (iv xs k) := (hB.out.cell (p := ⟨b, off + k, none⟩) (World.block_lt_of_cell? w _ hc1)).trans hc1
          obtain ⟨y, hy⟩ : ∃ y, xs[k]?.getD 0 = y := ⟨_, rfl⟩
          have hx : iv xs k = .int .i64 y := by rw [iv, hy]
          rw [hx] at hc1
          have hin2 := HALL.out k hlt
          unfold binOk at hin2
          rw [hy] at hin2
          obtain ⟨y0, y1⟩ := inB_iff.1 hin2
          obtain ⟨Y, rfl⟩ := Int.eq_ofNat_of_zero_le y0
          have hYl : Y < M := by omega
          have hc2 : wr.cell? ⟨w.heap.size, Y, none⟩ = some (.int .i64 (cntAt xs k Y)) := hR.out.cell (tab_get _ hYl)
          have hf2 := hR.out.free Y
          have HS : Hid ((tab M (fun b => Value.int .i64 (cntAt xs k b))).set Y (.int .i64 (cntAt xs k Y + 1)) = tab M (fun b => .int .i64 (cntAt xs (k + 1) b))) := cnt_step hlt hy
          obtain ⟨z0, z1⟩ := cntAt_le xs k Y
          obtain ⟨z, hz⟩ : ∃ z, cntAt xs k Y = z := ⟨_, rfl⟩
          rw [hz] at hc2 z0 z1 HS
          clear hcell hx hy hin2 hz
          go_wp2
          go_still_tail 14, (by kernel_rfl)
          go_wp2
          go_roundw
          case rel => exact ⟨k + 1, hlt, by go_num, by rw [← HS.out]; exact hR.out.set _ _, (hB.out.setCell (p := ⟨w.heap.size, Y, none⟩) (Nat.le_refl _) _).drew⟩
          case measure => simp [intOf]; omega
        · obtain rfl : k = xs.length := by omega
          have HF1 : Hid (IntsPost (loadsV xs M) w (.returned (.slice (some ⟨w.heap.size, 0, none⟩) M M)) wr) := by
            unfold loadsV; rw [if_pos HO.out]
            refine ⟨_, rfl, ?_, hB.out⟩
            rw [tab_length, Int.toNat_natCast]
            exact Gr.of_made (by rw [ints_tabf]; exact hR.out) (by simp) (by unfold maxLen; omega) (Nat.le_refl _)
          go_wp2
          go_ret
          exact HF1.out
theorem spec_BinLoads_own (v : Value) (xs : List Int) (m : Int) (w : World) (h : Ints w v xs) (_ : xs.length ≤ 1048576) : Calls Tryd.prog 21 #[v, .int .i64 m] w fun e w' => ∃ v b, e = .returned v ∧ OwnI w' b v (loadsV xs m) ∧ From w.heap.size b ∧ Below w.heap.size w w' :=
  (spec_BinLoads v xs m w h).mono fun _ _ h => ints_own h
end Go.Proofs.YtkekacnnjmbelaaDoor
