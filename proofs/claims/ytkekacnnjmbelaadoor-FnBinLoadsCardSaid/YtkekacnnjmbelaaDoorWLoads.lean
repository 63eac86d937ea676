/- the walk of FnBinLoads -/
import Derived.Test.YtkekacnnjmbelaaDoorBinsDraw
import Derived.Test.YtkekacnnjmbelaaDoorBins
import Derived.Test.YtkekacnnjmbelaaDoorName
namespace Go.Proofs.YtkekacnnjmbelaaDoor
open Go.RowKit
/-- how many are less than k -/
def cumC (xs : List Int) (k : Nat) : Nat := xs.countP (fun x => decide (x < (k : Int)))
theorem cumC_zero {xs : List Int} (h : ∀ x ∈ xs, 0 ≤ x) : cumC xs 0 = 0 := by
  unfold cumC
  rw [List.countP_eq_zero]
  intro x hx
  have := h x hx
  simp; omega
theorem cumC_all {xs : List Int} {M : Nat} (h : ∀ x ∈ xs, x < M) : cumC xs M = xs.length := by
  unfold cumC
  rw [List.countP_eq_length]
  intro x hx
  simpa using h x hx
theorem cumC_le (xs : List Int) (k : Nat) : cumC xs k ≤ xs.length := List.countP_le_length
theorem cumC_step (k : Nat) : ∀ xs : List Int, cumC xs (k + 1) = cumC xs k + xs.count (k : Int)
  | [] => rfl
  | x :: xs => by
    have ih := cumC_step k xs
    unfold cumC at ih ⊢
    rw [List.countP_cons, List.countP_cons, List.count_cons, ih]
    by_cases h1 : x < (k : Int)
    · rw [decide_eq_true h1, decide_eq_true (show x < ((k + 1 : Nat) : Int) by omega), show (x == (k : Int)) = false from beq_eq_false_iff_ne.2 (by omega)]
      simp only [if_true, Bool.false_eq_true, if_false]
      omega
    · by_cases h2 : x = (k : Int)
      · rw [decide_eq_false h1, decide_eq_true (show x < ((k + 1 : Nat) : Int) by omega), show (x == (k : Int)) = true from beq_iff_eq.2 h2]
        simp only [if_true, Bool.false_eq_true, if_false]
        omega
      · rw [decide_eq_false h1, decide_eq_false (show ¬ x < ((k + 1 : Nat) : Int) by omega), show (x == (k : Int)) = false from beq_eq_false_iff_ne.2 h2]
        simp only [Bool.false_eq_true, if_false]
        omega
theorem cumC_next (xs : List Int) (k : Nat) : (cumC xs (k + 1) : Int) = (cumC xs k : Int) + cntAt xs xs.length k := by
  rw [cumC_step]
  unfold cntAt
  rw [List.take_of_length_le (Nat.le_refl _)]
  push_cast; rfl
theorem binOk_at {xs : List Int} {m : Int} (h : ∀ k, k < xs.length → binOk xs m k = true) : ∀ x ∈ xs, 0 ≤ x ∧ x < m := by
  intro x hx
  obtain ⟨i, hi, rfl⟩ := List.getElem_of_mem hx
  have := h i hi
  unfold binOk at this
  rw [List.getElem?_eq_getElem hi] at this
  have := inB_iff.1 this
  simp at this
  omega
set_option maxHeartbeats 1000000 in
theorem walk0_FnBinLoads (w : World) (v : Value) (bs : List Int) (h : Bts w v bs) (hR : Resv w) :
    Calls Tryd.prog 5 #[v] w fun e w' => LawOk w e w' := by
  obtain ⟨ad, c, hv, hm⟩ := bts_lit h
  have H := Lib.hid h
  have HR := Lib.hid hR
  clear h hR
  subst hv
  by_cases hbig : 1048576 < bs.length
  · go_enter Tryd.func5, Tryd.ntmps5
    go_wp2
    go_ret
    exact ⟨rfl, Below.refl _ _⟩
  · go_enter Tryd.func5, Tryd.ntmps5
    go_wp2_with fail
    refine (draw_BinLoads _ bs w H.out).mono ?_
    rintro e w1 ⟨u, xs, m, rfl, hG, hxl, m0, m1, hb⟩
    have HU : Hid (Ints w1 u xs) := Gr.ints hG rfl
    have B1 := nxt (Lib.hid (Below.refl _ _)) hb
    clear hb H hG
    obtain ⟨ad2, c2, hu, _, _⟩ := HU.out.open
    subst hu
    obtain ⟨rv, hrv⟩ : ∃ rv, loadsV xs m = rv := ⟨_, rfl⟩
    have HRV := Lib.hid hrv
    clear hrv
    go_wp2_with fail
    refine (impl_BinLoads _ xs m _ HU.out).mono ?_
    rw [HRV.out]
    rintro e w2 ⟨x, rfl, hg, hb⟩
    have HX2 : Hid (Ints w2 x rv) := Gr.ints hg rfl
    have HU2 := Lib.hid (HU.out.mono hb (Nat.le_refl _))
    have B2 := nxt B1 hb
    clear hg hb B1 HU
    go_wp2_with fail
    refine (spec_BinLoads _ xs m _ HU2.out).mono ?_
    rw [HRV.out]
    rintro e w3 ⟨y, rfl, hg, hb⟩
    have HX3 := Lib.hid (HX2.out.mono hb (Nat.le_refl _))
    have HY3 : Hid (Ints w3 y rv) := Gr.ints hg rfl
    have B3 := nxt B2 hb
    clear hg hb B2 HU2 HX2
    go_wp2_with fail
    refine (sameInts_same _ _ rv _ HX3.out HY3.out).mono ?_
    rintro e w4 ⟨rfl, hb⟩
    have HX4 := Lib.hid (HX3.out.mono hb (Nat.le_refl _))
    have B4 := nxt B3 hb
    have HR4 := Lib.hid (HR.out.mono B4.out (Nat.le_refl _))
    clear hb B3 HX3 HY3 HR
    obtain ⟨ad4, c4, hx4, _, hop⟩ := HX4.out.open
    have HOP := Lib.hid hop
    clear hop
    cases hok : binsOk xs m
    · have hl : rv.length = 0 := by rw [← HRV.out]; unfold loadsV; rw [hok]; rfl
      rw [hl] at hx4
      subst hx4
      clear hl hok
      go_wp2_with (go_at_call 14; refine (alive_any _ HR4.out).mono ?_; rintro e w' ⟨rfl, rfl⟩)
      go_ret
      exact ⟨rfl, B4.out⟩
    · obtain ⟨_, _, hl128, hall⟩ := binsOk_many hok
      have hall := binOk_at hall
      obtain ⟨M, rfl⟩ := Int.eq_ofNat_of_zero_le m0
      have HV : Hid (rv = tab M (cntAt xs xs.length)) := by unfold Hid; rw [← HRV.out]; unfold loadsV; rw [if_pos hok, Int.toNat_natCast]
      have hl : rv.length = M := by rw [HV.out, tab_length]
      rw [hl] at hx4
      subst hx4
      have HL := Lib.hid hl
      have HALL := Lib.hid hall
      clear hl hok hall
      have q0 : ((M : Int) == 0) = false := by simp; omega
      go_wp2
      go_loop [6, 7] (fun s i => ∃ k : Nat, k ≤ M ∧ i = .int .i64 k ∧ s = .int .i64 (cumC xs k)) (fun _ i => M - (intOf i).toNat)
      case atStart => exact ⟨0, Nat.zero_le _, rfl, by rw [cumC_zero (fun x hx => (HALL.out x hx).1)]; rfl⟩
      case round =>
        obtain ⟨k, hk, rfl, rfl⟩ := hrel
        have hcl := cumC_le xs k
        by_cases hlt : k < M
        · obtain ⟨b, off, rfl, hcell⟩ := HOP.out k (by rw [HL.out]; exact hlt)
          have hc1 := hcell k (by rw [HL.out]; exact hlt)
          have hx : iv rv k = .int .i64 (cntAt xs xs.length k) := by rw [HV.out]; exact iv_tab _ hlt
          rw [hx] at hc1
          have HN := Lib.hid (cumC_next xs k)
          obtain ⟨z0, z1⟩ := cntAt_le xs xs.length k
          obtain ⟨z, hz⟩ : ∃ z, cntAt xs xs.length k = z := ⟨_, rfl⟩
          rw [hz] at hc1 z0 z1 HN
          obtain ⟨q, hq⟩ : ∃ q, cumC xs k = q := ⟨_, rfl⟩
          rw [hq] at hcl HN ⊢
          clear hcell hx hz hq
          go_wp2
          go_round
          case rel => exact ⟨k + 1, hlt, by go_num, by rw [HN.out]⟩
          case measure => simp [intOf]; omega
        · obtain rfl : k = M := by omega
          have hq : cumC xs k = xs.length := cumC_all (fun x hx => (HALL.out x hx).2)
          rw [hq]
          clear hq hcl
          go_wp2
          go_ret
          exact ⟨rfl, B4.out⟩
theorem walk_FnBinLoads (w : World) (v : Value) (bs : List Int) (h : View w 1 v bs.length (bs.map (Value.int .u8)) ∧ ∀ b ∈ bs, 0 ≤ b ∧ b ≤ 255) (hR : Resv w) :
    Calls Tryd.prog 5 #[v] w fun e w' => e = .returned (.bool true) ∧ Below w.heap.size w w' := walk0_FnBinLoads w v bs h hR
end Go.Proofs.YtkekacnnjmbelaaDoor
