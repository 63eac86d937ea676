/- numbers and their texts: the reference's functions -/
import Derived.Test.YtajgghifamebkaaDoorTxtN
import Derived.Laws.IdiomStrings
namespace Go.Proofs.YtajgghifamebkaaDoor
set_option linter.unusedSimpArgs false
set_option linter.unusedVariables false
open Go.RowKit
open Go
def dgt (d : Nat) : UInt8 := UInt8.ofNat (48 + d)
def hdD (u : Nat) : List UInt8 := if u < 10 then [] else Lib.decDigits (u / 10)
theorem hdD_small {u : Nat} (h : u < 10) : hdD u = [] := if_pos h
theorem hdD_eq (u : Nat) : Lib.decDigits u = hdD u ++ [dgt (u % 10)] := by
  by_cases h : u < 10
  · rw [dec_small h, hdD_small h, Nat.mod_eq_of_lt h]; rfl
  · rw [dec_big h, hdD, if_neg h]; rfl
theorem hdD_step {u : Nat} (h : ¬ u < 10) : hdD u = hdD (u / 10) ++ [dgt (u / 10 % 10)] := by
  rw [← hdD_eq (u / 10), hdD, if_neg h]
theorem conv_one (d : Nat) (hd : d < 10) (w : World) : (convert 22 9 (.slice (some ⟨w.heap.size, 0, none⟩) 1 1)).run Tryd.prog (w.alloc (.cells #[.int .u8 (48 + (d : Int))] 5)) = .ok (.string (mkS [dgt d])) (w.alloc (.cells #[.int .u8 (48 + (d : Int))] 5)) := by
  have hr := Row.new w 5 [.int .u8 (48 + (d : Int))]
  refine run_convert_bytes_back (w.alloc (.cells #[.int .u8 (48 + (d : Int))] 5)) 22 9 5 ⟨w.heap.size, 0, none⟩ 1 [UInt8.ofNat (48 + d)] Tryd.underlying22 Tryd.underlying5 Tryd.underlying9 (fun j hj => ?_)
  obtain rfl : j = 0 := by simpa using hj
  have h0 := hr.cell (i := 0) rfl
  have e : ((([UInt8.ofNat (48 + d)] : List UInt8)[0]'hj).toNat : Int) = 48 + (d : Int) := by
    simp only [List.getElem_cons_zero]
    rw [dig_nat hd]; omega
  rw [e]
  exact h0

set_option maxRecDepth 20000 in
theorem spec_NumberText (n : Int) (w : World) : Calls Tryd.prog 49 #[.int .i64 n] w fun e w' => e = .returned (.string (mkS (numTx n))) ∧ Below w.heap.size w w' := by
  by_cases hok : NumOk n
  · have HB : Hid (inB n (-100000) 100000 = true) := by rw [inB_num]; exact decide_eq_true hok
    have HE : Hid (numTx n = Lib.itoa n) := if_pos hok
    have hok1 := hok.1
    have hok2 := hok.2
    clear hok
    by_cases hneg : n < 0
    · obtain ⟨m, rfl⟩ : ∃ m : Nat, n = -(m : Int) := ⟨n.natAbs, by omega⟩
      have FIN : ∀ o : ByteArray, Lib.decDigits m = tx o → mkS (numTx (-(m : Int))) = (⟨#[45]⟩ : ByteArray) ++ o := fun o e => by
        apply tx_inj
        rw [tx_mkS, HE.out, itoa_neg hneg, tx_append, ← e, Int.natAbs_neg, Int.natAbs_natCast]; rfl
      have FIN := Lib.hid FIN
      have HM : Hid (m ≤ 100000) := by unfold Hid; omega
      obtain ⟨D0, hD0⟩ : ∃ d, m % 10 = d := ⟨_, rfl⟩
      have HD0 := Lib.hid hD0
      have hd10 : D0 < 10 := by rw [← hD0]; exact Nat.mod_lt _ (by omega)
      have e0 : (m : Int).tmod 10 = (D0 : Int) := by rw [Int.tmod_eq_emod_of_nonneg (by omega)]; omega
      have hcv := conv_one D0 hd10 w
      clear hD0
      go_enter Tryd.func49, Tryd.ntmps49
      go_wp2_with (go_at_call 29; refine (l1In_any _ _ _ _).mono ?_; rw [HB.out]; rintro e w' ⟨rfl, rfl⟩)
      clear e0 hcv hd10
      go_loopg [0, 4] m (fun gg i s wr => ∃ (u : Nat) (o : ByteArray), u ≤ gg ∧ u ≤ 100000 ∧ i = .int .i64 (u : Int) ∧ s = .string o ∧ Hid (Lib.decDigits m = hdD u ++ tx o) ∧ Hid (Below w.heap.size w wr))
      case atStart => exact ⟨m, mkS [dgt D0], Nat.le_refl _, HM.out, rfl, rfl, by rw [tx_mkS, ← HD0.out]; exact hdD_eq _, (Below.refl _ _).alloc (Nat.le_refl _) _⟩
      case round =>
        obtain ⟨u, o, hgg, hu, rfl, rfl, hO, hB⟩ := hrel
        have hos : o.size ≤ 10 := by
          have h1 := congrArg List.length hO.out
          have h2 := dec_len 5 m (by have := HM.out; omega)
          rw [List.length_append, tx_size] at h1
          omega
        by_cases hlt : u < 10
        · have HE : Hid (Lib.decDigits m = tx o) := by have := hO.out; rw [hdD_small hlt] at this; exact this
          have h9 : ¬ (9 : Int) < (u : Int) := by omega
          go_wp2
          go_ret
          exact ⟨by rw [FIN.out o HE.out]; rfl, hB.out⟩
        · have HS := Lib.hid (hdD_step hlt)
          obtain ⟨u', hu'⟩ : ∃ u', u / 10 = u' := ⟨_, rfl⟩
          obtain ⟨d, hd⟩ : ∃ d, u' % 10 = d := ⟨_, rfl⟩
          have hd10 : d < 10 := by rw [← hd]; exact Nat.mod_lt _ (by omega)
          have e1 : (u : Int).tdiv 10 = (u' : Int) := by rw [Int.tdiv_eq_ediv_of_nonneg (by omega)]; omega
          have e2 : (u' : Int).tmod 10 = (d : Int) := by rw [Int.tmod_eq_emod_of_nonneg (by omega)]; omega
          have hcv := conv_one d hd10 wr
          have hms : (mkS [dgt d]).size = 1 := rfl
          have HLT : Hid (u' < u) := by unfold Hid; omega
          have HU : Hid (u' ≤ 100000) := by unfold Hid; omega
          rw [hu', hd] at HS
          have h9 : (9 : Int) < (u : Int) := by omega
          have hu5 : u' ≤ 100000 := by omega
          clear hu' hd hlt
          go_wp2
          go_roundg u'
          case rel =>
            refine ⟨u', mkS [dgt d] ++ o, Nat.le_refl _, HU.out, rfl, rfl, ?_, hB.out.alloc hB.out.size _⟩
            have := hO.out
            unfold Hid
            rw [tx_append, tx_mkS, this, HS.out]
            simp
          case measure => exact Nat.lt_of_lt_of_le HLT.out hgg
    · obtain ⟨m, rfl⟩ : ∃ m : Nat, n = (m : Int) := ⟨n.toNat, by omega⟩
      have FIN : ∀ o : ByteArray, Lib.decDigits m = tx o → mkS (numTx (m : Int)) = (⟨#[]⟩ : ByteArray) ++ o := fun o e => by
        apply tx_inj
        rw [tx_mkS, HE.out, itoa_pos (by omega), tx_append, ← e, Int.toNat_natCast]; rfl
      have FIN := Lib.hid FIN
      have HM : Hid (m ≤ 100000) := by unfold Hid; omega
      obtain ⟨D0, hD0⟩ : ∃ d, m % 10 = d := ⟨_, rfl⟩
      have HD0 := Lib.hid hD0
      have hd10 : D0 < 10 := by rw [← hD0]; exact Nat.mod_lt _ (by omega)
      have e0 : (m : Int).tmod 10 = (D0 : Int) := by rw [Int.tmod_eq_emod_of_nonneg (by omega)]; omega
      have hcv := conv_one D0 hd10 w
      clear hD0
      go_enter Tryd.func49, Tryd.ntmps49
      go_wp2_with (go_at_call 29; refine (l1In_any _ _ _ _).mono ?_; rw [HB.out]; rintro e w' ⟨rfl, rfl⟩)
      clear e0 hcv hd10
      go_loopg [0, 4] m (fun gg i s wr => ∃ (u : Nat) (o : ByteArray), u ≤ gg ∧ u ≤ 100000 ∧ i = .int .i64 (u : Int) ∧ s = .string o ∧ Hid (Lib.decDigits m = hdD u ++ tx o) ∧ Hid (Below w.heap.size w wr))
      case atStart => exact ⟨m, mkS [dgt D0], Nat.le_refl _, HM.out, rfl, rfl, by rw [tx_mkS, ← HD0.out]; exact hdD_eq _, (Below.refl _ _).alloc (Nat.le_refl _) _⟩
      case round =>
        obtain ⟨u, o, hgg, hu, rfl, rfl, hO, hB⟩ := hrel
        have hos : o.size ≤ 10 := by
          have h1 := congrArg List.length hO.out
          have h2 := dec_len 5 m (by have := HM.out; omega)
          rw [List.length_append, tx_size] at h1
          omega
        by_cases hlt : u < 10
        · have HE : Hid (Lib.decDigits m = tx o) := by have := hO.out; rw [hdD_small hlt] at this; exact this
          have h9 : ¬ (9 : Int) < (u : Int) := by omega
          go_wp2
          go_ret
          exact ⟨by rw [FIN.out o HE.out]; rfl, hB.out⟩
        · have HS := Lib.hid (hdD_step hlt)
          obtain ⟨u', hu'⟩ : ∃ u', u / 10 = u' := ⟨_, rfl⟩
          obtain ⟨d, hd⟩ : ∃ d, u' % 10 = d := ⟨_, rfl⟩
          have hd10 : d < 10 := by rw [← hd]; exact Nat.mod_lt _ (by omega)
          have e1 : (u : Int).tdiv 10 = (u' : Int) := by rw [Int.tdiv_eq_ediv_of_nonneg (by omega)]; omega
          have e2 : (u' : Int).tmod 10 = (d : Int) := by rw [Int.tmod_eq_emod_of_nonneg (by omega)]; omega
          have hcv := conv_one d hd10 wr
          have hms : (mkS [dgt d]).size = 1 := rfl
          have HLT : Hid (u' < u) := by unfold Hid; omega
          have HU : Hid (u' ≤ 100000) := by unfold Hid; omega
          rw [hu', hd] at HS
          have h9 : (9 : Int) < (u : Int) := by omega
          have hu5 : u' ≤ 100000 := by omega
          clear hu' hd hlt
          go_wp2
          go_roundg u'
          case rel =>
            refine ⟨u', mkS [dgt d] ++ o, Nat.le_refl _, HU.out, rfl, rfl, ?_, hB.out.alloc hB.out.size _⟩
            have := hO.out
            unfold Hid
            rw [tx_append, tx_mkS, this, HS.out]
            simp
          case measure => exact Nat.lt_of_lt_of_le HLT.out hgg
  · have HE : Hid (numTx n = []) := if_neg hok
    have HB : Hid (inB n (-100000) 100000 = false) := by rw [inB_num]; exact decide_eq_false hok
    clear hok
    go_enter Tryd.func49, Tryd.ntmps49
    go_wp2_with (go_at_call 29; refine (l1In_any _ _ _ _).mono ?_; rw [HB.out]; rintro e w' ⟨rfl, rfl⟩)
    go_ret
    exact ⟨by rw [HE.out]; rfl, Below.refl _ _⟩
end Go.Proofs.YtajgghifamebkaaDoor
