/- the reference's ReadNumber -/
import Derived.Test.YtajgghifamebkaaDoorTxtM
namespace Go.Proofs.YtajgghifamebkaaDoor
set_option linter.unusedSimpArgs false
set_option linter.unusedVariables false
open Go.RowKit
open Go
def digB (b : Nat) : Bool := decide (48 ≤ b ∧ b ≤ 57)
theorem digit_any (b : Nat) (w : World) : Calls Tryd.prog 63 #[.int .u8 (b : Int)] w fun e w' => e = .returned (.bool (digB b)) ∧ w = w' := by
  by_cases h1 : 48 ≤ b
  · by_cases h2 : b ≤ 57
    · have HD : Hid (digB b = true) := decide_eq_true ⟨h1, h2⟩
      have g1 : (48 : Int) ≤ (b : Int) := by omega
      have g2 : (b : Int) ≤ 57 := by omega
      go_enter Tryd.func63, Tryd.ntmps63
      go_wp2
      go_ret
      exact ⟨ret_bool HD.out.symm, rfl⟩
    · have HD : Hid (digB b = false) := decide_eq_false (fun h => h2 h.2)
      have g1 : (48 : Int) ≤ (b : Int) := by omega
      have g2 : ¬ (b : Int) ≤ 57 := by omega
      go_enter Tryd.func63, Tryd.ntmps63
      go_wp2
      go_ret
      exact ⟨ret_bool HD.out.symm, rfl⟩
  · have HD : Hid (digB b = false) := decide_eq_false (fun h => h1 h.1)
    have g1 : ¬ (48 : Int) ≤ (b : Int) := by omega
    go_enter Tryd.func63, Tryd.ntmps63
    go_wp2
    go_ret
    exact ⟨ret_bool HD.out.symm, rfl⟩
/-- what is behind the sign, as the reference adds it up -/
def rdV (l : List UInt8) : Nat := valL (if l.head? = some 45 then l.tail else l)
theorem rdV_nil : rdV [] = 0 := rfl
theorem rdV_minus {l : List UInt8} (h : l[0]? = some 45) : rdV (l.take 1) = 0 := by
  cases l with
  | nil => simp at h
  | cons b t =>
    obtain rfl : b = 45 := by simpa using h
    rfl
theorem take_snoc {l : List UInt8} {k : Nat} {b : UInt8} (h : l[k]? = some b) : l.take (k + 1) = l.take k ++ [b] := by
  rw [List.take_add_one, h]; rfl
theorem rdV_step {l : List UInt8} {k : Nat} {b : UInt8} (h : l[k]? = some b) (hb : k ≠ 0 ∨ b ≠ 45) : rdV (l.take (k + 1)) = 10 * rdV (l.take k) + (b.toNat - 48) := by
  rw [take_snoc h]
  unfold rdV
  cases hk : l.take k with
  | nil =>
    have hk0 : k = 0 := by
      rcases List.take_eq_nil_iff.1 hk with h | rfl
      · exact h
      · simp at h
    have hb' : b ≠ 45 := hb.resolve_left (by omega)
    simp [hb', valL]
  | cons c t =>
    by_cases hc : c = 45
    · subst hc
      simp [valL_snoc]
    · simp only [List.cons_append, List.head?_cons, Option.some.injEq, hc, if_false]
      rw [← List.cons_append, valL_snoc]
theorem itoa_at {n : Int} {k : Nat} {b : UInt8} (h : (Lib.itoa n)[k]? = some b) : (48 ≤ b.toNat ∧ b.toNat ≤ 57) ∨ (k = 0 ∧ b = 45) := by
  by_cases hn : n < 0
  · rw [itoa_neg hn] at h
    cases k with
    | zero => exact .inr ⟨rfl, by simpa using h.symm⟩
    | succ k => exact .inl (dec_mem _ b (List.mem_of_getElem? (by simpa using h)))
  · rw [itoa_pos (by omega)] at h
    exact .inl (dec_mem _ b (List.mem_of_getElem? h))
theorem rdV_itoa (n : Int) : (if (Lib.itoa n)[0]? = some 45 then -((rdV (Lib.itoa n) : Nat) : Int) else ((rdV (Lib.itoa n) : Nat) : Int)) = n := by
  by_cases hn : n < 0
  · rw [itoa_neg hn]
    have : rdV (45 :: Lib.decDigits n.natAbs) = n.natAbs := by unfold rdV; simp [dec_valL]
    rw [this, if_pos (by simp)]; omega
  · have h0 : (Lib.itoa n)[0]? ≠ some 45 := fun h => by
      rw [itoa_pos (by omega)] at h
      have := dec_mem _ _ (List.mem_of_getElem? h)
      have e : (45 : UInt8).toNat = 45 := rfl
      omega
    have h1 : (Lib.itoa n).head? ≠ some 45 := fun h => h0 (by rw [← List.head?_eq_getElem?]; exact h)
    rw [if_neg h0]
    unfold rdV
    rw [if_neg h1, itoa_pos (by omega), dec_valL]; omega
set_option maxRecDepth 20000 in
set_option maxHeartbeats 800000 in
theorem spec_ReadNumber (s : ByteArray) (w : World) (hs : s.size ≤ 4000000) : Calls Tryd.prog 38 #[.string s] w fun e w' => NumRd (tx s) e ∧ Below w.heap.size w w' := by
  go_enter Tryd.func38, Tryd.ntmps38
  go_wp2
  go_loopg [4, 5] s.size (fun gg nv i wr => ∃ k n : Nat, k ≤ s.size ∧ s.size - k ≤ gg ∧ i = .int .i64 (k : Int) ∧ nv = .int .i64 (n : Int) ∧ n ≤ 99999999 ∧ Hid (n < 10 ^ k ∧ k ≤ 8) ∧ Hid (n = rdV ((tx s).take k)) ∧ w = wr)
  case atStart => exact ⟨0, 0, Nat.zero_le _, Nat.le_refl _, rfl, rfl, by decide, ⟨by decide, by decide⟩, rfl, rfl⟩
  case round =>
    obtain ⟨k, n, hk, hgg, rfl, rfl, hn9, hN, hV, rfl⟩ := hrel
    by_cases hlt : k < s.size
    · have HLT := Lib.hid hlt
      have HC : Hid ((tx s)[k]? = some s[k]) := by unfold Hid tx; rw [Array.getElem?_toList, Array.getElem?_eq_getElem (by simpa using hlt)]; rfl
      by_cases hd : 48 ≤ s[k].toNat ∧ s[k].toNat ≤ 57
      · obtain ⟨g1, g2⟩ := hd
        have HDG : Hid (digB s[k].toNat = true) := decide_eq_true ⟨g1, g2⟩
        have h45 : ¬ ((s[k].toNat : Nat) : Int) = 45 := by omega
        have h45b : (((s[k].toNat : Nat) : Int) == 45) = false := by simpa using h45
        by_cases hk7 : k ≤ 7
        · have HB45 : Hid (s[k] ≠ 45) := fun e => by rw [e] at g1; revert g1; decide
          have HN2 : Hid (10 * n + (s[k].toNat - 48) < 10 ^ (k + 1) ∧ k + 1 ≤ 8) := by
            have := hN.out.1
            unfold Hid
            rw [Nat.pow_succ]
            omega
          have HN9 : Hid (10 * n + (s[k].toNat - 48) ≤ 99999999) := by
            have h1 := hN.out.1
            have h2 : (10 : Nat) ^ k ≤ 10 ^ 7 := Nat.pow_le_pow_right (by omega) hk7
            unfold Hid; omega
          have hk7' : ¬ (7 : Int) < (k : Int) := by omega
          have g1' : (48 : Int) ≤ ((s[k].toNat : Nat) : Int) := by omega
          have g2' : ((s[k].toNat : Nat) : Int) ≤ 57 := by omega
          have e9 : (((s[k].toNat : Nat) : Int) - 48) % 256 = ((s[k].toNat : Nat) : Int) - 48 := by omega
          go_wp2_with (go_at_call 63; refine (digit_any s[k].toNat _).mono ?_; rw [HDG.out]; rintro e w' ⟨rfl, rfl⟩)
          go_roundg (s.size - (k + 1))
          case rel => exact ⟨k + 1, 10 * n + (s[k].toNat - 48), HLT.out, Nat.le_refl _, by go_num, by congr 1; omega, HN9.out, HN2.out, by unfold Hid; rw [rdV_step HC.out (.inr HB45.out), ← hV.out], rfl⟩
          case measure => have := HLT.out; omega
        · have hk7' : (7 : Int) < (k : Int) := by omega
          have HNO : Hid (∀ m, NumOk m → Lib.itoa m ≠ tx s) := fun m hm e => by
            have := (itoa_len hm).2
            rw [e, tx_size] at this
            omega
          go_wp2_with (go_at_call 63; refine (digit_any s[k].toNat _).mono ?_; rw [HDG.out]; rintro e w' ⟨rfl, rfl⟩)
          exact bodyPost_ret (v := .tuple #[.int .i64 0, .bool false]) (by simp [results, Tryd.results38, go_sem]) rfl ⟨.inr ⟨HNO.out, rfl⟩, Below.refl _ _⟩
      · have HDG : Hid (digB s[k].toNat = false) := decide_eq_false hd
        by_cases h45 : ((s[k].toNat : Nat) : Int) = 45
        · have H45 : Hid (s[k] = 45) := UInt8.toNat_inj.1 (by show s[k].toNat = 45; omega)
          have h45b : (((s[k].toNat : Nat) : Int) == 45) = true := by simpa using h45
          by_cases hk0 : k = 0
          · subst hk0
            have HV0 : Hid (n = 0) := hV.out
            have HC0 : Hid ((tx s)[0]? = some 45) := by have := HC.out; rw [H45.out] at this; exact this
            clear hd
            go_wp2_with fail
            have HN1 : Hid (n < 10 ^ (0 + 1) ∧ 0 + 1 ≤ 8) := by have := HV0.out; unfold Hid; omega
            have HV1 : Hid (n = rdV ((tx s).take (0 + 1))) := by have h1 := HV0.out; have h2 := rdV_minus HC0.out; unfold Hid; rw [h1]; exact h2.symm
            go_roundg (s.size - (0 + 1))
            case rel => exact ⟨0 + 1, n, HLT.out, Nat.le_refl _, by go_num, rfl, hn9, HN1.out, HV1.out, rfl⟩
            case measure => have := HLT.out; omega
          · have hk0' : ¬ ((k : Int) = 0) := by omega
            have hk0b : (((k : Nat) : Int) == 0) = false := by simpa using hk0
            have HNO : Hid (∀ m, NumOk m → Lib.itoa m ≠ tx s) := fun m hm e => by
              have h1 := HC.out
              rw [← e] at h1
              rcases itoa_at h1 with h | h
              · exact hd h
              · exact hk0 h.1
            clear hd HDG
            have HDG : Hid (digB 45 = false) := by unfold Hid; decide
            go_wp2_with (go_at_call 63; refine (digit_any 45 _).mono ?_; rw [HDG.out]; rintro e w' ⟨rfl, rfl⟩)
            exact bodyPost_ret (v := .tuple #[.int .i64 0, .bool false]) (by simp [results, Tryd.results38, go_sem]) rfl ⟨.inr ⟨HNO.out, rfl⟩, Below.refl _ _⟩
        · have h45b : (((s[k].toNat : Nat) : Int) == 45) = false := by simpa using h45
          have HNO : Hid (∀ m, NumOk m → Lib.itoa m ≠ tx s) := fun m hm e => by
            have h1 := HC.out
            rw [← e] at h1
            rcases itoa_at h1 with h | h
            · exact hd h
            · exact h45 (by rw [h.2]; rfl)
          clear hd
          go_wp2_with (go_at_call 63; refine (digit_any s[k].toNat _).mono ?_; rw [HDG.out]; rintro e w' ⟨rfl, rfl⟩)
          exact bodyPost_ret (v := .tuple #[.int .i64 0, .bool false]) (by simp [results, Tryd.results38, go_sem]) rfl ⟨.inr ⟨HNO.out, rfl⟩, Below.refl _ _⟩
    · obtain rfl : k = s.size := by omega
      have HV2 : Hid (n = rdV (tx s)) := by have := hV.out; rw [← tx_size, List.take_length] at this; exact this
      by_cases hemp : tx s = []
      · have hse1 : s.toList = [] := by rw [ByteArray.toList_eq]; exact hemp
        have hse : s.toList.isEmpty = true := by rw [hse1]; rfl
        have HNO : Hid (∀ m, NumOk m → Lib.itoa m ≠ tx s) := fun m hm e => by
          have := (itoa_len hm).1
          rw [e, hemp] at this
          simp at this
        clear hemp
        go_wp2_with fail
        exact bodyPost_ret (v := .tuple #[.int .i64 0, .bool false]) (by simp [results, Tryd.results38, go_sem]) rfl ⟨.inr ⟨HNO.out, rfl⟩, Below.refl _ _⟩
      · have hse1 : ¬ s.toList = [] := by rw [ByteArray.toList_eq]; exact hemp
        have hse : s.toList.isEmpty = false := by cases he : s.toList with | nil => exact absurd he hse1 | cons a b => rfl
        have HNE := Lib.hid hemp
        have hpos : 0 < s.size := by
          rcases Nat.eq_zero_or_pos s.size with h | h
          · exact absurd (List.eq_nil_of_length_eq_zero (by rw [tx_size]; exact h)) hemp
          · exact h
        have HC : Hid ((tx s)[0]? = some s[0]) := by unfold Hid tx; rw [Array.getElem?_toList, Array.getElem?_eq_getElem (by simpa using hpos)]; rfl
        clear hemp
        by_cases h45 : ((s[0].toNat : Nat) : Int) = 45
        · have h45b : (((s[0].toNat : Nat) : Int) == 45) = true := by simpa using h45
          have HVV : Hid (-(n : Int) = if (tx s)[0]? = some 45 then -((rdV (tx s) : Nat) : Int) else ((rdV (tx s) : Nat) : Int)) := by
            unfold Hid
            rw [HC.out, show s[0] = 45 from UInt8.toNat_inj.1 (by show s[0].toNat = 45; omega), if_pos rfl, HV2.out]
          go_wp2_with fail
          refine (spec_NumberText (-(n : Int)) w).mono ?_
          rintro e w2 ⟨rfl, hb⟩
          have HB2 := Lib.hid hb
          clear hb
          by_cases hx : numTx (-(n : Int)) = tx s
          · have hxx : ((mkS (numTx (-(n : Int)))).toList == s.toList) = true := by rw [tx_eq, tx_mkS, hx]; simp
            have HX : Hid (NumOk (-(n : Int)) ∧ Lib.itoa (-(n : Int)) = tx s) := by
              by_cases hv : NumOk (-(n : Int))
              · rw [numTx, if_pos hv] at hx; exact ⟨hv, hx⟩
              · rw [numTx, if_neg hv] at hx; exact absurd hx.symm HNE.out
            clear hx
            go_wp2_with fail
            exact bodyPost_ret (v := .tuple #[.int .i64 (-(n : Int)), .bool true]) (by simp [results, Tryd.results38, go_sem]) rfl ⟨.inl ⟨(-(n : Int)), HX.out.1, HX.out.2, rfl⟩, HB2.out⟩
          · have hxx : ((mkS (numTx (-(n : Int)))).toList == s.toList) = false := by rw [tx_eq, tx_mkS]; simpa using hx
            have HNO : Hid (∀ m, NumOk m → Lib.itoa m ≠ tx s) := fun m hm e => by
              have h1 := rdV_itoa m
              rw [e] at h1
              have h2 : (-(n : Int)) = m := by rw [HVV.out]; exact h1
              exact hx (by rw [h2, numTx, if_pos hm, e])
            clear hx
            go_wp2_with fail
            exact bodyPost_ret (v := .tuple #[.int .i64 0, .bool false]) (by simp [results, Tryd.results38, go_sem]) rfl ⟨.inr ⟨HNO.out, rfl⟩, HB2.out⟩
        · have h45b : (((s[0].toNat : Nat) : Int) == 45) = false := by simpa using h45
          have HVV : Hid ((n : Int) = if (tx s)[0]? = some 45 then -((rdV (tx s) : Nat) : Int) else ((rdV (tx s) : Nat) : Int)) := by
            unfold Hid
            rw [HC.out, if_neg (fun e => h45 (by rw [Option.some.inj e]; rfl)), HV2.out]
          go_wp2_with fail
          refine (spec_NumberText (n : Int) w).mono ?_
          rintro e w2 ⟨rfl, hb⟩
          have HB2 := Lib.hid hb
          clear hb
          by_cases hx : numTx (n : Int) = tx s
          · have hxx : ((mkS (numTx (n : Int))).toList == s.toList) = true := by rw [tx_eq, tx_mkS, hx]; simp
            have HX : Hid (NumOk (n : Int) ∧ Lib.itoa (n : Int) = tx s) := by
              by_cases hv : NumOk (n : Int)
              · rw [numTx, if_pos hv] at hx; exact ⟨hv, hx⟩
              · rw [numTx, if_neg hv] at hx; exact absurd hx.symm HNE.out
            clear hx
            go_wp2_with fail
            exact bodyPost_ret (v := .tuple #[.int .i64 (n : Int), .bool true]) (by simp [results, Tryd.results38, go_sem]) rfl ⟨.inl ⟨(n : Int), HX.out.1, HX.out.2, rfl⟩, HB2.out⟩
          · have hxx : ((mkS (numTx (n : Int))).toList == s.toList) = false := by rw [tx_eq, tx_mkS]; simpa using hx
            have HNO : Hid (∀ m, NumOk m → Lib.itoa m ≠ tx s) := fun m hm e => by
              have h1 := rdV_itoa m
              rw [e] at h1
              have h2 : (n : Int) = m := by rw [HVV.out]; exact h1
              exact hx (by rw [h2, numTx, if_pos hm, e])
            clear hx
            go_wp2_with fail
            exact bodyPost_ret (v := .tuple #[.int .i64 0, .bool false]) (by simp [results, Tryd.results38, go_sem]) rfl ⟨.inr ⟨HNO.out, rfl⟩, HB2.out⟩
end Go.Proofs.YtajgghifamebkaaDoor
