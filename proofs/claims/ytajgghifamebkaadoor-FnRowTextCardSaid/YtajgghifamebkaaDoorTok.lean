/- tokens: the program's run and tokenSize -/
import Derived.Test.YtajgghifamebkaaDoorTxtK
import Derived.Test.YtajgghifamebkaaDoorTxtN
namespace Go.Proofs.YtajgghifamebkaaDoor
set_option linter.unusedSimpArgs false
set_option linter.unusedVariables false
open Go.RowKit
open Go
theorem hasPrefix_cons (b : UInt8) (l : List UInt8) : Lib.hasPrefix (b :: l) [b] = true := by simp [Lib.hasPrefix]
theorem trim_hit (l : List UInt8) : Lib.trimPrefix (45 :: l) [45] = l := by
  unfold Lib.trimPrefix
  rw [if_pos (hasPrefix_cons _ _)]; rfl
theorem trim_miss {l : List UInt8} (h : ∀ x t, l = x :: t → x ≠ 45) : Lib.trimPrefix l [45] = l := by
  unfold Lib.trimPrefix
  rw [if_neg]
  intro hp
  cases l with
  | nil => simp [Lib.hasPrefix] at hp
  | cons x t =>
    simp [Lib.hasPrefix] at hp
    first | exact h x t rfl hp | exact h x t rfl hp.symm
theorem runL_at {p : UInt8 → Bool} {l : List UInt8} {k : Nat} {x : UInt8} (h : ∀ b ∈ l.take k, p b = true) (hk : l[k]? = some x) (hx : p x = false) : runL p l = k := by
  have h1 := (List.getElem?_eq_some_iff.1 hk).1
  have h2 : l = l.take k ++ (x :: l.drop (k + 1)) := by
    have := List.drop_eq_getElem_cons h1
    rw [(List.getElem?_eq_some_iff.1 hk).2] at this
    rw [← this, List.take_append_drop]
  rw [h2, runL_all h (fun y t e => by rw [← (List.cons.inj e).1]; exact hx), List.length_take]
  omega
theorem runL_end {p : UInt8 → Bool} {l : List UInt8} (h : ∀ b ∈ l, p b = true) : runL p l = l.length := by
  have := runL_all (b := []) h (fun y t e => by cases e)
  rwa [List.append_nil] at this
theorem take_all {p : UInt8 → Bool} {l : List UInt8} {k : Nat} {x : UInt8} (h : ∀ b ∈ l.take k, p b = true) (hk : l[k]? = some x) (hx : p x = true) : ∀ b ∈ l.take (k + 1), p b = true := by
  intro b hb
  rw [List.take_add_one, hk] at hb
  rcases List.mem_append.1 hb with hb | hb
  · exact h b hb
  · obtain rfl : b = x := by simpa using hb
    exact hx
set_option maxRecDepth 20000 in
theorem isLetter_any (b : UInt8) (w : World) : Calls Tryd.prog 70 #[.int .u8 (b.toNat : Int)] w fun e w' => e = .returned (.bool (isLet b)) ∧ w = w' := by
  obtain ⟨n, hn⟩ : ∃ n, b.toNat = n := ⟨_, rfl⟩
  obtain ⟨t, ht⟩ : ∃ t, isLet b = t := ⟨_, rfl⟩
  have HE : Hid (t = decide (97 ≤ n ∧ n ≤ 122)) := by unfold Hid; rw [← ht]; unfold isLet; rw [hn]
  rw [hn, ht]
  clear hn ht
  by_cases h1 : 97 ≤ n
  · have i1 : (97 : Int) ≤ (n : Int) := by omega
    by_cases h2 : n ≤ 122
    · have i2 : (n : Int) ≤ 122 := by omega
      have HD : Hid (t = true) := HE.out.trans (decide_eq_true ⟨h1, h2⟩)
      clear h1 h2 HE
      go_enter Tryd.func70, Tryd.ntmps70
      go_wp2
      go_ret
      exact ⟨by rw [HD.out]; rfl, rfl⟩
    · have i2 : ¬ (n : Int) ≤ 122 := by omega
      have HD : Hid (t = false) := HE.out.trans (decide_eq_false (fun h => h2 h.2))
      clear h1 h2 HE
      go_enter Tryd.func70, Tryd.ntmps70
      go_wp2
      go_ret
      exact ⟨by rw [HD.out]; rfl, rfl⟩
  · have i1 : ¬ (97 : Int) ≤ (n : Int) := by omega
    have HD : Hid (t = false) := HE.out.trans (decide_eq_false (fun h => h1 h.1))
    clear h1 HE
    go_enter Tryd.func70, Tryd.ntmps70
    go_wp2
    go_ret
    exact ⟨by rw [HD.out]; rfl, rfl⟩
set_option maxRecDepth 20000 in
theorem run_isLetter (s : ByteArray) (w : World) (hs : s.size ≤ 4000000) : Calls Tryd.prog 69 #[.string s, .func (.func 70) #[] #[]] w fun e w' => e = .returned (.int .i64 ((runL isLet (tx s) : Nat) : Int)) ∧ w = w' := by
  go_enter Tryd.func69, Tryd.ntmps69
  go_wp2
  go_loopg [5] s.size (fun gg i wr => ∃ k : Nat, k ≤ s.size ∧ s.size - k ≤ gg ∧ i = .int .i64 (k : Int) ∧ Hid (∀ b ∈ (tx s).take k, isLet b = true) ∧ w = wr)
  case atStart => exact ⟨0, Nat.zero_le _, Nat.le_refl _, rfl, (fun b hb => by simp at hb), rfl⟩
  case round =>
    obtain ⟨k, hk, hgg, rfl, hA, rfl⟩ := hrel
    by_cases hlt : k < s.size
    · have HLT := Lib.hid hlt
      have HC : Hid ((tx s)[k]? = some s[k]) := by unfold Hid tx; rw [Array.getElem?_toList, Array.getElem?_eq_getElem (by simpa using hlt)]; rfl
      cases hp : isLet s[k] with
      | true =>
        have HP := Lib.hid hp
        have HA2 := Lib.hid (take_all hA.out HC.out hp)
        clear hp
        go_wp2_with (go_at_call 70; refine (isLetter_any s[k] _).mono ?_; rintro e w' ⟨rfl, rfl⟩; rw [HP.out])
        go_roundg (s.size - (k + 1))
        case rel => exact ⟨k + 1, HLT.out, Nat.le_refl _, by go_num, HA2.out, rfl⟩
        case measure => have := HLT.out; omega
      | false =>
        have HP := Lib.hid hp
        have HF := Lib.hid (runL_at hA.out HC.out hp)
        clear hp
        go_wp2_with (go_at_call 70; refine (isLetter_any s[k] _).mono ?_; rintro e w' ⟨rfl, rfl⟩; rw [HP.out])
        go_ret
        exact ⟨by rw [HF.out]; rfl, rfl⟩
    · obtain rfl : k = s.size := by omega
      have HF : Hid (runL isLet (tx s) = s.size) := by
        have h1 := hA.out
        rw [← tx_size, List.take_length] at h1
        unfold Hid
        rw [runL_end h1, tx_size]
      go_wp2
      go_ret
      exact ⟨by rw [HF.out]; rfl, rfl⟩
set_option maxRecDepth 20000 in
theorem isDigit_any (b : UInt8) (w : World) : Calls Tryd.prog 72 #[.int .u8 (b.toNat : Int)] w fun e w' => e = .returned (.bool (isDig b)) ∧ w = w' := by
  obtain ⟨n, hn⟩ : ∃ n, b.toNat = n := ⟨_, rfl⟩
  obtain ⟨t, ht⟩ : ∃ t, isDig b = t := ⟨_, rfl⟩
  have HE : Hid (t = decide (48 ≤ n ∧ n ≤ 57)) := by unfold Hid; rw [← ht]; unfold isDig; rw [hn]
  rw [hn, ht]
  clear hn ht
  by_cases h1 : 48 ≤ n
  · have i1 : (48 : Int) ≤ (n : Int) := by omega
    by_cases h2 : n ≤ 57
    · have i2 : (n : Int) ≤ 57 := by omega
      have HD : Hid (t = true) := HE.out.trans (decide_eq_true ⟨h1, h2⟩)
      clear h1 h2 HE
      go_enter Tryd.func72, Tryd.ntmps72
      go_wp2
      go_ret
      exact ⟨by rw [HD.out]; rfl, rfl⟩
    · have i2 : ¬ (n : Int) ≤ 57 := by omega
      have HD : Hid (t = false) := HE.out.trans (decide_eq_false (fun h => h2 h.2))
      clear h1 h2 HE
      go_enter Tryd.func72, Tryd.ntmps72
      go_wp2
      go_ret
      exact ⟨by rw [HD.out]; rfl, rfl⟩
  · have i1 : ¬ (48 : Int) ≤ (n : Int) := by omega
    have HD : Hid (t = false) := HE.out.trans (decide_eq_false (fun h => h1 h.1))
    clear h1 HE
    go_enter Tryd.func72, Tryd.ntmps72
    go_wp2
    go_ret
    exact ⟨by rw [HD.out]; rfl, rfl⟩
set_option maxRecDepth 20000 in
theorem run_isDigit (s : ByteArray) (w : World) (hs : s.size ≤ 4000000) : Calls Tryd.prog 69 #[.string s, .func (.func 72) #[] #[]] w fun e w' => e = .returned (.int .i64 ((runL isDig (tx s) : Nat) : Int)) ∧ w = w' := by
  go_enter Tryd.func69, Tryd.ntmps69
  go_wp2
  go_loopg [5] s.size (fun gg i wr => ∃ k : Nat, k ≤ s.size ∧ s.size - k ≤ gg ∧ i = .int .i64 (k : Int) ∧ Hid (∀ b ∈ (tx s).take k, isDig b = true) ∧ w = wr)
  case atStart => exact ⟨0, Nat.zero_le _, Nat.le_refl _, rfl, (fun b hb => by simp at hb), rfl⟩
  case round =>
    obtain ⟨k, hk, hgg, rfl, hA, rfl⟩ := hrel
    by_cases hlt : k < s.size
    · have HLT := Lib.hid hlt
      have HC : Hid ((tx s)[k]? = some s[k]) := by unfold Hid tx; rw [Array.getElem?_toList, Array.getElem?_eq_getElem (by simpa using hlt)]; rfl
      cases hp : isDig s[k] with
      | true =>
        have HP := Lib.hid hp
        have HA2 := Lib.hid (take_all hA.out HC.out hp)
        clear hp
        go_wp2_with (go_at_call 72; refine (isDigit_any s[k] _).mono ?_; rintro e w' ⟨rfl, rfl⟩; rw [HP.out])
        go_roundg (s.size - (k + 1))
        case rel => exact ⟨k + 1, HLT.out, Nat.le_refl _, by go_num, HA2.out, rfl⟩
        case measure => have := HLT.out; omega
      | false =>
        have HP := Lib.hid hp
        have HF := Lib.hid (runL_at hA.out HC.out hp)
        clear hp
        go_wp2_with (go_at_call 72; refine (isDigit_any s[k] _).mono ?_; rintro e w' ⟨rfl, rfl⟩; rw [HP.out])
        go_ret
        exact ⟨by rw [HF.out]; rfl, rfl⟩
    · obtain rfl : k = s.size := by omega
      have HF : Hid (runL isDig (tx s) = s.size) := by
        have h1 := hA.out
        rw [← tx_size, List.take_length] at h1
        unfold Hid
        rw [runL_end h1, tx_size]
      go_wp2
      go_ret
      exact ⟨by rw [HF.out]; rfl, rfl⟩
set_option maxRecDepth 20000 in
/-- the token at a number's text -/
theorem tokenSize_num (s : ByteArray) (m : Int) (l : List UInt8) (w : World) (hs : s.size ≤ 4000000) (hm : NumOk m) (ht : tx s = Lib.itoa m ++ l) (hl : Behind l) :
    Calls Tryd.prog 50 #[.string s] w fun e w' => e = .returned (.int .i64 (((Lib.itoa m).length : Nat) : Int)) ∧ w = w' := by
  have HL0 : Hid (runL isLet (tx s) = 0) := by unfold Hid; rw [ht]; exact run_let hm l
  obtain ⟨s2, hs2⟩ : ∃ s2, mkS (Lib.trimPrefix (tx s) [45]) = s2 := ⟨_, rfl⟩
  obtain ⟨q, hq⟩ : ∃ q, runL isDig (tx s2) = q := ⟨_, rfl⟩
  obtain ⟨z, hz⟩ : ∃ z, (Lib.itoa m).length = z := ⟨_, rfl⟩
  have key : 0 < q ∧ q + s.size = z + s2.size := by
    have h1 := congrArg List.length ht
    rw [tx_size, List.length_append] at h1
    obtain ⟨u, hu | ⟨hu, hno⟩⟩ := itoa_sign hm
    · have e2 : tx s2 = Lib.decDigits u ++ l := by rw [← hs2, tx_mkS, ht, hu, List.cons_append, trim_hit]
      have h2 := congrArg List.length e2
      rw [tx_size, List.length_append] at h2
      rw [e2, run_dec u hl] at hq
      have h3 : 0 < (Lib.decDigits u).length := List.length_pos_iff.2 (dec_ne u)
      rw [hu, List.length_cons] at hz h1
      omega
    · have e2 : tx s2 = Lib.decDigits u ++ l := by
        rw [← hs2, tx_mkS, ht, hu, trim_miss]
        intro x t e
        cases hd : Lib.decDigits u with
        | nil => exact absurd hd (dec_ne u)
        | cons y r =>
          rw [hd, List.cons_append] at e
          rw [← (List.cons.inj e).1]
          exact hno y r hd
      have h2 := congrArg List.length e2
      rw [tx_size, List.length_append] at h2
      rw [e2, run_dec u hl] at hq
      have h3 : 0 < (Lib.decDigits u).length := List.length_pos_iff.2 (dec_ne u)
      rw [hu] at hz h1
      omega
  have HQ := Lib.hid hq
  have HS2 := Lib.hid hs2
  have hq0 : (0 : Int) < (q : Int) := by omega
  have hsz2 : s2.size ≤ 4000000 := by
    rw [← hs2, mkS_size]
    have := Lib.trimPrefix_le (tx s) [45]
    rw [tx_size] at this
    omega
  have hqs : q ≤ 4000000 := by
    rw [← hq]
    unfold runL
    have := (List.takeWhile_sublist (p := isDig) (l := tx s2)).length_le
    rw [tx_size] at this
    omega
  have he : (q : Int) + (s.size : Int) - (s2.size : Int) = (z : Int) := by omega
  rw [hz]
  clear hq hs2 hz key
  go_enter Tryd.func50, Tryd.ntmps50
  go_wp2_with fail
  refine (run_isLetter s _ hs).mono ?_
  rintro e w' ⟨rfl, rfl⟩
  rw [HL0.out]
  go_wp2_with fail
  refine (Tryd.strings_TrimPrefix s ⟨#[45]⟩ _).mono ?_
  rintro e w' ⟨rfl, rfl⟩
  rw [show (⟨(Lib.trimPrefix s.data.toList (⟨#[45]⟩ : ByteArray).data.toList).toArray⟩ : ByteArray) = s2 from HS2.out]
  go_wp2_with fail
  refine (run_isDigit s2 _ hsz2).mono ?_
  rintro e w' ⟨rfl, rfl⟩
  rw [HQ.out]
  go_wp2
  go_ret
  exact ⟨rfl, rfl⟩
end Go.Proofs.YtajgghifamebkaaDoor
