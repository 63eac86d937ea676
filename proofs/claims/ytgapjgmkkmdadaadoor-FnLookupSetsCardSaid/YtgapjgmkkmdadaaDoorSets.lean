/- contracts of StreamAt and LookupSets, both -/
import Derived.Test.YtgapjgmkkmdadaaDoorChecked
import Derived.Test.YtgapjgmkkmdadaaDoorMem
import Derived.Test.YtgapjgmkkmdadaaDoorScal
import Derived.Test.YtgapjgmkkmdadaaDoorInts
import Derived.Test.YtgapjgmkkmdadaaDoorApp
namespace Go.Proofs.YtgapjgmkkmdadaaDoor
open Go.RowKit
/-- the stream's mixture after j rounds -/
def mixR (key num at' : Nat) : Nat → Nat
  | 0 => (7 * key + 13 * num + 29 * at' + 11) % 2147483647
  | j + 1 => (48271 * mixR key num at' j + key + num + j) % 2147483647
theorem mixR_lt (key num at' : Nat) : ∀ j, mixR key num at' j < 2147483647
  | 0 => Nat.mod_lt _ (by omega)
  | _ + 1 => Nat.mod_lt _ (by omega)
def streamV (key num at' : Nat) : Nat := mixR key num at' 3 % 200003
def streamOk (key num at' : Int) : Bool := inB key 0 1000000 && (inB num 0 1000000000 && inB at' 0 7)
theorem mix_any (key num at' : Nat) (w : World) (h1 : key ≤ 1000000) (h2 : num ≤ 1000000000) (h3 : at' ≤ 1000) :
    Calls Tryd.prog 47 #[.int .i64 key, .int .i64 num, .int .i64 at'] w fun e w' => e = .returned (.int .i64 (mixR key num at' 3)) ∧ w = w' := by
  obtain ⟨x, hx⟩ : ∃ x : Nat, mixR key num at' 3 = x := ⟨_, rfl⟩
  rw [hx]
  have HX := Lib.hid hx
  clear hx
  have hs : ((key : Int) * 7 + (num : Int) * 13 + (at' : Int) * 29 + 11) % 2147483647 = ((mixR key num at' 0 : Nat) : Int) := by unfold mixR; omega
  obtain ⟨m0, hm0⟩ : ∃ m0 : Nat, mixR key num at' 0 = m0 := ⟨_, rfl⟩
  rw [hm0] at hs
  have HM := Lib.hid hm0
  clear hm0
  go_enter Tryd.func47, Tryd.ntmps47
  go_wp2
  go_loop [7, 8] (fun x i => ∃ k m : Nat, k ≤ 3 ∧ i = .int .i64 k ∧ x = .int .i64 m ∧ m < 2147483647 ∧ Hid (m = mixR key num at' k)) (fun _ i => 3 - (intOf i).toNat)
  case atStart => exact ⟨0, m0, by omega, rfl, congrArg _ hs, by rw [← HM.out]; exact mixR_lt _ _ _ _, HM.out.symm⟩
  case round =>
    obtain ⟨k, m, hk, rfl, rfl, hml, hM⟩ := hrel
    by_cases hlt : k < 3
    · have hs2 : ((m : Int) * 48271 + (key : Int) + (num : Int) + (k : Int)) % 2147483647 = ((mixR key num at' (k + 1) : Nat) : Int) := by rw [mixR, ← hM.out]; omega
      obtain ⟨m1, hm1⟩ : ∃ m1 : Nat, mixR key num at' (k + 1) = m1 := ⟨_, rfl⟩
      rw [hm1] at hs2
      have hml1 : m1 < 2147483647 := by rw [← hm1]; exact mixR_lt _ _ _ _
      have HM1 := Lib.hid hm1
      clear hm1
      go_wp2
      go_round
      case rel => exact ⟨k + 1, m1, by omega, by go_num, congrArg _ hs2, hml1, HM1.out.symm⟩
      case measure => simp [intOf]; omega
    · obtain rfl : k = 3 := by omega
      have HE : Hid (m = x) := by rw [hM.out]; exact HX.out
      go_wp2
      go_ret
      exact ⟨ret_int (by rw [HE.out]), rfl⟩
theorem spec_StreamAt (key num at' : Nat) (w : World) (h1 : key ≤ 1000000) (h2 : num ≤ 1000000000) (h3 : at' ≤ 7) :
    Calls Tryd.prog 42 #[.int .i64 key, .int .i64 num, .int .i64 at'] w fun e w' => e = .returned (.int .i64 (streamV key num at')) ∧ w = w' := by
  have H1 : Hid (inB key 0 1000000 = true) := inB_true (by omega) (by omega)
  have H2 : Hid (inB num 0 1000000000 = true) := inB_true (by omega) (by omega)
  have H3 : Hid (inB at' 0 7 = true) := inB_true (by omega) (by omega)
  have hml := mixR_lt key num at' 3
  have HS : Hid (((mixR key num at' 3 : Nat) : Int) % 200003 = streamV key num at') := by unfold Hid streamV; omega
  obtain ⟨m, hm⟩ : ∃ m : Nat, mixR key num at' 3 = m := ⟨_, rfl⟩
  rw [hm] at HS hml
  have HM := Lib.hid hm
  clear hm
  go_enter Tryd.func42, Tryd.ntmps42
  go_wp2_with fail
  refine (l1In_any _ _ _ _).mono ?_
  rw [H1.out]
  rintro e w' ⟨rfl, rfl⟩
  go_wp2_with fail
  refine (l1In_any _ _ _ _).mono ?_
  rw [H2.out]
  rintro e w' ⟨rfl, rfl⟩
  go_wp2_with fail
  refine (l1In_any _ _ _ _).mono ?_
  rw [H3.out]
  rintro e w' ⟨rfl, rfl⟩
  go_wp2_with fail
  refine (mix_any key num at' _ h1 h2 (by omega)).mono ?_
  rw [HM.out]
  rintro e w' ⟨rfl, rfl⟩
  go_wp2
  go_ret
  exact ⟨ret_int HS.out, rfl⟩
theorem stream_any (key num at' : Nat) (w : World) (h1 : key ≤ 1000000) (h2 : num ≤ 1000000000) (h3 : at' ≤ 1000) :
    Calls Tryd.prog 46 #[.int .i64 key, .int .i64 num, .int .i64 at'] w fun e w' => e = .returned (.int .i64 (streamV key num at')) ∧ w = w' := by
  obtain ⟨x, hx⟩ : ∃ x : Nat, mixR key num at' 3 = x := ⟨_, rfl⟩
  have hxl : x < 2147483647 := by rw [← hx]; exact mixR_lt _ _ _ _
  have HS : Hid (((x : Nat) : Int) % 200003 = streamV key num at') := by unfold Hid streamV; rw [hx]; omega
  have HX := Lib.hid hx
  clear hx
  have hs : (7 * (key : Int) + 13 * (num : Int) + 29 * (at' : Int) + 11) % 2147483647 = ((mixR key num at' 0 : Nat) : Int) := by unfold mixR; omega
  obtain ⟨m0, hm0⟩ : ∃ m0 : Nat, mixR key num at' 0 = m0 := ⟨_, rfl⟩
  rw [hm0] at hs
  have HM := Lib.hid hm0
  clear hm0
  go_enter Tryd.func46, Tryd.ntmps46
  go_wp2
  go_loop [7, 19] (fun x i => ∃ k m : Nat, k ≤ 3 ∧ i = .int .i64 k ∧ x = .int .i64 m ∧ m < 2147483647 ∧ Hid (m = mixR key num at' k)) (fun _ i => 3 - (intOf i).toNat)
  case atStart => exact ⟨0, m0, by omega, rfl, congrArg _ hs, by rw [← HM.out]; exact mixR_lt _ _ _ _, HM.out.symm⟩
  case round =>
    obtain ⟨k, m, hk, rfl, rfl, hml, hM⟩ := hrel
    by_cases hlt : k < 3
    · have hs2 : (48271 * (m : Int) + (key : Int) + (num : Int) + (k : Int)) % 2147483647 = ((mixR key num at' (k + 1) : Nat) : Int) := by rw [mixR, ← hM.out]; omega
      obtain ⟨m1, hm1⟩ : ∃ m1 : Nat, mixR key num at' (k + 1) = m1 := ⟨_, rfl⟩
      rw [hm1] at hs2
      have hml1 : m1 < 2147483647 := by rw [← hm1]; exact mixR_lt _ _ _ _
      have HM1 := Lib.hid hm1
      clear hm1
      go_wp2
      go_round
      case rel => exact ⟨k + 1, m1, by omega, by go_num, congrArg _ hs2, hml1, HM1.out.symm⟩
      case measure => simp [intOf]; omega
    · obtain rfl : k = 3 := by omega
      obtain rfl : m = x := by rw [hM.out]; exact HX.out
      go_wp2
      go_ret
      exact ⟨ret_int HS.out, rfl⟩
theorem isKey_any (n : Int) (w : World) : Calls Tryd.prog 40 #[.int .i64 n] w fun e w' => e = .returned (.bool (inB n 0 1000000)) ∧ w = w' := by
  go_enter Tryd.func40, Tryd.ntmps40
  go_wp2_with (go_at_call 31; refine (in_any _ _ _ _).mono ?_; rintro e w' ⟨rfl, rfl⟩)
  go_ret
  exact ⟨rfl, rfl⟩
theorem isNumber_any (n : Int) (w : World) : Calls Tryd.prog 45 #[.int .i64 n] w fun e w' => e = .returned (.bool (inB n 0 1000000000)) ∧ w = w' := by
  go_enter Tryd.func45, Tryd.ntmps45
  go_wp2_with (go_at_call 31; refine (in_any _ _ _ _).mono ?_; rintro e w' ⟨rfl, rfl⟩)
  go_ret
  exact ⟨rfl, rfl⟩
theorem impl_StreamAt (key num at' : Nat) (w : World) (h1 : key ≤ 1000000) (h2 : num ≤ 1000000000) (h3 : at' ≤ 7) :
    Calls Tryd.prog 41 #[.int .i64 key, .int .i64 num, .int .i64 at'] w fun e w' => e = .returned (.int .i64 (streamV key num at')) ∧ w = w' := by
  have H1 : Hid (inB key 0 1000000 = true) := inB_true (by omega) (by omega)
  have H2 : Hid (inB num 0 1000000000 = true) := inB_true (by omega) (by omega)
  have H3 : Hid (inB at' 0 7 = true) := inB_true (by omega) (by omega)
  go_enter Tryd.func41, Tryd.ntmps41
  go_wp2_with fail
  refine (isKey_any _ _).mono ?_
  rw [H1.out]
  rintro e w' ⟨rfl, rfl⟩
  go_wp2_with fail
  refine (isNumber_any _ _).mono ?_
  rw [H2.out]
  rintro e w' ⟨rfl, rfl⟩
  go_wp2_with fail
  refine (in_any _ _ _ _).mono ?_
  rw [H3.out]
  rintro e w' ⟨rfl, rfl⟩
  go_wp2_with fail
  refine (stream_any key num at' _ h1 h2 (by omega)).mono ?_
  rintro e w' ⟨rfl, rfl⟩
  go_wp2
  go_ret
  exact ⟨rfl, rfl⟩
theorem impl_Stream0 (key num : Nat) (w : World) (h1 : key ≤ 1000000) (h2 : num ≤ 1000000000) :
    Calls Tryd.prog 41 #[.int .i64 key, .int .i64 num, .int .i64 0] w fun e w' => e = .returned (.int .i64 (streamV key num 0)) ∧ w = w' := impl_StreamAt key num 0 w h1 h2 (by omega)
theorem spec_Stream0 (key num : Nat) (w : World) (h1 : key ≤ 1000000) (h2 : num ≤ 1000000000) :
    Calls Tryd.prog 42 #[.int .i64 key, .int .i64 num, .int .i64 0] w fun e w' => e = .returned (.int .i64 (streamV key num 0)) ∧ w = w' := spec_StreamAt key num 0 w h1 h2 (by omega)
def setAt (seed k : Nat) : Bool := ((streamV seed k 0 : Nat) : Int) % 2 == 1
def setA (seed many : Nat) : List Bool := tab many (setAt seed)
def setB (seed many : Nat) (a : Int) : List Bool := tab many (fun k => setAt seed k != ((k : Int) == a))
theorem tab_snoc {α : Type} (n : Nat) (f : Nat → α) : tab n f ++ [f n] = tab (n + 1) f := by simp [tab, List.range_succ]
@[simp] theorem setA_length (s m : Nat) : (setA s m).length = m := by simp [setA]
@[simp] theorem setB_length (s m : Nat) (a : Int) : (setB s m a).length = m := by simp [setB]
theorem setA_snoc (s m : Nat) : bools (setA s m) ++ [.bool (setAt s m)] = bools (setA s (m + 1)) := by
  rw [setA, setA, ← tab_snoc]; simp [bools]
theorem setB_snoc (s m : Nat) (a : Int) : bools (setB s m a) ++ [.bool (setAt s m != ((m : Int) == a))] = bools (setB s (m + 1) a) := by
  rw [setB, setB, ← tab_snoc]; simp [bools]
/-- two lists of marks, in blocks of their own, from B on -/
def TwoB (w : World) (B : Nat) (v u : Value) (xs ys : List Bool) : Prop :=
  Gr w B 4 1 v xs.length (bools xs) ∧ Gr w B 4 1 u ys.length (bools ys) ∧ ∀ g, gBlock v = some g → gBlock u ≠ some g
def setsOk (seed many a : Int) : Bool := inB seed 0 1000000 && (inB many 1 32 && inB a 0 (many - 1))
def SetsPost (seed many a : Int) (w : World) (e : Ending) (w' : World) : Prop :=
  ∃ v u, e = .returned (.tuple #[v, u, .bool (setsOk seed many a)]) ∧ Below w.heap.size w w' ∧
    TwoB w' w.heap.size v u (if setsOk seed many a then setA seed.toNat many.toNat else []) (if setsOk seed many a then setB seed.toNat many.toNat a else [])
set_option maxHeartbeats 400000 in
theorem impl_LookupSets (seed many a : Int) (w : World) :
    Calls Tryd.prog 23 #[.int .i64 seed, .int .i64 many, .int .i64 a] w (SetsPost seed many a w) := by
  by_cases hok : setsOk seed many a = true
  case neg =>
    have HF : Hid (SetsPost seed many a w (.returned (.tuple #[.slice none 0 0, .slice none 0 0, .bool false])) w) := by
      refine ⟨_, _, by rw [Bool.not_eq_true] at hok; rw [hok], Below.refl _ _, ?_⟩
      rw [if_neg hok, if_neg hok]
      exact ⟨Gr.nil _ _ _ _, Gr.nil _ _ _ _, fun g h => by cases h⟩
    cases h1 : inB seed 0 1000000
    · have H1 := Lib.hid h1
      clear h1 hok
      go_enter Tryd.func23, Tryd.ntmps23
      go_wp2_with fail
      refine (isKey_any _ _).mono ?_
      rw [H1.out]
      rintro e w' ⟨rfl, rfl⟩
      go_wp2
      go_ret3
      exact HF.out
    · cases h2 : inB many 1 32
      · have H1 := Lib.hid h1
        have H2 := Lib.hid h2
        clear h1 h2 hok
        go_enter Tryd.func23, Tryd.ntmps23
        go_wp2_with fail
        refine (isKey_any _ _).mono ?_
        rw [H1.out]
        rintro e w' ⟨rfl, rfl⟩
        go_wp2_with fail
        refine (in_any _ _ _ _).mono ?_
        rw [H2.out]
        rintro e w' ⟨rfl, rfl⟩
        go_wp2
        go_ret3
        exact HF.out
      · have h3 : inB a 0 (many - 1) = false := by
          simpa [setsOk, h1, h2] using hok
        obtain ⟨m0, m1⟩ := inB_iff.1 h2
        have H1 := Lib.hid h1
        have H2 := Lib.hid h2
        have H3 := Lib.hid h3
        clear h1 h2 h3 hok
        go_enter Tryd.func23, Tryd.ntmps23
        go_wp2_with fail
        refine (isKey_any _ _).mono ?_
        rw [H1.out]
        rintro e w' ⟨rfl, rfl⟩
        go_wp2_with fail
        refine (in_any _ _ _ _).mono ?_
        rw [H2.out]
        rintro e w' ⟨rfl, rfl⟩
        go_wp2_with fail
        refine (in_any _ _ _ _).mono ?_
        rw [H3.out]
        rintro e w' ⟨rfl, rfl⟩
        go_wp2
        go_ret3
        exact HF.out
  case pos =>
    have hk := hok
    simp only [setsOk, Bool.and_eq_true] at hk
    obtain ⟨h1, h2, h3⟩ := hk
    obtain ⟨s0, s1⟩ := inB_iff.1 h1
    obtain ⟨m0, m1⟩ := inB_iff.1 h2
    obtain ⟨S, rfl⟩ := Int.eq_ofNat_of_zero_le s0
    obtain ⟨M, rfl⟩ := Int.eq_ofNat_of_zero_le (by omega : 0 ≤ many)
    have HF : Hid (∀ v u w', Below w.heap.size w w' → TwoB w' w.heap.size v u (setA S M) (setB S M a) → SetsPost S M a w (.returned (.tuple #[v, u, .bool true])) w') := fun v u w' hb ht =>
      ⟨v, u, by rw [hok], hb, by rw [if_pos hok, if_pos hok]; exact ht⟩
    have H1 := Lib.hid h1
    have H2 := Lib.hid h2
    have H3 := Lib.hid h3
    clear h1 h2 h3 hok s0
    go_enter Tryd.func23, Tryd.ntmps23
    go_wp2_with fail
    refine (isKey_any _ _).mono ?_
    rw [H1.out]
    rintro e w' ⟨rfl, rfl⟩
    go_wp2_with fail
    refine (in_any _ _ _ _).mono ?_
    rw [H2.out]
    rintro e w' ⟨rfl, rfl⟩
    go_wp2_with fail
    refine (in_any _ _ _ _).mono ?_
    rw [H3.out]
    rintro e w' ⟨rfl, rfl⟩
    go_wp2
    go_loopw [9, 10, 29] (fun v u i wr => ∃ k : Nat, k ≤ M ∧ i = .int .i64 k ∧ Below w.heap.size w wr ∧ TwoB wr w.heap.size v u (setA S k) (setB S k a)) (fun _ _ i _ => M - (intOf i).toNat)
    case atStart => exact ⟨0, Nat.zero_le _, rfl, Below.refl _ _, Gr.nil _ _ _ _, Gr.nil _ _ _ _, fun g h => by cases h⟩
    case round =>
      obtain ⟨k, hk, rfl, hb, ht⟩ := hrel
      have hsz := hb.size
      by_cases hlt : k < M
      · obtain ⟨h1, h2, ap⟩ := ht
        have HA : Hid (bools (setA S k) ++ [.bool (setAt S k)] = bools (setA S (k + 1))) := setA_snoc _ _
        have HC : Hid (bools (setB S k a) ++ [.bool (setAt S k != ((k : Int) == a))] = bools (setB S (k + 1) a)) := setB_snoc _ _ _
        rw [setA_length] at h1
        rw [setB_length] at h2
        obtain ⟨x, hx⟩ : ∃ x : Nat, streamV S k 0 = x := ⟨_, rfl⟩
        obtain ⟨t, ht⟩ : ∃ t : Bool, ((x : Int) % 2 == 1) = t := ⟨_, rfl⟩
        obtain ⟨q, hq⟩ : ∃ q : Bool, ((k : Int) == a) = q := ⟨_, rfl⟩
        have hset : setAt S k = t := by rw [setAt, hx, ht]
        rw [hset] at HA HC
        rw [hq] at HC
        have HX := Lib.hid hx
        have H1' := Lib.hid h1
        have H2' := Lib.hid h2
        have HAP := Lib.hid ap
        have HB := Lib.hid hb
        clear hx hset h1 h2 ap hb
        go_wp2_with (first
          | (go_at_call 41; refine (impl_Stream0 S k _ (by omega) (by omega)).mono ?_; rw [HX.out]; rintro e w' ⟨rfl, rfl⟩)
          | (at_builtin; refine wpList_app _ rfl (.tmp 37) (.tmp 39) 33 rfl w.heap.size 4 (.bool false) 1 1 Tryd.underlying33 Tryd.infoBool rfl (by omega) u9 k (bools (setA S k)) rfl (H1'.out.alloc _) _ 1 [.bool t] rfl (view_one _ _ _) (by simp [Value.oneCell']) (by unfold maxLen; omega) (by omega) (by simp; omega) ?_; intro v1 w1 g1 r1 k1; have G1 := Lib.hid g1; have R1 := Lib.hid r1; have K1 := Lib.hid k1; have G2' := Lib.hid ((H2'.out.alloc _).kept R1.out (fun g hg hu => HAP.out g hu hg)); have hz1 : w.heap.size ≤ w1.heap.size := (by have := R1.out.size; simp at this; omega); clear g1 r1 k1)
          | (at_builtin; refine wpList_app _ rfl (.tmp 41) (.tmp 47) 33 rfl w.heap.size 4 (.bool false) 1 1 Tryd.underlying33 Tryd.infoBool rfl (by omega) u10 k (bools (setB S k a)) rfl (G2'.out.alloc _) _ 1 [.bool (t != q)] rfl (view_one _ _ _) (by simp [Value.oneCell']) (by unfold maxLen; omega) (by omega) (by simp; omega) ?_; intro v2 w2 g2 r2 k2; have G2 := Lib.hid g2; have R2 := Lib.hid r2; have K2 := Lib.hid k2; clear g2 r2 k2))
        go_roundw
        case rel =>
          refine ⟨k + 1, hlt, by go_num, ?_, ?_⟩
          · have b1 : Below w.heap.size w w1 := (HB.out.alloc hsz _).grown R1.out (by simp; omega) (fun g hg => (H1'.out.lt g hg).1)
            exact (b1.alloc hz1 _).grown R2.out (by simp; omega) (fun g hg => (H2'.out.lt g hg).1)
          · have := two_step H1'.out H2'.out HAP.out G1.out R1.out K1.out G2.out R2.out K2.out
            rw [HA.out, HC.out] at this
            unfold TwoB
            rw [setA_length, setB_length]
            exact this
        case measure => simp [intOf]; omega
      · obtain rfl : k = M := by omega
        have HB := Lib.hid hb
        have HT := Lib.hid ht
        clear hb ht
        go_wp2
        go_ret3
        exact HF.out _ _ _ HB.out HT.out
set_option maxHeartbeats 400000 in
theorem spec_LookupSets (seed many a : Int) (w : World) :
    Calls Tryd.prog 24 #[.int .i64 seed, .int .i64 many, .int .i64 a] w (SetsPost seed many a w) := by
  by_cases hok : setsOk seed many a = true
  case neg =>
    have HF : Hid (SetsPost seed many a w (.returned (.tuple #[.slice (some ⟨w.heap.size, 0, none⟩) 0 0, .slice (some ⟨w.heap.size + 1, 0, none⟩) 0 0, .bool false])) ((w.alloc (.cells #[] 4)).alloc (.cells #[] 4))) := by
      refine ⟨_, _, by rw [Bool.not_eq_true] at hok; rw [hok], ((Below.refl _ _).alloc (Nat.le_refl _) _).alloc (by simp) _, ?_⟩
      rw [if_neg hok, if_neg hok]
      exact ⟨Gr.none0 _ _ _ _ _, Gr.none0 _ _ _ _ _, fun g h => by cases h⟩
    cases h1 : inB seed 0 1000000
    · have H1 := Lib.hid h1
      clear h1 hok
      go_enter Tryd.func24, Tryd.ntmps24
      go_wp2_with fail
      refine (l1In_any _ _ _ _).mono ?_
      rw [H1.out]
      rintro e w' ⟨rfl, rfl⟩
      go_wp2
      go_ret3
      exact HF.out
    · cases h2 : inB many 1 32
      · have H1 := Lib.hid h1
        have H2 := Lib.hid h2
        clear h1 h2 hok
        go_enter Tryd.func24, Tryd.ntmps24
        go_wp2_with fail
        refine (l1In_any _ _ _ _).mono ?_
        rw [H1.out]
        rintro e w' ⟨rfl, rfl⟩
        go_wp2_with fail
        refine (l1In_any _ _ _ _).mono ?_
        rw [H2.out]
        rintro e w' ⟨rfl, rfl⟩
        go_wp2
        go_ret3
        exact HF.out
      · have h3 : inB a 0 (many - 1) = false := by
          simpa [setsOk, h1, h2] using hok
        obtain ⟨m0, m1⟩ := inB_iff.1 h2
        have H1 := Lib.hid h1
        have H2 := Lib.hid h2
        have H3 := Lib.hid h3
        clear h1 h2 h3 hok
        go_enter Tryd.func24, Tryd.ntmps24
        go_wp2_with fail
        refine (l1In_any _ _ _ _).mono ?_
        rw [H1.out]
        rintro e w' ⟨rfl, rfl⟩
        go_wp2_with fail
        refine (l1In_any _ _ _ _).mono ?_
        rw [H2.out]
        rintro e w' ⟨rfl, rfl⟩
        go_wp2_with fail
        refine (l1In_any _ _ _ _).mono ?_
        rw [H3.out]
        rintro e w' ⟨rfl, rfl⟩
        go_wp2
        go_ret3
        exact HF.out
  case pos =>
    have hk := hok
    simp only [setsOk, Bool.and_eq_true] at hk
    obtain ⟨h1, h2, h3⟩ := hk
    obtain ⟨s0, s1⟩ := inB_iff.1 h1
    obtain ⟨m0, m1⟩ := inB_iff.1 h2
    obtain ⟨S, rfl⟩ := Int.eq_ofNat_of_zero_le s0
    obtain ⟨M, rfl⟩ := Int.eq_ofNat_of_zero_le (by omega : 0 ≤ many)
    have HF : Hid (∀ v u w', Below w.heap.size w w' → TwoB w' w.heap.size v u (setA S M) (setB S M a) → SetsPost S M a w (.returned (.tuple #[v, u, .bool true])) w') := fun v u w' hb ht =>
      ⟨v, u, by rw [hok], hb, by rw [if_pos hok, if_pos hok]; exact ht⟩
    have H1 := Lib.hid h1
    have H2 := Lib.hid h2
    have H3 := Lib.hid h3
    clear h1 h2 h3 hok s0
    go_enter Tryd.func24, Tryd.ntmps24
    go_wp2_with fail
    refine (l1In_any _ _ _ _).mono ?_
    rw [H1.out]
    rintro e w' ⟨rfl, rfl⟩
    go_wp2_with fail
    refine (l1In_any _ _ _ _).mono ?_
    rw [H2.out]
    rintro e w' ⟨rfl, rfl⟩
    go_wp2_with fail
    refine (l1In_any _ _ _ _).mono ?_
    rw [H3.out]
    rintro e w' ⟨rfl, rfl⟩
    go_wp2
    go_loopw [9, 10, 11] (fun v u i wr => ∃ k : Nat, k ≤ M ∧ i = .int .i64 k ∧ Below w.heap.size w wr ∧ TwoB wr w.heap.size v u (setA S k) (setB S k a)) (fun _ _ i _ => M - (intOf i).toNat)
    case atStart => exact ⟨0, Nat.zero_le _, rfl, ((Below.refl _ _).alloc (Nat.le_refl _) _).alloc (by simp) _, Gr.none0 _ _ _ _ _, Gr.none0 _ _ _ _ _, fun g h => by cases h⟩
    case round =>
      obtain ⟨k, hk, rfl, hb, ht⟩ := hrel
      have hsz := hb.size
      by_cases hlt : k < M
      · obtain ⟨h1, h2, ap⟩ := ht
        have HA : Hid (bools (setA S k) ++ [.bool (setAt S k)] = bools (setA S (k + 1))) := setA_snoc _ _
        have HC : Hid (bools (setB S k a) ++ [.bool (setAt S k != ((k : Int) == a))] = bools (setB S (k + 1) a)) := setB_snoc _ _ _
        rw [setA_length] at h1
        rw [setB_length] at h2
        obtain ⟨x, hx⟩ : ∃ x : Nat, streamV S k 0 = x := ⟨_, rfl⟩
        obtain ⟨t, ht⟩ : ∃ t : Bool, ((x : Int) % 2 == 1) = t := ⟨_, rfl⟩
        obtain ⟨q, hq⟩ : ∃ q : Bool, ((k : Int) == a) = q := ⟨_, rfl⟩
        have hset : setAt S k = t := by rw [setAt, hx, ht]
        rw [hset] at HA HC
        rw [hq] at HC
        have HX := Lib.hid hx
        have H1' := Lib.hid h1
        have H2' := Lib.hid h2
        have HAP := Lib.hid ap
        have HB := Lib.hid hb
        clear hx hset h1 h2 ap hb
        go_wp2_with (first
          | (go_at_call 42; refine (spec_Stream0 S k _ (by omega) (by omega)).mono ?_; rw [HX.out]; rintro e w' ⟨rfl, rfl⟩)
          | (at_builtin; refine wpList_app _ rfl (.tmp 42) (.tmp 44) 33 rfl w.heap.size 4 (.bool false) 1 1 Tryd.underlying33 Tryd.infoBool rfl (by omega) u9 k (bools (setA S k)) rfl (H1'.out.alloc _) _ 1 [.bool t] rfl (view_one _ _ _) (by simp [Value.oneCell']) (by unfold maxLen; omega) (by omega) (by simp; omega) ?_; intro v1 w1 g1 r1 k1; have G1 := Lib.hid g1; have R1 := Lib.hid r1; have K1 := Lib.hid k1; have G2' := Lib.hid ((H2'.out.alloc _).kept R1.out (fun g hg hu => HAP.out g hu hg)); have hz1 : w.heap.size ≤ w1.heap.size := (by have := R1.out.size; simp at this; omega); clear g1 r1 k1)
          | (at_builtin; refine wpList_app _ rfl (.tmp 46) (.tmp 52) 33 rfl w.heap.size 4 (.bool false) 1 1 Tryd.underlying33 Tryd.infoBool rfl (by omega) u10 k (bools (setB S k a)) rfl (G2'.out.alloc _) _ 1 [.bool (t != q)] rfl (view_one _ _ _) (by simp [Value.oneCell']) (by unfold maxLen; omega) (by omega) (by simp; omega) ?_; intro v2 w2 g2 r2 k2; have G2 := Lib.hid g2; have R2 := Lib.hid r2; have K2 := Lib.hid k2; clear g2 r2 k2))
        go_roundw
        case rel =>
          refine ⟨k + 1, hlt, by go_num, ?_, ?_⟩
          · have b1 : Below w.heap.size w w1 := (HB.out.alloc hsz _).grown R1.out (by simp; omega) (fun g hg => (H1'.out.lt g hg).1)
            exact (b1.alloc hz1 _).grown R2.out (by simp; omega) (fun g hg => (H2'.out.lt g hg).1)
          · have := two_step H1'.out H2'.out HAP.out G1.out R1.out K1.out G2.out R2.out K2.out
            rw [HA.out, HC.out] at this
            unfold TwoB
            rw [setA_length, setB_length]
            exact this
        case measure => simp [intOf]; omega
      · obtain rfl : k = M := by omega
        have HB := Lib.hid hb
        have HT := Lib.hid ht
        clear hb ht
        go_wp2
        go_ret3
        exact HF.out _ _ _ HB.out HT.out
def setsA (seed many a : Int) : List Bool := if setsOk seed many a then setA seed.toNat many.toNat else []
def setsB (seed many a : Int) : List Bool := if setsOk seed many a then setB seed.toNat many.toNat a else []
theorem setsOk_many {s m a : Int} (h : setsOk s m a = true) : m.toNat ≤ 32 := by
  simp only [setsOk, Bool.and_eq_true] at h
  have := inB_iff.1 h.2.1
  omega
theorem setsA_le (s m a : Int) : (setsA s m a).length ≤ 32 := by
  unfold setsA; split
  · rw [setA_length]; exact setsOk_many ‹_›
  · simp
theorem setsB_le (s m a : Int) : (setsB s m a).length ≤ 32 := by
  unfold setsB; split
  · rw [setB_length]; exact setsOk_many ‹_›
  · simp
theorem sets_own {s m a : Int} {w w' : World} {e : Ending} (h : SetsPost s m a w e w') : ∃ v u b c, e = .returned (.tuple #[v, u, .bool (setsOk s m a)]) ∧ OwnB w' b v (setsA s m a) ∧ From w.heap.size b ∧
    OwnB w' c u (setsB s m a) ∧ From w.heap.size c ∧ (∀ g, b = some g → c ≠ some g) ∧ Below w.heap.size w w' := by
  obtain ⟨v, u, he, hb, h1, h2, hap⟩ := h
  obtain ⟨b, hb1, hb2, hb3⟩ := h1.own
  obtain ⟨c, hc1, hc2, hc3⟩ := h2.own
  exact ⟨v, u, b, c, he, hb1, hb2, hc1, hc2, fun g hg hc => hap g (hb3 g hg) (hc3 g hc), hb⟩
theorem spec_LookupSets_own (s m a : Int) (w : World) : Calls Tryd.prog 24 #[.int .i64 s, .int .i64 m, .int .i64 a] w fun e w' => ∃ v u b c, e = .returned (.tuple #[v, u, .bool (setsOk s m a)]) ∧ OwnB w' b v (setsA s m a) ∧ From w.heap.size b ∧
    OwnB w' c u (setsB s m a) ∧ From w.heap.size c ∧ (∀ g, b = some g → c ≠ some g) ∧ Below w.heap.size w w' := (spec_LookupSets s m a w).mono fun _ _ h => sets_own h
theorem impl_LookupSets_own (s m a : Int) (w : World) : Calls Tryd.prog 23 #[.int .i64 s, .int .i64 m, .int .i64 a] w fun e w' => ∃ v u b c, e = .returned (.tuple #[v, u, .bool (setsOk s m a)]) ∧ OwnB w' b v (setsA s m a) ∧ From w.heap.size b ∧
    OwnB w' c u (setsB s m a) ∧ From w.heap.size c ∧ (∀ g, b = some g → c ≠ some g) ∧ Below w.heap.size w w' := (impl_LookupSets s m a w).mono fun _ _ h => sets_own h
end Go.Proofs.YtgapjgmkkmdadaaDoor
