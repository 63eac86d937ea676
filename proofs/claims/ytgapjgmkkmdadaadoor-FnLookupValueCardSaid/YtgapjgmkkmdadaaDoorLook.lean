/- contracts of LookupValue and LookupAnswer, both; l31Other is the exclusive or -/
import Derived.Test.YtgapjgmkkmdadaaDoorChecked
import Derived.Test.YtgapjgmkkmdadaaDoorMem
import Derived.Test.YtgapjgmkkmdadaaDoorScal
namespace Go.Proofs.YtgapjgmkkmdadaaDoor
open Go.RowKit
theorem xor_step (a b : Nat) : a ^^^ b = (if a % 2 = b % 2 then 0 else 1) + 2 * ((a / 2) ^^^ (b / 2)) := by
  have h1 : (a ^^^ b) / 2 = a / 2 ^^^ b / 2 := Nat.xor_div_two
  have h2 : (a ^^^ b) % 2 = (a + b) % 2 := by
    have := @Nat.xor_mod_two_eq_one a b
    omega
  have h3 := Nat.div_add_mod (a ^^^ b) 2
  rw [h1, h2] at h3
  split <;> omega
theorem xor_lt17 {a b : Nat} (ha : a < 131072) (hb : b < 131072) : a ^^^ b < 131072 := Nat.xor_lt_two_pow (n := 17) ha hb
theorem xor_lt30 {a b : Nat} (ha : a < 1073741824) (hb : b < 1073741824) : a ^^^ b < 1073741824 := Nat.xor_lt_two_pow (n := 30) ha hb
theorem bits_xor_nat (a b : Nat) (ha : a < 4611686018427387904) (hb : b < 4611686018427387904) : bits .xor .i64 (a : Int) (b : Int) = ((a ^^^ b : Nat) : Int) := by
  have hx : a ^^^ b < 2 ^ 62 := Nat.xor_lt_two_pow (by omega) (by omega)
  have h1 : (BitVec.ofInt 64 (a : Int)).toNat = a := by
    rw [BitVec.ofInt_natCast, BitVec.toNat_ofNat]; exact Nat.mod_eq_of_lt (by omega)
  have h2 : (BitVec.ofInt 64 (b : Int)).toNat = b := by
    rw [BitVec.ofInt_natCast, BitVec.toNat_ofNat]; exact Nat.mod_eq_of_lt (by omega)
  show IntKind.i64.wrap ((BitVec.ofInt 64 (a : Int) ^^^ BitVec.ofInt 64 (b : Int)).toNat : Int) = _
  rw [BitVec.toNat_xor, h1, h2, IntKind.wrap_i64]
  omega
/-- what the loop of l31Other keeps -/
def OthInv (a b a' b' n p : Nat) : Prop := n + p * (a' ^^^ b') = a ^^^ b ∧ p * a' ≤ a ∧ p * b' ≤ b ∧ 1 ≤ p
theorem OthInv.step {a b a' b' n p : Nat} (h : OthInv a b a' b' n p) : OthInv a b (a' / 2) (b' / 2) (if a' % 2 = b' % 2 then n else n + p) (2 * p) := by
  obtain ⟨h1, h2, h3, h4⟩ := h
  have e := xor_step a' b'
  refine ⟨?_, ?_, ?_, by omega⟩
  · rw [← h1, e]
    generalize (a' / 2) ^^^ (b' / 2) = z
    split
    · rw [Nat.zero_add, Nat.mul_comm 2 p, Nat.mul_assoc]
    · rw [Nat.mul_add, Nat.mul_one, Nat.mul_comm 2 p, Nat.mul_assoc, Nat.add_assoc]
  · refine Nat.le_trans ?_ h2
    rw [Nat.mul_comm 2 p, Nat.mul_assoc]
    exact Nat.mul_le_mul_left _ (Nat.mul_div_le _ _)
  · refine Nat.le_trans ?_ h3
    rw [Nat.mul_comm 2 p, Nat.mul_assoc]
    exact Nat.mul_le_mul_left _ (Nat.mul_div_le _ _)
theorem OthInv.bounds {a b a' b' n p : Nat} (h : OthInv a b a' b' n p) (ha : a < 1073741824) (hb : b < 1073741824) : n < 1073741824 ∧ (0 < a' ∨ 0 < b' → p < 1073741824) := by
  obtain ⟨h1, h2, h3, h4⟩ := h
  have := xor_lt30 ha hb
  refine ⟨by omega, fun h => ?_⟩
  rcases h with h | h
  · have := Nat.le_mul_of_pos_right p h; omega
  · have := Nat.le_mul_of_pos_right p h; omega
set_option maxHeartbeats 400000 in
theorem other_any (a b : Nat) (w : World) (ha : a < 1073741824) (hb : b < 1073741824) :
    Calls Tryd.prog 33 #[.int .i64 a, .int .i64 b] w fun e w' => e = .returned (.int .i64 ((a ^^^ b : Nat) : Int)) ∧ w = w' := by
  obtain ⟨x, hx⟩ : ∃ x : Int, ((a ^^^ b : Nat) : Int) = x := ⟨_, rfl⟩
  rw [hx]
  have HX := Lib.hid hx
  clear hx
  go_enter Tryd.func33, Tryd.ntmps33
  go_wp2
  go_loop [0, 1, 5, 6] (fun sa sb sn sp => ∃ a' b' n p : Nat, sa = .int .i64 a' ∧ sb = .int .i64 b' ∧ sn = .int .i64 n ∧ sp = .int .i64 p ∧ Hid (OthInv a b a' b' n p)) (fun sa sb _ _ => (intOf sa).toNat + (intOf sb).toNat)
  case atStart => exact ⟨a, b, 0, 1, rfl, rfl, rfl, rfl, by simp [Hid, OthInv]⟩
  case round =>
    obtain ⟨a', b', n, p, rfl, rfl, rfl, rfl, hI⟩ := hrel
    have hbd := hI.out.bounds ha hb
    have hn := hbd.1
    have hp := hbd.2
    have hst := hI.out.step
    clear hbd
    have hla : a' ≤ a := Nat.le_trans (Nat.le_mul_of_pos_left _ hI.out.2.2.2) hI.out.2.1
    have hlb : b' ≤ b := Nat.le_trans (Nat.le_mul_of_pos_left _ hI.out.2.2.2) hI.out.2.2.1
    by_cases h0 : 0 < a' ∨ 0 < b'
    · have hp := hp h0
      by_cases hm : a' % 2 = b' % 2
      · rw [if_pos hm] at hst
        have HS := Lib.hid hst
        have hm' : ((a' : Int) % 2 != (b' : Int) % 2) = false := by simp; omega
        clear hst hI hm
        by_cases hpa : 0 < a'
        · clear h0
          go_wp2
          go_round
          case rel => exact ⟨a' / 2, b' / 2, n, 2 * p, by go_num, by go_num, rfl, by go_num, HS.out⟩
          case measure => simp [intOf]; omega
        · obtain rfl : a' = 0 := by omega
          have hpb : 0 < b' := by omega
          clear h0 hpa
          go_wp2
          go_round
          case rel => exact ⟨0, b' / 2, n, 2 * p, by go_num, by go_num, rfl, by go_num, HS.out⟩
          case measure => simp [intOf]; omega
      · rw [if_neg hm] at hst
        have HS := Lib.hid hst
        have hm' : ((a' : Int) % 2 != (b' : Int) % 2) = true := by simp; omega
        clear hst hI hm
        by_cases hpa : 0 < a'
        · clear h0
          go_wp2
          go_round
          case rel => exact ⟨a' / 2, b' / 2, n + p, 2 * p, by go_num, by go_num, by go_num, by go_num, HS.out⟩
          case measure => simp [intOf]; omega
        · obtain rfl : a' = 0 := by omega
          have hpb : 0 < b' := by omega
          clear h0 hpa
          go_wp2
          go_round
          case rel => exact ⟨0, b' / 2, n + p, 2 * p, by go_num, by go_num, by go_num, by go_num, HS.out⟩
          case measure => simp [intOf]; omega
    · obtain rfl : a' = 0 := by omega
      obtain rfl : b' = 0 := by omega
      have HE : Hid (n = a ^^^ b) := by have := hI.out.1; simpa [Hid] using this
      clear hst hI h0 hp
      go_wp2
      go_ret
      exact ⟨ret_int (by rw [HE.out]; exact HX.out), rfl⟩
def xorI (a b : Int) : Int := ((a.toNat ^^^ b.toNat : Nat) : Int)
def lookV (a b : Int) : Int := if inB a 0 200000 && inB b 0 200000 then xorI a b else -1
theorem spec_LookupValue (a b : Int) (w : World) : Calls Tryd.prog 15 #[.int .i64 a, .int .i64 b] w fun e w' => e = .returned (.int .i64 (lookV a b)) ∧ w = w' := by
  cases h1 : inB a 0 200000
  · have HE : Hid (lookV a b = -1) := by unfold Hid lookV; rw [h1]; rfl
    have H1 := Lib.hid h1
    clear h1
    go_enter Tryd.func15, Tryd.ntmps15
    go_wp2_with (go_at_call 32; refine (l1In_any _ _ _ _).mono ?_; rw [H1.out]; rintro e w' ⟨rfl, rfl⟩)
    go_ret
    exact ⟨ret_int HE.out.symm, rfl⟩
  · cases h2 : inB b 0 200000
    · have HE : Hid (lookV a b = -1) := by unfold Hid lookV; rw [h1, h2]; rfl
      have H1 := Lib.hid h1
      have H2 := Lib.hid h2
      clear h1 h2
      go_enter Tryd.func15, Tryd.ntmps15
      go_wp2_with fail
      refine (l1In_any _ _ _ _).mono ?_
      rw [H1.out]
      rintro e w' ⟨rfl, rfl⟩
      go_wp2_with fail
      refine (l1In_any _ _ _ _).mono ?_
      rw [H2.out]
      rintro e w' ⟨rfl, rfl⟩
      go_wp2
      go_ret
      exact ⟨ret_int HE.out.symm, rfl⟩
    · obtain ⟨a0, a1⟩ := inB_iff.1 h1
      obtain ⟨b0, b1⟩ := inB_iff.1 h2
      obtain ⟨x, rfl⟩ := Int.eq_ofNat_of_zero_le a0
      obtain ⟨y, rfl⟩ := Int.eq_ofNat_of_zero_le b0
      have HE : Hid (lookV x y = ((x ^^^ y : Nat) : Int)) := by unfold Hid lookV; rw [h1, h2]; rfl
      have H1 := Lib.hid h1
      have H2 := Lib.hid h2
      clear h1 h2 a0 b0
      go_enter Tryd.func15, Tryd.ntmps15
      go_wp2_with fail
      refine (l1In_any _ _ _ _).mono ?_
      rw [H1.out]
      rintro e w' ⟨rfl, rfl⟩
      go_wp2_with fail
      refine (l1In_any _ _ _ _).mono ?_
      rw [H2.out]
      rintro e w' ⟨rfl, rfl⟩
      go_wp2_with fail
      refine (other_any _ _ _ (by omega) (by omega)).mono ?_
      rintro e w' ⟨rfl, rfl⟩
      go_wp2
      go_ret
      exact ⟨ret_int HE.out.symm, rfl⟩
theorem impl_LookupValue (a b : Int) (w : World) : Calls Tryd.prog 14 #[.int .i64 a, .int .i64 b] w fun e w' => e = .returned (.int .i64 (lookV a b)) ∧ w = w' := by
  cases h1 : inB a 0 200000
  · have HE : Hid (lookV a b = -1) := by unfold Hid lookV; rw [h1]; rfl
    have H1 := Lib.hid h1
    clear h1
    go_enter Tryd.func14, Tryd.ntmps14
    go_wp2_with (go_at_call 31; refine (in_any _ _ _ _).mono ?_; rw [H1.out]; rintro e w' ⟨rfl, rfl⟩)
    go_ret
    exact ⟨ret_int HE.out.symm, rfl⟩
  · cases h2 : inB b 0 200000
    · have HE : Hid (lookV a b = -1) := by unfold Hid lookV; rw [h1, h2]; rfl
      have H1 := Lib.hid h1
      have H2 := Lib.hid h2
      clear h1 h2
      go_enter Tryd.func14, Tryd.ntmps14
      go_wp2_with fail
      refine (in_any _ _ _ _).mono ?_
      rw [H1.out]
      rintro e w' ⟨rfl, rfl⟩
      go_wp2_with fail
      refine (in_any _ _ _ _).mono ?_
      rw [H2.out]
      rintro e w' ⟨rfl, rfl⟩
      go_wp2
      go_ret
      exact ⟨ret_int HE.out.symm, rfl⟩
    · obtain ⟨a0, a1⟩ := inB_iff.1 h1
      obtain ⟨b0, b1⟩ := inB_iff.1 h2
      obtain ⟨x, rfl⟩ := Int.eq_ofNat_of_zero_le a0
      obtain ⟨y, rfl⟩ := Int.eq_ofNat_of_zero_le b0
      have HE : Hid (lookV x y = ((x ^^^ y : Nat) : Int)) := by unfold Hid lookV; rw [h1, h2]; rfl
      have H1 := Lib.hid h1
      have H2 := Lib.hid h2
      have hx := bits_xor_nat x y (by omega) (by omega)
      clear h1 h2 a0 b0
      go_enter Tryd.func14, Tryd.ntmps14
      go_wp2_with fail
      refine (in_any _ _ _ _).mono ?_
      rw [H1.out]
      rintro e w' ⟨rfl, rfl⟩
      go_wp2_with fail
      refine (in_any _ _ _ _).mono ?_
      rw [H2.out]
      rintro e w' ⟨rfl, rfl⟩
      go_wp2
      go_ret
      exact ⟨ret_int HE.out.symm, rfl⟩
/-- the answer after k places -/
def foldX (xs : List Int) (st : List Bool) : Nat → Nat
  | 0 => 0
  | k + 1 => if st[k]?.getD false then foldX xs st k ^^^ (xs[k]?.getD 0).toNat else foldX xs st k
def okV (xs : List Int) (k : Nat) : Bool := inB (xs[k]?.getD 0) 0 100000
def ansV (xs : List Int) (st : List Bool) : Int :=
  if xs.length = st.length ∧ xs.length ≤ 32 ∧ (List.range xs.length).all (okV xs) = true then (foldX xs st xs.length : Int) else -1
theorem ansV_len {xs : List Int} {st : List Bool} (h : ¬ xs.length = st.length) : ansV xs st = -1 := if_neg fun h' => h h'.1
theorem ansV_big {xs : List Int} {st : List Bool} (h : 32 < xs.length) : ansV xs st = -1 := if_neg fun h' => by omega
theorem ansV_bad {xs : List Int} {st : List Bool} {k : Nat} (hk : k < xs.length) (h : okV xs k = false) : ansV xs st = -1 := if_neg fun h' => by
  have := List.all_eq_true.1 h'.2.2 k (by simpa using hk)
  rw [h] at this; cases this
theorem ansV_end {xs : List Int} {st : List Bool} (h1 : xs.length = st.length) (h2 : xs.length ≤ 32) (h : ∀ k, k < xs.length → okV xs k = true) : ansV xs st = foldX xs st xs.length :=
  if_pos ⟨h1, h2, List.all_eq_true.2 fun k hk => h k (by simpa using hk)⟩
theorem foldX_lt {xs : List Int} {st : List Bool} : ∀ k, (∀ j, j < k → okV xs j = true) → foldX xs st k < 131072
  | 0, _ => by simp [foldX]
  | k + 1, h => by
    have ih := foldX_lt (st := st) k fun j hj => h j (by omega)
    unfold foldX
    split
    · obtain ⟨h0, h1⟩ := inB_iff.1 (h k (by omega))
      exact xor_lt17 ih (by omega)
    · exact ih
theorem impl_LookupAnswer (v u : Value) (xs : List Int) (st : List Bool) (w : World) (h : Ints w v xs) (g : Bools w u st) :
    Calls Tryd.prog 20 #[v, u] w fun e w' => e = .returned (.int .i64 (ansV xs st)) ∧ w = w' := by
  obtain ⟨ad, c, rfl, hmax, hop⟩ := h.open
  obtain ⟨ad2, c2, rfl, hmax2, hop2⟩ := g.open
  unfold maxLen at hmax hmax2
  have HOP := Lib.hid hop
  have HOP2 := Lib.hid hop2
  clear hop hop2 h g
  by_cases hbig : 32 < xs.length
  · have HE : Hid (ansV xs st = -1) := ansV_big hbig
    go_enter Tryd.func20, Tryd.ntmps20
    go_wp2
    go_ret
    exact ⟨ret_int HE.out.symm, rfl⟩
  have hb' : decide (32 < xs.length) = false := by simpa using hbig
  by_cases hl : xs.length = st.length
  case neg =>
    have HE : Hid (ansV xs st = -1) := ansV_len hl
    have hl' : ((st.length : Int) != (xs.length : Int)) = true := by simp; omega
    clear hl
    go_enter Tryd.func20, Tryd.ntmps20
    go_wp2
    go_ret
    exact ⟨ret_int HE.out.symm, rfl⟩
  have HL := Lib.hid hl
  have hl' : ((st.length : Int) != (xs.length : Int)) = false := by simp; omega
  have hle : xs.length ≤ st.length := by omega
  clear hl
  go_enter Tryd.func20, Tryd.ntmps20
  go_wp2
  go_loop [5, 20] (fun o i => ∃ k : Nat, k ≤ xs.length ∧ i = .int .i64 k ∧ o = .int .i64 (foldX xs st k) ∧ Hid (∀ j, j < k → okV xs j = true)) (fun _ i => xs.length - (intOf i).toNat)
  case atStart => exact ⟨0, Nat.zero_le _, rfl, rfl, fun j hj => by omega⟩
  case round =>
    obtain ⟨k, hk, rfl, rfl, hN⟩ := hrel
    have hfl := foldX_lt (st := st) k hN.out
    by_cases hlt : k < xs.length
    · obtain ⟨b, off, rfl, hcell⟩ := HOP.out k hlt
      obtain ⟨b2, off2, rfl, hcell2⟩ := HOP2.out k (by omega)
      have hc1 := hcell k hlt
      have hc2 := hcell2 k (by omega)
      have hlt2 : k < st.length := by omega
      clear hcell hcell2
      obtain ⟨y, hy⟩ : ∃ y, xs[k]?.getD 0 = y := ⟨_, rfl⟩
      have hx : iv xs k = .int .i64 y := by rw [iv, hy]
      rw [hx] at hc1
      obtain ⟨t, ht⟩ : ∃ t, st[k]?.getD false = t := ⟨_, rfl⟩
      have hx2 : bv st k = .bool t := by rw [bv, ht]
      rw [hx2] at hc2
      obtain ⟨f, hf⟩ : ∃ f, foldX xs st k = f := ⟨_, rfl⟩
      rw [hf] at hfl ⊢
      cases hin : inB y 0 100000
      · have HE : Hid (ansV xs st = -1) := ansV_bad hlt (by unfold okV; rw [hy, hin])
        have HI := Lib.hid hin
        clear hin hx hx2 hy ht hf
        go_wp2_with (go_at_call 31; refine (in_any _ _ _ _).mono ?_; rw [HI.out]; rintro e w' ⟨rfl, rfl⟩)
        go_ret
        exact ⟨ret_int HE.out.symm, rfl⟩
      · have HA : Hid (∀ j, j < k + 1 → okV xs j = true) := fun j hj => by
          by_cases e : j = k
          · subst e; unfold okV; rw [hy, hin]
          · exact hN.out j (by omega)
        obtain ⟨y0, y1⟩ := inB_iff.1 hin
        obtain ⟨z, rfl⟩ := Int.eq_ofNat_of_zero_le y0
        have HI := Lib.hid hin
        have hxr := bits_xor_nat f z (by omega) (by omega)
        cases t
        · have HF : Hid (foldX xs st (k + 1) = f) := by unfold Hid foldX; rw [ht, hf]; rfl
          clear hin hx hx2 hy ht hf
          go_wp2_with (go_at_call 31; refine (in_any _ _ _ _).mono ?_; rw [HI.out]; rintro e w' ⟨rfl, rfl⟩)
          go_round
          case rel => exact ⟨k + 1, hlt, by go_num, by rw [HF.out], HA⟩
          case measure => simp [intOf]; omega
        · have HF : Hid (foldX xs st (k + 1) = f ^^^ z) := by unfold Hid foldX; rw [ht, hf, hy]; rfl
          clear hin hx hx2 hy ht hf
          go_wp2_with (go_at_call 31; refine (in_any _ _ _ _).mono ?_; rw [HI.out]; rintro e w' ⟨rfl, rfl⟩)
          go_round
          case rel => exact ⟨k + 1, hlt, by go_num, by rw [HF.out], HA⟩
          case measure => simp [intOf]; omega
    · obtain rfl : k = xs.length := by omega
      have HE : Hid (ansV xs st = foldX xs st xs.length) := ansV_end HL.out (by omega) hN.out
      go_wp2
      go_ret
      exact ⟨ret_int HE.out.symm, rfl⟩
theorem spec_LookupAnswer (v u : Value) (xs : List Int) (st : List Bool) (w : World) (h : Ints w v xs) (g : Bools w u st) :
    Calls Tryd.prog 21 #[v, u] w fun e w' => e = .returned (.int .i64 (ansV xs st)) ∧ w = w' := by
  obtain ⟨ad, c, rfl, hmax, hop⟩ := h.open
  obtain ⟨ad2, c2, rfl, hmax2, hop2⟩ := g.open
  unfold maxLen at hmax hmax2
  have HOP := Lib.hid hop
  have HOP2 := Lib.hid hop2
  clear hop hop2 h g
  by_cases hl : xs.length = st.length
  case neg =>
    have HE : Hid (ansV xs st = -1) := ansV_len hl
    have hl' : ((xs.length : Int) != (st.length : Int)) = true := by simp; omega
    clear hl
    go_enter Tryd.func21, Tryd.ntmps21
    go_wp2
    go_ret
    exact ⟨ret_int HE.out.symm, rfl⟩
  have HL := Lib.hid hl
  have hl' : ((xs.length : Int) != (st.length : Int)) = false := by simp; omega
  have hle : xs.length ≤ st.length := by omega
  clear hl
  by_cases hbig : 32 < xs.length
  · have HE : Hid (ansV xs st = -1) := ansV_big hbig
    go_enter Tryd.func21, Tryd.ntmps21
    go_wp2
    go_ret
    exact ⟨ret_int HE.out.symm, rfl⟩
  have hb' : decide (32 < xs.length) = false := by simpa using hbig
  go_enter Tryd.func21, Tryd.ntmps21
  go_wp2
  go_loop [5, 6] (fun o i => ∃ k : Nat, k ≤ xs.length ∧ i = .int .i64 k ∧ o = .int .i64 (foldX xs st k) ∧ Hid (∀ j, j < k → okV xs j = true)) (fun _ i => xs.length - (intOf i).toNat)
  case atStart => exact ⟨0, Nat.zero_le _, rfl, rfl, fun j hj => by omega⟩
  case round =>
    obtain ⟨k, hk, rfl, rfl, hN⟩ := hrel
    have hfl := foldX_lt (st := st) k hN.out
    by_cases hlt : k < xs.length
    · obtain ⟨b, off, rfl, hcell⟩ := HOP.out k hlt
      obtain ⟨b2, off2, rfl, hcell2⟩ := HOP2.out k (by omega)
      have hc1 := hcell k hlt
      have hc2 := hcell2 k (by omega)
      have hlt2 : k < st.length := by omega
      clear hcell hcell2
      obtain ⟨y, hy⟩ : ∃ y, xs[k]?.getD 0 = y := ⟨_, rfl⟩
      have hx : iv xs k = .int .i64 y := by rw [iv, hy]
      rw [hx] at hc1
      obtain ⟨t, ht⟩ : ∃ t, st[k]?.getD false = t := ⟨_, rfl⟩
      have hx2 : bv st k = .bool t := by rw [bv, ht]
      rw [hx2] at hc2
      obtain ⟨f, hf⟩ : ∃ f, foldX xs st k = f := ⟨_, rfl⟩
      rw [hf] at hfl ⊢
      cases hin : inB y 0 100000
      · have HE : Hid (ansV xs st = -1) := ansV_bad hlt (by unfold okV; rw [hy, hin])
        have HI := Lib.hid hin
        clear hin hx hx2 hy ht hf
        go_wp2_with (go_at_call 32; refine (l1In_any _ _ _ _).mono ?_; rw [HI.out]; rintro e w' ⟨rfl, rfl⟩)
        go_ret
        exact ⟨ret_int HE.out.symm, rfl⟩
      · have HA : Hid (∀ j, j < k + 1 → okV xs j = true) := fun j hj => by
          by_cases e : j = k
          · subst e; unfold okV; rw [hy, hin]
          · exact hN.out j (by omega)
        obtain ⟨y0, y1⟩ := inB_iff.1 hin
        obtain ⟨z, rfl⟩ := Int.eq_ofNat_of_zero_le y0
        have HI := Lib.hid hin
        cases t
        · have HF : Hid (foldX xs st (k + 1) = f) := by unfold Hid foldX; rw [ht, hf]; rfl
          clear hin hx hx2 hy ht hf
          go_wp2_with (go_at_call 32; refine (l1In_any _ _ _ _).mono ?_; rw [HI.out]; rintro e w' ⟨rfl, rfl⟩)
          go_round
          case rel => exact ⟨k + 1, hlt, by go_num, by rw [HF.out], HA⟩
          case measure => simp [intOf]; omega
        · have HF : Hid (foldX xs st (k + 1) = f ^^^ z) := by unfold Hid foldX; rw [ht, hf, hy]; rfl
          clear hin hx hx2 hy ht hf
          go_wp2_with fail
          refine (l1In_any _ _ _ _).mono ?_
          rw [HI.out]
          rintro e w' ⟨rfl, rfl⟩
          go_wp2_with fail
          refine (other_any _ _ _ (by omega) (by omega)).mono ?_
          rintro e w' ⟨rfl, rfl⟩
          go_wp2
          go_round
          case rel => exact ⟨k + 1, hlt, by go_num, by rw [HF.out], HA⟩
          case measure => simp [intOf]; omega
    · obtain rfl : k = xs.length := by omega
      have HE : Hid (ansV xs st = foldX xs st xs.length) := ansV_end HL.out (by omega) hN.out
      go_wp2
      go_ret
      exact ⟨ret_int HE.out.symm, rfl⟩
theorem spec_LookupValue_own (a b : Int) (w : World) : Calls Tryd.prog 15 #[.int .i64 a, .int .i64 b] w fun e w' => e = .returned (.int .i64 (lookV a b)) ∧ Below w.heap.size w w' :=
  (spec_LookupValue a b w).mono fun e w' ⟨he, hw⟩ => ⟨he, hw ▸ Below.refl _ _⟩
theorem impl_LookupValue_own (a b : Int) (w : World) : Calls Tryd.prog 14 #[.int .i64 a, .int .i64 b] w fun e w' => e = .returned (.int .i64 (lookV a b)) ∧ Below w.heap.size w w' :=
  (impl_LookupValue a b w).mono fun e w' ⟨he, hw⟩ => ⟨he, hw ▸ Below.refl _ _⟩
theorem spec_LookupAnswer_own (v : Value) (xs : List Int) (u : Value) (st : List Bool) (w : World) (h : Ints w v xs) (g : Bools w u st) (_ : xs.length ≤ 1048576) (_ : st.length ≤ 1048576) :
    Calls Tryd.prog 21 #[v, u] w fun e w' => e = .returned (.int .i64 (ansV xs st)) ∧ Below w.heap.size w w' :=
  (spec_LookupAnswer v u xs st w h g).mono fun e w' ⟨he, hw⟩ => ⟨he, hw ▸ Below.refl _ _⟩
theorem impl_LookupAnswer_own (v : Value) (xs : List Int) (u : Value) (st : List Bool) (w : World) (h : Ints w v xs) (g : Bools w u st) (_ : xs.length ≤ 1048576) (_ : st.length ≤ 1048576) :
    Calls Tryd.prog 20 #[v, u] w fun e w' => e = .returned (.int .i64 (ansV xs st)) ∧ Below w.heap.size w w' :=
  (impl_LookupAnswer v u xs st w h g).mono fun e w' ⟨he, hw⟩ => ⟨he, hw ▸ Below.refl _ _⟩
end Go.Proofs.YtgapjgmkkmdadaaDoor
