/- contracts of CompactTrace, both -/
import Derived.Test.YtkekacnnjmbelaaDoorTrace
namespace Go.Proofs.YtkekacnnjmbelaaDoor
open Go.RowKit
/-- how many powers of two, from 1 on, are less than M (at most 256) -/
def stepsN (M : Nat) : Nat := (List.range 9).countP (fun j => decide (2 ^ j < M))
theorem countP_split (p : Nat → Bool) {n j : Nat} (hj : j ≤ n) (h1 : ∀ i, i < j → p i = true) (h2 : ∀ i, j ≤ i → i < n → p i = false) : (List.range n).countP p = j := by
  obtain ⟨d, rfl⟩ : ∃ d, n = j + d := ⟨n - j, by omega⟩
  rw [List.range_add, List.countP_append]
  have e1 : (List.range j).countP p = j := by
    rw [List.countP_eq_length.2 (fun x hx => h1 x (List.mem_range.1 hx)), List.length_range]
  have e2 : ((List.range d).map (j + ·)).countP p = 0 := by
    rw [List.countP_eq_zero]
    intro x hx
    obtain ⟨i, hi, rfl⟩ := List.mem_map.1 hx
    rw [h2 (j + i) (by omega) (by have := List.mem_range.1 hi; omega)]
    simp
  omega
theorem pow2_mono {i j : Nat} (h : i ≤ j) : 2 ^ i ≤ 2 ^ j := Nat.pow_le_pow_right (by omega) h
theorem stepsN_eq {M j : Nat} (hM : M ≤ 256) (h1 : ∀ i, i < j → 2 ^ i < M) (h2 : M ≤ 2 ^ j) : stepsN M = j := by
  have hj : j ≤ 9 := by
    by_cases h : j ≤ 9
    · exact h
    · have := h1 9 (by omega)
      simp at this; omega
  refine countP_split _ hj (fun i hi => by simpa using h1 i hi) (fun i hi _ => ?_)
  have := pow2_mono hi
  simp; omega
theorem stepsN_le (M : Nat) : stepsN M ≤ 9 := by
  have := List.countP_le_length (p := fun j => decide (2 ^ j < M)) (l := List.range 9)
  simpa [stepsN] using this
theorem steps_ex {M : Nat} (hM : M ≤ 256) : ∃ j, j ≤ 8 ∧ (∀ i, i < j → 2 ^ i < M) ∧ M ≤ 2 ^ j ∧ stepsN M = j := by
  have key : ∀ d j, j + d = 8 → (∀ i, i < j → 2 ^ i < M) → ∃ j, j ≤ 8 ∧ (∀ i, i < j → 2 ^ i < M) ∧ M ≤ 2 ^ j := by
    intro d
    induction d with
    | zero => intro j hj h; obtain rfl : j = 8 := by omega
              exact ⟨8, by omega, h, by simpa using hM⟩
    | succ d ih =>
      intro j hj h
      by_cases hlt : 2 ^ j < M
      · refine ih (j + 1) (by omega) (fun i hi => ?_)
        by_cases e : i = j
        · subst e; exact hlt
        · exact h i (by omega)
      · exact ⟨j, by omega, h, by omega⟩
  obtain ⟨j, h1, h2, h3⟩ := key 8 0 rfl (fun i hi => by omega)
  exact ⟨j, h1, h2, h3, stepsN_eq hM h2 h3⟩
def repN (M : Nat) : Nat → List (Int × Int × Bool)
  | 0 => []
  | j + 1 => repN M j ++ passN 2 M
@[simp] theorem repN_length (M : Nat) : ∀ j, (repN M j).length = 2 * M * j
  | 0 => rfl
  | j + 1 => by rw [repN, List.length_append, repN_length M j, passN_length, Nat.mul_add, Nat.mul_one]
def traceC (m : Int) : List (Int × Int × Bool) := if inB m 0 256 then repN m.toNat (stepsN m.toNat) else []
theorem traceC_le (m : Int) : (traceC m).length ≤ 4608 := by
  unfold traceC
  split
  · rename_i h
    have := inB_iff.1 h
    have h2 := stepsN_le m.toNat
    rw [repN_length]
    have : 2 * m.toNat * stepsN m.toNat ≤ 512 * 9 := Nat.mul_le_mul (by omega) h2
    omega
  · simp
theorem mul512 {M j : Nat} (hM : M ≤ 256) (hj : j ≤ 9) : 2 * M * j ≤ 4608 := Nat.le_trans (Nat.mul_le_mul (by omega : 2 * M ≤ 512) hj) (by omega)
theorem passV_in {M : Nat} (hM : M ≤ 256) : passV 2 M = passN 2 M := by
  unfold passV passOk
  rw [inB_true (by omega) (by omega), inB_true (by omega) (by omega)]
  simp
theorem traceC_small {m : Int} (h : m < 2 ∨ 256 < m) : traceC m = [] := by
  unfold traceC
  split
  · rename_i hi
    have := inB_iff.1 hi
    rw [stepsN_eq (M := m.toNat) (j := 0) (by omega) (fun i hi => by omega) (by simp; omega)]; rfl
  · rfl
theorem traceC_mid {M : Nat} (h2 : 2 ≤ M) (hM : M ≤ 256) : ∃ s : Nat, s ≤ 9 ∧ (traceC M).length = 2 * M * s ∧ (2 * M ≤ 256 → (traceC (2 * M : Nat)).length = 4 * M * (s + 1)) := by
  obtain ⟨j, hj, h1, h3, h4⟩ := steps_ex hM
  refine ⟨j, by omega, ?_, fun h5 => ?_⟩
  · unfold traceC
    rw [if_pos (inB_true (by omega) (by omega)), Int.toNat_natCast, repN_length, h4]
  · unfold traceC
    rw [if_pos (inB_true (by omega) (by omega)), Int.toNat_natCast, repN_length, stepsN_eq (j := j + 1) h5 (fun i hi => ?_) (by rw [Nat.pow_succ]; omega), show 2 * (2 * M) = 4 * M by omega]
    cases i with
    | zero => simp; omega
    | succ i => have := h1 i (by omega); rw [Nat.pow_succ]; omega
theorem impl_CompactTrace (m : Int) (w : World) : Calls Tryd.prog 11 #[.int .i64 m] w (AccsPost (traceC m) w) := by
  cases hm : inB m 0 256
  · have HF : Hid (AccsPost (traceC m) w (.returned (.slice none 0 0)) w) := by
      unfold traceC; rw [hm]; exact ⟨_, rfl, Gr.nil _ _ _ _, Below.refl _ _⟩
    have HM := Lib.hid hm
    clear hm
    go_enter Tryd.func11, Tryd.ntmps11
    go_wp2_with (go_at_call 31; refine (in_any _ _ _ _).mono ?_; rw [HM.out]; rintro e w' ⟨rfl, rfl⟩)
    go_ret
    exact HF.out
  · obtain ⟨m0, m1⟩ := inB_iff.1 hm
    obtain ⟨M, rfl⟩ := Int.eq_ofNat_of_zero_le m0
    have hM : M ≤ 256 := by omega
    have HF : Hid (∀ j, (∀ i, i < j → 2 ^ i < M) → M ≤ 2 ^ j → ∀ u w', Gr w' w.heap.size 53 3 u (2 * M * j) (accs (repN M j)) → Below w.heap.size w w' → AccsPost (traceC M) w (.returned u) w') := fun j h1 h2 u w' hg hb => by
      unfold traceC; rw [if_pos hm, Int.toNat_natCast, stepsN_eq hM h1 h2]; exact ⟨u, rfl, by rw [repN_length]; exact hg, hb⟩
    have HM := Lib.hid hm
    clear hm m0
    go_enter Tryd.func11, Tryd.ntmps11
    go_wp2_with (go_at_call 31; refine (in_any _ _ _ _).mono ?_; rw [HM.out]; rintro e w' ⟨rfl, rfl⟩)
    go_loopw [3, 4] (fun u i wr => ∃ (j s : Nat), i = .int .i64 s ∧ 1 ≤ s ∧ s ≤ 512 ∧ j ≤ 9 ∧ Hid (s = 2 ^ j) ∧ Hid (∀ i, i < j → 2 ^ i < M) ∧ Hid (Gr wr w.heap.size 53 3 u (2 * M * j) (accs (repN M j))) ∧ Hid (Below w.heap.size w wr)) (fun _ i _ => M - (intOf i).toNat)
    case atStart => exact ⟨0, 1, rfl, by omega, by omega, by omega, rfl, (fun i hi => by omega), Gr.nil _ _ _ _, Below.refl _ _⟩
    case round =>
      obtain ⟨j, s, rfl, s0, s1, hj, HS, HJ, hG, hB⟩ := hrel
      by_cases hlt : s < M
      · have HA : Hid (accs (repN M j) ++ accs (passN 2 M) = accs (repN M (j + 1))) := by
          unfold Hid; rw [repN, accs_append]
        have HJ2 : Hid (∀ i, i < j + 1 → 2 ^ i < M) := fun i hi => by
          by_cases e : i = j
          · subst e; rw [← HS.out]; exact hlt
          · exact HJ.out i (by omega)
        have HS2 : Hid (s * 2 = 2 ^ (j + 1)) := by unfold Hid; rw [Nat.pow_succ, ← HS.out]
        have hj2 : j + 1 ≤ 9 := by
          by_cases h : j + 1 ≤ 9
          · exact h
          · exfalso
            obtain rfl : j = 9 := by omega
            have := HJ2.out 9 (by omega)
            simp at this; omega
        have HE : Hid (2 * M * j + 2 * M = 2 * M * (j + 1)) := by unfold Hid; rw [Nat.mul_add, Nat.mul_one]
        have hsz := hB.out.size
        have HL := Lib.hid (mul512 hM hj2)
        go_wp2_with fail
        refine (impl_PassTrace 2 M _).mono ?_
        rintro e w2 ⟨x, rfl, hg, hb⟩
        rw [passV_in hM, passN_length] at hg
        have HP := Lib.hid hg
        have hG2 := Lib.hid (hG.out.mono hb (Nat.le_refl _))
        have hB2 : Hid (Below w.heap.size w w2) := hB.out.trans (hb.mono hsz)
        clear hg hb hG hB hsz
        have hsz := hB2.out.size
        go_wp2_with (at_builtin; refine wpList_app _ rfl (.tmp 13) (.tmp 15) 24 rfl w.heap.size 53 (.agg #[.int .i64 0, .int .i64 0, .bool false]) 3 24 Tryd.underlying24 Tryd.infoAcc rfl (by omega) u3 (2 * M * j) (accs (repN M j)) rfl hG2.out _ (2 * M) (accs (passN 2 M)) rfl HP.out.view (one_accs _) (by have := HL.out; have := HE.out; unfold maxLen; omega) (by have := HL.out; have := HE.out; omega) hsz ?_; intro v1 w1 g1 r1 k1; have G1 := Lib.hid g1; have R1 := Lib.hid r1; clear g1 r1 k1)
        go_roundw
        case rel => exact ⟨j + 1, s * 2, by go_num, by omega, by omega, hj2, HS2.out, HJ2.out, by rw [← HA.out, ← HE.out]; exact G1.out, hB2.out.grown R1.out hsz (fun g hg => (hG2.out.lt g hg).1)⟩
        case measure => simp [intOf]; omega
      · have HE : Hid (M ≤ 2 ^ j) := by unfold Hid; rw [← HS.out]; omega
        go_wp2
        go_ret
        exact HF.out j HJ.out HE.out _ _ hG.out hB.out
theorem impl_CompactTrace_own (m : Int) (w : World) : Calls Tryd.prog 11 #[.int .i64 m] w fun e w' => ∃ v b, e = .returned v ∧ OwnA w' b v (traceC m) ∧ From w.heap.size b ∧ Below w.heap.size w w' :=
  (impl_CompactTrace m w).mono fun _ _ h => accs_own h
theorem spec_CompactTrace (m : Int) (w : World) : Calls Tryd.prog 13 #[.int .i64 m] w (AccsPost (traceC m) w) := by
  have HB0 : Hid (Below w.heap.size w (w.alloc (.cells #[] 53))) := (Below.refl w.heap.size w).alloc (Nat.le_refl _) (.cells #[] 53)
  by_cases hm : 1 < m ∧ m ≤ 256
  case neg =>
    have HF : Hid (AccsPost (traceC m) w (.returned (.slice (some ⟨w.heap.size, 0, none⟩) 0 0)) (w.alloc (.cells #[] 53))) := by
      have : traceC m = [] := by
        unfold traceC
        split
        · rename_i h
          have := inB_iff.1 h
          rw [stepsN_eq (M := m.toNat) (j := 0) (by omega) (fun i hi => by omega) (by simp; omega)]; rfl
        · rfl
      rw [this]; exact ⟨_, rfl, Gr.none0 _ _ _ _ _, HB0.out⟩
    by_cases h1 : 1 < m
    · have h2 : decide (m ≤ 256) = false := by simp; omega
      clear hm
      go_enter Tryd.func13, Tryd.ntmps13
      go_wp2
      go_loopw [3, 4] (fun u i wr => u = .slice (some ⟨w.heap.size, 0, none⟩) 0 0 ∧ i = .int .i64 1 ∧ wr = w.alloc (.cells #[] 53)) (fun _ _ _ => 0)
      case atStart => exact ⟨rfl, rfl, rfl⟩
      case round =>
        obtain ⟨rfl, rfl, rfl⟩ := hrel
        go_wp2
        go_ret
        exact HF.out
    · have h2 : decide (1 < m) = false := by simp; omega
      clear hm
      go_enter Tryd.func13, Tryd.ntmps13
      go_wp2
      go_loopw [3, 4] (fun u i wr => u = .slice (some ⟨w.heap.size, 0, none⟩) 0 0 ∧ i = .int .i64 1 ∧ wr = w.alloc (.cells #[] 53)) (fun _ _ _ => 0)
      case atStart => exact ⟨rfl, rfl, rfl⟩
      case round =>
        obtain ⟨rfl, rfl, rfl⟩ := hrel
        go_wp2
        go_ret
        exact HF.out
  case pos =>
    obtain ⟨m0, m1⟩ := hm
    obtain ⟨M, rfl⟩ := Int.eq_ofNat_of_zero_le (by omega : 0 ≤ m)
    have hM : M ≤ 256 := by omega
    have HF : Hid (∀ j, (∀ i, i < j → 2 ^ i < M) → M ≤ 2 ^ j → ∀ u w', Gr w' w.heap.size 53 3 u (2 * M * j) (accs (repN M j)) → Below w.heap.size w w' → AccsPost (traceC M) w (.returned u) w') := fun j h1 h2 u w' hg hb => by
      unfold traceC; rw [if_pos (inB_true (by omega) m1), Int.toNat_natCast, stepsN_eq hM h1 h2]; exact ⟨u, rfl, by rw [repN_length]; exact hg, hb⟩
    go_enter Tryd.func13, Tryd.ntmps13
    go_wp2
    go_loopw [3, 4] (fun u i wr => ∃ (j s : Nat), i = .int .i64 s ∧ 1 ≤ s ∧ s ≤ 512 ∧ j ≤ 9 ∧ Hid (s = 2 ^ j) ∧ Hid (∀ i, i < j → 2 ^ i < M) ∧ Hid (Gr wr w.heap.size 53 3 u (2 * M * j) (accs (repN M j))) ∧ Hid (Below w.heap.size w wr)) (fun _ i _ => M - (intOf i).toNat)
    case atStart => exact ⟨0, 1, rfl, by omega, by omega, by omega, rfl, (fun i hi => by omega), Gr.none0 _ _ _ _ _, HB0.out⟩
    case round =>
      obtain ⟨j, s, rfl, s0, s1, hj, HS, HJ, hG, hB⟩ := hrel
      by_cases hlt : s < M
      · have HA : Hid (accs (repN M j) ++ accs (passN 2 M) = accs (repN M (j + 1))) := by
          unfold Hid; rw [repN, accs_append]
        have HJ2 : Hid (∀ i, i < j + 1 → 2 ^ i < M) := fun i hi => by
          by_cases e : i = j
          · subst e; rw [← HS.out]; exact hlt
          · exact HJ.out i (by omega)
        have HS2 : Hid (2 * s = 2 ^ (j + 1)) := by unfold Hid; rw [Nat.pow_succ, ← HS.out]; omega
        have hj2 : j + 1 ≤ 9 := by
          by_cases h : j + 1 ≤ 9
          · exact h
          · exfalso
            obtain rfl : j = 9 := by omega
            have := HJ2.out 9 (by omega)
            simp at this; omega
        have HE : Hid (2 * M * j + 2 * M = 2 * M * (j + 1)) := by unfold Hid; rw [Nat.mul_add, Nat.mul_one]
        have hsz := hB.out.size
        have HL := Lib.hid (mul512 hM hj2)
        go_wp2_with fail
        refine (spec_PassTrace 2 M _).mono ?_
        rintro e w2 ⟨x, rfl, hg, hb⟩
        rw [passV_in hM, passN_length] at hg
        have HP := Lib.hid hg
        have hG2 := Lib.hid (hG.out.mono hb (Nat.le_refl _))
        have hB2 : Hid (Below w.heap.size w w2) := hB.out.trans (hb.mono hsz)
        clear hg hb hG hB hsz
        have hsz := hB2.out.size
        go_wp2_with (at_builtin; refine wpList_app _ rfl (.tmp 15) (.tmp 17) 24 rfl w.heap.size 53 (.agg #[.int .i64 0, .int .i64 0, .bool false]) 3 24 Tryd.underlying24 Tryd.infoAcc rfl (by omega) u3 (2 * M * j) (accs (repN M j)) rfl hG2.out _ (2 * M) (accs (passN 2 M)) rfl HP.out.view (one_accs _) (by have := HL.out; have := HE.out; unfold maxLen; omega) (by have := HL.out; have := HE.out; omega) hsz ?_; intro v1 w1 g1 r1 k1; have G1 := Lib.hid g1; have R1 := Lib.hid r1; clear g1 r1 k1)
        go_roundw
        case rel => exact ⟨j + 1, 2 * s, by go_num, by omega, by omega, hj2, HS2.out, HJ2.out, by rw [← HA.out, ← HE.out]; exact G1.out, hB2.out.grown R1.out hsz (fun g hg => (hG2.out.lt g hg).1)⟩
        case measure => simp [intOf]; omega
      · have HE : Hid (M ≤ 2 ^ j) := by unfold Hid; rw [← HS.out]; omega
        go_wp2
        go_ret
        exact HF.out j HJ.out HE.out _ _ hG.out hB.out
theorem spec_CompactTrace_own (m : Int) (w : World) : Calls Tryd.prog 13 #[.int .i64 m] w fun e w' => ∃ v b, e = .returned v ∧ OwnA w' b v (traceC m) ∧ From w.heap.size b ∧ Below w.heap.size w w' :=
  (spec_CompactTrace m w).mono fun _ _ h => accs_own h
end Go.Proofs.YtkekacnnjmbelaaDoor
