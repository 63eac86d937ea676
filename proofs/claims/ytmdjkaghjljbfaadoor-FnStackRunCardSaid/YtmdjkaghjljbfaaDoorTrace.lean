/- contracts of the helper functions at lists of accesses, and of PassTrace -/
import Derived.Test.YtmdjkaghjljbfaaDoorRec
import Derived.Test.YtmdjkaghjljbfaaDoorRes
import Derived.Test.YtmdjkaghjljbfaaDoorScal
import Derived.StillTailTactics
namespace Go.Proofs.YtmdjkaghjljbfaaDoor
open Go.RowKit
theorem Tryd.infoAcc : (Tryd.prog.info? 56).map (fun i => (i.zero, i.size, i.bytes)) = some (some (.agg #[.int .i64 0, .int .i64 0, .bool false]), 3, 24) := by kernel_rfl
def OwnA (w : World) (b : Option Nat) (v : Value) (xs : List (Int × Int × Bool)) : Prop := Own w b 56 3 v xs.length (accs xs)
theorem OwnA.accs {w b v xs} (h : OwnA w b v xs) : Accs w v xs := Own.view h
theorem OwnA.mono {w w' : World} {b v xs} (h : OwnA w b v xs) (hb : Below w.heap.size w w') : OwnA w' b v xs := Own.mono h hb (Nat.le_refl _)
theorem OwnA.grown {w w' : World} {b b' v xs} (h : OwnA w b v xs) (hg : w.grownBy w' b') (hne : ∀ g, b = some g → b' ≠ some g) : OwnA w' b v xs := Own.grown h hg hne
theorem OwnA.lt {w : World} {b v xs} (h : OwnA w b v xs) : ∀ g, b = some g → g < w.heap.size := Own.lt h
/-- one list of accesses of the call's own -/
def AccsPost (xs : List (Int × Int × Bool)) (w : World) (e : Ending) (w' : World) : Prop := ∃ u, e = .returned u ∧ Gr w' w.heap.size 56 3 u xs.length (accs xs) ∧ Below w.heap.size w w'
theorem accs_own {xs : List (Int × Int × Bool)} {w w' : World} {e : Ending} (h : AccsPost xs w e w') : ∃ v b, e = .returned v ∧ OwnA w' b v xs ∧ From w.heap.size b ∧ Below w.heap.size w w' := by
  obtain ⟨u, he, hg, hb⟩ := h
  obtain ⟨b, h1, h2, _⟩ := hg.own
  exact ⟨u, b, he, h1, h2, hb⟩
theorem Gr.accs {w : World} {B u n} {xs : List (Int × Int × Bool)} (h : Gr w B 56 3 u n (accs xs)) (hn : n = xs.length) : Accs w u xs := by
  subst hn; exact h.view
theorem int_eq {k : IntKind} {a b : Int} (h : a = b) : Value.int k a = .int k b := by rw [h]
theorem isRegion_any (n : Int) (w : World) : Calls Tryd.prog 40 #[.int .i64 n] w fun e w' => e = .returned (.bool (inB n 0 2)) ∧ w = w' := by
  go_enter Tryd.func40, Tryd.ntmps40
  go_wp2_with (go_at_call 26; refine (in_any _ _ _ _).mono ?_; rintro e w' ⟨rfl, rfl⟩)
  go_ret
  exact ⟨rfl, rfl⟩
/-- a pass over all places: each is read and written -/
def passN (r : Int) : Nat → List (Int × Int × Bool)
  | 0 => []
  | k + 1 => passN r k ++ [(r, (k : Int), false), (r, (k : Int), true)]
@[simp] theorem passN_length (r : Int) : ∀ k, (passN r k).length = 2 * k
  | 0 => rfl
  | k + 1 => by simp [passN, passN_length r k]; omega
def passOk (r m : Int) : Bool := inB r 0 2 && inB m 0 256
def passV (r m : Int) : List (Int × Int × Bool) := if passOk r m then passN r m.toNat else []
theorem passV_le (r m : Int) : (passV r m).length ≤ 512 := by
  unfold passV passOk
  split
  · rename_i h
    simp only [Bool.and_eq_true] at h
    have := inB_iff.1 h.2
    simp; omega
  · simp
theorem impl_PassTrace (r m : Int) (w : World) : Calls Tryd.prog 38 #[.int .i64 r, .int .i64 m] w (AccsPost (passV r m) w) := by
  have HF0 : passOk r m = false → Hid (AccsPost (passV r m) w (.returned (.slice none 0 0)) w) := fun hb => by
    unfold passV; rw [hb]; exact ⟨_, rfl, Gr.nil _ _ _ _, Below.refl _ _⟩
  cases hr : inB r 0 2
  · have HF := HF0 (by simp [passOk, hr])
    have HI := Lib.hid hr
    clear hr HF0
    go_enter Tryd.func38, Tryd.ntmps38
    go_wp2_with (go_at_call 40; refine (isRegion_any _ _).mono ?_; rw [HI.out]; rintro e w' ⟨rfl, rfl⟩)
    go_ret
    exact HF.out
  cases hm : inB m 0 256
  · have HF := HF0 (by simp [passOk, hm])
    have HI := Lib.hid hr
    have HM := Lib.hid hm
    clear hr hm HF0
    go_enter Tryd.func38, Tryd.ntmps38
    go_wp2_with (first | (go_at_call 40; refine (isRegion_any _ _).mono ?_; rw [HI.out]; rintro e w' ⟨rfl, rfl⟩) | (go_at_call 26; refine (in_any _ _ _ _).mono ?_; rw [HM.out]; rintro e w' ⟨rfl, rfl⟩))
    go_ret
    exact HF.out
  · obtain ⟨m0, m1⟩ := inB_iff.1 hm
    obtain ⟨M, rfl⟩ := Int.eq_ofNat_of_zero_le m0
    have HF : Hid (∀ u w', Gr w' w.heap.size 56 3 u (2 * M) (accs (passN r M)) → Below w.heap.size w w' → AccsPost (passV r M) w (.returned u) w') := fun u w' hg hb => by
      unfold passV; rw [if_pos (by simp [passOk, hr, hm])]; exact ⟨u, rfl, by rw [passN_length]; exact hg, hb⟩
    have HI := Lib.hid hr
    have HM := Lib.hid hm
    clear hr hm HF0 m0
    go_enter Tryd.func38, Tryd.ntmps38
    go_wp2_with (first | (go_at_call 40; refine (isRegion_any _ _).mono ?_; rw [HI.out]; rintro e w' ⟨rfl, rfl⟩) | (go_at_call 26; refine (in_any _ _ _ _).mono ?_; rw [HM.out]; rintro e w' ⟨rfl, rfl⟩))
    go_loopw [5, 16] (fun u i wr => ∃ k : Nat, k ≤ M ∧ i = .int .i64 k ∧ Hid (Gr wr w.heap.size 56 3 u (2 * k) (accs (passN r k))) ∧ Hid (Below w.heap.size w wr)) (fun _ i _ => M - (intOf i).toNat)
    case atStart => exact ⟨0, Nat.zero_le _, rfl, Gr.nil _ _ _ _, Below.refl _ _⟩
    case round =>
      obtain ⟨k, hk, rfl, hG, hB⟩ := hrel
      by_cases hlt : k < M
      · have HA : Hid (accs (passN r k) ++ [.int .i64 r, .int .i64 k, .bool false, .int .i64 r, .int .i64 k, .bool true] = accs (passN r (k + 1))) := by
          unfold Hid; rw [passN, accs_append]; rfl
        have hsz := hB.out.size
        go_wp2_with (at_builtin; refine wpList_app _ rfl (.tmp 19) (.tmp 26) 32 rfl w.heap.size 56 (.agg #[.int .i64 0, .int .i64 0, .bool false]) 3 24 Tryd.underlying32 Tryd.infoAcc rfl (by omega) u5 (2 * k) (accs (passN r k)) rfl (hG.out.alloc _) _ 2 [.int .i64 r, .int .i64 k, .bool false, .int .i64 r, .int .i64 k, .bool true] rfl (View.of_row (Row.new wr 56 _) rfl (by unfold maxLen; omega) (Nat.le_refl _)) (by simp [Value.oneCell']) (by unfold maxLen; omega) (by omega) (by simp; omega) ?_; intro v1 w1 g1 r1 k1; have G1 := Lib.hid g1; have R1 := Lib.hid r1; clear g1 r1 k1)
        go_roundw
        case rel => exact ⟨k + 1, hlt, by go_num, by rw [← HA.out]; exact G1.out, (hB.out.alloc hsz _).grown R1.out (by simp; omega) (fun g hg => (hG.out.lt g hg).1)⟩
        case measure => simp [intOf]; omega
      · obtain rfl : k = M := by omega
        go_wp2
        go_ret
        exact HF.out _ _ hG.out hB.out
theorem impl_PassTrace_own (r m : Int) (w : World) : Calls Tryd.prog 38 #[.int .i64 r, .int .i64 m] w fun e w' => ∃ v b, e = .returned v ∧ OwnA w' b v (passV r m) ∧ From w.heap.size b ∧ Below w.heap.size w w' :=
  (impl_PassTrace r m w).mono fun _ _ h => accs_own h
theorem spec_PassTrace (r m : Int) (w : World) : Calls Tryd.prog 33 #[.int .i64 r, .int .i64 m] w (AccsPost (passV r m) w) := by
  have HB0 : Hid (Below w.heap.size w (w.alloc (.cells #[] 56))) := (Below.refl w.heap.size w).alloc (Nat.le_refl _) (.cells #[] 56)
  have HF0 : passOk r m = false ∨ m ≤ 0 → Hid (AccsPost (passV r m) w (.returned (.slice (some ⟨w.heap.size, 0, none⟩) 0 0)) (w.alloc (.cells #[] 56))) := fun hb => by
    have : passV r m = [] := by
      unfold passV
      rcases hb with hb | hb
      · rw [hb]; rfl
      · split
        · rw [show m.toNat = 0 by omega]; rfl
        · rfl
    rw [this]; exact ⟨_, rfl, Gr.none0 _ _ _ _ _, HB0.out⟩
  by_cases hm0 : 0 < m
  case neg =>
    have HF := HF0 (.inr (by omega))
    have hm0' : decide (0 < m) = false := by simpa using hm0
    clear HF0
    go_enter Tryd.func33, Tryd.ntmps33
    go_wp2
    go_loopw [5, 6] (fun u i wr => u = .slice (some ⟨w.heap.size, 0, none⟩) 0 0 ∧ i = .int .i64 0 ∧ wr = w.alloc (.cells #[] 56)) (fun _ _ _ => 0)
    case atStart => exact ⟨rfl, rfl, rfl⟩
    case round =>
      obtain ⟨rfl, rfl, rfl⟩ := hrel
      go_wp2
      go_ret
      exact HF.out
  cases hr : inB r 0 2
  · have HF := HF0 (.inl (by simp [passOk, hr]))
    have HI := Lib.hid hr
    clear hr HF0
    go_enter Tryd.func33, Tryd.ntmps33
    go_wp2
    go_loopw [5, 6] (fun u i wr => u = .slice (some ⟨w.heap.size, 0, none⟩) 0 0 ∧ i = .int .i64 0 ∧ wr = w.alloc (.cells #[] 56)) (fun _ _ _ => 0)
    case atStart => exact ⟨rfl, rfl, rfl⟩
    case round =>
      obtain ⟨rfl, rfl, rfl⟩ := hrel
      go_wp2_with (go_at_call 27; refine (l1In_any _ _ _ _).mono ?_; rw [HI.out]; rintro e w' ⟨rfl, rfl⟩)
      go_ret
      exact HF.out
  cases hm : inB m 0 256
  · have HF := HF0 (.inl (by simp [passOk, hm]))
    have HI := Lib.hid hr
    have HM := Lib.hid hm
    clear hr hm HF0
    go_enter Tryd.func33, Tryd.ntmps33
    go_wp2
    go_loopw [5, 6] (fun u i wr => u = .slice (some ⟨w.heap.size, 0, none⟩) 0 0 ∧ i = .int .i64 0 ∧ wr = w.alloc (.cells #[] 56)) (fun _ _ _ => 0)
    case atStart => exact ⟨rfl, rfl, rfl⟩
    case round =>
      obtain ⟨rfl, rfl, rfl⟩ := hrel
      go_wp2_with (go_at_call 27; refine (l1In_any _ _ _ _).mono ?_; (first | rw [HI.out] | rw [HM.out]); rintro e w' ⟨rfl, rfl⟩)
      go_ret
      exact HF.out
  · obtain ⟨m0, m1⟩ := inB_iff.1 hm
    obtain ⟨M, rfl⟩ := Int.eq_ofNat_of_zero_le m0
    have HF : Hid (∀ u w', Gr w' w.heap.size 56 3 u (2 * M) (accs (passN r M)) → Below w.heap.size w w' → AccsPost (passV r M) w (.returned u) w') := fun u w' hg hb => by
      unfold passV; rw [if_pos (by simp [passOk, hr, hm])]; exact ⟨u, rfl, by rw [passN_length]; exact hg, hb⟩
    have HI := Lib.hid hr
    have HM := Lib.hid hm
    clear hr hm HF0 m0
    go_enter Tryd.func33, Tryd.ntmps33
    go_wp2
    go_loopw [5, 6] (fun u i wr => ∃ k : Nat, k ≤ M ∧ i = .int .i64 k ∧ Hid (Gr wr w.heap.size 56 3 u (2 * k) (accs (passN r k))) ∧ Hid (Below w.heap.size w wr)) (fun _ i _ => M - (intOf i).toNat)
    case atStart => exact ⟨0, Nat.zero_le _, rfl, Gr.none0 _ _ _ _ _, HB0.out⟩
    case round =>
      obtain ⟨k, hk, rfl, hG, hB⟩ := hrel
      by_cases hlt : k < M
      · have HA : Hid (accs (passN r k) ++ [.int .i64 r, .int .i64 k, .bool false, .int .i64 r, .int .i64 k, .bool true] = accs (passN r (k + 1))) := by
          unfold Hid; rw [passN, accs_append]; rfl
        have hsz := hB.out.size
        go_wp2_with (first | (go_at_call 27; refine (l1In_any _ _ _ _).mono ?_; (first | rw [HI.out] | rw [HM.out]); rintro e w' ⟨rfl, rfl⟩) | (at_builtin; refine wpList_app _ rfl (.tmp 21) (.tmp 28) 32 rfl w.heap.size 56 (.agg #[.int .i64 0, .int .i64 0, .bool false]) 3 24 Tryd.underlying32 Tryd.infoAcc rfl (by omega) u5 (2 * k) (accs (passN r k)) rfl (hG.out.alloc _) _ 2 [.int .i64 r, .int .i64 k, .bool false, .int .i64 r, .int .i64 k, .bool true] rfl (View.of_row (Row.new wr 56 _) rfl (by unfold maxLen; omega) (Nat.le_refl _)) (by simp [Value.oneCell']) (by unfold maxLen; omega) (by omega) (by simp; omega) ?_; intro v1 w1 g1 r1 k1; have G1 := Lib.hid g1; have R1 := Lib.hid r1; clear g1 r1 k1))
        go_roundw
        case rel => exact ⟨k + 1, hlt, by go_num, by rw [← HA.out]; exact G1.out, (hB.out.alloc hsz _).grown R1.out (by simp; omega) (fun g hg => (hG.out.lt g hg).1)⟩
        case measure => simp [intOf]; omega
      · obtain rfl : k = M := by omega
        go_wp2_with (go_at_call 27; refine (l1In_any _ _ _ _).mono ?_; (first | rw [HI.out] | rw [HM.out]); rintro e w' ⟨rfl, rfl⟩)
        go_ret
        exact HF.out _ _ hG.out hB.out
theorem spec_PassTrace_own (r m : Int) (w : World) : Calls Tryd.prog 33 #[.int .i64 r, .int .i64 m] w fun e w' => ∃ v b, e = .returned v ∧ OwnA w' b v (passV r m) ∧ From w.heap.size b ∧ Below w.heap.size w w' :=
  (spec_PassTrace r m w).mono fun _ _ h => accs_own h
end Go.Proofs.YtmdjkaghjljbfaaDoor
