/- contracts of ApplySwitches, both -/
import Derived.Test.YtnmkficfbnnakaaDoorSendS
namespace Go.Proofs.YtnmkficfbnnakaaDoor
open Go.RowKit
def applyOk (s : List Bool) (l : List Int) : Bool := decide ((s.length : Int) = swc l.length)
def applyV (s : List Bool) (l : List Int) : List Int := if applyOk s l then sendV s l else []
theorem applyV_le (s : List Bool) (l : List Int) : (applyV s l).length ≤ 8 := by
  unfold applyV
  split
  · rename_i h
    unfold applyOk at h
    simp only [decide_eq_true_eq] at h
    unfold sendV
    split
    · omega
    · split
      · rw [swap1_len _ _ ‹_›]; omega
      · split
        · unfold send4; rw [stepV_len]; omega
        · unfold send8; rw [stepV_len]; omega
  · simp
theorem sends_any {F : Nat} (h1 : Sends F 1 0 (fun _ l => l)) (h2 : Sends F 2 1 swap1) (h4 : Sends F 4 6 send4) (h8 : Sends F 8 20 send8) (vs vl : Value) (s : List Bool) (l : List Int) (w : World) (hs : Bools w vs s) (hl : Ints w vl l) (hk : applyOk s l = true) :
    Calls Tryd.prog F #[vs, vl] w (IntsPost (sendV s l) w) := by
  unfold applyOk at hk
  simp only [decide_eq_true_eq] at hk
  have hc : l.length = 1 ∨ l.length = 2 ∨ l.length = 4 ∨ l.length = 8 := by
    rcases wide_cases (l.length : Int) with h | h | h | h | h
    · omega
    · omega
    · omega
    · omega
    · have := (wide_no h).2; omega
  rcases hc with h | h | h | h
  · have hk' : s.length = 0 := by rw [h] at hk; have : swc 1 = 0 := rfl; rw [show ((1 : Nat) : Int) = 1 from rfl, this] at hk; omega
    have := h1 vs vl s l w hs hl hk' h
    unfold sendV; rw [if_pos h]; exact this
  · have hk' : s.length = 1 := by rw [h] at hk; have : swc 2 = 1 := rfl; rw [show ((2 : Nat) : Int) = 2 from rfl, this] at hk; omega
    have := h2 vs vl s l w hs hl hk' h
    unfold sendV; rw [if_neg (by omega), if_pos h]; exact this
  · have hk' : s.length = 6 := by rw [h] at hk; have : swc 4 = 6 := rfl; rw [show ((4 : Nat) : Int) = 4 from rfl, this] at hk; omega
    have := h4 vs vl s l w hs hl hk' h
    unfold sendV; rw [if_neg (by omega), if_neg (by omega), if_pos h]; exact this
  · have hk' : s.length = 20 := by rw [h] at hk; have : swc 8 = 20 := rfl; rw [show ((8 : Nat) : Int) = 8 from rfl, this] at hk; omega
    have := h8 vs vl s l w hs hl hk' h
    unfold sendV; rw [if_neg (by omega), if_neg (by omega), if_neg (by omega)]; exact this
theorem send_all (vs vl : Value) (s : List Bool) (l : List Int) (w : World) (hs : Bools w vs s) (hl : Ints w vl l) (hk : applyOk s l = true) : Calls Tryd.prog 21 #[vs, vl] w (IntsPost (sendV s l) w) :=
  have h4 := send_step 2 1 (.inl ⟨rfl, rfl⟩) swap1 swap1_len send_2
  sends_any send_1 send_2 h4 (send_step 4 6 (.inr ⟨rfl, rfl⟩) send4 (fun s l _ => stepV_len _ _ _ _ _) h4) vs vl s l w hs hl hk
theorem apply_all (vs vl : Value) (s : List Bool) (l : List Int) (w : World) (hs : Bools w vs s) (hl : Ints w vl l) (hk : applyOk s l = true) : Calls Tryd.prog 22 #[vs, vl] w (IntsPost (sendV s l) w) :=
  have h4 := apply_step 2 1 (.inl ⟨rfl, rfl⟩) swap1 swap1_len apply_2
  sends_any apply_1 apply_2 h4 (apply_step 4 6 (.inr ⟨rfl, rfl⟩) send4 (fun s l _ => stepV_len _ _ _ _ _) h4) vs vl s l w hs hl hk
theorem impl_ApplySwitches (vs vl : Value) (s : List Bool) (l : List Int) (w : World) (hs : Bools w vs s) (hl : Ints w vl l) : Calls Tryd.prog 7 #[vs, vl] w (IntsBoolPost (applyV s l) (applyOk s l) w) := by
  have HS := Lib.hid hs
  have HL := Lib.hid hl
  obtain ⟨a1, c1, hvs, hm1, _⟩ := hs.open
  obtain ⟨a2, c2, hvl, hm2, _⟩ := hl.open
  subst hvs hvl
  unfold maxLen at hm1 hm2
  clear hs hl
  have HW := swc_wide (l.length : Int)
  cases hk : applyOk s l
  · have hne : ((s.length : Int) != swc l.length) = true := by unfold applyOk at hk; simpa using hk
    have HN : Hid (IntsBoolPost (applyV s l) false w (.returned (.tuple #[.slice none 0 0, .bool false])) w) := by
      unfold Hid applyV; rw [hk]; exact ⟨_, rfl, Gr.nil _ _ _ _, Below.refl _ _⟩
    cases hw : wideB (l.length : Int)
    · have W := Lib.hid hw
      clear hk hw HW hne
      go_enter Tryd.func7, Tryd.ntmps7
      go_wp2_with (go_at_call 20; refine (isWide_any _ _).mono ?_; rw [W.out]; rintro e w' ⟨rfl, rfl⟩)
      go_ret2
      exact HN.out
    · have W := Lib.hid hw
      obtain ⟨z, hz⟩ : ∃ z, swc (l.length : Int) = z := ⟨_, rfl⟩
      rw [hz] at hne
      have Z := Lib.hid hz
      clear hk hw HW hz
      go_enter Tryd.func7, Tryd.ntmps7
      go_wp2_with (first | (go_at_call 20; refine (isWide_any _ _).mono ?_; rw [W.out]; rintro e w' ⟨rfl, rfl⟩) | (go_at_call 16; refine (impl_sw_any _ _).mono ?_; rw [Z.out]; rintro e w' ⟨rfl, rfl⟩))
      go_ret2
      exact HN.out
  · have hne : ((s.length : Int) != swc l.length) = false := by unfold applyOk at hk; simpa using hk
    have HK := Lib.hid hk
    have hwd : wideB (l.length : Int) = true := by
      rw [← HW]
      unfold applyOk at hk
      simp only [decide_eq_true_eq] at hk
      rw [← hk]; simp
    have W := Lib.hid hwd
    have HF : Hid (∀ u w', Gr w' w.heap.size 3 1 u (sendV s l).length (ints (sendV s l)) → Below w.heap.size w w' → IntsBoolPost (applyV s l) true w (.returned (.tuple #[u, .bool true])) w') := fun u w' h1 h2 => by
      unfold applyV; rw [HK.out]; exact ⟨_, rfl, h1, h2⟩
    obtain ⟨z, hz⟩ : ∃ z, swc (l.length : Int) = z := ⟨_, rfl⟩
    rw [hz] at hne
    have Z := Lib.hid hz
    clear hk HW hwd hz
    go_enter Tryd.func7, Tryd.ntmps7
    go_wp2_with (first | (go_at_call 20; refine (isWide_any _ _).mono ?_; rw [W.out]; rintro e w' ⟨rfl, rfl⟩) | (go_at_call 16; refine (impl_sw_any _ _).mono ?_; rw [Z.out]; rintro e w' ⟨rfl, rfl⟩) | (go_at_call 21; refine (send_all _ _ s l _ HS.out HL.out HK.out).mono ?_; rintro e w' ⟨u, rfl, hg, hb⟩; have HG := Lib.hid hg; have HB := Lib.hid hb; clear hg hb))
    go_ret2
    exact HF.out _ _ HG.out HB.out
theorem spec_ApplySwitches (vs vl : Value) (s : List Bool) (l : List Int) (w : World) (hs : Bools w vs s) (hl : Ints w vl l) : Calls Tryd.prog 8 #[vs, vl] w (IntsBoolPost (applyV s l) (applyOk s l) w) := by
  have HS := Lib.hid hs
  have HL := Lib.hid hl
  obtain ⟨a1, c1, hvs, hm1, _⟩ := hs.open
  obtain ⟨a2, c2, hvl, hm2, _⟩ := hl.open
  subst hvs hvl
  unfold maxLen at hm1 hm2
  clear hs hl
  obtain ⟨z, hz⟩ : ∃ z, swc (l.length : Int) = z := ⟨_, rfl⟩
  have Z := Lib.hid hz
  cases hk : applyOk s l
  · have hne : ((s.length : Int) != z) = true := by unfold applyOk at hk; rw [hz] at hk; simpa using hk
    have HN : Hid (IntsBoolPost (applyV s l) false w (.returned (.tuple #[.slice (some ⟨w.heap.size, 0, none⟩) 0 0, .bool false])) (w.alloc (.cells #[] 3))) := by
      unfold Hid applyV; rw [hk]; exact ⟨_, rfl, Gr.none0 _ _ _ _ _, (Below.refl _ _).alloc (Nat.le_refl _) _⟩
    clear hk hz
    go_enter Tryd.func8, Tryd.ntmps8
    go_wp2_with (go_at_call 19; refine (spec_sw_any _ _).mono ?_; rw [Z.out]; rintro e w' ⟨rfl, rfl⟩)
    go_ret2
    exact HN.out
  · have hne : ((s.length : Int) != z) = false := by unfold applyOk at hk; rw [hz] at hk; simpa using hk
    have HK := Lib.hid hk
    have HF : Hid (∀ u w', Gr w' w.heap.size 3 1 u (sendV s l).length (ints (sendV s l)) → Below w.heap.size w w' → IntsBoolPost (applyV s l) true w (.returned (.tuple #[u, .bool true])) w') := fun u w' h1 h2 => by
      unfold applyV; rw [HK.out]; exact ⟨_, rfl, h1, h2⟩
    clear hk hz
    go_enter Tryd.func8, Tryd.ntmps8
    go_wp2_with (first | (go_at_call 19; refine (spec_sw_any _ _).mono ?_; rw [Z.out]; rintro e w' ⟨rfl, rfl⟩) | (go_at_call 22; refine (apply_all _ _ s l _ HS.out HL.out HK.out).mono ?_; rintro e w' ⟨u, rfl, hg, hb⟩; have HG := Lib.hid hg; have HB := Lib.hid hb; clear hg hb))
    go_ret2
    exact HF.out _ _ HG.out HB.out
theorem impl_ApplySwitches_own (vs : Value) (s : List Bool) (vl : Value) (l : List Int) (w : World) (hs : Bools w vs s) (hl : Ints w vl l) (_ : s.length ≤ 1048576) (_ : l.length ≤ 1048576) :
    Calls Tryd.prog 7 #[vs, vl] w fun e w' => ∃ v b, e = .returned (.tuple #[v, .bool (applyOk s l)]) ∧ OwnI w' b v (applyV s l) ∧ From w.heap.size b ∧ Below w.heap.size w w' := (impl_ApplySwitches vs vl s l w hs hl).mono fun _ _ h => intsBool_own h
theorem spec_ApplySwitches_own (vs : Value) (s : List Bool) (vl : Value) (l : List Int) (w : World) (hs : Bools w vs s) (hl : Ints w vl l) (_ : s.length ≤ 1048576) (_ : l.length ≤ 1048576) :
    Calls Tryd.prog 8 #[vs, vl] w fun e w' => ∃ v b, e = .returned (.tuple #[v, .bool (applyOk s l)]) ∧ OwnI w' b v (applyV s l) ∧ From w.heap.size b ∧ Below w.heap.size w w' := (spec_ApplySwitches vs vl s l w hs hl).mono fun _ _ h => intsBool_own h
end Go.Proofs.YtnmkficfbnnakaaDoor
