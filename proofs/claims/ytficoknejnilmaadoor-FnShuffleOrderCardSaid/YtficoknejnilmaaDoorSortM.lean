/- contract of the library's merging in place: parts of one -/
import Derived.Test.YtficoknejnilmaaDoorSortI
namespace Go.Proofs.YtficoknejnilmaaDoor
open Go.RowKit
/-- what a merge promises -/
def Mrg (w0 : World) (g n : Nat) (t : Nat → Int) (X : Nat → Nat) (r : List Value) (a b : Nat) (e : Ending) (w' : World) : Prop := e = .returned (.tuple #[]) ∧ ∃ Y, Srt w0 w' g n Y r ∧ Mv a b X Y ∧ Asc t Y a b
theorem one_left {t : Nat → Int} {X : Nat → Nat} {a m b i : Nat} (h : MIn t X a m b) (hm : m = a + 1) (hi : m ≤ i) (hib : i ≤ b) (h1 : ∀ k, m ≤ k → k < i → t (X k) < t (X a)) (h2 : ∀ k, i ≤ k → k < b → t (X a) ≤ t (X k)) : Asc t (rot a m i X) a b := by
  have q1 : ∀ k, a ≤ k → k + 1 < i → rot a m i X k = X (k + 1) := fun k hk hki => by rw [rot_at2 (by omega) hi hk (by omega)]; congr 1; omega
  have q2 : rot a m i X (i - 1) = X a := by rw [rot_at3 (by omega) hi (by omega) (by omega)]; congr 1; omega
  have q3 : ∀ k, i ≤ k → rot a m i X k = X k := fun k hk => rot_at4 hk
  intro k l hk hkl hl
  by_cases c1 : l + 1 < i
  · rw [q1 k hk (by omega), q1 l (by omega) c1]; exact h.r _ _ (by omega) (by omega) (by omega)
  · by_cases c2 : l = i - 1
    · rw [c2, q2, q1 k hk (by omega)]; exact .inl (h1 _ (by omega) (by omega))
    · rw [q3 l (by omega)]
      by_cases c3 : k + 1 < i
      · rw [q1 k hk c3]; exact h.r _ _ (by omega) (by omega) hl
      · by_cases c4 : k = i - 1
        · rw [c4, q2]
          have := h2 l (by omega) hl
          have := h.x a l (Nat.le_refl _) (by omega) (by omega) hl
          unfold Lx; omega
        · rw [q3 k (by omega)]; exact h.r _ _ (by omega) hkl hl
theorem Asc.le {t : Nat → Int} {X : Nat → Nat} {a b i j : Nat} (h : Asc t X a b) (ha : a ≤ i) (hij : i ≤ j) (hj : j < b) : t (X i) ≤ t (X j) := by
  by_cases e : i = j
  · subst e; exact Int.le_refl _
  · exact (h i j ha (by omega) hj).le
set_option maxRecDepth 20000 in
set_option maxHeartbeats 1000000 in
theorem sym_left (w0 : World) (g n c : Nat) (r : List Value) (f : FuncId) (p : Value) (t : Nat → Int) (ef : f = 23) (hC : CmpC f p w0 g n t) (hn : n ≤ 1000000) (w : World) (X : Nat → Nat) (a m b : Nat) (ham : m = a + 1) (hmb : m < b) (hbn : b ≤ n) (hs : Srt w0 w g n X r) (hX : ∀ i, i < n → X i < n) (hM : MIn t X a m b) :
    Calls Tryd.prog 33 #[.slice (some ⟨g, 0, none⟩) n c, .int .i64 a, .int .i64 m, .int .i64 b, .func (.func f) #[] #[p]] w (Mrg w0 g n t X r a b) := by
  subst ef
  have HC := Lib.hid hC
  have HX := Lib.hid hX
  have HM := Lib.hid hM
  have HS0 := Lib.hid hs
  have HA := Lib.hid ham
  have e1 : IntKind.i64.wrap ((m : Int) - (a : Int)) = 1 := wrapF (by omega) (by omega) (by omega)
  have ham' : a < m := by omega
  obtain ⟨y, hy⟩ : ∃ y, X a = y := ⟨_, rfl⟩
  have HY := Lib.hid hy
  have hyn : y < n := by rw [← hy]; exact hX a (by omega)
  clear hC hX hM hs ham hy
  go_enter Tryd.func33, Tryd.ntmps33
  go_wp2
  clear e1
  go_loopw [10, 11] (fun vi vj wr => ∃ i j : Nat, vi = .int .i64 i ∧ vj = .int .i64 j ∧ m ≤ i ∧ i ≤ j ∧ j ≤ b ∧ Srt w0 wr g n X r ∧ Hid ((∀ k, m ≤ k → k < i → t (X k) < t (X a)) ∧ ∀ k, j ≤ k → k < b → t (X a) ≤ t (X k))) (fun vi vj _ => (intOf vj).toNat - (intOf vi).toNat)
  case atStart => exact ⟨m, b, rfl, rfl, Nat.le_refl _, by omega, Nat.le_refl _, HS0.out, fun k h1 h2 => by omega, fun k h1 h2 => by omega⟩
  case round =>
    obtain ⟨i, j, rfl, rfl, hmi, hij, hjb, hs, HI⟩ := hrel
    by_cases hlt : i < j
    · have hltz : (i : Int) < (j : Int) := by omega
      obtain ⟨h, hh⟩ : ∃ h, h = (i + j) / 2 := ⟨_, rfl⟩
      have e2 : ((i : Int) + (j : Int)) / 2 = (h : Int) := by omega
      have e3 : IntKind.i64.wrap ((h : Int) + 1) = ((h + 1 : Nat) : Int) := wrapF (by omega) (by omega) (by omega)
      obtain ⟨x, hx⟩ : ∃ x, X h = x := ⟨_, rfl⟩
      have HXX := Lib.hid hx
      have hih : i ≤ h := by omega
      have hhj : h < j := by omega
      have hxn : x < n := by rw [← hx]; exact HX.out h (by omega)
      have ch := hs.cell (i := h) (by omega)
      have ca := hs.cell (i := a) (by omega)
      have HS := Lib.hid hs
      rw [hx] at ch
      rw [HY.out] at ca
      have z1 : (h : Int) < n := by omega
      have z2 : (a : Int) < n := by omega
      have hc := fun q => Calls.quiet_of (HC.out (wr.drewN q) (HS.out.drewN q).1 x y hxn hyn)
      clear hs hh hx
      by_cases hlv : cmpI (t x) (t y) < 0
      · have HLT : Hid (t (X h) < t (X a)) := by rw [HXX.out, HY.out]; exact cmpI_neg.1 hlv
        go_wp2_with fail
        go_quiet (exact hc _)
        go_wp2
        go_roundw
        case rel => exact ⟨h + 1, j, by go_num, rfl, by omega, by omega, hjb, HS.out.drewN _, fun k h1 h2 => Int.lt_of_le_of_lt (HM.out.r.le h1 (show k ≤ h by omega) (by omega)) HLT.out, HI.out.2⟩
        case measure => simp [intOf]; omega
      · have hlv' : decide (cmpI (t x) (t y) < 0) = false := by simpa using hlv
        have HLT : Hid (t (X a) ≤ t (X h)) := by show _ ≤ _; rw [HXX.out, HY.out]; exact Int.not_lt.1 fun q => hlv (cmpI_neg.2 q)
        go_wp2_with fail
        go_quiet (exact hc _)
        go_wp2
        go_roundw
        case rel => exact ⟨i, h, rfl, rfl, hmi, hih, by omega, HS.out.drewN _, HI.out.1, fun k h1 h2 => Int.le_trans HLT.out (HM.out.r.le (by omega) h1 h2)⟩
        case measure => simp [intOf]; omega
    · obtain rfl : i = j := by omega
      have HS := Lib.hid hs
      have HF : Hid (Asc t (rot a m i X) a b) := one_left HM.out HA.out hmi hjb HI.out.1 HI.out.2
      obtain ⟨i1, hi1⟩ : ∃ i1, i = i1 + 1 := ⟨i - 1, by omega⟩
      have e4 : IntKind.i64.wrap ((i : Int) - 1) = (i1 : Int) := wrapF (by omega) (by omega) (by omega)
      have HI1 := Lib.hid hi1
      have hai : a ≤ i1 := by omega
      have hin : i1 < n := by omega
      have hib : i1 < b := by omega
      clear hs hi1 hlt
      go_wp2
      generalize wr = wo at HS ⊢
      go_loopw [13] (fun vk wr => ∃ k : Nat, vk = .int .i64 k ∧ a ≤ k ∧ k ≤ i1 ∧ Srt w0 wr g n (rot a (a + 1) (k + 1) X) r) (fun vk _ => i1 - (intOf vk).toNat)
      case atStart => exact ⟨a, rfl, Nat.le_refl _, hai, by rw [show rot a (a + 1) (a + 1) X = X from rot_left X (.inr rfl) (by omega) (by omega)]; exact HS.out⟩
      case round =>
        obtain ⟨k, rfl, hak, hki, hs⟩ := hrel
        by_cases hlt : k < i1
        · have hltz : (k : Int) < (i1 : Int) := by omega
          obtain ⟨Z, hZ⟩ : ∃ Z, rot a (a + 1) (k + 1) X = Z := ⟨_, rfl⟩
          have HZ : Hid (swF Z k (k + 1) = rot a (a + 1) (k + 2) X) := by rw [← hZ]; exact rot_one X hak
          rw [hZ] at hs
          obtain ⟨k1, hk1⟩ : ∃ k1, k1 = k + 1 := ⟨_, rfl⟩
          have e5 : IntKind.i64.wrap ((k : Int) + 1) = (k1 : Int) := wrapF (by omega) (by omega) (by omega)
          have p1 : k < n := by omega
          have s1 : k1 < n := by omega
          have hps : k ≠ k1 := by omega
          have cp := hs.cell p1
          have cs := hs.cell s1
          have fp := hs.free k
          have fs := hs.free k1
          obtain ⟨x, hx⟩ : ∃ x, Z k = x := ⟨_, rfl⟩
          obtain ⟨z, hz⟩ : ∃ z, Z k1 = z := ⟨_, rfl⟩
          rw [hx] at cp
          rw [hz] at cs
          have HW : Hid (Srt w0 ((wr.setCell ⟨g, k, none⟩ (.int .i64 (z : Int))).setCell ⟨g, k1, none⟩ (.int .i64 (x : Int))) g n (rot a (a + 1) (k1 + 1) X) r) := by
            have := hs.swap p1 s1 hps
            rw [hx, hz] at this
            rw [hk1, ← HZ.out, ← hk1]
            exact this
          have p2 : (k : Int) < n := by omega
          have s2 : (k1 : Int) < n := by omega
          have hk1i : k1 ≤ i1 := by omega
          have hk1a : a ≤ k1 := by omega
          have HK1 := Lib.hid hk1
          clear hs hZ hx hz hk1 HZ
          go_wp2_with fail
          go_big_region
          all_goals go_wp2
          all_goals go_roundw
          case rel => exact ⟨k1, by go_num, hk1a, hk1i, HW.out.drew⟩
          case measure => have := HK1.out; simp [intOf]; omega
        · obtain rfl : k = i1 := by omega
          have hltz : ¬ (k : Int) < (k : Int) := by omega
          have HS := Lib.hid hs
          clear hs
          go_wp2
          go_end0
          refine ⟨rfl, _, ?_, (Mv.rot X (show a ≤ m by omega) hmi).wide (Nat.le_refl _) hjb, HF.out⟩
          rw [HI1.out, HA.out]
          exact HS.out
end Go.Proofs.YtficoknejnilmaaDoor
