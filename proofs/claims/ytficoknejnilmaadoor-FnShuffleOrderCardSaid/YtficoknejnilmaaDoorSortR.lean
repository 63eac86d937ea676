/- contract of the library's merging in place: one element on the right -/
import Derived.Test.YtficoknejnilmaaDoorSortM
namespace Go.Proofs.YtficoknejnilmaaDoor
open Go.RowKit
set_option maxRecDepth 20000 in
set_option maxHeartbeats 1000000 in
theorem sym_right (w0 : World) (g n c : Nat) (r : List Value) (f : FuncId) (p : Value) (t : Nat → Int) (ef : f = 23) (hC : CmpC f p w0 g n t) (hn : n ≤ 1000000) (w : World) (X : Nat → Nat) (a m b : Nat) (ham0 : a + 1 < m) (hbm : b = m + 1) (hbn : b ≤ n) (hs : Srt w0 w g n X r) (hX : ∀ i, i < n → X i < n) (hM : MIn t X a m b) :
    Calls Tryd.prog 33 #[.slice (some ⟨g, 0, none⟩) n c, .int .i64 a, .int .i64 m, .int .i64 b, .func (.func f) #[] #[p]] w (Mrg w0 g n t X r a b) := by
  subst ef
  have HC := Lib.hid hC
  have HX := Lib.hid hX
  have HM := Lib.hid hM
  have HS0 := Lib.hid hs
  have HB := Lib.hid hbm
  obtain ⟨d, hd⟩ : ∃ d, m = a + d := ⟨m - a, by omega⟩
  have e1 : IntKind.i64.wrap ((m : Int) - (a : Int)) = (d : Int) := wrapF (by omega) (by omega) (by omega)
  have e0 : ((d : Int) == 1) = false := by simp; omega
  have e2 : IntKind.i64.wrap ((b : Int) - (m : Int)) = 1 := wrapF (by omega) (by omega) (by omega)
  have ham : a < m := by omega
  have hmn : m < n := by omega
  obtain ⟨y, hy⟩ : ∃ y, X m = y := ⟨_, rfl⟩
  have HY := Lib.hid hy
  have hyn : y < n := by rw [← hy]; exact hX m hmn
  clear hC hX hM hs ham0 hbm hy hd
  go_enter Tryd.func33, Tryd.ntmps33
  go_wp2
  clear e1 e0 e2
  go_loopw [14, 15] (fun vi vj wr => ∃ i j : Nat, vi = .int .i64 i ∧ vj = .int .i64 j ∧ a ≤ i ∧ i ≤ j ∧ j ≤ m ∧ Srt w0 wr g n X r ∧ Hid ((∀ k, a ≤ k → k < i → t (X k) ≤ t (X m)) ∧ ∀ k, j ≤ k → k < m → t (X m) < t (X k))) (fun vi vj _ => (intOf vj).toNat - (intOf vi).toNat)
  case atStart => exact ⟨a, m, rfl, rfl, Nat.le_refl _, by omega, Nat.le_refl _, HS0.out, fun k h1 h2 => by omega, fun k h1 h2 => by omega⟩
  case round =>
    obtain ⟨i, j, rfl, rfl, hmi, hij, hjb, hs, HI⟩ := hrel
    by_cases hlt : i < j
    · have hltz : (i : Int) < (j : Int) := by omega
      obtain ⟨h, hh⟩ : ∃ h, h = (i + j) / 2 := ⟨_, rfl⟩
      have e2 : ((i : Int) + (j : Int)) / 2 = (h : Int) := by omega
      have e3 : IntKind.i64.wrap ((h : Int) + 1) = ((h + 1 : Nat) : Int) := wrapF (by omega) (by omega) (by omega)
      obtain ⟨x, hx⟩ : ∃ x, X h = x := ⟨_, rfl⟩
      have HXX := Lib.hid hx
      have hih : i ≤ h := by omega
      have hhj : h < j := by omega
      have hxn : x < n := by rw [← hx]; exact HX.out h (by omega)
      have ch := hs.cell (i := h) (by omega)
      have ca := hs.cell (i := m) (by omega)
      have HS := Lib.hid hs
      rw [hx] at ch
      rw [HY.out] at ca
      have z1 : (h : Int) < n := by omega
      have z2 : (m : Int) < n := by omega
      have hc := fun q => Calls.quiet_of (HC.out (wr.drewN q) (HS.out.drewN q).1 y x hyn hxn)
      clear hs hh hx
      by_cases hlv : cmpI (t y) (t x) < 0
      · have HLT : Hid (t (X m) < t (X h)) := by rw [HXX.out, HY.out]; exact cmpI_neg.1 hlv
        go_wp2_with fail
        go_quiet (exact hc _)
        go_wp2
        go_roundw
        case rel => exact ⟨i, h, rfl, rfl, hmi, hih, by omega, HS.out.drewN _, HI.out.1, fun k h1 h2 => Int.lt_of_lt_of_le HLT.out (HM.out.l.le (by omega) h1 h2)⟩
        case measure => simp [intOf]; omega
      · have hlv' : decide (cmpI (t y) (t x) < 0) = false := by simpa using hlv
        have HLT : Hid (t (X h) ≤ t (X m)) := by show _ ≤ _; rw [HXX.out, HY.out]; exact Int.not_lt.1 fun q => hlv (cmpI_neg.2 q)
        go_wp2_with fail
        go_quiet (exact hc _)
        go_wp2
        go_roundw
        case rel => exact ⟨h + 1, j, by go_num, rfl, by omega, by omega, hjb, HS.out.drewN _, fun k h1 h2 => Int.le_trans (HM.out.l.le h1 (show k ≤ h by omega) (by omega)) HLT.out, HI.out.2⟩
        case measure => simp [intOf]; omega
    · obtain rfl : i = j := by omega
      have HS := Lib.hid hs
      have HF : Hid (Asc t (rot i m (m + 1) X) a (m + 1)) := Inn.stop HI.out.2 hmi hjb HM.out.l (fun l h1 h2 => HM.out.x l m h1 h2 (Nat.le_refl _) (by have := HB.out; omega)) (by
        by_cases e : i = a
        · exact .inl e
        · exact .inr (HI.out.1 _ (by omega) (by omega)))
      clear hs hlt
      go_wp2
      generalize wr = wo at HS ⊢
      go_loopw [17] (fun vk wr => ∃ k : Nat, vk = .int .i64 k ∧ i ≤ k ∧ k ≤ m ∧ Srt w0 wr g n (rot k m (m + 1) X) r) (fun vk _ => (intOf vk).toNat)
      case atStart => exact ⟨m, rfl, hjb, Nat.le_refl _, by rw [show rot m m (m + 1) X = X from rot_left X (.inl rfl) (by omega) (by omega)]; exact HS.out⟩
      case round =>
        obtain ⟨k, rfl, hak, hki, hs⟩ := hrel
        by_cases hlt : i < k
        · obtain ⟨k0, hk0⟩ : ∃ k0, k = k0 + 1 := ⟨k - 1, by omega⟩
          obtain ⟨Z, hZ⟩ : ∃ Z, rot k m (m + 1) X = Z := ⟨_, rfl⟩
          have HZ : Hid (swF Z k k0 = rot k0 m (m + 1) X) := by rw [← hZ, hk0]; exact rot_one' X (by omega)
          rw [hZ] at hs
          have hltz : (i : Int) < (k : Int) := by omega
          have e5 : IntKind.i64.wrap ((k : Int) - 1) = (k0 : Int) := wrapF (by omega) (by omega) (by omega)
          have p1 : k < n := by omega
          have s1 : k0 < n := by omega
          have hps : k ≠ k0 := by omega
          have hps' : k0 ≠ k := by omega
          have cp := hs.cell p1
          have cs := hs.cell s1
          have fp := hs.free k
          have fs := hs.free k0
          obtain ⟨x, hx⟩ : ∃ x, Z k = x := ⟨_, rfl⟩
          obtain ⟨z, hz⟩ : ∃ z, Z k0 = z := ⟨_, rfl⟩
          rw [hx] at cp
          rw [hz] at cs
          have HW : Hid (Srt w0 ((wr.setCell ⟨g, k, none⟩ (.int .i64 (z : Int))).setCell ⟨g, k0, none⟩ (.int .i64 (x : Int))) g n (rot k0 m (m + 1) X) r) := by
            have := hs.swap p1 s1 hps
            rw [hx, hz] at this
            rw [← HZ.out]
            exact this
          have p2 : (k : Int) < n := by omega
          have s2 : (k0 : Int) < n := by omega
          have hk1i : k0 ≤ m := by omega
          have hk1a : i ≤ k0 := by omega
          have HK0 := Lib.hid hk0
          clear hs hZ hx hz hk0 HZ
          go_wp2_with fail
          go_big_region
          all_goals go_wp2
          all_goals go_roundw
          case rel => exact ⟨k0, by go_num, hk1a, hk1i, HW.out.drew⟩
          case measure => have := HK0.out; simp [intOf]; omega
        · obtain rfl : k = i := by omega
          have hltz : ¬ (k : Int) < (k : Int) := by omega
          have HS := Lib.hid hs
          clear hs
          go_wp2
          go_end0
          have q := HB.out
          refine ⟨rfl, _, HS.out, (Mv.rot X hjb (show m ≤ m + 1 by omega)).wide hmi (by omega), ?_⟩
          rw [q]
          exact HF.out
end Go.Proofs.YtficoknejnilmaaDoor
