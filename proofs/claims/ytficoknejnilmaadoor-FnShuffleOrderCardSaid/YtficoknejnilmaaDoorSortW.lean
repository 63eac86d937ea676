/- contracts of the library's sorting by merging in place, over a whole block of numbers -/
import Derived.Test.YtficoknejnilmaaDoorSortC
import Derived.Test.YtficoknejnilmaaDoorMergeP
import Derived.BigRegion
namespace Go.Proofs.YtficoknejnilmaaDoor
open Go.RowKit
theorem wrapF {z y : Int} (e : z = y) (h1 : -1000000000 ≤ y) (h2 : y ≤ 1000000000) : IntKind.i64.wrap z = y := by subst e; rw [IntKind.wrap_i64]; omega
/-- the block g holds the numbers X 0 .. X (n-1), r behind them; all else is as in w0 -/
def Srt (w0 w : World) (g n : Nat) (X : Nat → Nat) (r : List Value) : Prop := w0.grownBy w (some g) ∧ Row w g 3 (nats (tab n X) ++ r)
theorem Srt.cell {w0 w : World} {g n : Nat} {X : Nat → Nat} {r : List Value} (h : Srt w0 w g n X r) {i : Nat} (hi : i < n) : w.cell? ⟨g, i, none⟩ = some (.int .i64 (X i : Int)) := by
  have := nats_get (xs := tab n X) (i := i) (by simpa using hi) r
  rw [List.getD_eq_getElem?_getD, tab_get X hi] at this
  exact h.2.cell this
theorem Srt.free {w0 w : World} {g n : Nat} {X : Nat → Nat} {r : List Value} (h : Srt w0 w g n X r) (i : Nat) : w.frozen? ⟨g, i, none⟩ = false := h.2.free i
theorem Srt.drew {w0 w : World} {g n : Nat} {X : Nat → Nat} {r : List Value} (h : Srt w0 w g n X r) : Srt w0 w.drew g n X r := ⟨⟨h.1.os, h.1.tape, h.1.output, h.1.size, h.1.block⟩, h.2⟩
theorem Srt.drewN {w0 w : World} {g n : Nat} {X : Nat → Nat} {r : List Value} (h : Srt w0 w g n X r) : ∀ q, Srt w0 (w.drewN q) g n X r
  | 0 => h
  | q + 1 => (h.drewN q).drew
theorem Srt.set {w0 w : World} {g n : Nat} {X : Nat → Nat} {r : List Value} (h : Srt w0 w g n X r) {i : Nat} (hi : i < n) (y : Nat) : Srt w0 (w.setCell ⟨g, i, none⟩ (.int .i64 (y : Int))) g n (fun k => if k = i then y else X k) r := by
  refine ⟨grown_set h.1 _ _, ?_⟩
  have := h.2.set i (.int .i64 (y : Int))
  rwa [nats_set _ _ _ _ (by simpa using hi), tab_set] at this
theorem Srt.swap {w0 w : World} {g n : Nat} {X : Nat → Nat} {r : List Value} (h : Srt w0 w g n X r) {i j : Nat} (hi : i < n) (hj : j < n) (hij : i ≠ j) : Srt w0 ((w.setCell ⟨g, i, none⟩ (.int .i64 (X j : Int))).setCell ⟨g, j, none⟩ (.int .i64 (X i : Int))) g n (swF X i j) r := by
  have := (h.set hi (X j)).set hj (X i)
  have e : (fun k => if k = j then X i else if k = i then X j else X k) = swF X i j := by
    funext k; unfold swF; split <;> split <;> simp_all
  rwa [e] at this
theorem swapRange_any (w0 w : World) (g n c : Nat) (X : Nat → Nat) (r : List Value) (a b k : Nat) (cv : Value) (h : Srt w0 w g n X r) (hab : a + k ≤ b) (hb : b + k ≤ n) (hn : n ≤ 1000000) :
    Calls Tryd.prog 36 #[.slice (some ⟨g, 0, none⟩) n c, .int .i64 a, .int .i64 b, .int .i64 k, cv] w fun e w' => e = .returned (.tuple #[]) ∧ Srt w0 w' g n (swapR a b k X) r := by
  have H := Lib.hid h
  clear h
  have HAB := Lib.hid hab
  have HBN := Lib.hid hb
  go_enter Tryd.func36, Tryd.ntmps36
  go_wp2
  go_loopw [10] (fun i wr => ∃ j : Nat, j ≤ k ∧ i = .int .i64 j ∧ Srt w0 wr g n (swapR a b j X) r) (fun i _ => k - (intOf i).toNat)
  case atStart => exact ⟨0, Nat.zero_le _, rfl, by rw [swapR_zero]; exact H.out⟩
  case round =>
    obtain ⟨j, hj, rfl, hs⟩ := hrel
    by_cases hlt : j < k
    · obtain ⟨Y, hY⟩ : ∃ Y, swapR a b j X = Y := ⟨_, rfl⟩
      have HN : Hid (swF Y (a + j) (b + j) = swapR a b (j + 1) X) := by rw [← hY]; exact swapR_succ X (by omega)
      rw [hY] at hs
      clear hY
      obtain ⟨p, hp⟩ : ∃ p, p = a + j := ⟨_, rfl⟩
      obtain ⟨s, hs'⟩ : ∃ s, s = b + j := ⟨_, rfl⟩
      have e1 : IntKind.i64.wrap ((a : Int) + (j : Int)) = (p : Int) := by rw [IntKind.wrap_i64]; omega
      have e2 : IntKind.i64.wrap ((b : Int) + (j : Int)) = (s : Int) := by rw [IntKind.wrap_i64]; omega
      have e3 : IntKind.i64.wrap ((j : Int) + 1) = ((j + 1 : Nat) : Int) := by rw [IntKind.wrap_i64]; omega
      have HN : Hid (swF Y p s = swapR a b (j + 1) X) := by rw [hp, hs']; exact HN
      have p1 : p < n := by omega
      have s1 : s < n := by omega
      have hps : p ≠ s := by omega
      have HS := Lib.hid hs
      have cp := hs.cell p1
      have cs := hs.cell s1
      have fp := hs.free p
      have fs := hs.free s
      have HPS : Hid (p ≠ s) := hps
      obtain ⟨x, hx⟩ : ∃ x, Y p = x := ⟨_, rfl⟩
      obtain ⟨y, hy⟩ : ∃ y, Y s = y := ⟨_, rfl⟩
      rw [hx] at cp
      rw [hy] at cs
      have HW : Hid (Srt w0 ((wr.setCell ⟨g, p, none⟩ (.int .i64 (y : Int))).setCell ⟨g, s, none⟩ (.int .i64 (x : Int))) g n (swapR a b (j + 1) X) r) := by
        rw [← HN.out, ← hx, ← hy]; exact hs.swap p1 s1 hps
      clear hs hp hs' hx hy HAB HBN HN HS
      have p2 : (p : Int) < n := by omega
      have s2 : (s : Int) < n := by omega
      clear hab hb
      go_wp2_with fail
      go_big_region
      all_goals go_wp2
      all_goals go_roundw
      case rel => exact ⟨j + 1, hlt, by go_num, HW.out.drew⟩
      case measure => simp [intOf]; omega
    · obtain rfl : j = k := by omega
      have HS := Lib.hid hs
      clear hs
      go_wp2
      go_end0
      exact ⟨rfl, HS.out⟩
theorem rotate_any (w0 w : World) (g n c : Nat) (X : Nat → Nat) (r : List Value) (a m b : Nat) (cv : Value) (h : Srt w0 w g n X r) (ham : a < m) (hmb : m < b) (hb : b ≤ n) (hn : n ≤ 1000000) :
    Calls Tryd.prog 35 #[.slice (some ⟨g, 0, none⟩) n c, .int .i64 a, .int .i64 m, .int .i64 b, cv] w fun e w' => e = .returned (.tuple #[]) ∧ Srt w0 w' g n (rot a m b X) r := by
  have H := Lib.hid h
  clear h
  obtain ⟨i0, hi0⟩ : ∃ i0, m = a + i0 := ⟨m - a, by omega⟩
  obtain ⟨j0, hj0⟩ : ∃ j0, b = m + j0 := ⟨b - m, by omega⟩
  have e1 : IntKind.i64.wrap ((m : Int) - (a : Int)) = (i0 : Int) := by rw [IntKind.wrap_i64]; omega
  have e2 : IntKind.i64.wrap ((b : Int) - (m : Int)) = (j0 : Int) := by rw [IntKind.wrap_i64]; omega
  have HI := Lib.hid hi0
  have HJ := Lib.hid hj0
  have HAM := Lib.hid ham
  have HMB := Lib.hid hmb
  have HBN := Lib.hid hb
  clear hi0 hj0 ham hmb hb
  go_enter Tryd.func35, Tryd.ntmps35
  go_wp2
  clear e1 e2
  go_loopw [10, 11] (fun vi vj wr => ∃ (i j : Nat) (Y : Nat → Nat), vi = .int .i64 i ∧ vj = .int .i64 j ∧ 0 < i ∧ 0 < j ∧ a + i ≤ m ∧ m + j ≤ b ∧ Srt w0 wr g n Y r ∧ Hid (rot (m - i) m (m + j) Y = rot a m b X)) (fun vi vj _ => (intOf vi).toNat + (intOf vj).toNat)
  case atStart =>
    have q1 := HI.out
    have q2 := HJ.out
    have q3 := HAM.out
    have q4 := HMB.out
    exact ⟨i0, j0, X, by go_num, by go_num, by omega, by omega, by omega, by omega, H.out, by show _ = _; rw [show m - i0 = a by omega, show m + j0 = b by omega]⟩
  case round =>
    obtain ⟨i, j, Y, rfl, rfl, hi, hj, hai, hjb, hs, HR⟩ := hrel
    have q1 := HI.out
    have q2 := HJ.out
    have q5 := HBN.out
    obtain ⟨p, hp⟩ : ∃ p, m = p + i := ⟨m - i, by omega⟩
    have e3 : IntKind.i64.wrap ((m : Int) - (i : Int)) = (p : Int) := by rw [IntKind.wrap_i64]; omega
    have HP : Hid (m - i = p) := by show _ = _; omega
    have HP' := Lib.hid hp
    have HS := Lib.hid hs
    have HB1 := Lib.hid hai
    have HB2 := Lib.hid hjb
    by_cases hij : i = j
    · subst hij
      have hij : ((i : Int) != (i : Int)) = false := by simp
      clear hs q1 q2 q5 hp hai hjb
      go_wp2_with (go_at_call 36; refine (swapRange_any w0 _ _ _ _ Y r p m i _ HS.out (by have := HP'.out; omega) (by have := HB2.out; have := HBN.out; omega) hn).mono ?_; rintro e w' ⟨rfl, hs'⟩; have HS' := Lib.hid hs'; clear hs')
      go_end0
      refine ⟨rfl, ?_⟩
      have e : swapR p m i Y = rot a m b X := by rw [← HR.out, ← HP.out]; exact rot_eq Y (by have := HP'.out; omega)
      rw [← e]
      exact HS'.out
    · have hij : ((i : Int) != (j : Int)) = true := by simp; omega
      by_cases hgt : j < i
      · have hgt' : (j : Int) < i := by omega
        obtain ⟨d, hd⟩ : ∃ d, i = j + d := ⟨i - j, by omega⟩
        have e4 : IntKind.i64.wrap ((i : Int) - (j : Int)) = (d : Int) := by rw [IntKind.wrap_i64]; omega
        have HD := Lib.hid hd
        clear hs q1 q2 q5 hp hai hjb hd
        go_wp2_with (go_at_call 36; refine (swapRange_any w0 _ _ _ _ Y r p m j _ HS.out (by have := HP'.out; omega) (by have := HB2.out; have := HBN.out; omega) hn).mono ?_; rintro e w' ⟨rfl, hs'⟩; have HS' := Lib.hid hs'; clear hs')
        go_roundw
        case rel =>
          have q1 := HD.out
          have q2 := HP'.out
          have q3 := HB1.out
          refine ⟨d, j, _, by go_num, rfl, by omega, hj, by omega, HB2.out, HS'.out, ?_⟩
          show _ = _
          rw [← HR.out, ← HP.out, show d = i - j by omega]
          exact rot_gt Y (by omega) (by omega)
        case measure => have := HD.out; simp [intOf]; omega
      · have hgt' : decide ((i : Int) > (j : Int)) = false := by simp; omega
        obtain ⟨d, hd⟩ : ∃ d, j = i + d := ⟨j - i, by omega⟩
        obtain ⟨s, hs2⟩ : ∃ s, s = m + d := ⟨_, rfl⟩
        have e4 : IntKind.i64.wrap ((j : Int) - (i : Int)) = (d : Int) := by rw [IntKind.wrap_i64]; omega
        have e6 : IntKind.i64.wrap ((m : Int) + (j : Int)) = ((s + i : Nat) : Int) := wrapF (by omega) (by omega) (by omega)
        have e7 : IntKind.i64.wrap (((s + i : Nat) : Int) - (i : Int)) = (s : Int) := wrapF (by omega) (by omega) (by omega)
        have e8 : IntKind.i64.wrap ((m : Int) + (j : Int) - (i : Int)) = (s : Int) := wrapF (by omega) (by omega) (by omega)
        have e9 : IntKind.i64.wrap (s : Int) = (s : Int) := wrapF rfl (by omega) (by omega)
        have HD := Lib.hid hd
        have HS2 := Lib.hid hs2
        have hij3 : i < j := by omega
        clear hs q1 q2 q5 hp hai hjb hd hs2
        go_wp2_with (go_at_call 36; refine (swapRange_any w0 _ _ _ _ Y r p s i _ HS.out (by have := HP'.out; have := HS2.out; omega) (by have := HB2.out; have := HBN.out; have := HS2.out; have := HD.out; omega) hn).mono ?_; rintro e w' ⟨rfl, hs'⟩; have HS' := Lib.hid hs'; clear hs')
        go_roundw
        case rel =>
          have q1 := HD.out
          have q2 := HP'.out
          have q3 := HB2.out
          have q4 := HS2.out
          refine ⟨i, d, _, rfl, by go_num, hi, by omega, HB1.out, by omega, HS'.out, ?_⟩
          show _ = _
          rw [← HR.out, ← HP.out, show d = j - i by omega, show s = m + j - i by omega]
          exact rot_lt Y (by omega) (by omega)
        case measure => have := HD.out; simp [intOf]; omega
end Go.Proofs.YtficoknejnilmaaDoor
