/- the walk of FnApplySwitches -/
import Derived.Test.YtnmkficfbnnakaaDoorApplyDraw
import Derived.Test.YtnmkficfbnnakaaDoorApplyLaw
import Derived.Test.YtnmkficfbnnakaaDoorLaw
import Derived.Test.YtnmkficfbnnakaaDoorName
namespace Go.Proofs.YtnmkficfbnnakaaDoor
open Go.RowKit
set_option maxHeartbeats 4000000 in
theorem walk0_FnApplySwitches (w : World) (v : Value) (bs : List Int) (h : Bts w v bs) (hR : Resv w) :
    Calls Tryd.prog 3 #[v] w fun e w' => LawOk w e w' := by
  obtain ⟨ad, c, hv, hm⟩ := bts_lit h
  have H := Lib.hid h
  have HR := Lib.hid hR
  clear h hR
  subst hv
  by_cases hbig : 1048576 < bs.length
  · go_enter Tryd.func3, Tryd.ntmps3
    go_wp2
    go_ret
    exact ⟨rfl, Below.refl _ _⟩
  · go_enter Tryd.func3, Tryd.ntmps3
    go_wp2_with fail
    refine (draw_ApplySwitches _ bs w H.out).mono ?_
    rintro e w1 ⟨us, ul, s, l, rfl, hs, hl, hs21, hl8, hb⟩
    have S1 := Lib.hid hs
    have L1 := Lib.hid hl
    have B1 := nxt (Lib.hid (Below.refl _ _)) hb
    clear hb hs hl H
    obtain ⟨t, ht⟩ : ∃ t, applyOk s l = t := ⟨_, rfl⟩
    obtain ⟨r, hr⟩ : ∃ r, applyV s l = r := ⟨_, rfl⟩
    have hr8 : r.length ≤ 8 := by rw [← hr]; exact applyV_le s l
    have HT := Lib.hid ht
    have HV := Lib.hid hr
    clear ht hr
    have htt : (t != t) = false := by simp
    go_wp2_with fail
    refine (impl_ApplySwitches _ _ s l _ S1.out L1.out).mono ?_
    rw [HT.out, HV.out]
    rintro e w2 ⟨ux, rfl, hg, hb⟩
    have X2 : Hid (Ints w2 ux r) := hg.view
    have S2 := Lib.hid (S1.out.mono hb (Nat.le_refl _))
    have L2 := Lib.hid (L1.out.mono hb (Nat.le_refl _))
    have B2 := nxt B1 hb
    clear hb hg S1 L1 B1
    go_wp2_with fail
    refine (spec_ApplySwitches _ _ s l _ S2.out L2.out).mono ?_
    rw [HT.out, HV.out]
    rintro e w3 ⟨uy, rfl, hg, hb⟩
    have Y3 : Hid (Ints w3 uy r) := hg.view
    have X3 := Lib.hid (X2.out.mono hb (Nat.le_refl _))
    have L3 := Lib.hid (L2.out.mono hb (Nat.le_refl _))
    have B3 := nxt B2 hb
    clear hb hg S2 L2 X2 B2
    go_wp2_with fail
    refine (sameInts_same _ _ r _ X3.out Y3.out).mono ?_
    rintro e w4 ⟨rfl, hb⟩
    have X4 := Lib.hid (X3.out.mono hb (Nat.le_refl _))
    have L4 := Lib.hid (L3.out.mono hb (Nat.le_refl _))
    have B4 := nxt B3 hb
    have HR4 := Lib.hid (HR.out.mono B4.out (Nat.le_refl _))
    clear hb X3 Y3 L3 B3 HR
    obtain ⟨ax, cx, hx, _, hopx⟩ := X4.out.open
    obtain ⟨al, cl, hl, _, hopl⟩ := L4.out.open
    subst hx hl
    cases t
    · have hr0 : r = [] := by rw [← HV.out]; unfold applyV; rw [HT.out]; rfl
      subst hr0
      clear hopx hopl
      simp only [List.length_nil]
      go_wp2_with (go_at_call 10; refine (alive_any _ HR4.out).mono ?_; rintro e w' ⟨rfl, rfl⟩)
      go_ret
      exact ⟨rfl, B4.out⟩
    · have hrs : r = sendV s l := by rw [← HV.out]; unfold applyV; rw [HT.out]; rfl
      have HC : Hid (∀ y, r.count y = l.count y) := fun y => by rw [hrs]; exact (send_count HT.out y).2
      have hrl : r.length = l.length := by rw [hrs]; exact (send_count HT.out 0).1
      obtain ⟨n, hn⟩ : ∃ n, l.length = n := ⟨_, rfl⟩
      have hrn : r.length = n := hrl.trans hn
      have HN := Lib.hid hn
      have HRN := Lib.hid hrn
      rw [hrn, hn]
      rw [hn] at hl8 hopl
      rw [hrn] at hopx
      have CL := Lib.hid hopl
      have CX := Lib.hid hopx
      clear hrs hrl hn hrn hopl hopx HT HV X4 L4 htt hr8 HR4
      go_wp2
      go_loopw [9] (fun i wr => ∃ k : Nat, k ≤ n ∧ i = .int .i64 k ∧ Hid (Below w4.heap.size w4 wr)) (fun i _ => n - (intOf i).toNat)
      case atStart => exact ⟨0, Nat.zero_le _, rfl, Below.refl _ _⟩
      case round =>
        obtain ⟨k, hk, rfl, hB⟩ := hrel
        by_cases hlt : k < n
        · obtain ⟨y, hy⟩ : ∃ y, iI l k = y := ⟨_, rfl⟩
          obtain ⟨b, off, rfl, hcl⟩ := CL.out 0 (by omega)
          obtain ⟨b2, off2, rfl, hcx⟩ := CX.out 0 (by omega)
          have kk := hcl k hlt
          have kb := World.block_lt_of_cell? w4 _ kk
          have kx := World.block_lt_of_cell? w4 _ (hcx 0 (by omega))
          rw [iv_iI, hy] at kk
          have KK : Hid (w4.cell? ⟨b, off + k, none⟩ = some (.int .i64 y)) := kk
          have HY := Lib.hid hy
          have HCL : Hid (∀ i, i < n → w4.cell? ⟨b, off + i, none⟩ = some (.int .i64 (iI l i))) := fun i hi => hcl i hi
          have HCX : Hid (∀ i, i < n → w4.cell? ⟨b2, off2 + i, none⟩ = some (.int .i64 (iI r i))) := fun i hi => hcx i hi
          clear hy kk hcl hcx
          go_wp2
          go_loopw [10, 11, 12] (fun a a2 i wr => ∃ j : Nat, j ≤ n ∧ i = .int .i64 j ∧ a = .int .i64 ((l.take j).count y : Nat) ∧ a2 = .int .i64 ((r.take j).count y : Nat) ∧ Hid (Below w4.heap.size w4 wr)) (fun _ _ i _ => n - (intOf i).toNat)
          case atStart => exact ⟨0, Nat.zero_le _, rfl, by simp, by simp, hB⟩
          case round =>
            obtain ⟨j, hj, rfl, rfl, rfl, hB⟩ := hrel
            obtain ⟨A, hA⟩ : ∃ A, (l.take j).count y = A := ⟨_, rfl⟩
            obtain ⟨A2, hA2⟩ : ∃ A, (r.take j).count y = A := ⟨_, rfl⟩
            have hAj : A ≤ j := by rw [← hA]; exact Nat.le_trans List.count_le_length (by simp; omega)
            have hAj2 : A2 ≤ j := by rw [← hA2]; exact Nat.le_trans List.count_le_length (by simp; omega)
            have HA := Lib.hid hA
            have HA2 := Lib.hid hA2
            rw [hA, hA2]
            clear hA hA2
            by_cases hlt2 : j < n
            · have kl := HCL.out j hlt2
              have kl : wr.cell? ⟨b, off + j, none⟩ = some (.int .i64 (iI l j)) := (hB.out.cell (p := ⟨b, off + j, none⟩) (World.block_lt_of_cell? w4 _ kl)).trans kl
              have kr := HCX.out j hlt2
              have kr : wr.cell? ⟨b2, off2 + j, none⟩ = some (.int .i64 (iI r j)) := (hB.out.cell (p := ⟨b2, off2 + j, none⟩) (World.block_lt_of_cell? w4 _ kr)).trans kr
              have kk : wr.cell? ⟨b, off + k, none⟩ = some (.int .i64 y) := (hB.out.cell (p := ⟨b, off + k, none⟩) kb).trans KK.out
              obtain ⟨zl, hzl⟩ : ∃ z, iI l j = z := ⟨_, rfl⟩
              obtain ⟨zr, hzr⟩ : ∃ z, iI r j = z := ⟨_, rfl⟩
              have TL := Lib.hid (take_count (y := y) (by rw [HN.out]; exact hlt2) hzl)
              have TR := Lib.hid (take_count (y := y) (by rw [HRN.out]; exact hlt2) hzr)
              rw [hzl] at kl
              rw [hzr] at kr
              clear hzl hzr
              by_cases e1 : zl = y <;> by_cases e2 : zr = y
              case pos =>
                have q1 : (zl == y) = true := by simpa using e1
                have q2 : (zr == y) = true := by simpa using e2
                have T1 : Hid ((l.take (j + 1)).count y = A + 1) := by have := TL.out; rw [if_pos e1, HA.out] at this; exact this
                have T2 : Hid ((r.take (j + 1)).count y = A2 + 1) := by have := TR.out; rw [if_pos e2, HA2.out] at this; exact this
                clear e1 e2 TL TR
                go_wp2
                go_quiet (fail)
                go_wp2
                go_quiet (fail)
                go_wp2
                go_roundw
                case rel => exact ⟨j + 1, hlt2, by go_num, by rw [T1.out]; go_num, by rw [T2.out]; go_num, below_drewN hB.out _⟩
                case measure => simp [intOf]; omega
              case neg =>
                have q1 : (zl == y) = true := by simpa using e1
                have q2 : (zr == y) = false := by simpa using e2
                have T1 : Hid ((l.take (j + 1)).count y = A + 1) := by have := TL.out; rw [if_pos e1, HA.out] at this; exact this
                have T2 : Hid ((r.take (j + 1)).count y = A2) := by have := TR.out; rw [if_neg e2, HA2.out] at this; exact this
                clear e1 e2 TL TR
                go_wp2
                go_quiet (fail)
                go_wp2
                go_quiet (fail)
                go_wp2
                go_roundw
                case rel => exact ⟨j + 1, hlt2, by go_num, by rw [T1.out]; go_num, by rw [T2.out], below_drewN hB.out _⟩
                case measure => simp [intOf]; omega
              case pos =>
                have q1 : (zl == y) = false := by simpa using e1
                have q2 : (zr == y) = true := by simpa using e2
                have T1 : Hid ((l.take (j + 1)).count y = A) := by have := TL.out; rw [if_neg e1, HA.out] at this; exact this
                have T2 : Hid ((r.take (j + 1)).count y = A2 + 1) := by have := TR.out; rw [if_pos e2, HA2.out] at this; exact this
                clear e1 e2 TL TR
                go_wp2
                go_quiet (fail)
                go_wp2
                go_quiet (fail)
                go_wp2
                go_roundw
                case rel => exact ⟨j + 1, hlt2, by go_num, by rw [T1.out], by rw [T2.out]; go_num, below_drewN hB.out _⟩
                case measure => simp [intOf]; omega
              case neg =>
                have q1 : (zl == y) = false := by simpa using e1
                have q2 : (zr == y) = false := by simpa using e2
                have T1 : Hid ((l.take (j + 1)).count y = A) := by have := TL.out; rw [if_neg e1, HA.out] at this; exact this
                have T2 : Hid ((r.take (j + 1)).count y = A2) := by have := TR.out; rw [if_neg e2, HA2.out] at this; exact this
                clear e1 e2 TL TR
                go_wp2
                go_quiet (fail)
                go_wp2
                go_quiet (fail)
                go_wp2
                go_roundw
                case rel => exact ⟨j + 1, hlt2, by go_num, by rw [T1.out], by rw [T2.out], below_drewN hB.out _⟩
                case measure => simp [intOf]; omega
            · have hjn : j = n := by omega
              have hAA : A2 = A := by
                have h1 := HA.out
                have h2 := HA2.out
                rw [hjn, ← HN.out, List.take_length] at h1
                rw [hjn, ← HRN.out, List.take_length, HC.out, h1] at h2
                exact h2.symm
              subst hAA
              have hss : ((A2 : Int) != (A2 : Int)) = false := by simp
              clear hjn
              go_wp2
              go_roundw
              case rel => exact ⟨k + 1, hlt, by go_num, hB.out⟩
              case measure => simp [intOf]; omega
        · go_wp2
          go_ret
          exact ⟨rfl, (nxt B4 hB.out).out⟩
theorem walk_FnApplySwitches (w : World) (v : Value) (bs : List Int) (h : View w 1 v bs.length (bs.map (Value.int .u8)) ∧ ∀ b ∈ bs, 0 ≤ b ∧ b ≤ 255) (hR : Resv w) :
    Calls Tryd.prog 3 #[v] w fun e w' => e = .returned (.bool true) ∧ Below w.heap.size w w' := walk0_FnApplySwitches w v bs h hR
end Go.Proofs.YtnmkficfbnnakaaDoor
