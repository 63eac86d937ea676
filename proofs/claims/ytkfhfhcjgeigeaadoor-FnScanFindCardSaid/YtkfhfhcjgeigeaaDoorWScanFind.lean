/- the walk of FnScanFind -/
import Derived.Test.YtkfhfhcjgeigeaaDoorScanDraw
import Derived.Test.YtkfhfhcjgeigeaaDoorTrDraw
import Derived.Test.YtkfhfhcjgeigeaaDoorScan
import Derived.Test.YtkfhfhcjgeigeaaDoorName
namespace Go.Proofs.YtkfhfhcjgeigeaaDoor
open Go.RowKit
set_option maxHeartbeats 1000000 in
theorem walk0_FnScanFind (w : World) (v : Value) (bs : List Int) (h : Bts w v bs) (hR : Resv w) :
    Calls Tryd.prog 3 #[v] w fun e w' => LawOk w e w' := by
  obtain ⟨ad, c, hv, hm⟩ := bts_lit h
  have H := Lib.hid h
  have HR := Lib.hid hR
  clear h hR
  subst hv
  by_cases hbig : 1048576 < bs.length
  · go_enter Tryd.func3, Tryd.ntmps3
    go_wp2
    go_ret
    exact ⟨rfl, Below.refl _ _⟩
  · go_enter Tryd.func3, Tryd.ntmps3
    go_wp2_with fail
    refine (draw_ScanFind _ bs w H.out).mono ?_
    rintro e w1 ⟨u, xs, m, rfl, hG, hxl, m0, m1, hb⟩
    have HU : Hid (Ints w1 u xs) := Gr.ints hG rfl
    have B1 := nxt (Lib.hid (Below.refl _ _)) hb
    clear hb H hG
    obtain ⟨ad2, c2, hu, _, hop⟩ := HU.out.open
    subst hu
    have HOP := Lib.hid hop
    clear hop
    obtain ⟨r, hr⟩ : ∃ r, findV xs m = r := ⟨_, rfl⟩
    obtain ⟨ys, hys⟩ : ∃ ys, readsV xs.length = ys := ⟨_, rfl⟩
    have HRV := Lib.hid hr
    have HYS := Lib.hid hys
    have hne : (r != r) = false := by simp
    clear hr hys
    go_wp2_with fail
    refine (impl_ScanFind _ xs m _ HU.out).mono ?_
    rw [HRV.out, HYS.out]
    rintro e w2 ⟨x, rfl, hg, hb⟩
    have HX2 : Hid (Accs w2 x ys) := Gr.accs hg rfl
    have HU2 := Lib.hid (HU.out.mono hb (Nat.le_refl _))
    have B2 := nxt B1 hb
    clear hg hb HU B1
    go_wp2_with fail
    refine (spec_ScanFind _ xs m _ HU2.out).mono ?_
    rw [HRV.out, HYS.out]
    rintro e w3 ⟨y, rfl, hg, hb⟩
    have HX3 := Lib.hid (HX2.out.mono hb (Nat.le_refl _))
    have HY3 : Hid (Accs w3 y ys) := Gr.accs hg rfl
    have HU3 := Lib.hid (HU2.out.mono hb (Nat.le_refl _))
    have B3 := nxt B2 hb
    clear hg hb HU2 B2 HX2
    go_wp2_with fail
    refine (sameTrace_same _ _ ys _ HX3.out HY3.out).mono ?_
    rintro e w4 ⟨rfl, hb⟩
    have HX4 := Lib.hid (HX3.out.mono hb (Nat.le_refl _))
    have HU4 := Lib.hid (HU3.out.mono hb (Nat.le_refl _))
    have B4 := nxt B3 hb
    have HR4 := Lib.hid (HR.out.mono B4.out (Nat.le_refl _))
    clear hb B3 HX3 HY3 HU3 HR
    obtain ⟨ad4, c4, hx4, _, _⟩ := HX4.out.open
    by_cases hbg : 256 < xs.length
    · have hl : ys.length = 0 := by rw [← HYS.out]; unfold readsV; rw [if_neg (by omega)]; rfl
      obtain rfl : r = -1 := by rw [← HRV.out]; unfold findV; rw [if_neg (by omega)]
      rw [hl] at hx4
      subst hx4
      clear hl
      go_wp2_with (go_at_call 11; refine (alive_any _ HR4.out).mono ?_; rintro e w' ⟨rfl, rfl⟩)
      go_ret
      exact ⟨rfl, B4.out⟩
    · have hl : ys.length = xs.length := by rw [← HYS.out]; unfold readsV; rw [if_pos (by omega), readsN_length]
      rw [hl] at hx4
      subst hx4
      clear hl
      have hbg' : decide ((256 : Int) < (xs.length : Int)) = false := by simp; omega
      obtain rfl : firstAt m xs 0 = r := by rw [← HRV.out]; unfold findV; rw [if_pos (by omega)]
      clear hne HRV
      obtain ⟨ad6, c6, hv6, hmx, hop⟩ := HU4.out.open
      unfold maxLen at hmx
      cases hv6
      have HOP4 := Lib.hid hop
      clear hop
      go_wp2
      go_loop [9, 10] (fun x i => ∃ k : Nat, k ≤ xs.length ∧ i = .int .i64 ((k : Int) - 1) ∧ x = .int .i64 (firstAt m (xs.drop k) k)) (fun _ i => (intOf i + 1).toNat)
      case atStart => exact ⟨xs.length, Nat.le_refl _, rfl, by rw [firstAt_end]⟩
      case round =>
        obtain ⟨k, hk, rfl, rfl⟩ := hrel
        obtain ⟨z, hz⟩ : ∃ z, firstAt m (xs.drop k) k = z := ⟨_, rfl⟩
        by_cases hk0 : k = 0
        · subst hk0
          have HZ : Hid (z = firstAt m xs 0) := by unfold Hid; rw [← hz, firstAt_zero]
          rw [hz]
          clear hz
          rw [HZ.out]
          go_wp2_with fail
          refine (impl_ScanFind _ xs (m + 1) _ HU4.out).mono ?_
          rw [HYS.out]
          rintro e w5 ⟨z, rfl, hg, hb⟩
          have HX5 := Lib.hid (HX4.out.mono hb (Nat.le_refl _))
          have HZ5 : Hid (Accs w5 z ys) := Gr.accs hg rfl
          have B5 := nxt B4 hb
          clear hg hb HX4
          obtain ⟨q, hq⟩ : ∃ q, findV xs (m + 1) = q := ⟨_, rfl⟩
          rw [hq]
          clear hq
          go_wp2_with fail
          refine (sameTrace_same _ _ ys _ HX5.out HZ5.out).mono ?_
          rintro e w6 ⟨rfl, hb⟩
          have B6 := nxt B5 hb
          clear hb
          go_wp2
          go_ret
          exact ⟨rfl, B6.out⟩
        · obtain ⟨q, rfl⟩ : ∃ q, k = q + 1 := ⟨k - 1, by omega⟩
          have hlt : q < xs.length := by omega
          obtain ⟨b, off, rfl, hcell⟩ := HOP4.out q hlt
          have hc1 := hcell q hlt
          obtain ⟨y, hy⟩ : ∃ y, xs[q]?.getD 0 = y := ⟨_, rfl⟩
          have hx : iv xs q = .int .i64 y := by rw [iv, hy]
          rw [hx] at hc1
          have e1 : ((q + 1 : Nat) : Int) - 1 = (q : Int) := by omega
          rw [e1, hz]
          by_cases hya : y = m
          · have HN : Hid (firstAt m (xs.drop q) q = q) := firstAt_hit hlt (by rw [hy]; exact hya)
            have hka2 : (y == m) = true := by simpa using hya
            clear hcell hx hy hya hz e1
            go_wp2
            go_round
            case rel => exact ⟨q, by omega, rfl, by rw [HN.out]⟩
            case measure => simp [intOf] <;> omega
          · have HN : Hid (firstAt m (xs.drop q) q = z) := by unfold Hid; rw [← hz]; exact firstAt_miss hlt (by rw [hy]; exact hya)
            have hka2 : (y == m) = false := by simpa using hya
            clear hcell hx hy hya hz e1
            go_wp2
            go_round
            case rel => exact ⟨q, by omega, rfl, by rw [HN.out]⟩
            case measure => simp [intOf] <;> omega
theorem walk_FnScanFind (w : World) (v : Value) (bs : List Int) (h : View w 1 v bs.length (bs.map (Value.int .u8)) ∧ ∀ b ∈ bs, 0 ≤ b ∧ b ≤ 255) (hR : Resv w) :
    Calls Tryd.prog 3 #[v] w fun e w' => e = .returned (.bool true) ∧ Below w.heap.size w w' := walk0_FnScanFind w v bs h hR
end Go.Proofs.YtkfhfhcjgeigeaaDoor
