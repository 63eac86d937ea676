/- the walk of FnScanWrite -/
import Derived.Test.YtkfhfhcjgeigeaaDoorScanDraw
import Derived.Test.YtkfhfhcjgeigeaaDoorTrDraw
import Derived.Test.YtkfhfhcjgeigeaaDoorScan
import Derived.Test.YtkfhfhcjgeigeaaDoorName
namespace Go.Proofs.YtkfhfhcjgeigeaaDoor
open Go.RowKit
set_option maxHeartbeats 1000000 in
theorem walk0_FnScanWrite (w : World) (v : Value) (bs : List Int) (h : Bts w v bs) (hR : Resv w) :
    Calls Tryd.prog 5 #[v] w fun e w' => LawOk w e w' := by
  obtain ⟨ad, c, hv, hm⟩ := bts_lit h
  have H := Lib.hid h
  have HR := Lib.hid hR
  clear h hR
  subst hv
  by_cases hbig : 1048576 < bs.length
  · go_enter Tryd.func5, Tryd.ntmps5
    go_wp2
    go_ret
    exact ⟨rfl, Below.refl _ _⟩
  · go_enter Tryd.func5, Tryd.ntmps5
    go_wp2_with fail
    refine (draw_ScanWrite _ bs w H.out).mono ?_
    rintro e w1 ⟨u, xs, m, o, rfl, hG, hxl, m0, m1, o0, o1, hb⟩
    have HU : Hid (Ints w1 u xs) := Gr.ints hG rfl
    have B1 := nxt (Lib.hid (Below.refl _ _)) hb
    clear hb H hG
    obtain ⟨ad2, c2, hu, _, hop⟩ := HU.out.open
    subst hu
    have HOP := Lib.hid hop
    clear hop
    obtain ⟨r, hr⟩ : ∃ r, writeV xs m o = r := ⟨_, rfl⟩
    obtain ⟨ys, hys⟩ : ∃ ys, writesV xs.length = ys := ⟨_, rfl⟩
    have HRV := Lib.hid hr
    have HYS := Lib.hid hys
    clear hr hys
    go_wp2_with fail
    refine (impl_ScanWrite _ xs m o _ HU.out).mono ?_
    rw [HRV.out, HYS.out]
    rintro e w2 ⟨p, x, rfl, hgp, hg, -, hb⟩
    have HP2 : Hid (Ints w2 p r) := Gr.ints hgp rfl
    have HX2 : Hid (Accs w2 x ys) := Gr.accs hg rfl
    have HU2 := Lib.hid (HU.out.mono hb (Nat.le_refl _))
    have B2 := nxt B1 hb
    clear hg hgp hb HU B1
    go_wp2_with fail
    refine (spec_ScanWrite _ xs m o _ HU2.out).mono ?_
    rw [HRV.out, HYS.out]
    rintro e w3 ⟨p3, y, rfl, hgp, hg, -, hb⟩
    have HP3 := Lib.hid (HP2.out.mono hb (Nat.le_refl _))
    have HQ3 : Hid (Ints w3 p3 r) := Gr.ints hgp rfl
    have HX3 := Lib.hid (HX2.out.mono hb (Nat.le_refl _))
    have HY3 : Hid (Accs w3 y ys) := Gr.accs hg rfl
    have HU3 := Lib.hid (HU2.out.mono hb (Nat.le_refl _))
    have B3 := nxt B2 hb
    clear hg hgp hb HU2 B2 HX2 HP2
    go_wp2_with fail
    refine (sameInts_same _ _ r _ HP3.out HQ3.out).mono ?_
    rintro e w4 ⟨rfl, hb⟩
    have HP4 := Lib.hid (HP3.out.mono hb (Nat.le_refl _))
    have HX4 := Lib.hid (HX3.out.mono hb (Nat.le_refl _))
    have HY4 := Lib.hid (HY3.out.mono hb (Nat.le_refl _))
    have HU4 := Lib.hid (HU3.out.mono hb (Nat.le_refl _))
    have B4 := nxt B3 hb
    clear hb B3 HX3 HY3 HU3 HP3 HQ3
    go_wp2_with fail
    refine (sameTrace_same _ _ ys _ HX4.out HY4.out).mono ?_
    rintro e w5 ⟨rfl, hb⟩
    have HP5 := Lib.hid (HP4.out.mono hb (Nat.le_refl _))
    have HX5 := Lib.hid (HX4.out.mono hb (Nat.le_refl _))
    have HU5 := Lib.hid (HU4.out.mono hb (Nat.le_refl _))
    have B5 := nxt B4 hb
    have HR5 := Lib.hid (HR.out.mono B5.out (Nat.le_refl _))
    clear hb B4 HX4 HY4 HU4 HP4 HR
    obtain ⟨ad4, c4, hx4, _, _⟩ := HX5.out.open
    obtain ⟨adp, cp, hp5, _, hopp⟩ := HP5.out.open
    have HOPP := Lib.hid hopp
    clear hopp
    by_cases hbg : 256 < xs.length
    · have hl : ys.length = 0 := by rw [← HYS.out]; unfold writesV; rw [passV_big hbg]; rfl
      have hl2 : r.length = 0 := by rw [← HRV.out]; unfold writeV; rw [if_neg (by omega)]; rfl
      rw [hl] at hx4
      rw [hl2] at hp5
      subst hx4 hp5
      clear hl hl2
      go_wp2_with (go_at_call 11; refine (alive_any _ HR5.out).mono ?_; rintro e w' ⟨rfl, rfl⟩)
      go_ret
      exact ⟨rfl, B5.out⟩
    · have hr : r = tab xs.length (wrK xs m o) := by rw [← HRV.out]; unfold writeV; rw [if_pos (by omega)]
      have hl2 : r.length = xs.length := by rw [hr, tab_length]
      rw [hl2] at hp5
      subst hx4 hp5
      have HRT := Lib.hid hr
      have HL2 := Lib.hid hl2
      clear hl2 hr
      have hbg' : decide ((256 : Int) < (xs.length : Int)) = false := by simp; omega
      obtain ⟨ad6, c6, hv6, hmx, hop⟩ := HU5.out.open
      unfold maxLen at hmx
      cases hv6
      have HOP5 := Lib.hid hop
      clear hop
      go_wp2
      go_loopw [10] (fun i wr => ∃ k : Nat, k ≤ xs.length ∧ i = .int .i64 k ∧ Hid (Below w5.heap.size w5 wr)) (fun i _ => xs.length - (intOf i).toNat)
      case atStart => exact ⟨0, Nat.zero_le _, rfl, Below.refl _ _⟩
      case round =>
        obtain ⟨k, hk, rfl, hB⟩ := hrel
        by_cases hlt : k < xs.length
        · obtain ⟨b, off, rfl, hcell⟩ := HOP5.out k hlt
          have hc1 := hcell k hlt
          obtain ⟨y, hy⟩ : ∃ y, xs[k]?.getD 0 = y := ⟨_, rfl⟩
          have hx : iv xs k = .int .i64 y := by rw [iv, hy]
          rw [hx] at hc1
          have hc1 := (hB.out.cell (p := ⟨b, off + k, none⟩) (World.block_lt_of_cell? _ _ hc1)).trans hc1
          obtain ⟨b2, off2, rfl, hcell2⟩ := HOPP.out k (by rw [HL2.out]; exact hlt)
          have hc2 := hcell2 k (by rw [HL2.out]; exact hlt)
          have hx2 : iv r k = .int .i64 (wrK xs m o k) := by rw [HRT.out]; exact iv_tab _ hlt
          rw [hx2] at hc2
          have hc2 := (hB.out.cell (p := ⟨b2, off2 + k, none⟩) (World.block_lt_of_cell? _ _ hc2)).trans hc2
          by_cases hka : (k : Int) = m
          · have e1 : wrK xs m o k = o := by unfold wrK; rw [if_pos hka]
            rw [e1] at hc2
            have hka2 : ((k : Int) == m) = true := by simpa using hka
            have hka3 : ((k : Int) != m) = false := by simpa using hka
            have ho : (o != o) = false := by simp
            clear hcell hcell2 hx hx2 hy hka e1
            go_wp2
            go_quiet (fail)
            go_wp2
            go_roundw
            case rel => exact ⟨k + 1, hlt, by go_num, below_drewN hB.out _⟩
            case measure => simp [intOf] <;> omega
          · have e1 : wrK xs m o k = y := by unfold wrK; rw [if_neg hka, hy]
            rw [e1] at hc2
            have hka2 : ((k : Int) == m) = false := by simpa using hka
            have hka3 : ((k : Int) != m) = true := by simpa using hka
            have ho : (y != y) = false := by simp
            clear hcell hcell2 hx hx2 hy hka e1
            go_wp2
            go_quiet (fail)
            go_wp2
            go_roundw
            case rel => exact ⟨k + 1, hlt, by go_num, below_drewN hB.out _⟩
            case measure => simp [intOf] <;> omega
        · obtain rfl : k = xs.length := by omega
          have HX5' := Lib.hid (HX5.out.mono hB.out (Nat.le_refl _))
          have HU5' := Lib.hid (HU5.out.mono hB.out (Nat.le_refl _))
          have B5' := nxt B5 hB.out
          go_wp2_with fail
          refine (impl_ScanWrite _ xs (m + 1) (o + 1) _ HU5'.out).mono ?_
          rw [HYS.out]
          rintro e w6 ⟨z, z2, rfl, -, hg, -, hb⟩
          have HX6 := Lib.hid (HX5'.out.mono hb (Nat.le_refl _))
          have HZ6 : Hid (Accs w6 z2 ys) := Gr.accs hg rfl
          have B6 := nxt B5' hb
          clear hg hb HX5
          go_wp2_with fail
          refine (sameTrace_same _ _ ys _ HX6.out HZ6.out).mono ?_
          rintro e w7 ⟨rfl, hb⟩
          have B7 := nxt B6 hb
          clear hb
          go_wp2
          go_ret
          exact ⟨rfl, B7.out⟩
theorem walk_FnScanWrite (w : World) (v : Value) (bs : List Int) (h : View w 1 v bs.length (bs.map (Value.int .u8)) ∧ ∀ b ∈ bs, 0 ≤ b ∧ b ≤ 255) (hR : Resv w) :
    Calls Tryd.prog 5 #[v] w fun e w' => e = .returned (.bool true) ∧ Below w.heap.size w w' := walk0_FnScanWrite w v bs h hR
end Go.Proofs.YtkfhfhcjgeigeaaDoor
