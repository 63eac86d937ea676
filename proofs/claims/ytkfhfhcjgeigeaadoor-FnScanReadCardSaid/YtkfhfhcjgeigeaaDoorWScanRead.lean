/- the walk of FnScanRead -/
import Derived.Test.YtkfhfhcjgeigeaaDoorScanDraw
import Derived.Test.YtkfhfhcjgeigeaaDoorTrDraw
import Derived.Test.YtkfhfhcjgeigeaaDoorScan
import Derived.Test.YtkfhfhcjgeigeaaDoorName
namespace Go.Proofs.YtkfhfhcjgeigeaaDoor
open Go.RowKit
set_option maxHeartbeats 1000000 in
theorem walk0_FnScanRead (w : World) (v : Value) (bs : List Int) (h : Bts w v bs) (hR : Resv w) :
    Calls Tryd.prog 4 #[v] w fun e w' => LawOk w e w' := by
  obtain ⟨ad, c, hv, hm⟩ := bts_lit h
  have H := Lib.hid h
  have HR := Lib.hid hR
  clear h hR
  subst hv
  by_cases hbig : 1048576 < bs.length
  · go_enter Tryd.func4, Tryd.ntmps4
    go_wp2
    go_ret
    exact ⟨rfl, Below.refl _ _⟩
  · go_enter Tryd.func4, Tryd.ntmps4
    go_wp2_with fail
    refine (draw_ScanRead _ bs w H.out).mono ?_
    rintro e w1 ⟨u, xs, m, rfl, hG, hxl, m0, m1, hb⟩
    have HU : Hid (Ints w1 u xs) := Gr.ints hG rfl
    have B1 := nxt (Lib.hid (Below.refl _ _)) hb
    clear hb H hG
    obtain ⟨ad2, c2, hu, _, hop⟩ := HU.out.open
    subst hu
    have HOP := Lib.hid hop
    clear hop
    obtain ⟨r, hr⟩ : ∃ r, readV xs m = r := ⟨_, rfl⟩
    obtain ⟨ys, hys⟩ : ∃ ys, readsV xs.length = ys := ⟨_, rfl⟩
    have HRV := Lib.hid hr
    have HYS := Lib.hid hys
    have hne : (r != r) = false := by simp
    clear hr hys
    go_wp2_with fail
    refine (impl_ScanRead _ xs m _ HU.out).mono ?_
    rw [HRV.out, HYS.out]
    rintro e w2 ⟨x, rfl, hg, hb⟩
    have HX2 : Hid (Accs w2 x ys) := Gr.accs hg rfl
    have HU2 := Lib.hid (HU.out.mono hb (Nat.le_refl _))
    have B2 := nxt B1 hb
    clear hg hb HU B1
    go_wp2_with fail
    refine (spec_ScanRead _ xs m _ HU2.out).mono ?_
    rw [HRV.out, HYS.out]
    rintro e w3 ⟨y, rfl, hg, hb⟩
    have HX3 := Lib.hid (HX2.out.mono hb (Nat.le_refl _))
    have HY3 : Hid (Accs w3 y ys) := Gr.accs hg rfl
    have HU3 := Lib.hid (HU2.out.mono hb (Nat.le_refl _))
    have B3 := nxt B2 hb
    clear hg hb HU2 B2 HX2
    go_wp2_with fail
    refine (sameTrace_same _ _ ys _ HX3.out HY3.out).mono ?_
    rintro e w4 ⟨rfl, hb⟩
    have HX4 := Lib.hid (HX3.out.mono hb (Nat.le_refl _))
    have HU4 := Lib.hid (HU3.out.mono hb (Nat.le_refl _))
    have B4 := nxt B3 hb
    have HR4 := Lib.hid (HR.out.mono B4.out (Nat.le_refl _))
    clear hb B3 HX3 HY3 HU3 HR
    obtain ⟨ad4, c4, hx4, _, _⟩ := HX4.out.open
    by_cases hbg : 256 < xs.length
    · have hl : ys.length = 0 := by rw [← HYS.out]; unfold readsV; rw [if_neg (by omega)]; rfl
      obtain rfl : r = 0 := by rw [← HRV.out]; unfold readV; rw [if_neg (by omega)]
      rw [hl] at hx4
      subst hx4
      clear hl
      go_wp2_with (go_at_call 11; refine (alive_any _ HR4.out).mono ?_; rintro e w' ⟨rfl, rfl⟩)
      go_ret
      exact ⟨rfl, B4.out⟩
    · have hl : ys.length = xs.length := by rw [← HYS.out]; unfold readsV; rw [if_pos (by omega), readsN_length]
      rw [hl] at hx4
      subst hx4
      clear hl
      have hbg' : decide ((256 : Int) < (xs.length : Int)) = false := by simp; omega
      go_wp2_with fail
      refine (impl_ScanRead _ xs (m + 1) _ HU4.out).mono ?_
      rw [HYS.out]
      rintro e w5 ⟨z, rfl, hg, hb⟩
      have HX5 := Lib.hid (HX4.out.mono hb (Nat.le_refl _))
      have HZ5 : Hid (Accs w5 z ys) := Gr.accs hg rfl
      have HB5 := Lib.hid hb
      have HU5 := Lib.hid (HU4.out.mono hb (Nat.le_refl _))
      have B5 := nxt B4 hb
      clear hg hb HX4
      obtain ⟨q, hq⟩ : ∃ q, readV xs (m + 1) = q := ⟨_, rfl⟩
      rw [hq]
      clear hq
      by_cases hm0 : 0 ≤ m
      · obtain ⟨M, rfl⟩ := Int.eq_ofNat_of_zero_le hm0
        by_cases hml : M < xs.length
        · obtain ⟨ad6, c6, hv6, _, hop⟩ := HU5.out.open
          cases hv6
          obtain ⟨b, off, rfl, hcell⟩ := hop M hml
          have hc1 := hcell M hml
          have hx : iv xs M = .int .i64 r := by rw [← HRV.out]; unfold readV rdK iv; rw [if_pos (by omega), if_pos (by omega)]; simp
          rw [hx] at hc1
          clear hop hcell hx
          go_wp2_with fail
          refine (sameTrace_same _ _ ys _ HX5.out HZ5.out).mono ?_
          rintro e w6 ⟨rfl, hb⟩
          have B6 := nxt B5 hb
          clear hb
          go_wp2
          go_ret
          exact ⟨rfl, B6.out⟩
        · have h2 : decide ((M : Int) < (xs.length : Int)) = false := by simp; omega
          have h3 : decide (M < xs.length) = false := by simp; omega
          go_wp2_with fail
          refine (sameTrace_same _ _ ys _ HX5.out HZ5.out).mono ?_
          rintro e w6 ⟨rfl, hb⟩
          have B6 := nxt B5 hb
          clear hb
          go_wp2
          go_ret
          exact ⟨rfl, B6.out⟩
      · have h2 : decide (0 ≤ m) = false := by simp; omega
        go_wp2_with fail
        refine (sameTrace_same _ _ ys _ HX5.out HZ5.out).mono ?_
        rintro e w6 ⟨rfl, hb⟩
        have B6 := nxt B5 hb
        clear hb
        go_wp2
        go_ret
        exact ⟨rfl, B6.out⟩
theorem walk_FnScanRead (w : World) (v : Value) (bs : List Int) (h : View w 1 v bs.length (bs.map (Value.int .u8)) ∧ ∀ b ∈ bs, 0 ≤ b ∧ b ≤ 255) (hR : Resv w) :
    Calls Tryd.prog 4 #[v] w fun e w' => e = .returned (.bool true) ∧ Below w.heap.size w w' := walk0_FnScanRead w v bs h hR
end Go.Proofs.YtkfhfhcjgeigeaaDoor
