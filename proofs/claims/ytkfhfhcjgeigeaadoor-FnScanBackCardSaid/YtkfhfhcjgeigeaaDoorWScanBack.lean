/- the walk of FnScanBack -/
import Derived.Test.YtkfhfhcjgeigeaaDoorScanDraw
import Derived.Test.YtkfhfhcjgeigeaaDoorTrDraw
import Derived.Test.YtkfhfhcjgeigeaaDoorScan
import Derived.Test.YtkfhfhcjgeigeaaDoorName
namespace Go.Proofs.YtkfhfhcjgeigeaaDoor
open Go.RowKit
theorem firstAt_le {a : Int} : ∀ (xs : List Int) (i M : Nat), M < xs.length → xs[M]?.getD 0 = a → (i : Int) ≤ firstAt a xs i ∧ firstAt a xs i ≤ i + M
  | [], _, _, h, _ => by simp at h
  | x :: xs, i, M, h, hx => by
    unfold firstAt
    by_cases e : x = a
    · rw [if_pos e]; omega
    · rw [if_neg e]
      cases M with
      | zero => simp at hx; exact absurd hx e
      | succ M =>
        have := firstAt_le xs (i + 1) M (by simpa using h) (by simpa using hx)
        omega
set_option maxHeartbeats 1000000 in
theorem walk0_FnScanBack (w : World) (v : Value) (bs : List Int) (h : Bts w v bs) (hR : Resv w) :
    Calls Tryd.prog 6 #[v] w fun e w' => LawOk w e w' := by
  obtain ⟨ad, c, hv, hm⟩ := bts_lit h
  have H := Lib.hid h
  have HR := Lib.hid hR
  clear h hR
  subst hv
  by_cases hbig : 1048576 < bs.length
  · go_enter Tryd.func6, Tryd.ntmps6
    go_wp2
    go_ret
    exact ⟨rfl, Below.refl _ _⟩
  · go_enter Tryd.func6, Tryd.ntmps6
    go_wp2_with fail
    refine (draw_ScanWrite _ bs w H.out).mono ?_
    rintro e w1 ⟨u, xs, m, o, rfl, hG, hxl, m0, m1, o0, o1, hb⟩
    have HU : Hid (Ints w1 u xs) := Gr.ints hG rfl
    have B1 := nxt (Lib.hid (Below.refl _ _)) hb
    clear hb H hG
    obtain ⟨ad2, c2, hu, _, hop⟩ := HU.out.open
    subst hu
    have HOP := Lib.hid hop
    clear hop
    obtain ⟨r, hr⟩ : ∃ r, writeV xs m o = r := ⟨_, rfl⟩
    obtain ⟨ys, hys⟩ : ∃ ys, writesV xs.length = ys := ⟨_, rfl⟩
    have HRV := Lib.hid hr
    have HYS := Lib.hid hys
    clear hr hys
    go_wp2_with fail
    refine (impl_ScanWrite _ xs m o _ HU.out).mono ?_
    rw [HRV.out, HYS.out]
    rintro e w2 ⟨p, x, rfl, hgp, hg, -, hb⟩
    have HP2 : Hid (Ints w2 p r) := Gr.ints hgp rfl
    have HX2 : Hid (Accs w2 x ys) := Gr.accs hg rfl
    have HU2 := Lib.hid (HU.out.mono hb (Nat.le_refl _))
    have B2 := nxt B1 hb
    clear hg hgp hb HU B1
    go_wp2_with fail
    refine (spec_ScanWrite _ xs m o _ HU2.out).mono ?_
    rw [HRV.out, HYS.out]
    rintro e w3 ⟨p3, y, rfl, hgp, hg, -, hb⟩
    have HP3 := Lib.hid (HP2.out.mono hb (Nat.le_refl _))
    have HQ3 : Hid (Ints w3 p3 r) := Gr.ints hgp rfl
    have HX3 := Lib.hid (HX2.out.mono hb (Nat.le_refl _))
    have HY3 : Hid (Accs w3 y ys) := Gr.accs hg rfl
    have HU3 := Lib.hid (HU2.out.mono hb (Nat.le_refl _))
    have B3 := nxt B2 hb
    clear hg hgp hb HU2 B2 HX2 HP2
    go_wp2_with fail
    refine (sameInts_same _ _ r _ HP3.out HQ3.out).mono ?_
    rintro e w4 ⟨rfl, hb⟩
    have HP4 := Lib.hid (HP3.out.mono hb (Nat.le_refl _))
    have HX4 := Lib.hid (HX3.out.mono hb (Nat.le_refl _))
    have HY4 := Lib.hid (HY3.out.mono hb (Nat.le_refl _))
    have HU4 := Lib.hid (HU3.out.mono hb (Nat.le_refl _))
    have B4 := nxt B3 hb
    clear hb B3 HX3 HY3 HU3 HP3 HQ3
    go_wp2_with fail
    refine (sameTrace_same _ _ ys _ HX4.out HY4.out).mono ?_
    rintro e w5 ⟨rfl, hb⟩
    have HP5 := Lib.hid (HP4.out.mono hb (Nat.le_refl _))
    have HX5 := Lib.hid (HX4.out.mono hb (Nat.le_refl _))
    have HU5 := Lib.hid (HU4.out.mono hb (Nat.le_refl _))
    have B5 := nxt B4 hb
    have HR5 := Lib.hid (HR.out.mono B5.out (Nat.le_refl _))
    clear hb B4 HX4 HY4 HU4 HP4 HR
    obtain ⟨ad4, c4, hx4, _, _⟩ := HX5.out.open
    obtain ⟨adp, cp, hp5, _, hopp⟩ := HP5.out.open
    have HOPP := Lib.hid hopp
    clear hopp
    by_cases hbg : 256 < xs.length
    · go_wp2_with (go_at_call 11; refine (alive_any _ HR5.out).mono ?_; rintro e w' ⟨rfl, rfl⟩)
      go_ret
      exact ⟨rfl, B5.out⟩
    have hbg' : decide ((256 : Int) < (xs.length : Int)) = false := by simp; omega
    by_cases hm0 : m < 0
    · go_wp2_with (go_at_call 11; refine (alive_any _ HR5.out).mono ?_; rintro e w' ⟨rfl, rfl⟩)
      go_ret
      exact ⟨rfl, B5.out⟩
    obtain ⟨M, rfl⟩ := Int.eq_ofNat_of_zero_le (by omega : 0 ≤ m)
    by_cases hml : M < xs.length
    case neg =>
      have h3 : decide (xs.length ≤ M) = true := by simp; omega
      go_wp2_with (go_at_call 11; refine (alive_any _ HR5.out).mono ?_; rintro e w' ⟨rfl, rfl⟩)
      go_ret
      exact ⟨rfl, B5.out⟩
    case pos =>
      have h3 : decide (xs.length ≤ M) = false := by simp; omega
      have hr : r = tab xs.length (wrK xs M o) := by rw [← HRV.out]; unfold writeV; rw [if_pos (by omega)]
      have hl2 : r.length = xs.length := by rw [hr, tab_length]
      have hrM : r[M]?.getD 0 = o := by rw [hr, tab_get _ hml]; simp [wrK]
      have e1 : readV r M = o := by unfold readV rdK; rw [if_pos (by omega), if_pos (by omega)]; simpa using hrM
      have e2 : 0 ≤ findV r o ∧ findV r o ≤ M := by
        unfold findV; rw [if_pos (by omega)]
        have := firstAt_le r 0 M (by omega) hrM
        omega
      obtain ⟨f, hf⟩ : ∃ f, findV r o = f := ⟨_, rfl⟩
      rw [hf] at e2
      obtain ⟨f0, f1⟩ := e2
      have HE1 := Lib.hid e1
      have HF := Lib.hid hf
      subst hp5
      clear hr hl2 hrM e1 hf hx4
      go_wp2_with fail
      refine (impl_ScanRead _ r M _ HP5.out).mono ?_
      rw [HE1.out]
      rintro e w6 ⟨z, rfl, -, hb⟩
      have HP6 := Lib.hid (HP5.out.mono hb (Nat.le_refl _))
      have B6 := nxt B5 hb
      clear hb
      go_wp2_with fail
      refine (impl_ScanFind _ r o _ HP6.out).mono ?_
      rw [HF.out]
      rintro e w7 ⟨z2, rfl, -, hb⟩
      have B7 := nxt B6 hb
      clear hb
      go_wp2
      go_ret
      exact ⟨rfl, B7.out⟩
theorem walk_FnScanBack (w : World) (v : Value) (bs : List Int) (h : View w 1 v bs.length (bs.map (Value.int .u8)) ∧ ∀ b ∈ bs, 0 ≤ b ∧ b ≤ 255) (hR : Resv w) :
    Calls Tryd.prog 6 #[v] w fun e w' => e = .returned (.bool true) ∧ Below w.heap.size w w' := walk0_FnScanBack w v bs h hR
end Go.Proofs.YtkfhfhcjgeigeaaDoor
