/- the walk of FnExactShuffleOrder -/
import Derived.Test.YtficoknejnilmaaShufS
import Derived.Test.YtficoknejnilmaaInts
import Derived.Test.YtficoknejnilmaaMem
namespace Go.Proofs.Ytficoknejnilmaa
open Go.RowKit
set_option maxHeartbeats 1000000 in
theorem walk_FnExactShuffleOrder (w : World) (vxs : Value) (xs : List Int) (hxs : Ints w vxs xs) (fxs : FitL xs) :
    Calls Try.prog 3 #[vxs] w fun e w' => e = .returned (.bool true) ∧ Below w.heap.size w w' := by
  have Hxs := Lib.hid hxs
  obtain ⟨adxs, cxs, hvxs, hmxs, _⟩ := hxs.open
  subst hvxs
  unfold maxLen at hmxs
  clear hxs fxs
  by_cases hbxs : 1048576 < xs.length
  · go_enter Try.func3, Try.ntmps3
    go_wp2
    go_ret
    exact ⟨rfl, Below.refl _ _⟩
  have B0 := Lib.hid (Below.refl w.heap.size w)
  go_enter Try.func3, Try.ntmps3
  have hz0 := ordV_le xs
  obtain ⟨n0, hn0⟩ : ∃ n, (ordV xs).length = n := ⟨_, rfl⟩
  rw [hn0] at hz0
  have hkb1 : decide ((1 + (xs.length : Int) : Int) < 0) = false := by simp; omega
  have hmb1 : decide ((1 + (n0 : Int) : Int) < 0) = false := by simp; omega
  go_wp2_with fail
  refine (toIntS_own _ xs _ (Hxs.out.mono B0.out (Nat.le_refl _)) (by omega)).mono ?_
  rintro e w1 ⟨vsxs, bsxs, rfl, hosxs, hfsxs, hb⟩
  have Fsxs := Lib.hid (From.up B0 hfsxs)
  have Osxs := Lib.hid hosxs
  clear hfsxs hosxs
  have B1 := nxt B0 hb
  clear hb B0
  go_wp2_with fail
  refine (spec_ShuffleOrder_own _ xs _ Osxs.out.ints (by omega)).mono ?_
  rintro e w2 ⟨vW0, bW0, rfl, hoW0, hfW0, hb⟩
  have Nsxs_W0 : ∀ g, bsxs = some g → bW0 ≠ some g := fun g h1 h2 => by have := Osxs.out.lt g h1; have := hfW0 g h2; omega
  have HNsxs_W0 := Lib.hid Nsxs_W0
  clear Nsxs_W0
  have FW0 := Lib.hid (From.up B1 hfW0)
  have OW0 := Lib.hid hoW0
  clear hfW0 hoW0
  have B2 := nxt B1 hb
  have Osxs' := Lib.hid (Osxs.out.mono hb)
  clear Osxs
  have Osxs := Osxs'
  clear Osxs'
  clear hb B1
  clear Osxs Fsxs
  clear HNsxs_W0
  go_wp2_with fail
  refine (toIntS_own _ xs _ (Hxs.out.mono B2.out (Nat.le_refl _)) (by omega)).mono ?_
  rintro e w3 ⟨vxxs, bxxs, rfl, hoxxs, hfxxs, hb⟩
  have NW0_xxs : ∀ g, bW0 = some g → bxxs ≠ some g := fun g h1 h2 => by have := OW0.out.lt g h1; have := hfxxs g h2; omega
  have HNW0_xxs := Lib.hid NW0_xxs
  clear NW0_xxs
  have Fxxs := Lib.hid (From.up B2 hfxxs)
  have Oxxs := Lib.hid hoxxs
  clear hfxxs hoxxs
  have B3 := nxt B2 hb
  have OW0' := Lib.hid (OW0.out.mono hb)
  clear OW0
  have OW0 := OW0'
  clear OW0'
  clear hb B2
  go_wp2_with fail
  refine (impl_ShuffleOrder_own _ xs _ Oxxs.out.ints (by omega)).mono ?_
  rintro e w4 ⟨vG0, bG0, rfl, hoG0, hfG0, hb⟩
  have NW0_G0 : ∀ g, bW0 = some g → bG0 ≠ some g := fun g h1 h2 => by have := OW0.out.lt g h1; have := hfG0 g h2; omega
  have HNW0_G0 := Lib.hid NW0_G0
  clear NW0_G0
  have Nxxs_G0 : ∀ g, bxxs = some g → bG0 ≠ some g := fun g h1 h2 => by have := Oxxs.out.lt g h1; have := hfG0 g h2; omega
  have HNxxs_G0 := Lib.hid Nxxs_G0
  clear Nxxs_G0
  have FG0 := Lib.hid (From.up B3 hfG0)
  have OG0 := Lib.hid hoG0
  clear hfG0 hoG0
  have B4 := nxt B3 hb
  have OW0' := Lib.hid (OW0.out.mono hb)
  have Oxxs' := Lib.hid (Oxxs.out.mono hb)
  clear OW0
  have OW0 := OW0'
  clear OW0'
  clear Oxxs
  have Oxxs := Oxxs'
  clear Oxxs'
  clear hb B3
  go_wp2_with fail
  refine (eqIntS_same _ _ (ordV xs) _ OG0.out.ints OW0.out.ints).mono ?_
  rintro e w5 ⟨rfl, hb⟩
  have B5 := nxt B4 hb
  have OW0' := Lib.hid (OW0.out.mono hb)
  have Oxxs' := Lib.hid (Oxxs.out.mono hb)
  have OG0' := Lib.hid (OG0.out.mono hb)
  clear OW0
  have OW0 := OW0'
  clear OW0'
  clear Oxxs
  have Oxxs := Oxxs'
  clear Oxxs'
  clear OG0
  have OG0 := OG0'
  clear OG0'
  clear hb B4
  go_wp2_with fail
  refine (toIntS_own _ xs _ (Hxs.out.mono B5.out (Nat.le_refl _)) (by omega)).mono ?_
  rintro e w6 ⟨vyxs, byxs, rfl, hoyxs, hfyxs, hb⟩
  have NW0_yxs : ∀ g, bW0 = some g → byxs ≠ some g := fun g h1 h2 => by have := OW0.out.lt g h1; have := hfyxs g h2; omega
  have HNW0_yxs := Lib.hid NW0_yxs
  clear NW0_yxs
  have Nxxs_yxs : ∀ g, bxxs = some g → byxs ≠ some g := fun g h1 h2 => by have := Oxxs.out.lt g h1; have := hfyxs g h2; omega
  have HNxxs_yxs := Lib.hid Nxxs_yxs
  clear Nxxs_yxs
  have NG0_yxs : ∀ g, bG0 = some g → byxs ≠ some g := fun g h1 h2 => by have := OG0.out.lt g h1; have := hfyxs g h2; omega
  have HNG0_yxs := Lib.hid NG0_yxs
  clear NG0_yxs
  have Fyxs := Lib.hid (From.up B5 hfyxs)
  have Oyxs := Lib.hid hoyxs
  clear hfyxs hoyxs
  have B6 := nxt B5 hb
  have OW0' := Lib.hid (OW0.out.mono hb)
  have Oxxs' := Lib.hid (Oxxs.out.mono hb)
  have OG0' := Lib.hid (OG0.out.mono hb)
  clear OW0
  have OW0 := OW0'
  clear OW0'
  clear Oxxs
  have Oxxs := Oxxs'
  clear Oxxs'
  clear OG0
  have OG0 := OG0'
  clear OG0'
  clear hb B5
  go_wp2_with fail
  refine (eqIntS_same _ _ (xs) _ Oxxs.out.ints Oyxs.out.ints).mono ?_
  rintro e w7 ⟨rfl, hb⟩
  have B7 := nxt B6 hb
  have OW0' := Lib.hid (OW0.out.mono hb)
  have Oxxs' := Lib.hid (Oxxs.out.mono hb)
  have OG0' := Lib.hid (OG0.out.mono hb)
  have Oyxs' := Lib.hid (Oyxs.out.mono hb)
  clear OW0
  have OW0 := OW0'
  clear OW0'
  clear Oxxs
  have Oxxs := Oxxs'
  clear Oxxs'
  clear OG0
  have OG0 := OG0'
  clear OG0'
  clear Oyxs
  have Oyxs := Oyxs'
  clear Oyxs'
  clear hb B6
  clear Oyxs Fyxs
  clear HNG0_yxs
  clear HNxxs_yxs
  clear HNW0_yxs
  go_wp2_with fail
  refine (markIntS_any _ _ (xs) (1) _ Oxxs.out (by omega) (by omega)).mono ?_
  rintro e w8 ⟨rfl, hoxxs, hg⟩
  have B8 := nxtG B7 hg Fxxs.out
  have OW0' := Lib.hid (OW0.out.grown hg HNW0_xxs.out)
  have OG0' := Lib.hid (OG0.out.grown hg (fun g h1 h2 => HNxxs_G0.out g h2 h1))
  clear OW0
  have OW0 := OW0'
  clear OW0'
  clear OG0
  have OG0 := OG0'
  clear OG0'
  clear Oxxs
  have Oxxs := Lib.hid hoxxs
  clear hoxxs hg B7
  go_wp2_with fail
  refine (eqIntS_same _ _ (ordV xs) _ OG0.out.ints OW0.out.ints).mono ?_
  rintro e w9 ⟨rfl, hb⟩
  have B9 := nxt B8 hb
  have OW0' := Lib.hid (OW0.out.mono hb)
  have Oxxs' := Lib.hid (Oxxs.out.mono hb)
  have OG0' := Lib.hid (OG0.out.mono hb)
  clear OW0
  have OW0 := OW0'
  clear OW0'
  clear Oxxs
  have Oxxs := Oxxs'
  clear Oxxs'
  clear OG0
  have OG0 := OG0'
  clear OG0'
  clear hb B8
  go_wp2_with fail
  refine (markIntS_any _ _ (ordV xs) (1) _ OG0.out (by omega) (by rw [hn0]; omega)).mono ?_
  rintro e w10 ⟨rfl, hoG0, hg⟩
  have B10 := nxtG B9 hg FG0.out
  have OW0' := Lib.hid (OW0.out.grown hg HNW0_G0.out)
  have Oxxs' := Lib.hid (Oxxs.out.grown hg HNxxs_G0.out)
  clear OW0
  have OW0 := OW0'
  clear OW0'
  clear Oxxs
  have Oxxs := Oxxs'
  clear Oxxs'
  clear OG0
  have OG0 := Lib.hid hoG0
  clear hoG0 hg B9
  go_wp2_with fail
  refine (heldIntS_any _ (ordV xs).length (1) _ OG0.out.ints (by omega) (by rw [hn0]; omega)).mono ?_
  rintro e w11 ⟨rfl, hb⟩
  have B11 := nxt B10 hb
  have OW0' := Lib.hid (OW0.out.mono hb)
  have Oxxs' := Lib.hid (Oxxs.out.mono hb)
  have OG0' := Lib.hid (OG0.out.mono hb)
  clear OW0
  have OW0 := OW0'
  clear OW0'
  clear Oxxs
  have Oxxs := Oxxs'
  clear Oxxs'
  clear OG0
  have OG0 := OG0'
  clear OG0'
  clear hb B10
  clear Oxxs Fxxs
  clear HNW0_xxs
  clear HNxxs_G0
  go_wp2_with fail
  refine (toIntS_own _ xs _ (Hxs.out.mono B11.out (Nat.le_refl _)) (by omega)).mono ?_
  rintro e w12 ⟨vzxs, bzxs, rfl, hozxs, hfzxs, hb⟩
  have NW0_zxs : ∀ g, bW0 = some g → bzxs ≠ some g := fun g h1 h2 => by have := OW0.out.lt g h1; have := hfzxs g h2; omega
  have HNW0_zxs := Lib.hid NW0_zxs
  clear NW0_zxs
  have NG0_zxs : ∀ g, bG0 = some g → bzxs ≠ some g := fun g h1 h2 => by have := OG0.out.lt g h1; have := hfzxs g h2; omega
  have HNG0_zxs := Lib.hid NG0_zxs
  clear NG0_zxs
  have Fzxs := Lib.hid (From.up B11 hfzxs)
  have Ozxs := Lib.hid hozxs
  clear hfzxs hozxs
  have B12 := nxt B11 hb
  have OW0' := Lib.hid (OW0.out.mono hb)
  have OG0' := Lib.hid (OG0.out.mono hb)
  clear OW0
  have OW0 := OW0'
  clear OW0'
  clear OG0
  have OG0 := OG0'
  clear OG0'
  clear hb B11
  go_wp2_with fail
  refine (impl_ShuffleOrder_own _ xs _ Ozxs.out.ints (by omega)).mono ?_
  rintro e w13 ⟨vH0, bH0, rfl, hoH0, hfH0, hb⟩
  have NW0_H0 : ∀ g, bW0 = some g → bH0 ≠ some g := fun g h1 h2 => by have := OW0.out.lt g h1; have := hfH0 g h2; omega
  have HNW0_H0 := Lib.hid NW0_H0
  clear NW0_H0
  have NG0_H0 : ∀ g, bG0 = some g → bH0 ≠ some g := fun g h1 h2 => by have := OG0.out.lt g h1; have := hfH0 g h2; omega
  have HNG0_H0 := Lib.hid NG0_H0
  clear NG0_H0
  have Nzxs_H0 : ∀ g, bzxs = some g → bH0 ≠ some g := fun g h1 h2 => by have := Ozxs.out.lt g h1; have := hfH0 g h2; omega
  have HNzxs_H0 := Lib.hid Nzxs_H0
  clear Nzxs_H0
  have FH0 := Lib.hid (From.up B12 hfH0)
  have OH0 := Lib.hid hoH0
  clear hfH0 hoH0
  have B13 := nxt B12 hb
  have OW0' := Lib.hid (OW0.out.mono hb)
  have OG0' := Lib.hid (OG0.out.mono hb)
  have Ozxs' := Lib.hid (Ozxs.out.mono hb)
  clear OW0
  have OW0 := OW0'
  clear OW0'
  clear OG0
  have OG0 := OG0'
  clear OG0'
  clear Ozxs
  have Ozxs := Ozxs'
  clear Ozxs'
  clear hb B12
  go_wp2_with fail
  refine (eqIntS_same _ _ (ordV xs) _ OH0.out.ints OW0.out.ints).mono ?_
  rintro e w14 ⟨rfl, hb⟩
  have B14 := nxt B13 hb
  have OW0' := Lib.hid (OW0.out.mono hb)
  have OG0' := Lib.hid (OG0.out.mono hb)
  have Ozxs' := Lib.hid (Ozxs.out.mono hb)
  have OH0' := Lib.hid (OH0.out.mono hb)
  clear OW0
  have OW0 := OW0'
  clear OW0'
  clear OG0
  have OG0 := OG0'
  clear OG0'
  clear Ozxs
  have Ozxs := Ozxs'
  clear Ozxs'
  clear OH0
  have OH0 := OH0'
  clear OH0'
  clear hb B13
  go_wp2_with fail
  refine (heldIntS_any _ (ordV xs).length (1) _ OG0.out.ints (by omega) (by rw [hn0]; omega)).mono ?_
  rintro e w15 ⟨rfl, hb⟩
  have B15 := nxt B14 hb
  have OW0' := Lib.hid (OW0.out.mono hb)
  have OG0' := Lib.hid (OG0.out.mono hb)
  have Ozxs' := Lib.hid (Ozxs.out.mono hb)
  have OH0' := Lib.hid (OH0.out.mono hb)
  clear OW0
  have OW0 := OW0'
  clear OW0'
  clear OG0
  have OG0 := OG0'
  clear OG0'
  clear Ozxs
  have Ozxs := Ozxs'
  clear Ozxs'
  clear OH0
  have OH0 := OH0'
  clear OH0'
  clear hb B14
  go_wp2
  go_ret
  exact ⟨rfl, B15.out⟩
end Go.Proofs.Ytficoknejnilmaa
