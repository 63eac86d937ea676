/- the walk of FnExactApplySwitches -/
import Derived.Test.YtnmkficfbnnakaaApply
import Derived.Test.YtnmkficfbnnakaaInts
import Derived.Test.YtnmkficfbnnakaaMem
namespace Go.Proofs.Ytnmkficfbnnakaa
open Go.RowKit
set_option maxHeartbeats 1000000 in
theorem walk_FnExactApplySwitches (w : World) (vst : Value) (st : List Bool) (hst : Bools w vst st) (vxs : Value) (xs : List Int) (hxs : Ints w vxs xs) (fxs : FitL xs) :
    Calls Try.prog 3 #[vst, vxs] w fun e w' => e = .returned (.bool true) ∧ Below w.heap.size w w' := by
  have Hst := Lib.hid hst
  obtain ⟨adst, cst, hvst, hmst, _⟩ := hst.open
  subst hvst
  unfold maxLen at hmst
  clear hst
  have Hxs := Lib.hid hxs
  obtain ⟨adxs, cxs, hvxs, hmxs, _⟩ := hxs.open
  subst hvxs
  unfold maxLen at hmxs
  clear hxs fxs
  by_cases hbst : 1048576 < st.length
  · go_enter Try.func3, Try.ntmps3
    go_wp2
    go_ret
    exact ⟨rfl, Below.refl _ _⟩
  by_cases hbxs : 1048576 < xs.length
  · go_enter Try.func3, Try.ntmps3
    go_wp2
    go_ret
    exact ⟨rfl, Below.refl _ _⟩
  have B0 := Lib.hid (Below.refl w.heap.size w)
  go_enter Try.func3, Try.ntmps3
  have hs1 : ((applyOk st xs) != (applyOk st xs)) = false := by simp
  have hz0 := applyV_le st xs
  obtain ⟨n0, hn0⟩ : ∃ n, (applyV st xs).length = n := ⟨_, rfl⟩
  rw [hn0] at hz0
  have hkb1 : decide ((1 + (st.length : Int) : Int) < 0) = false := by simp; omega
  have hkb2 : decide ((1 + (st.length : Int) + (xs.length : Int) : Int) < 0) = false := by simp; omega
  have hmb1 : decide ((1 + (n0 : Int) : Int) < 0) = false := by simp; omega
  go_wp2_with fail
  refine (toBoolS_own _ st _ (Hst.out.mono B0.out (Nat.le_refl _)) (by omega)).mono ?_
  rintro e w1 ⟨vsst, bsst, rfl, hosst, hfsst, hb⟩
  have Fsst := Lib.hid (From.up B0 hfsst)
  have Osst := Lib.hid hosst
  clear hfsst hosst
  have B1 := nxt B0 hb
  clear hb B0
  go_wp2_with fail
  refine (toIntS_own _ xs _ (Hxs.out.mono B1.out (Nat.le_refl _)) (by omega)).mono ?_
  rintro e w2 ⟨vsxs, bsxs, rfl, hosxs, hfsxs, hb⟩
  have Nsst_sxs : ∀ g, bsst = some g → bsxs ≠ some g := fun g h1 h2 => by have := Osst.out.lt g h1; have := hfsxs g h2; omega
  have HNsst_sxs := Lib.hid Nsst_sxs
  clear Nsst_sxs
  have Fsxs := Lib.hid (From.up B1 hfsxs)
  have Osxs := Lib.hid hosxs
  clear hfsxs hosxs
  have B2 := nxt B1 hb
  have Osst' := Lib.hid (Osst.out.mono hb)
  clear Osst
  have Osst := Osst'
  clear Osst'
  clear hb B1
  go_wp2_with fail
  refine (spec_ApplySwitches_own _ st _ xs _ Osst.out.bools Osxs.out.ints (by omega) (by omega)).mono ?_
  rintro e w3 ⟨vW0, bW0, rfl, hoW0, hfW0, hb⟩
  have Nsst_W0 : ∀ g, bsst = some g → bW0 ≠ some g := fun g h1 h2 => by have := Osst.out.lt g h1; have := hfW0 g h2; omega
  have HNsst_W0 := Lib.hid Nsst_W0
  clear Nsst_W0
  have Nsxs_W0 : ∀ g, bsxs = some g → bW0 ≠ some g := fun g h1 h2 => by have := Osxs.out.lt g h1; have := hfW0 g h2; omega
  have HNsxs_W0 := Lib.hid Nsxs_W0
  clear Nsxs_W0
  have FW0 := Lib.hid (From.up B2 hfW0)
  have OW0 := Lib.hid hoW0
  clear hfW0 hoW0
  have B3 := nxt B2 hb
  have Osst' := Lib.hid (Osst.out.mono hb)
  have Osxs' := Lib.hid (Osxs.out.mono hb)
  clear Osst
  have Osst := Osst'
  clear Osst'
  clear Osxs
  have Osxs := Osxs'
  clear Osxs'
  clear hb B2
  clear Osst Fsst
  clear HNsst_sxs
  clear HNsst_W0
  clear Osxs Fsxs
  clear HNsxs_W0
  go_wp2_with fail
  refine (toBoolS_own _ st _ (Hst.out.mono B3.out (Nat.le_refl _)) (by omega)).mono ?_
  rintro e w4 ⟨vxst, bxst, rfl, hoxst, hfxst, hb⟩
  have NW0_xst : ∀ g, bW0 = some g → bxst ≠ some g := fun g h1 h2 => by have := OW0.out.lt g h1; have := hfxst g h2; omega
  have HNW0_xst := Lib.hid NW0_xst
  clear NW0_xst
  have Fxst := Lib.hid (From.up B3 hfxst)
  have Oxst := Lib.hid hoxst
  clear hfxst hoxst
  have B4 := nxt B3 hb
  have OW0' := Lib.hid (OW0.out.mono hb)
  clear OW0
  have OW0 := OW0'
  clear OW0'
  clear hb B3
  go_wp2_with fail
  refine (toIntS_own _ xs _ (Hxs.out.mono B4.out (Nat.le_refl _)) (by omega)).mono ?_
  rintro e w5 ⟨vxxs, bxxs, rfl, hoxxs, hfxxs, hb⟩
  have NW0_xxs : ∀ g, bW0 = some g → bxxs ≠ some g := fun g h1 h2 => by have := OW0.out.lt g h1; have := hfxxs g h2; omega
  have HNW0_xxs := Lib.hid NW0_xxs
  clear NW0_xxs
  have Nxst_xxs : ∀ g, bxst = some g → bxxs ≠ some g := fun g h1 h2 => by have := Oxst.out.lt g h1; have := hfxxs g h2; omega
  have HNxst_xxs := Lib.hid Nxst_xxs
  clear Nxst_xxs
  have Fxxs := Lib.hid (From.up B4 hfxxs)
  have Oxxs := Lib.hid hoxxs
  clear hfxxs hoxxs
  have B5 := nxt B4 hb
  have OW0' := Lib.hid (OW0.out.mono hb)
  have Oxst' := Lib.hid (Oxst.out.mono hb)
  clear OW0
  have OW0 := OW0'
  clear OW0'
  clear Oxst
  have Oxst := Oxst'
  clear Oxst'
  clear hb B4
  go_wp2_with fail
  refine (impl_ApplySwitches_own _ st _ xs _ Oxst.out.bools Oxxs.out.ints (by omega) (by omega)).mono ?_
  rintro e w6 ⟨vG0, bG0, rfl, hoG0, hfG0, hb⟩
  have NW0_G0 : ∀ g, bW0 = some g → bG0 ≠ some g := fun g h1 h2 => by have := OW0.out.lt g h1; have := hfG0 g h2; omega
  have HNW0_G0 := Lib.hid NW0_G0
  clear NW0_G0
  have Nxst_G0 : ∀ g, bxst = some g → bG0 ≠ some g := fun g h1 h2 => by have := Oxst.out.lt g h1; have := hfG0 g h2; omega
  have HNxst_G0 := Lib.hid Nxst_G0
  clear Nxst_G0
  have Nxxs_G0 : ∀ g, bxxs = some g → bG0 ≠ some g := fun g h1 h2 => by have := Oxxs.out.lt g h1; have := hfG0 g h2; omega
  have HNxxs_G0 := Lib.hid Nxxs_G0
  clear Nxxs_G0
  have FG0 := Lib.hid (From.up B5 hfG0)
  have OG0 := Lib.hid hoG0
  clear hfG0 hoG0
  have B6 := nxt B5 hb
  have OW0' := Lib.hid (OW0.out.mono hb)
  have Oxst' := Lib.hid (Oxst.out.mono hb)
  have Oxxs' := Lib.hid (Oxxs.out.mono hb)
  clear OW0
  have OW0 := OW0'
  clear OW0'
  clear Oxst
  have Oxst := Oxst'
  clear Oxst'
  clear Oxxs
  have Oxxs := Oxxs'
  clear Oxxs'
  clear hb B5
  go_wp2_with fail
  refine (eqIntS_same _ _ (applyV st xs) _ OG0.out.ints OW0.out.ints).mono ?_
  rintro e w7 ⟨rfl, hb⟩
  have B7 := nxt B6 hb
  have OW0' := Lib.hid (OW0.out.mono hb)
  have Oxst' := Lib.hid (Oxst.out.mono hb)
  have Oxxs' := Lib.hid (Oxxs.out.mono hb)
  have OG0' := Lib.hid (OG0.out.mono hb)
  clear OW0
  have OW0 := OW0'
  clear OW0'
  clear Oxst
  have Oxst := Oxst'
  clear Oxst'
  clear Oxxs
  have Oxxs := Oxxs'
  clear Oxxs'
  clear OG0
  have OG0 := OG0'
  clear OG0'
  clear hb B6
  go_wp2_with fail
  refine (toBoolS_own _ st _ (Hst.out.mono B7.out (Nat.le_refl _)) (by omega)).mono ?_
  rintro e w8 ⟨vyst, byst, rfl, hoyst, hfyst, hb⟩
  have NW0_yst : ∀ g, bW0 = some g → byst ≠ some g := fun g h1 h2 => by have := OW0.out.lt g h1; have := hfyst g h2; omega
  have HNW0_yst := Lib.hid NW0_yst
  clear NW0_yst
  have Nxst_yst : ∀ g, bxst = some g → byst ≠ some g := fun g h1 h2 => by have := Oxst.out.lt g h1; have := hfyst g h2; omega
  have HNxst_yst := Lib.hid Nxst_yst
  clear Nxst_yst
  have Nxxs_yst : ∀ g, bxxs = some g → byst ≠ some g := fun g h1 h2 => by have := Oxxs.out.lt g h1; have := hfyst g h2; omega
  have HNxxs_yst := Lib.hid Nxxs_yst
  clear Nxxs_yst
  have NG0_yst : ∀ g, bG0 = some g → byst ≠ some g := fun g h1 h2 => by have := OG0.out.lt g h1; have := hfyst g h2; omega
  have HNG0_yst := Lib.hid NG0_yst
  clear NG0_yst
  have Fyst := Lib.hid (From.up B7 hfyst)
  have Oyst := Lib.hid hoyst
  clear hfyst hoyst
  have B8 := nxt B7 hb
  have OW0' := Lib.hid (OW0.out.mono hb)
  have Oxst' := Lib.hid (Oxst.out.mono hb)
  have Oxxs' := Lib.hid (Oxxs.out.mono hb)
  have OG0' := Lib.hid (OG0.out.mono hb)
  clear OW0
  have OW0 := OW0'
  clear OW0'
  clear Oxst
  have Oxst := Oxst'
  clear Oxst'
  clear Oxxs
  have Oxxs := Oxxs'
  clear Oxxs'
  clear OG0
  have OG0 := OG0'
  clear OG0'
  clear hb B7
  go_wp2_with fail
  refine (eqBoolS_same _ _ (st) _ Oxst.out.bools Oyst.out.bools).mono ?_
  rintro e w9 ⟨rfl, hb⟩
  have B9 := nxt B8 hb
  have OW0' := Lib.hid (OW0.out.mono hb)
  have Oxst' := Lib.hid (Oxst.out.mono hb)
  have Oxxs' := Lib.hid (Oxxs.out.mono hb)
  have OG0' := Lib.hid (OG0.out.mono hb)
  have Oyst' := Lib.hid (Oyst.out.mono hb)
  clear OW0
  have OW0 := OW0'
  clear OW0'
  clear Oxst
  have Oxst := Oxst'
  clear Oxst'
  clear Oxxs
  have Oxxs := Oxxs'
  clear Oxxs'
  clear OG0
  have OG0 := OG0'
  clear OG0'
  clear Oyst
  have Oyst := Oyst'
  clear Oyst'
  clear hb B8
  clear Oyst Fyst
  clear HNW0_yst
  clear HNG0_yst
  clear HNxst_yst
  clear HNxxs_yst
  go_wp2_with fail
  refine (toIntS_own _ xs _ (Hxs.out.mono B9.out (Nat.le_refl _)) (by omega)).mono ?_
  rintro e w10 ⟨vyxs, byxs, rfl, hoyxs, hfyxs, hb⟩
  have NW0_yxs : ∀ g, bW0 = some g → byxs ≠ some g := fun g h1 h2 => by have := OW0.out.lt g h1; have := hfyxs g h2; omega
  have HNW0_yxs := Lib.hid NW0_yxs
  clear NW0_yxs
  have Nxst_yxs : ∀ g, bxst = some g → byxs ≠ some g := fun g h1 h2 => by have := Oxst.out.lt g h1; have := hfyxs g h2; omega
  have HNxst_yxs := Lib.hid Nxst_yxs
  clear Nxst_yxs
  have Nxxs_yxs : ∀ g, bxxs = some g → byxs ≠ some g := fun g h1 h2 => by have := Oxxs.out.lt g h1; have := hfyxs g h2; omega
  have HNxxs_yxs := Lib.hid Nxxs_yxs
  clear Nxxs_yxs
  have NG0_yxs : ∀ g, bG0 = some g → byxs ≠ some g := fun g h1 h2 => by have := OG0.out.lt g h1; have := hfyxs g h2; omega
  have HNG0_yxs := Lib.hid NG0_yxs
  clear NG0_yxs
  have Fyxs := Lib.hid (From.up B9 hfyxs)
  have Oyxs := Lib.hid hoyxs
  clear hfyxs hoyxs
  have B10 := nxt B9 hb
  have OW0' := Lib.hid (OW0.out.mono hb)
  have Oxst' := Lib.hid (Oxst.out.mono hb)
  have Oxxs' := Lib.hid (Oxxs.out.mono hb)
  have OG0' := Lib.hid (OG0.out.mono hb)
  clear OW0
  have OW0 := OW0'
  clear OW0'
  clear Oxst
  have Oxst := Oxst'
  clear Oxst'
  clear Oxxs
  have Oxxs := Oxxs'
  clear Oxxs'
  clear OG0
  have OG0 := OG0'
  clear OG0'
  clear hb B9
  go_wp2_with fail
  refine (eqIntS_same _ _ (xs) _ Oxxs.out.ints Oyxs.out.ints).mono ?_
  rintro e w11 ⟨rfl, hb⟩
  have B11 := nxt B10 hb
  have OW0' := Lib.hid (OW0.out.mono hb)
  have Oxst' := Lib.hid (Oxst.out.mono hb)
  have Oxxs' := Lib.hid (Oxxs.out.mono hb)
  have OG0' := Lib.hid (OG0.out.mono hb)
  have Oyxs' := Lib.hid (Oyxs.out.mono hb)
  clear OW0
  have OW0 := OW0'
  clear OW0'
  clear Oxst
  have Oxst := Oxst'
  clear Oxst'
  clear Oxxs
  have Oxxs := Oxxs'
  clear Oxxs'
  clear OG0
  have OG0 := OG0'
  clear OG0'
  clear Oyxs
  have Oyxs := Oyxs'
  clear Oyxs'
  clear hb B10
  clear Oyxs Fyxs
  clear HNW0_yxs
  clear HNG0_yxs
  clear HNxst_yxs
  clear HNxxs_yxs
  go_wp2_with fail
  refine (markBoolS_any _ _ (st) (1) _ Oxst.out (by omega) (by omega)).mono ?_
  rintro e w12 ⟨rfl, hoxst, hg⟩
  have B12 := nxtG B11 hg Fxst.out
  have OW0' := Lib.hid (OW0.out.grown hg HNW0_xst.out)
  have Oxxs' := Lib.hid (Oxxs.out.grown hg (fun g h1 h2 => HNxst_xxs.out g h2 h1))
  have OG0' := Lib.hid (OG0.out.grown hg (fun g h1 h2 => HNxst_G0.out g h2 h1))
  clear OW0
  have OW0 := OW0'
  clear OW0'
  clear Oxxs
  have Oxxs := Oxxs'
  clear Oxxs'
  clear OG0
  have OG0 := OG0'
  clear OG0'
  clear Oxst
  have Oxst := Lib.hid hoxst
  clear hoxst hg B11
  go_wp2_with fail
  refine (markIntS_any _ _ (xs) (1 + (st.length : Int)) _ Oxxs.out (by omega) (by omega)).mono ?_
  rintro e w13 ⟨rfl, hoxxs, hg⟩
  have B13 := nxtG B12 hg Fxxs.out
  have OW0' := Lib.hid (OW0.out.grown hg HNW0_xxs.out)
  have Oxst' := Lib.hid (Oxst.out.grown hg HNxst_xxs.out)
  have OG0' := Lib.hid (OG0.out.grown hg (fun g h1 h2 => HNxxs_G0.out g h2 h1))
  clear OW0
  have OW0 := OW0'
  clear OW0'
  clear Oxst
  have Oxst := Oxst'
  clear Oxst'
  clear OG0
  have OG0 := OG0'
  clear OG0'
  clear Oxxs
  have Oxxs := Lib.hid hoxxs
  clear hoxxs hg B12
  go_wp2_with fail
  refine (eqIntS_same _ _ (applyV st xs) _ OG0.out.ints OW0.out.ints).mono ?_
  rintro e w14 ⟨rfl, hb⟩
  have B14 := nxt B13 hb
  have OW0' := Lib.hid (OW0.out.mono hb)
  have Oxst' := Lib.hid (Oxst.out.mono hb)
  have Oxxs' := Lib.hid (Oxxs.out.mono hb)
  have OG0' := Lib.hid (OG0.out.mono hb)
  clear OW0
  have OW0 := OW0'
  clear OW0'
  clear Oxst
  have Oxst := Oxst'
  clear Oxst'
  clear Oxxs
  have Oxxs := Oxxs'
  clear Oxxs'
  clear OG0
  have OG0 := OG0'
  clear OG0'
  clear hb B13
  go_wp2_with fail
  refine (markIntS_any _ _ (applyV st xs) (1) _ OG0.out (by omega) (by rw [hn0]; omega)).mono ?_
  rintro e w15 ⟨rfl, hoG0, hg⟩
  have B15 := nxtG B14 hg FG0.out
  have OW0' := Lib.hid (OW0.out.grown hg HNW0_G0.out)
  have Oxst' := Lib.hid (Oxst.out.grown hg HNxst_G0.out)
  have Oxxs' := Lib.hid (Oxxs.out.grown hg HNxxs_G0.out)
  clear OW0
  have OW0 := OW0'
  clear OW0'
  clear Oxst
  have Oxst := Oxst'
  clear Oxst'
  clear Oxxs
  have Oxxs := Oxxs'
  clear Oxxs'
  clear OG0
  have OG0 := Lib.hid hoG0
  clear hoG0 hg B14
  go_wp2_with fail
  refine (heldIntS_any _ (applyV st xs).length (1) _ OG0.out.ints (by omega) (by rw [hn0]; omega)).mono ?_
  rintro e w16 ⟨rfl, hb⟩
  have B16 := nxt B15 hb
  have OW0' := Lib.hid (OW0.out.mono hb)
  have Oxst' := Lib.hid (Oxst.out.mono hb)
  have Oxxs' := Lib.hid (Oxxs.out.mono hb)
  have OG0' := Lib.hid (OG0.out.mono hb)
  clear OW0
  have OW0 := OW0'
  clear OW0'
  clear Oxst
  have Oxst := Oxst'
  clear Oxst'
  clear Oxxs
  have Oxxs := Oxxs'
  clear Oxxs'
  clear OG0
  have OG0 := OG0'
  clear OG0'
  clear hb B15
  clear Oxst Fxst
  clear HNW0_xst
  clear HNxst_xxs
  clear HNxst_G0
  clear Oxxs Fxxs
  clear HNW0_xxs
  clear HNxxs_G0
  go_wp2_with fail
  refine (toBoolS_own _ st _ (Hst.out.mono B16.out (Nat.le_refl _)) (by omega)).mono ?_
  rintro e w17 ⟨vzst, bzst, rfl, hozst, hfzst, hb⟩
  have NW0_zst : ∀ g, bW0 = some g → bzst ≠ some g := fun g h1 h2 => by have := OW0.out.lt g h1; have := hfzst g h2; omega
  have HNW0_zst := Lib.hid NW0_zst
  clear NW0_zst
  have NG0_zst : ∀ g, bG0 = some g → bzst ≠ some g := fun g h1 h2 => by have := OG0.out.lt g h1; have := hfzst g h2; omega
  have HNG0_zst := Lib.hid NG0_zst
  clear NG0_zst
  have Fzst := Lib.hid (From.up B16 hfzst)
  have Ozst := Lib.hid hozst
  clear hfzst hozst
  have B17 := nxt B16 hb
  have OW0' := Lib.hid (OW0.out.mono hb)
  have OG0' := Lib.hid (OG0.out.mono hb)
  clear OW0
  have OW0 := OW0'
  clear OW0'
  clear OG0
  have OG0 := OG0'
  clear OG0'
  clear hb B16
  go_wp2_with fail
  refine (toIntS_own _ xs _ (Hxs.out.mono B17.out (Nat.le_refl _)) (by omega)).mono ?_
  rintro e w18 ⟨vzxs, bzxs, rfl, hozxs, hfzxs, hb⟩
  have NW0_zxs : ∀ g, bW0 = some g → bzxs ≠ some g := fun g h1 h2 => by have := OW0.out.lt g h1; have := hfzxs g h2; omega
  have HNW0_zxs := Lib.hid NW0_zxs
  clear NW0_zxs
  have NG0_zxs : ∀ g, bG0 = some g → bzxs ≠ some g := fun g h1 h2 => by have := OG0.out.lt g h1; have := hfzxs g h2; omega
  have HNG0_zxs := Lib.hid NG0_zxs
  clear NG0_zxs
  have Nzst_zxs : ∀ g, bzst = some g → bzxs ≠ some g := fun g h1 h2 => by have := Ozst.out.lt g h1; have := hfzxs g h2; omega
  have HNzst_zxs := Lib.hid Nzst_zxs
  clear Nzst_zxs
  have Fzxs := Lib.hid (From.up B17 hfzxs)
  have Ozxs := Lib.hid hozxs
  clear hfzxs hozxs
  have B18 := nxt B17 hb
  have OW0' := Lib.hid (OW0.out.mono hb)
  have OG0' := Lib.hid (OG0.out.mono hb)
  have Ozst' := Lib.hid (Ozst.out.mono hb)
  clear OW0
  have OW0 := OW0'
  clear OW0'
  clear OG0
  have OG0 := OG0'
  clear OG0'
  clear Ozst
  have Ozst := Ozst'
  clear Ozst'
  clear hb B17
  go_wp2_with fail
  refine (impl_ApplySwitches_own _ st _ xs _ Ozst.out.bools Ozxs.out.ints (by omega) (by omega)).mono ?_
  rintro e w19 ⟨vH0, bH0, rfl, hoH0, hfH0, hb⟩
  have NW0_H0 : ∀ g, bW0 = some g → bH0 ≠ some g := fun g h1 h2 => by have := OW0.out.lt g h1; have := hfH0 g h2; omega
  have HNW0_H0 := Lib.hid NW0_H0
  clear NW0_H0
  have NG0_H0 : ∀ g, bG0 = some g → bH0 ≠ some g := fun g h1 h2 => by have := OG0.out.lt g h1; have := hfH0 g h2; omega
  have HNG0_H0 := Lib.hid NG0_H0
  clear NG0_H0
  have Nzst_H0 : ∀ g, bzst = some g → bH0 ≠ some g := fun g h1 h2 => by have := Ozst.out.lt g h1; have := hfH0 g h2; omega
  have HNzst_H0 := Lib.hid Nzst_H0
  clear Nzst_H0
  have Nzxs_H0 : ∀ g, bzxs = some g → bH0 ≠ some g := fun g h1 h2 => by have := Ozxs.out.lt g h1; have := hfH0 g h2; omega
  have HNzxs_H0 := Lib.hid Nzxs_H0
  clear Nzxs_H0
  have FH0 := Lib.hid (From.up B18 hfH0)
  have OH0 := Lib.hid hoH0
  clear hfH0 hoH0
  have B19 := nxt B18 hb
  have OW0' := Lib.hid (OW0.out.mono hb)
  have OG0' := Lib.hid (OG0.out.mono hb)
  have Ozst' := Lib.hid (Ozst.out.mono hb)
  have Ozxs' := Lib.hid (Ozxs.out.mono hb)
  clear OW0
  have OW0 := OW0'
  clear OW0'
  clear OG0
  have OG0 := OG0'
  clear OG0'
  clear Ozst
  have Ozst := Ozst'
  clear Ozst'
  clear Ozxs
  have Ozxs := Ozxs'
  clear Ozxs'
  clear hb B18
  go_wp2_with fail
  refine (eqIntS_same _ _ (applyV st xs) _ OH0.out.ints OW0.out.ints).mono ?_
  rintro e w20 ⟨rfl, hb⟩
  have B20 := nxt B19 hb
  have OW0' := Lib.hid (OW0.out.mono hb)
  have OG0' := Lib.hid (OG0.out.mono hb)
  have Ozst' := Lib.hid (Ozst.out.mono hb)
  have Ozxs' := Lib.hid (Ozxs.out.mono hb)
  have OH0' := Lib.hid (OH0.out.mono hb)
  clear OW0
  have OW0 := OW0'
  clear OW0'
  clear OG0
  have OG0 := OG0'
  clear OG0'
  clear Ozst
  have Ozst := Ozst'
  clear Ozst'
  clear Ozxs
  have Ozxs := Ozxs'
  clear Ozxs'
  clear OH0
  have OH0 := OH0'
  clear OH0'
  clear hb B19
  go_wp2_with fail
  refine (heldIntS_any _ (applyV st xs).length (1) _ OG0.out.ints (by omega) (by rw [hn0]; omega)).mono ?_
  rintro e w21 ⟨rfl, hb⟩
  have B21 := nxt B20 hb
  have OW0' := Lib.hid (OW0.out.mono hb)
  have OG0' := Lib.hid (OG0.out.mono hb)
  have Ozst' := Lib.hid (Ozst.out.mono hb)
  have Ozxs' := Lib.hid (Ozxs.out.mono hb)
  have OH0' := Lib.hid (OH0.out.mono hb)
  clear OW0
  have OW0 := OW0'
  clear OW0'
  clear OG0
  have OG0 := OG0'
  clear OG0'
  clear Ozst
  have Ozst := Ozst'
  clear Ozst'
  clear Ozxs
  have Ozxs := Ozxs'
  clear Ozxs'
  clear OH0
  have OH0 := OH0'
  clear OH0'
  clear hb B20
  go_wp2
  go_ret
  exact ⟨rfl, B21.out⟩
end Go.Proofs.Ytnmkficfbnnakaa
