/- the walk of FnExactCompactWays -/
import Derived.Test.YtkekacnnjmbelaaComp
import Derived.Test.YtkekacnnjmbelaaInts
import Derived.Test.YtkekacnnjmbelaaMem
namespace Go.Proofs.Ytkekacnnjmbelaa
open Go.RowKit
set_option maxHeartbeats 1000000 in
theorem walk_FnExactCompactWays (w : World) (vst : Value) (st : List Bool) (hst : Bools w vst st) :
    Calls Try.prog 4 #[vst] w fun e w' => e = .returned (.bool true) ∧ Below w.heap.size w w' := by
  have Hst := Lib.hid hst
  obtain ⟨adst, cst, hvst, hmst, _⟩ := hst.open
  subst hvst
  unfold maxLen at hmst
  clear hst
  by_cases hbst : 1048576 < st.length
  · go_enter Try.func4, Try.ntmps4
    go_wp2
    go_ret
    exact ⟨rfl, Below.refl _ _⟩
  have B0 := Lib.hid (Below.refl w.heap.size w)
  go_enter Try.func4, Try.ntmps4
  have hz0 := waysV_le st
  obtain ⟨n0, hn0⟩ : ∃ n, (waysV st).length = n := ⟨_, rfl⟩
  rw [hn0] at hz0
  have hkb1 : decide ((1 + (st.length : Int) : Int) < 0) = false := by simp; omega
  have hmb1 : decide ((1 + (n0 : Int) : Int) < 0) = false := by simp; omega
  go_wp2_with fail
  refine (toBoolS_own _ st _ (Hst.out.mono B0.out (Nat.le_refl _)) (by omega)).mono ?_
  rintro e w1 ⟨vsst, bsst, rfl, hosst, hfsst, hb⟩
  have Fsst := Lib.hid (From.up B0 hfsst)
  have Osst := Lib.hid hosst
  clear hfsst hosst
  have B1 := nxt B0 hb
  clear hb B0
  go_wp2_with fail
  refine (spec_CompactWays_own _ st _ Osst.out.bools (by omega)).mono ?_
  rintro e w2 ⟨vW0, bW0, rfl, hoW0, hfW0, hb⟩
  have Nsst_W0 : ∀ g, bsst = some g → bW0 ≠ some g := fun g h1 h2 => by have := Osst.out.lt g h1; have := hfW0 g h2; omega
  have HNsst_W0 := Lib.hid Nsst_W0
  clear Nsst_W0
  have FW0 := Lib.hid (From.up B1 hfW0)
  have OW0 := Lib.hid hoW0
  clear hfW0 hoW0
  have B2 := nxt B1 hb
  have Osst' := Lib.hid (Osst.out.mono hb)
  clear Osst
  have Osst := Osst'
  clear Osst'
  clear hb B1
  clear Osst Fsst
  clear HNsst_W0
  go_wp2_with fail
  refine (toBoolS_own _ st _ (Hst.out.mono B2.out (Nat.le_refl _)) (by omega)).mono ?_
  rintro e w3 ⟨vxst, bxst, rfl, hoxst, hfxst, hb⟩
  have NW0_xst : ∀ g, bW0 = some g → bxst ≠ some g := fun g h1 h2 => by have := OW0.out.lt g h1; have := hfxst g h2; omega
  have HNW0_xst := Lib.hid NW0_xst
  clear NW0_xst
  have Fxst := Lib.hid (From.up B2 hfxst)
  have Oxst := Lib.hid hoxst
  clear hfxst hoxst
  have B3 := nxt B2 hb
  have OW0' := Lib.hid (OW0.out.mono hb)
  clear OW0
  have OW0 := OW0'
  clear OW0'
  clear hb B2
  go_wp2_with fail
  refine (impl_CompactWays_own _ st _ Oxst.out.bools (by omega)).mono ?_
  rintro e w4 ⟨vG0, bG0, rfl, hoG0, hfG0, hb⟩
  have NW0_G0 : ∀ g, bW0 = some g → bG0 ≠ some g := fun g h1 h2 => by have := OW0.out.lt g h1; have := hfG0 g h2; omega
  have HNW0_G0 := Lib.hid NW0_G0
  clear NW0_G0
  have Nxst_G0 : ∀ g, bxst = some g → bG0 ≠ some g := fun g h1 h2 => by have := Oxst.out.lt g h1; have := hfG0 g h2; omega
  have HNxst_G0 := Lib.hid Nxst_G0
  clear Nxst_G0
  have FG0 := Lib.hid (From.up B3 hfG0)
  have OG0 := Lib.hid hoG0
  clear hfG0 hoG0
  have B4 := nxt B3 hb
  have OW0' := Lib.hid (OW0.out.mono hb)
  have Oxst' := Lib.hid (Oxst.out.mono hb)
  clear OW0
  have OW0 := OW0'
  clear OW0'
  clear Oxst
  have Oxst := Oxst'
  clear Oxst'
  clear hb B3
  go_wp2_with fail
  refine (eqIntS_same _ _ (waysV st) _ OG0.out.ints OW0.out.ints).mono ?_
  rintro e w5 ⟨rfl, hb⟩
  have B5 := nxt B4 hb
  have OW0' := Lib.hid (OW0.out.mono hb)
  have Oxst' := Lib.hid (Oxst.out.mono hb)
  have OG0' := Lib.hid (OG0.out.mono hb)
  clear OW0
  have OW0 := OW0'
  clear OW0'
  clear Oxst
  have Oxst := Oxst'
  clear Oxst'
  clear OG0
  have OG0 := OG0'
  clear OG0'
  clear hb B4
  go_wp2_with fail
  refine (toBoolS_own _ st _ (Hst.out.mono B5.out (Nat.le_refl _)) (by omega)).mono ?_
  rintro e w6 ⟨vyst, byst, rfl, hoyst, hfyst, hb⟩
  have NW0_yst : ∀ g, bW0 = some g → byst ≠ some g := fun g h1 h2 => by have := OW0.out.lt g h1; have := hfyst g h2; omega
  have HNW0_yst := Lib.hid NW0_yst
  clear NW0_yst
  have Nxst_yst : ∀ g, bxst = some g → byst ≠ some g := fun g h1 h2 => by have := Oxst.out.lt g h1; have := hfyst g h2; omega
  have HNxst_yst := Lib.hid Nxst_yst
  clear Nxst_yst
  have NG0_yst : ∀ g, bG0 = some g → byst ≠ some g := fun g h1 h2 => by have := OG0.out.lt g h1; have := hfyst g h2; omega
  have HNG0_yst := Lib.hid NG0_yst
  clear NG0_yst
  have Fyst := Lib.hid (From.up B5 hfyst)
  have Oyst := Lib.hid hoyst
  clear hfyst hoyst
  have B6 := nxt B5 hb
  have OW0' := Lib.hid (OW0.out.mono hb)
  have Oxst' := Lib.hid (Oxst.out.mono hb)
  have OG0' := Lib.hid (OG0.out.mono hb)
  clear OW0
  have OW0 := OW0'
  clear OW0'
  clear Oxst
  have Oxst := Oxst'
  clear Oxst'
  clear OG0
  have OG0 := OG0'
  clear OG0'
  clear hb B5
  go_wp2_with fail
  refine (eqBoolS_same _ _ (st) _ Oxst.out.bools Oyst.out.bools).mono ?_
  rintro e w7 ⟨rfl, hb⟩
  have B7 := nxt B6 hb
  have OW0' := Lib.hid (OW0.out.mono hb)
  have Oxst' := Lib.hid (Oxst.out.mono hb)
  have OG0' := Lib.hid (OG0.out.mono hb)
  have Oyst' := Lib.hid (Oyst.out.mono hb)
  clear OW0
  have OW0 := OW0'
  clear OW0'
  clear Oxst
  have Oxst := Oxst'
  clear Oxst'
  clear OG0
  have OG0 := OG0'
  clear OG0'
  clear Oyst
  have Oyst := Oyst'
  clear Oyst'
  clear hb B6
  clear Oyst Fyst
  clear HNxst_yst
  clear HNW0_yst
  clear HNG0_yst
  go_wp2_with fail
  refine (markBoolS_any _ _ (st) (1) _ Oxst.out (by omega) (by omega)).mono ?_
  rintro e w8 ⟨rfl, hoxst, hg⟩
  have B8 := nxtG B7 hg Fxst.out
  have OW0' := Lib.hid (OW0.out.grown hg HNW0_xst.out)
  have OG0' := Lib.hid (OG0.out.grown hg (fun g h1 h2 => HNxst_G0.out g h2 h1))
  clear OW0
  have OW0 := OW0'
  clear OW0'
  clear OG0
  have OG0 := OG0'
  clear OG0'
  clear Oxst
  have Oxst := Lib.hid hoxst
  clear hoxst hg B7
  go_wp2_with fail
  refine (eqIntS_same _ _ (waysV st) _ OG0.out.ints OW0.out.ints).mono ?_
  rintro e w9 ⟨rfl, hb⟩
  have B9 := nxt B8 hb
  have OW0' := Lib.hid (OW0.out.mono hb)
  have Oxst' := Lib.hid (Oxst.out.mono hb)
  have OG0' := Lib.hid (OG0.out.mono hb)
  clear OW0
  have OW0 := OW0'
  clear OW0'
  clear Oxst
  have Oxst := Oxst'
  clear Oxst'
  clear OG0
  have OG0 := OG0'
  clear OG0'
  clear hb B8
  go_wp2_with fail
  refine (markIntS_any _ _ (waysV st) (1) _ OG0.out (by omega) (by rw [hn0]; omega)).mono ?_
  rintro e w10 ⟨rfl, hoG0, hg⟩
  have B10 := nxtG B9 hg FG0.out
  have OW0' := Lib.hid (OW0.out.grown hg HNW0_G0.out)
  have Oxst' := Lib.hid (Oxst.out.grown hg HNxst_G0.out)
  clear OW0
  have OW0 := OW0'
  clear OW0'
  clear Oxst
  have Oxst := Oxst'
  clear Oxst'
  clear OG0
  have OG0 := Lib.hid hoG0
  clear hoG0 hg B9
  go_wp2_with fail
  refine (heldIntS_any _ (waysV st).length (1) _ OG0.out.ints (by omega) (by rw [hn0]; omega)).mono ?_
  rintro e w11 ⟨rfl, hb⟩
  have B11 := nxt B10 hb
  have OW0' := Lib.hid (OW0.out.mono hb)
  have Oxst' := Lib.hid (Oxst.out.mono hb)
  have OG0' := Lib.hid (OG0.out.mono hb)
  clear OW0
  have OW0 := OW0'
  clear OW0'
  clear Oxst
  have Oxst := Oxst'
  clear Oxst'
  clear OG0
  have OG0 := OG0'
  clear OG0'
  clear hb B10
  clear Oxst Fxst
  clear HNW0_xst
  clear HNxst_G0
  go_wp2_with fail
  refine (toBoolS_own _ st _ (Hst.out.mono B11.out (Nat.le_refl _)) (by omega)).mono ?_
  rintro e w12 ⟨vzst, bzst, rfl, hozst, hfzst, hb⟩
  have NW0_zst : ∀ g, bW0 = some g → bzst ≠ some g := fun g h1 h2 => by have := OW0.out.lt g h1; have := hfzst g h2; omega
  have HNW0_zst := Lib.hid NW0_zst
  clear NW0_zst
  have NG0_zst : ∀ g, bG0 = some g → bzst ≠ some g := fun g h1 h2 => by have := OG0.out.lt g h1; have := hfzst g h2; omega
  have HNG0_zst := Lib.hid NG0_zst
  clear NG0_zst
  have Fzst := Lib.hid (From.up B11 hfzst)
  have Ozst := Lib.hid hozst
  clear hfzst hozst
  have B12 := nxt B11 hb
  have OW0' := Lib.hid (OW0.out.mono hb)
  have OG0' := Lib.hid (OG0.out.mono hb)
  clear OW0
  have OW0 := OW0'
  clear OW0'
  clear OG0
  have OG0 := OG0'
  clear OG0'
  clear hb B11
  go_wp2_with fail
  refine (impl_CompactWays_own _ st _ Ozst.out.bools (by omega)).mono ?_
  rintro e w13 ⟨vH0, bH0, rfl, hoH0, hfH0, hb⟩
  have NW0_H0 : ∀ g, bW0 = some g → bH0 ≠ some g := fun g h1 h2 => by have := OW0.out.lt g h1; have := hfH0 g h2; omega
  have HNW0_H0 := Lib.hid NW0_H0
  clear NW0_H0
  have NG0_H0 : ∀ g, bG0 = some g → bH0 ≠ some g := fun g h1 h2 => by have := OG0.out.lt g h1; have := hfH0 g h2; omega
  have HNG0_H0 := Lib.hid NG0_H0
  clear NG0_H0
  have Nzst_H0 : ∀ g, bzst = some g → bH0 ≠ some g := fun g h1 h2 => by have := Ozst.out.lt g h1; have := hfH0 g h2; omega
  have HNzst_H0 := Lib.hid Nzst_H0
  clear Nzst_H0
  have FH0 := Lib.hid (From.up B12 hfH0)
  have OH0 := Lib.hid hoH0
  clear hfH0 hoH0
  have B13 := nxt B12 hb
  have OW0' := Lib.hid (OW0.out.mono hb)
  have OG0' := Lib.hid (OG0.out.mono hb)
  have Ozst' := Lib.hid (Ozst.out.mono hb)
  clear OW0
  have OW0 := OW0'
  clear OW0'
  clear OG0
  have OG0 := OG0'
  clear OG0'
  clear Ozst
  have Ozst := Ozst'
  clear Ozst'
  clear hb B12
  go_wp2_with fail
  refine (eqIntS_same _ _ (waysV st) _ OH0.out.ints OW0.out.ints).mono ?_
  rintro e w14 ⟨rfl, hb⟩
  have B14 := nxt B13 hb
  have OW0' := Lib.hid (OW0.out.mono hb)
  have OG0' := Lib.hid (OG0.out.mono hb)
  have Ozst' := Lib.hid (Ozst.out.mono hb)
  have OH0' := Lib.hid (OH0.out.mono hb)
  clear OW0
  have OW0 := OW0'
  clear OW0'
  clear OG0
  have OG0 := OG0'
  clear OG0'
  clear Ozst
  have Ozst := Ozst'
  clear Ozst'
  clear OH0
  have OH0 := OH0'
  clear OH0'
  clear hb B13
  go_wp2_with fail
  refine (heldIntS_any _ (waysV st).length (1) _ OG0.out.ints (by omega) (by rw [hn0]; omega)).mono ?_
  rintro e w15 ⟨rfl, hb⟩
  have B15 := nxt B14 hb
  have OW0' := Lib.hid (OW0.out.mono hb)
  have OG0' := Lib.hid (OG0.out.mono hb)
  have Ozst' := Lib.hid (Ozst.out.mono hb)
  have OH0' := Lib.hid (OH0.out.mono hb)
  clear OW0
  have OW0 := OW0'
  clear OW0'
  clear OG0
  have OG0 := OG0'
  clear OG0'
  clear Ozst
  have Ozst := Ozst'
  clear Ozst'
  clear OH0
  have OH0 := OH0'
  clear OH0'
  clear hb B14
  go_wp2
  go_ret
  exact ⟨rfl, B15.out⟩
end Go.Proofs.Ytkekacnnjmbelaa
