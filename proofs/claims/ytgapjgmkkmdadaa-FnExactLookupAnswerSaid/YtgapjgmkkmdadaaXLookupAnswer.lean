/- the walk of FnExactLookupAnswer -/
import Derived.Test.YtgapjgmkkmdadaaLook
import Derived.Test.YtgapjgmkkmdadaaInts
import Derived.Test.YtgapjgmkkmdadaaMem
namespace Go.Proofs.Ytgapjgmkkmdadaa
open Go.RowKit
set_option maxHeartbeats 1000000 in
theorem walk_FnExactLookupAnswer (w : World) (vxs : Value) (xs : List Int) (hxs : Ints w vxs xs) (fxs : FitL xs) (vst : Value) (st : List Bool) (hst : Bools w vst st) :
    Calls Try.prog 6 #[vxs, vst] w fun e w' => e = .returned (.bool true) ∧ Below w.heap.size w w' := by
  have Hxs := Lib.hid hxs
  obtain ⟨adxs, cxs, hvxs, hmxs, _⟩ := hxs.open
  subst hvxs
  unfold maxLen at hmxs
  clear hxs fxs
  have Hst := Lib.hid hst
  obtain ⟨adst, cst, hvst, hmst, _⟩ := hst.open
  subst hvst
  unfold maxLen at hmst
  clear hst
  by_cases hbxs : 1048576 < xs.length
  · go_enter Try.func6, Try.ntmps6
    go_wp2
    go_ret
    exact ⟨rfl, Below.refl _ _⟩
  by_cases hbst : 1048576 < st.length
  · go_enter Try.func6, Try.ntmps6
    go_wp2
    go_ret
    exact ⟨rfl, Below.refl _ _⟩
  have B0 := Lib.hid (Below.refl w.heap.size w)
  go_enter Try.func6, Try.ntmps6
  have hs0 : ((ansV xs st) != (ansV xs st)) = false := by simp
  go_wp2_with fail
  refine (toIntS_own _ xs _ (Hxs.out.mono B0.out (Nat.le_refl _)) (by omega)).mono ?_
  rintro e w1 ⟨vsxs, bsxs, rfl, hosxs, hfsxs, hb⟩
  have Fsxs := Lib.hid (From.up B0 hfsxs)
  have Osxs := Lib.hid hosxs
  clear hfsxs hosxs
  have B1 := nxt B0 hb
  clear hb B0
  go_wp2_with fail
  refine (toBoolS_own _ st _ (Hst.out.mono B1.out (Nat.le_refl _)) (by omega)).mono ?_
  rintro e w2 ⟨vsst, bsst, rfl, hosst, hfsst, hb⟩
  have Nsxs_sst : ∀ g, bsxs = some g → bsst ≠ some g := fun g h1 h2 => by have := Osxs.out.lt g h1; have := hfsst g h2; omega
  have HNsxs_sst := Lib.hid Nsxs_sst
  clear Nsxs_sst
  have Fsst := Lib.hid (From.up B1 hfsst)
  have Osst := Lib.hid hosst
  clear hfsst hosst
  have B2 := nxt B1 hb
  have Osxs' := Lib.hid (Osxs.out.mono hb)
  clear Osxs
  have Osxs := Osxs'
  clear Osxs'
  clear hb B1
  go_wp2_with fail
  refine (spec_LookupAnswer_own _ xs _ st _ Osxs.out.ints Osst.out.bools (by omega) (by omega)).mono ?_
  rintro e w3 ⟨rfl, hb⟩
  have B3 := nxt B2 hb
  have Osxs' := Lib.hid (Osxs.out.mono hb)
  have Osst' := Lib.hid (Osst.out.mono hb)
  clear Osxs
  have Osxs := Osxs'
  clear Osxs'
  clear Osst
  have Osst := Osst'
  clear Osst'
  clear hb B2
  clear Osxs Fsxs
  clear HNsxs_sst
  clear Osst Fsst
  go_wp2_with fail
  refine (toIntS_own _ xs _ (Hxs.out.mono B3.out (Nat.le_refl _)) (by omega)).mono ?_
  rintro e w4 ⟨vxxs, bxxs, rfl, hoxxs, hfxxs, hb⟩
  have Fxxs := Lib.hid (From.up B3 hfxxs)
  have Oxxs := Lib.hid hoxxs
  clear hfxxs hoxxs
  have B4 := nxt B3 hb
  clear hb B3
  go_wp2_with fail
  refine (toBoolS_own _ st _ (Hst.out.mono B4.out (Nat.le_refl _)) (by omega)).mono ?_
  rintro e w5 ⟨vxst, bxst, rfl, hoxst, hfxst, hb⟩
  have Nxxs_xst : ∀ g, bxxs = some g → bxst ≠ some g := fun g h1 h2 => by have := Oxxs.out.lt g h1; have := hfxst g h2; omega
  have HNxxs_xst := Lib.hid Nxxs_xst
  clear Nxxs_xst
  have Fxst := Lib.hid (From.up B4 hfxst)
  have Oxst := Lib.hid hoxst
  clear hfxst hoxst
  have B5 := nxt B4 hb
  have Oxxs' := Lib.hid (Oxxs.out.mono hb)
  clear Oxxs
  have Oxxs := Oxxs'
  clear Oxxs'
  clear hb B4
  go_wp2_with fail
  refine (impl_LookupAnswer_own _ xs _ st _ Oxxs.out.ints Oxst.out.bools (by omega) (by omega)).mono ?_
  rintro e w6 ⟨rfl, hb⟩
  have B6 := nxt B5 hb
  have Oxxs' := Lib.hid (Oxxs.out.mono hb)
  have Oxst' := Lib.hid (Oxst.out.mono hb)
  clear Oxxs
  have Oxxs := Oxxs'
  clear Oxxs'
  clear Oxst
  have Oxst := Oxst'
  clear Oxst'
  clear hb B5
  go_wp2_with fail
  refine (toIntS_own _ xs _ (Hxs.out.mono B6.out (Nat.le_refl _)) (by omega)).mono ?_
  rintro e w7 ⟨vyxs, byxs, rfl, hoyxs, hfyxs, hb⟩
  have Nxxs_yxs : ∀ g, bxxs = some g → byxs ≠ some g := fun g h1 h2 => by have := Oxxs.out.lt g h1; have := hfyxs g h2; omega
  have HNxxs_yxs := Lib.hid Nxxs_yxs
  clear Nxxs_yxs
  have Nxst_yxs : ∀ g, bxst = some g → byxs ≠ some g := fun g h1 h2 => by have := Oxst.out.lt g h1; have := hfyxs g h2; omega
  have HNxst_yxs := Lib.hid Nxst_yxs
  clear Nxst_yxs
  have Fyxs := Lib.hid (From.up B6 hfyxs)
  have Oyxs := Lib.hid hoyxs
  clear hfyxs hoyxs
  have B7 := nxt B6 hb
  have Oxxs' := Lib.hid (Oxxs.out.mono hb)
  have Oxst' := Lib.hid (Oxst.out.mono hb)
  clear Oxxs
  have Oxxs := Oxxs'
  clear Oxxs'
  clear Oxst
  have Oxst := Oxst'
  clear Oxst'
  clear hb B6
  go_wp2_with fail
  refine (eqIntS_same _ _ (xs) _ Oxxs.out.ints Oyxs.out.ints).mono ?_
  rintro e w8 ⟨rfl, hb⟩
  have B8 := nxt B7 hb
  have Oxxs' := Lib.hid (Oxxs.out.mono hb)
  have Oxst' := Lib.hid (Oxst.out.mono hb)
  have Oyxs' := Lib.hid (Oyxs.out.mono hb)
  clear Oxxs
  have Oxxs := Oxxs'
  clear Oxxs'
  clear Oxst
  have Oxst := Oxst'
  clear Oxst'
  clear Oyxs
  have Oyxs := Oyxs'
  clear Oyxs'
  clear hb B7
  clear Oyxs Fyxs
  clear HNxst_yxs
  clear HNxxs_yxs
  go_wp2_with fail
  refine (toBoolS_own _ st _ (Hst.out.mono B8.out (Nat.le_refl _)) (by omega)).mono ?_
  rintro e w9 ⟨vyst, byst, rfl, hoyst, hfyst, hb⟩
  have Nxxs_yst : ∀ g, bxxs = some g → byst ≠ some g := fun g h1 h2 => by have := Oxxs.out.lt g h1; have := hfyst g h2; omega
  have HNxxs_yst := Lib.hid Nxxs_yst
  clear Nxxs_yst
  have Nxst_yst : ∀ g, bxst = some g → byst ≠ some g := fun g h1 h2 => by have := Oxst.out.lt g h1; have := hfyst g h2; omega
  have HNxst_yst := Lib.hid Nxst_yst
  clear Nxst_yst
  have Fyst := Lib.hid (From.up B8 hfyst)
  have Oyst := Lib.hid hoyst
  clear hfyst hoyst
  have B9 := nxt B8 hb
  have Oxxs' := Lib.hid (Oxxs.out.mono hb)
  have Oxst' := Lib.hid (Oxst.out.mono hb)
  clear Oxxs
  have Oxxs := Oxxs'
  clear Oxxs'
  clear Oxst
  have Oxst := Oxst'
  clear Oxst'
  clear hb B8
  go_wp2_with fail
  refine (eqBoolS_same _ _ (st) _ Oxst.out.bools Oyst.out.bools).mono ?_
  rintro e w10 ⟨rfl, hb⟩
  have B10 := nxt B9 hb
  have Oxxs' := Lib.hid (Oxxs.out.mono hb)
  have Oxst' := Lib.hid (Oxst.out.mono hb)
  have Oyst' := Lib.hid (Oyst.out.mono hb)
  clear Oxxs
  have Oxxs := Oxxs'
  clear Oxxs'
  clear Oxst
  have Oxst := Oxst'
  clear Oxst'
  clear Oyst
  have Oyst := Oyst'
  clear Oyst'
  clear hb B9
  clear Oyst Fyst
  clear HNxxs_yst
  clear HNxst_yst
  go_wp2
  go_ret
  exact ⟨rfl, B10.out⟩
end Go.Proofs.Ytgapjgmkkmdadaa
