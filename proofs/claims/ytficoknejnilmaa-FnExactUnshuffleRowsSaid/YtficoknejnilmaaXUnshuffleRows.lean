/- the walk of FnExactUnshuffleRows -/
import Derived.Test.YtficoknejnilmaaUnsh
import Derived.Test.YtficoknejnilmaaInts
import Derived.Test.YtficoknejnilmaaMem
namespace Go.Proofs.Ytficoknejnilmaa
open Go.RowKit
set_option maxHeartbeats 1000000 in
theorem walk_FnExactUnshuffleRows (w : World) (vxs : Value) (xs : List Int) (hxs : Ints w vxs xs) (fxs : FitL xs) (vys : Value) (ys : List Int) (hys : Ints w vys ys) (fys : FitL ys) :
    Calls Try.prog 5 #[vxs, vys] w fun e w' => e = .returned (.bool true) ∧ Below w.heap.size w w' := by
  have Hxs := Lib.hid hxs
  obtain ⟨adxs, cxs, hvxs, hmxs, _⟩ := hxs.open
  subst hvxs
  unfold maxLen at hmxs
  clear hxs fxs
  have Hys := Lib.hid hys
  obtain ⟨adys, cys, hvys, hmys, _⟩ := hys.open
  subst hvys
  unfold maxLen at hmys
  clear hys fys
  by_cases hbxs : 1048576 < xs.length
  · go_enter Try.func5, Try.ntmps5
    go_wp2
    go_ret
    exact ⟨rfl, Below.refl _ _⟩
  by_cases hbys : 1048576 < ys.length
  · go_enter Try.func5, Try.ntmps5
    go_wp2
    go_ret
    exact ⟨rfl, Below.refl _ _⟩
  have B0 := Lib.hid (Below.refl w.heap.size w)
  go_enter Try.func5, Try.ntmps5
  have hs1 : ((shufOk xs ys) != (shufOk xs ys)) = false := by simp
  have hz0 := unshV_le xs ys
  obtain ⟨n0, hn0⟩ : ∃ n, (unshV xs ys).length = n := ⟨_, rfl⟩
  rw [hn0] at hz0
  have hkb1 : decide ((1 + (xs.length : Int) : Int) < 0) = false := by simp; omega
  have hkb2 : decide ((1 + (xs.length : Int) + (ys.length : Int) : Int) < 0) = false := by simp; omega
  have hmb1 : decide ((1 + (n0 : Int) : Int) < 0) = false := by simp; omega
  go_wp2_with fail
  refine (toIntS_own _ xs _ (Hxs.out.mono B0.out (Nat.le_refl _)) (by omega)).mono ?_
  rintro e w1 ⟨vsxs, bsxs, rfl, hosxs, hfsxs, hb⟩
  have Fsxs := Lib.hid (From.up B0 hfsxs)
  have Osxs := Lib.hid hosxs
  clear hfsxs hosxs
  have B1 := nxt B0 hb
  clear hb B0
  go_wp2_with fail
  refine (toIntS_own _ ys _ (Hys.out.mono B1.out (Nat.le_refl _)) (by omega)).mono ?_
  rintro e w2 ⟨vsys, bsys, rfl, hosys, hfsys, hb⟩
  have Nsxs_sys : ∀ g, bsxs = some g → bsys ≠ some g := fun g h1 h2 => by have := Osxs.out.lt g h1; have := hfsys g h2; omega
  have HNsxs_sys := Lib.hid Nsxs_sys
  clear Nsxs_sys
  have Fsys := Lib.hid (From.up B1 hfsys)
  have Osys := Lib.hid hosys
  clear hfsys hosys
  have B2 := nxt B1 hb
  have Osxs' := Lib.hid (Osxs.out.mono hb)
  clear Osxs
  have Osxs := Osxs'
  clear Osxs'
  clear hb B1
  go_wp2_with fail
  refine (spec_UnshuffleRows_own _ xs _ ys _ Osxs.out.ints Osys.out.ints (by omega) (by omega)).mono ?_
  rintro e w3 ⟨vW0, bW0, rfl, hoW0, hfW0, hb⟩
  have Nsxs_W0 : ∀ g, bsxs = some g → bW0 ≠ some g := fun g h1 h2 => by have := Osxs.out.lt g h1; have := hfW0 g h2; omega
  have HNsxs_W0 := Lib.hid Nsxs_W0
  clear Nsxs_W0
  have Nsys_W0 : ∀ g, bsys = some g → bW0 ≠ some g := fun g h1 h2 => by have := Osys.out.lt g h1; have := hfW0 g h2; omega
  have HNsys_W0 := Lib.hid Nsys_W0
  clear Nsys_W0
  have FW0 := Lib.hid (From.up B2 hfW0)
  have OW0 := Lib.hid hoW0
  clear hfW0 hoW0
  have B3 := nxt B2 hb
  have Osxs' := Lib.hid (Osxs.out.mono hb)
  have Osys' := Lib.hid (Osys.out.mono hb)
  clear Osxs
  have Osxs := Osxs'
  clear Osxs'
  clear Osys
  have Osys := Osys'
  clear Osys'
  clear hb B2
  clear Osxs Fsxs
  clear HNsxs_sys
  clear HNsxs_W0
  clear Osys Fsys
  clear HNsys_W0
  go_wp2_with fail
  refine (toIntS_own _ xs _ (Hxs.out.mono B3.out (Nat.le_refl _)) (by omega)).mono ?_
  rintro e w4 ⟨vxxs, bxxs, rfl, hoxxs, hfxxs, hb⟩
  have NW0_xxs : ∀ g, bW0 = some g → bxxs ≠ some g := fun g h1 h2 => by have := OW0.out.lt g h1; have := hfxxs g h2; omega
  have HNW0_xxs := Lib.hid NW0_xxs
  clear NW0_xxs
  have Fxxs := Lib.hid (From.up B3 hfxxs)
  have Oxxs := Lib.hid hoxxs
  clear hfxxs hoxxs
  have B4 := nxt B3 hb
  have OW0' := Lib.hid (OW0.out.mono hb)
  clear OW0
  have OW0 := OW0'
  clear OW0'
  clear hb B3
  go_wp2_with fail
  refine (toIntS_own _ ys _ (Hys.out.mono B4.out (Nat.le_refl _)) (by omega)).mono ?_
  rintro e w5 ⟨vxys, bxys, rfl, hoxys, hfxys, hb⟩
  have NW0_xys : ∀ g, bW0 = some g → bxys ≠ some g := fun g h1 h2 => by have := OW0.out.lt g h1; have := hfxys g h2; omega
  have HNW0_xys := Lib.hid NW0_xys
  clear NW0_xys
  have Nxxs_xys : ∀ g, bxxs = some g → bxys ≠ some g := fun g h1 h2 => by have := Oxxs.out.lt g h1; have := hfxys g h2; omega
  have HNxxs_xys := Lib.hid Nxxs_xys
  clear Nxxs_xys
  have Fxys := Lib.hid (From.up B4 hfxys)
  have Oxys := Lib.hid hoxys
  clear hfxys hoxys
  have B5 := nxt B4 hb
  have OW0' := Lib.hid (OW0.out.mono hb)
  have Oxxs' := Lib.hid (Oxxs.out.mono hb)
  clear OW0
  have OW0 := OW0'
  clear OW0'
  clear Oxxs
  have Oxxs := Oxxs'
  clear Oxxs'
  clear hb B4
  go_wp2_with fail
  refine (impl_UnshuffleRows_own _ xs _ ys _ Oxxs.out.ints Oxys.out.ints (by omega) (by omega)).mono ?_
  rintro e w6 ⟨vG0, bG0, rfl, hoG0, hfG0, hb⟩
  have NW0_G0 : ∀ g, bW0 = some g → bG0 ≠ some g := fun g h1 h2 => by have := OW0.out.lt g h1; have := hfG0 g h2; omega
  have HNW0_G0 := Lib.hid NW0_G0
  clear NW0_G0
  have Nxxs_G0 : ∀ g, bxxs = some g → bG0 ≠ some g := fun g h1 h2 => by have := Oxxs.out.lt g h1; have := hfG0 g h2; omega
  have HNxxs_G0 := Lib.hid Nxxs_G0
  clear Nxxs_G0
  have Nxys_G0 : ∀ g, bxys = some g → bG0 ≠ some g := fun g h1 h2 => by have := Oxys.out.lt g h1; have := hfG0 g h2; omega
  have HNxys_G0 := Lib.hid Nxys_G0
  clear Nxys_G0
  have FG0 := Lib.hid (From.up B5 hfG0)
  have OG0 := Lib.hid hoG0
  clear hfG0 hoG0
  have B6 := nxt B5 hb
  have OW0' := Lib.hid (OW0.out.mono hb)
  have Oxxs' := Lib.hid (Oxxs.out.mono hb)
  have Oxys' := Lib.hid (Oxys.out.mono hb)
  clear OW0
  have OW0 := OW0'
  clear OW0'
  clear Oxxs
  have Oxxs := Oxxs'
  clear Oxxs'
  clear Oxys
  have Oxys := Oxys'
  clear Oxys'
  clear hb B5
  go_wp2_with fail
  refine (eqIntS_same _ _ (unshV xs ys) _ OG0.out.ints OW0.out.ints).mono ?_
  rintro e w7 ⟨rfl, hb⟩
  have B7 := nxt B6 hb
  have OW0' := Lib.hid (OW0.out.mono hb)
  have Oxxs' := Lib.hid (Oxxs.out.mono hb)
  have Oxys' := Lib.hid (Oxys.out.mono hb)
  have OG0' := Lib.hid (OG0.out.mono hb)
  clear OW0
  have OW0 := OW0'
  clear OW0'
  clear Oxxs
  have Oxxs := Oxxs'
  clear Oxxs'
  clear Oxys
  have Oxys := Oxys'
  clear Oxys'
  clear OG0
  have OG0 := OG0'
  clear OG0'
  clear hb B6
  go_wp2_with fail
  refine (toIntS_own _ xs _ (Hxs.out.mono B7.out (Nat.le_refl _)) (by omega)).mono ?_
  rintro e w8 ⟨vyxs, byxs, rfl, hoyxs, hfyxs, hb⟩
  have NW0_yxs : ∀ g, bW0 = some g → byxs ≠ some g := fun g h1 h2 => by have := OW0.out.lt g h1; have := hfyxs g h2; omega
  have HNW0_yxs := Lib.hid NW0_yxs
  clear NW0_yxs
  have Nxxs_yxs : ∀ g, bxxs = some g → byxs ≠ some g := fun g h1 h2 => by have := Oxxs.out.lt g h1; have := hfyxs g h2; omega
  have HNxxs_yxs := Lib.hid Nxxs_yxs
  clear Nxxs_yxs
  have Nxys_yxs : ∀ g, bxys = some g → byxs ≠ some g := fun g h1 h2 => by have := Oxys.out.lt g h1; have := hfyxs g h2; omega
  have HNxys_yxs := Lib.hid Nxys_yxs
  clear Nxys_yxs
  have NG0_yxs : ∀ g, bG0 = some g → byxs ≠ some g := fun g h1 h2 => by have := OG0.out.lt g h1; have := hfyxs g h2; omega
  have HNG0_yxs := Lib.hid NG0_yxs
  clear NG0_yxs
  have Fyxs := Lib.hid (From.up B7 hfyxs)
  have Oyxs := Lib.hid hoyxs
  clear hfyxs hoyxs
  have B8 := nxt B7 hb
  have OW0' := Lib.hid (OW0.out.mono hb)
  have Oxxs' := Lib.hid (Oxxs.out.mono hb)
  have Oxys' := Lib.hid (Oxys.out.mono hb)
  have OG0' := Lib.hid (OG0.out.mono hb)
  clear OW0
  have OW0 := OW0'
  clear OW0'
  clear Oxxs
  have Oxxs := Oxxs'
  clear Oxxs'
  clear Oxys
  have Oxys := Oxys'
  clear Oxys'
  clear OG0
  have OG0 := OG0'
  clear OG0'
  clear hb B7
  go_wp2_with fail
  refine (eqIntS_same _ _ (xs) _ Oxxs.out.ints Oyxs.out.ints).mono ?_
  rintro e w9 ⟨rfl, hb⟩
  have B9 := nxt B8 hb
  have OW0' := Lib.hid (OW0.out.mono hb)
  have Oxxs' := Lib.hid (Oxxs.out.mono hb)
  have Oxys' := Lib.hid (Oxys.out.mono hb)
  have OG0' := Lib.hid (OG0.out.mono hb)
  have Oyxs' := Lib.hid (Oyxs.out.mono hb)
  clear OW0
  have OW0 := OW0'
  clear OW0'
  clear Oxxs
  have Oxxs := Oxxs'
  clear Oxxs'
  clear Oxys
  have Oxys := Oxys'
  clear Oxys'
  clear OG0
  have OG0 := OG0'
  clear OG0'
  clear Oyxs
  have Oyxs := Oyxs'
  clear Oyxs'
  clear hb B8
  clear Oyxs Fyxs
  clear HNG0_yxs
  clear HNW0_yxs
  clear HNxxs_yxs
  clear HNxys_yxs
  go_wp2_with fail
  refine (toIntS_own _ ys _ (Hys.out.mono B9.out (Nat.le_refl _)) (by omega)).mono ?_
  rintro e w10 ⟨vyys, byys, rfl, hoyys, hfyys, hb⟩
  have NW0_yys : ∀ g, bW0 = some g → byys ≠ some g := fun g h1 h2 => by have := OW0.out.lt g h1; have := hfyys g h2; omega
  have HNW0_yys := Lib.hid NW0_yys
  clear NW0_yys
  have Nxxs_yys : ∀ g, bxxs = some g → byys ≠ some g := fun g h1 h2 => by have := Oxxs.out.lt g h1; have := hfyys g h2; omega
  have HNxxs_yys := Lib.hid Nxxs_yys
  clear Nxxs_yys
  have Nxys_yys : ∀ g, bxys = some g → byys ≠ some g := fun g h1 h2 => by have := Oxys.out.lt g h1; have := hfyys g h2; omega
  have HNxys_yys := Lib.hid Nxys_yys
  clear Nxys_yys
  have NG0_yys : ∀ g, bG0 = some g → byys ≠ some g := fun g h1 h2 => by have := OG0.out.lt g h1; have := hfyys g h2; omega
  have HNG0_yys := Lib.hid NG0_yys
  clear NG0_yys
  have Fyys := Lib.hid (From.up B9 hfyys)
  have Oyys := Lib.hid hoyys
  clear hfyys hoyys
  have B10 := nxt B9 hb
  have OW0' := Lib.hid (OW0.out.mono hb)
  have Oxxs' := Lib.hid (Oxxs.out.mono hb)
  have Oxys' := Lib.hid (Oxys.out.mono hb)
  have OG0' := Lib.hid (OG0.out.mono hb)
  clear OW0
  have OW0 := OW0'
  clear OW0'
  clear Oxxs
  have Oxxs := Oxxs'
  clear Oxxs'
  clear Oxys
  have Oxys := Oxys'
  clear Oxys'
  clear OG0
  have OG0 := OG0'
  clear OG0'
  clear hb B9
  go_wp2_with fail
  refine (eqIntS_same _ _ (ys) _ Oxys.out.ints Oyys.out.ints).mono ?_
  rintro e w11 ⟨rfl, hb⟩
  have B11 := nxt B10 hb
  have OW0' := Lib.hid (OW0.out.mono hb)
  have Oxxs' := Lib.hid (Oxxs.out.mono hb)
  have Oxys' := Lib.hid (Oxys.out.mono hb)
  have OG0' := Lib.hid (OG0.out.mono hb)
  have Oyys' := Lib.hid (Oyys.out.mono hb)
  clear OW0
  have OW0 := OW0'
  clear OW0'
  clear Oxxs
  have Oxxs := Oxxs'
  clear Oxxs'
  clear Oxys
  have Oxys := Oxys'
  clear Oxys'
  clear OG0
  have OG0 := OG0'
  clear OG0'
  clear Oyys
  have Oyys := Oyys'
  clear Oyys'
  clear hb B10
  clear Oyys Fyys
  clear HNW0_yys
  clear HNxxs_yys
  clear HNxys_yys
  clear HNG0_yys
  go_wp2_with fail
  refine (markIntS_any _ _ (xs) (1) _ Oxxs.out (by omega) (by omega)).mono ?_
  rintro e w12 ⟨rfl, hoxxs, hg⟩
  have B12 := nxtG B11 hg Fxxs.out
  have OW0' := Lib.hid (OW0.out.grown hg HNW0_xxs.out)
  have Oxys' := Lib.hid (Oxys.out.grown hg (fun g h1 h2 => HNxxs_xys.out g h2 h1))
  have OG0' := Lib.hid (OG0.out.grown hg (fun g h1 h2 => HNxxs_G0.out g h2 h1))
  clear OW0
  have OW0 := OW0'
  clear OW0'
  clear Oxys
  have Oxys := Oxys'
  clear Oxys'
  clear OG0
  have OG0 := OG0'
  clear OG0'
  clear Oxxs
  have Oxxs := Lib.hid hoxxs
  clear hoxxs hg B11
  go_wp2_with fail
  refine (markIntS_any _ _ (ys) (1 + (xs.length : Int)) _ Oxys.out (by omega) (by omega)).mono ?_
  rintro e w13 ⟨rfl, hoxys, hg⟩
  have B13 := nxtG B12 hg Fxys.out
  have OW0' := Lib.hid (OW0.out.grown hg HNW0_xys.out)
  have Oxxs' := Lib.hid (Oxxs.out.grown hg HNxxs_xys.out)
  have OG0' := Lib.hid (OG0.out.grown hg (fun g h1 h2 => HNxys_G0.out g h2 h1))
  clear OW0
  have OW0 := OW0'
  clear OW0'
  clear Oxxs
  have Oxxs := Oxxs'
  clear Oxxs'
  clear OG0
  have OG0 := OG0'
  clear OG0'
  clear Oxys
  have Oxys := Lib.hid hoxys
  clear hoxys hg B12
  go_wp2_with fail
  refine (eqIntS_same _ _ (unshV xs ys) _ OG0.out.ints OW0.out.ints).mono ?_
  rintro e w14 ⟨rfl, hb⟩
  have B14 := nxt B13 hb
  have OW0' := Lib.hid (OW0.out.mono hb)
  have Oxxs' := Lib.hid (Oxxs.out.mono hb)
  have Oxys' := Lib.hid (Oxys.out.mono hb)
  have OG0' := Lib.hid (OG0.out.mono hb)
  clear OW0
  have OW0 := OW0'
  clear OW0'
  clear Oxxs
  have Oxxs := Oxxs'
  clear Oxxs'
  clear Oxys
  have Oxys := Oxys'
  clear Oxys'
  clear OG0
  have OG0 := OG0'
  clear OG0'
  clear hb B13
  go_wp2_with fail
  refine (markIntS_any _ _ (unshV xs ys) (1) _ OG0.out (by omega) (by rw [hn0]; omega)).mono ?_
  rintro e w15 ⟨rfl, hoG0, hg⟩
  have B15 := nxtG B14 hg FG0.out
  have OW0' := Lib.hid (OW0.out.grown hg HNW0_G0.out)
  have Oxxs' := Lib.hid (Oxxs.out.grown hg HNxxs_G0.out)
  have Oxys' := Lib.hid (Oxys.out.grown hg HNxys_G0.out)
  clear OW0
  have OW0 := OW0'
  clear OW0'
  clear Oxxs
  have Oxxs := Oxxs'
  clear Oxxs'
  clear Oxys
  have Oxys := Oxys'
  clear Oxys'
  clear OG0
  have OG0 := Lib.hid hoG0
  clear hoG0 hg B14
  go_wp2_with fail
  refine (heldIntS_any _ (unshV xs ys).length (1) _ OG0.out.ints (by omega) (by rw [hn0]; omega)).mono ?_
  rintro e w16 ⟨rfl, hb⟩
  have B16 := nxt B15 hb
  have OW0' := Lib.hid (OW0.out.mono hb)
  have Oxxs' := Lib.hid (Oxxs.out.mono hb)
  have Oxys' := Lib.hid (Oxys.out.mono hb)
  have OG0' := Lib.hid (OG0.out.mono hb)
  clear OW0
  have OW0 := OW0'
  clear OW0'
  clear Oxxs
  have Oxxs := Oxxs'
  clear Oxxs'
  clear Oxys
  have Oxys := Oxys'
  clear Oxys'
  clear OG0
  have OG0 := OG0'
  clear OG0'
  clear hb B15
  clear Oxxs Fxxs
  clear HNW0_xxs
  clear HNxxs_xys
  clear HNxxs_G0
  clear Oxys Fxys
  clear HNW0_xys
  clear HNxys_G0
  go_wp2_with fail
  refine (toIntS_own _ xs _ (Hxs.out.mono B16.out (Nat.le_refl _)) (by omega)).mono ?_
  rintro e w17 ⟨vzxs, bzxs, rfl, hozxs, hfzxs, hb⟩
  have NW0_zxs : ∀ g, bW0 = some g → bzxs ≠ some g := fun g h1 h2 => by have := OW0.out.lt g h1; have := hfzxs g h2; omega
  have HNW0_zxs := Lib.hid NW0_zxs
  clear NW0_zxs
  have NG0_zxs : ∀ g, bG0 = some g → bzxs ≠ some g := fun g h1 h2 => by have := OG0.out.lt g h1; have := hfzxs g h2; omega
  have HNG0_zxs := Lib.hid NG0_zxs
  clear NG0_zxs
  have Fzxs := Lib.hid (From.up B16 hfzxs)
  have Ozxs := Lib.hid hozxs
  clear hfzxs hozxs
  have B17 := nxt B16 hb
  have OW0' := Lib.hid (OW0.out.mono hb)
  have OG0' := Lib.hid (OG0.out.mono hb)
  clear OW0
  have OW0 := OW0'
  clear OW0'
  clear OG0
  have OG0 := OG0'
  clear OG0'
  clear hb B16
  go_wp2_with fail
  refine (toIntS_own _ ys _ (Hys.out.mono B17.out (Nat.le_refl _)) (by omega)).mono ?_
  rintro e w18 ⟨vzys, bzys, rfl, hozys, hfzys, hb⟩
  have NW0_zys : ∀ g, bW0 = some g → bzys ≠ some g := fun g h1 h2 => by have := OW0.out.lt g h1; have := hfzys g h2; omega
  have HNW0_zys := Lib.hid NW0_zys
  clear NW0_zys
  have NG0_zys : ∀ g, bG0 = some g → bzys ≠ some g := fun g h1 h2 => by have := OG0.out.lt g h1; have := hfzys g h2; omega
  have HNG0_zys := Lib.hid NG0_zys
  clear NG0_zys
  have Nzxs_zys : ∀ g, bzxs = some g → bzys ≠ some g := fun g h1 h2 => by have := Ozxs.out.lt g h1; have := hfzys g h2; omega
  have HNzxs_zys := Lib.hid Nzxs_zys
  clear Nzxs_zys
  have Fzys := Lib.hid (From.up B17 hfzys)
  have Ozys := Lib.hid hozys
  clear hfzys hozys
  have B18 := nxt B17 hb
  have OW0' := Lib.hid (OW0.out.mono hb)
  have OG0' := Lib.hid (OG0.out.mono hb)
  have Ozxs' := Lib.hid (Ozxs.out.mono hb)
  clear OW0
  have OW0 := OW0'
  clear OW0'
  clear OG0
  have OG0 := OG0'
  clear OG0'
  clear Ozxs
  have Ozxs := Ozxs'
  clear Ozxs'
  clear hb B17
  go_wp2_with fail
  refine (impl_UnshuffleRows_own _ xs _ ys _ Ozxs.out.ints Ozys.out.ints (by omega) (by omega)).mono ?_
  rintro e w19 ⟨vH0, bH0, rfl, hoH0, hfH0, hb⟩
  have NW0_H0 : ∀ g, bW0 = some g → bH0 ≠ some g := fun g h1 h2 => by have := OW0.out.lt g h1; have := hfH0 g h2; omega
  have HNW0_H0 := Lib.hid NW0_H0
  clear NW0_H0
  have NG0_H0 : ∀ g, bG0 = some g → bH0 ≠ some g := fun g h1 h2 => by have := OG0.out.lt g h1; have := hfH0 g h2; omega
  have HNG0_H0 := Lib.hid NG0_H0
  clear NG0_H0
  have Nzxs_H0 : ∀ g, bzxs = some g → bH0 ≠ some g := fun g h1 h2 => by have := Ozxs.out.lt g h1; have := hfH0 g h2; omega
  have HNzxs_H0 := Lib.hid Nzxs_H0
  clear Nzxs_H0
  have Nzys_H0 : ∀ g, bzys = some g → bH0 ≠ some g := fun g h1 h2 => by have := Ozys.out.lt g h1; have := hfH0 g h2; omega
  have HNzys_H0 := Lib.hid Nzys_H0
  clear Nzys_H0
  have FH0 := Lib.hid (From.up B18 hfH0)
  have OH0 := Lib.hid hoH0
  clear hfH0 hoH0
  have B19 := nxt B18 hb
  have OW0' := Lib.hid (OW0.out.mono hb)
  have OG0' := Lib.hid (OG0.out.mono hb)
  have Ozxs' := Lib.hid (Ozxs.out.mono hb)
  have Ozys' := Lib.hid (Ozys.out.mono hb)
  clear OW0
  have OW0 := OW0'
  clear OW0'
  clear OG0
  have OG0 := OG0'
  clear OG0'
  clear Ozxs
  have Ozxs := Ozxs'
  clear Ozxs'
  clear Ozys
  have Ozys := Ozys'
  clear Ozys'
  clear hb B18
  go_wp2_with fail
  refine (eqIntS_same _ _ (unshV xs ys) _ OH0.out.ints OW0.out.ints).mono ?_
  rintro e w20 ⟨rfl, hb⟩
  have B20 := nxt B19 hb
  have OW0' := Lib.hid (OW0.out.mono hb)
  have OG0' := Lib.hid (OG0.out.mono hb)
  have Ozxs' := Lib.hid (Ozxs.out.mono hb)
  have Ozys' := Lib.hid (Ozys.out.mono hb)
  have OH0' := Lib.hid (OH0.out.mono hb)
  clear OW0
  have OW0 := OW0'
  clear OW0'
  clear OG0
  have OG0 := OG0'
  clear OG0'
  clear Ozxs
  have Ozxs := Ozxs'
  clear Ozxs'
  clear Ozys
  have Ozys := Ozys'
  clear Ozys'
  clear OH0
  have OH0 := OH0'
  clear OH0'
  clear hb B19
  go_wp2_with fail
  refine (heldIntS_any _ (unshV xs ys).length (1) _ OG0.out.ints (by omega) (by rw [hn0]; omega)).mono ?_
  rintro e w21 ⟨rfl, hb⟩
  have B21 := nxt B20 hb
  have OW0' := Lib.hid (OW0.out.mono hb)
  have OG0' := Lib.hid (OG0.out.mono hb)
  have Ozxs' := Lib.hid (Ozxs.out.mono hb)
  have Ozys' := Lib.hid (Ozys.out.mono hb)
  have OH0' := Lib.hid (OH0.out.mono hb)
  clear OW0
  have OW0 := OW0'
  clear OW0'
  clear OG0
  have OG0 := OG0'
  clear OG0'
  clear Ozxs
  have Ozxs := Ozxs'
  clear Ozxs'
  clear Ozys
  have Ozys := Ozys'
  clear Ozys'
  clear OH0
  have OH0 := OH0'
  clear OH0'
  clear hb B20
  go_wp2
  go_ret
  exact ⟨rfl, B21.out⟩
end Go.Proofs.Ytficoknejnilmaa
