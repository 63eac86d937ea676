/- the walk of FnExactScanWrite -/
import Derived.Test.YtkfhfhcjgeigeaaScan
import Derived.Test.YtkfhfhcjgeigeaaInts
import Derived.Test.YtkfhfhcjgeigeaaMem
namespace Go.Proofs.Ytkfhfhcjgeigeaa
open Go.RowKit
set_option maxHeartbeats 1000000 in
theorem walk_FnExactScanWrite (w : World) (vxs : Value) (xs : List Int) (hxs : Ints w vxs xs) (fxs : FitL xs) (a : Int) (ha : Fit a) (b : Int) (hb : Fit b) :
    Calls Try.prog 5 #[vxs, .int .i64 a, .int .i64 b] w fun e w' => e = .returned (.bool true) ∧ Below w.heap.size w w' := by
  have Hxs := Lib.hid hxs
  obtain ⟨adxs, cxs, hvxs, hmxs, _⟩ := hxs.open
  subst hvxs
  unfold maxLen at hmxs
  clear hxs fxs
  clear ha
  clear hb
  by_cases hbxs : 1048576 < xs.length
  · go_enter Try.func5, Try.ntmps5
    go_wp2
    go_ret
    exact ⟨rfl, Below.refl _ _⟩
  have B0 := Lib.hid (Below.refl w.heap.size w)
  go_enter Try.func5, Try.ntmps5
  have hz0 := writeV_le xs a b
  obtain ⟨n0, hn0⟩ : ∃ n, (writeV xs a b).length = n := ⟨_, rfl⟩
  rw [hn0] at hz0
  have hz1 := writesV_le xs.length
  obtain ⟨n1, hn1⟩ : ∃ n, (writesV xs.length).length = n := ⟨_, rfl⟩
  rw [hn1] at hz1
  have hkb1 : decide ((1 + (xs.length : Int) : Int) < 0) = false := by simp; omega
  have hmb1 : decide ((1 + (n0 : Int) : Int) < 0) = false := by simp; omega
  have hmb2 : decide ((1 + (n0 : Int) + 3 * (n1 : Int) : Int) < 0) = false := by simp; omega
  go_wp2_with fail
  refine (toIntS_own _ xs _ (Hxs.out.mono B0.out (Nat.le_refl _)) (by omega)).mono ?_
  rintro e w1 ⟨vsxs, bsxs, rfl, hosxs, hfsxs, hb⟩
  have Fsxs := Lib.hid (From.up B0 hfsxs)
  have Osxs := Lib.hid hosxs
  clear hfsxs hosxs
  have B1 := nxt B0 hb
  clear hb B0
  go_wp2_with fail
  refine (spec_ScanWrite_own _ xs a b _ Osxs.out.ints (by omega)).mono ?_
  rintro e w2 ⟨vW0, vW1, bW0, bW1, rfl, hoW0, hfW0, hoW1, hfW1, hapW0, hb⟩
  have Nsxs_W0 : ∀ g, bsxs = some g → bW0 ≠ some g := fun g h1 h2 => by have := Osxs.out.lt g h1; have := hfW0 g h2; omega
  have HNsxs_W0 := Lib.hid Nsxs_W0
  clear Nsxs_W0
  have Nsxs_W1 : ∀ g, bsxs = some g → bW1 ≠ some g := fun g h1 h2 => by have := Osxs.out.lt g h1; have := hfW1 g h2; omega
  have HNsxs_W1 := Lib.hid Nsxs_W1
  clear Nsxs_W1
  have HNW0_W1 := Lib.hid hapW0
  clear hapW0
  have FW0 := Lib.hid (From.up B1 hfW0)
  have OW0 := Lib.hid hoW0
  clear hfW0 hoW0
  have FW1 := Lib.hid (From.up B1 hfW1)
  have OW1 := Lib.hid hoW1
  clear hfW1 hoW1
  have B2 := nxt B1 hb
  have Osxs' := Lib.hid (Osxs.out.mono hb)
  clear Osxs
  have Osxs := Osxs'
  clear Osxs'
  clear hb B1
  clear Osxs Fsxs
  clear HNsxs_W1
  clear HNsxs_W0
  go_wp2_with fail
  refine (toIntS_own _ xs _ (Hxs.out.mono B2.out (Nat.le_refl _)) (by omega)).mono ?_
  rintro e w3 ⟨vxxs, bxxs, rfl, hoxxs, hfxxs, hb⟩
  have NW0_xxs : ∀ g, bW0 = some g → bxxs ≠ some g := fun g h1 h2 => by have := OW0.out.lt g h1; have := hfxxs g h2; omega
  have HNW0_xxs := Lib.hid NW0_xxs
  clear NW0_xxs
  have NW1_xxs : ∀ g, bW1 = some g → bxxs ≠ some g := fun g h1 h2 => by have := OW1.out.lt g h1; have := hfxxs g h2; omega
  have HNW1_xxs := Lib.hid NW1_xxs
  clear NW1_xxs
  have Fxxs := Lib.hid (From.up B2 hfxxs)
  have Oxxs := Lib.hid hoxxs
  clear hfxxs hoxxs
  have B3 := nxt B2 hb
  have OW0' := Lib.hid (OW0.out.mono hb)
  have OW1' := Lib.hid (OW1.out.mono hb)
  clear OW0
  have OW0 := OW0'
  clear OW0'
  clear OW1
  have OW1 := OW1'
  clear OW1'
  clear hb B2
  go_wp2_with fail
  refine (impl_ScanWrite_own _ xs a b _ Oxxs.out.ints (by omega)).mono ?_
  rintro e w4 ⟨vG0, vG1, bG0, bG1, rfl, hoG0, hfG0, hoG1, hfG1, hapG0, hb⟩
  have NW0_G0 : ∀ g, bW0 = some g → bG0 ≠ some g := fun g h1 h2 => by have := OW0.out.lt g h1; have := hfG0 g h2; omega
  have HNW0_G0 := Lib.hid NW0_G0
  clear NW0_G0
  have NW1_G0 : ∀ g, bW1 = some g → bG0 ≠ some g := fun g h1 h2 => by have := OW1.out.lt g h1; have := hfG0 g h2; omega
  have HNW1_G0 := Lib.hid NW1_G0
  clear NW1_G0
  have Nxxs_G0 : ∀ g, bxxs = some g → bG0 ≠ some g := fun g h1 h2 => by have := Oxxs.out.lt g h1; have := hfG0 g h2; omega
  have HNxxs_G0 := Lib.hid Nxxs_G0
  clear Nxxs_G0
  have NW0_G1 : ∀ g, bW0 = some g → bG1 ≠ some g := fun g h1 h2 => by have := OW0.out.lt g h1; have := hfG1 g h2; omega
  have HNW0_G1 := Lib.hid NW0_G1
  clear NW0_G1
  have NW1_G1 : ∀ g, bW1 = some g → bG1 ≠ some g := fun g h1 h2 => by have := OW1.out.lt g h1; have := hfG1 g h2; omega
  have HNW1_G1 := Lib.hid NW1_G1
  clear NW1_G1
  have Nxxs_G1 : ∀ g, bxxs = some g → bG1 ≠ some g := fun g h1 h2 => by have := Oxxs.out.lt g h1; have := hfG1 g h2; omega
  have HNxxs_G1 := Lib.hid Nxxs_G1
  clear Nxxs_G1
  have HNG0_G1 := Lib.hid hapG0
  clear hapG0
  have FG0 := Lib.hid (From.up B3 hfG0)
  have OG0 := Lib.hid hoG0
  clear hfG0 hoG0
  have FG1 := Lib.hid (From.up B3 hfG1)
  have OG1 := Lib.hid hoG1
  clear hfG1 hoG1
  have B4 := nxt B3 hb
  have OW0' := Lib.hid (OW0.out.mono hb)
  have OW1' := Lib.hid (OW1.out.mono hb)
  have Oxxs' := Lib.hid (Oxxs.out.mono hb)
  clear OW0
  have OW0 := OW0'
  clear OW0'
  clear OW1
  have OW1 := OW1'
  clear OW1'
  clear Oxxs
  have Oxxs := Oxxs'
  clear Oxxs'
  clear hb B3
  go_wp2_with fail
  refine (eqIntS_same _ _ (writeV xs a b) _ OG0.out.ints OW0.out.ints).mono ?_
  rintro e w5 ⟨rfl, hb⟩
  have B5 := nxt B4 hb
  have OW0' := Lib.hid (OW0.out.mono hb)
  have OW1' := Lib.hid (OW1.out.mono hb)
  have Oxxs' := Lib.hid (Oxxs.out.mono hb)
  have OG0' := Lib.hid (OG0.out.mono hb)
  have OG1' := Lib.hid (OG1.out.mono hb)
  clear OW0
  have OW0 := OW0'
  clear OW0'
  clear OW1
  have OW1 := OW1'
  clear OW1'
  clear Oxxs
  have Oxxs := Oxxs'
  clear Oxxs'
  clear OG0
  have OG0 := OG0'
  clear OG0'
  clear OG1
  have OG1 := OG1'
  clear OG1'
  clear hb B4
  go_wp2_with fail
  refine (eqAccessS_same _ _ (writesV xs.length) _ OG1.out.accs OW1.out.accs).mono ?_
  rintro e w6 ⟨rfl, hb⟩
  have B6 := nxt B5 hb
  have OW0' := Lib.hid (OW0.out.mono hb)
  have OW1' := Lib.hid (OW1.out.mono hb)
  have Oxxs' := Lib.hid (Oxxs.out.mono hb)
  have OG0' := Lib.hid (OG0.out.mono hb)
  have OG1' := Lib.hid (OG1.out.mono hb)
  clear OW0
  have OW0 := OW0'
  clear OW0'
  clear OW1
  have OW1 := OW1'
  clear OW1'
  clear Oxxs
  have Oxxs := Oxxs'
  clear Oxxs'
  clear OG0
  have OG0 := OG0'
  clear OG0'
  clear OG1
  have OG1 := OG1'
  clear OG1'
  clear hb B5
  go_wp2_with fail
  refine (toIntS_own _ xs _ (Hxs.out.mono B6.out (Nat.le_refl _)) (by omega)).mono ?_
  rintro e w7 ⟨vyxs, byxs, rfl, hoyxs, hfyxs, hb⟩
  have NW0_yxs : ∀ g, bW0 = some g → byxs ≠ some g := fun g h1 h2 => by have := OW0.out.lt g h1; have := hfyxs g h2; omega
  have HNW0_yxs := Lib.hid NW0_yxs
  clear NW0_yxs
  have NW1_yxs : ∀ g, bW1 = some g → byxs ≠ some g := fun g h1 h2 => by have := OW1.out.lt g h1; have := hfyxs g h2; omega
  have HNW1_yxs := Lib.hid NW1_yxs
  clear NW1_yxs
  have Nxxs_yxs : ∀ g, bxxs = some g → byxs ≠ some g := fun g h1 h2 => by have := Oxxs.out.lt g h1; have := hfyxs g h2; omega
  have HNxxs_yxs := Lib.hid Nxxs_yxs
  clear Nxxs_yxs
  have NG0_yxs : ∀ g, bG0 = some g → byxs ≠ some g := fun g h1 h2 => by have := OG0.out.lt g h1; have := hfyxs g h2; omega
  have HNG0_yxs := Lib.hid NG0_yxs
  clear NG0_yxs
  have NG1_yxs : ∀ g, bG1 = some g → byxs ≠ some g := fun g h1 h2 => by have := OG1.out.lt g h1; have := hfyxs g h2; omega
  have HNG1_yxs := Lib.hid NG1_yxs
  clear NG1_yxs
  have Fyxs := Lib.hid (From.up B6 hfyxs)
  have Oyxs := Lib.hid hoyxs
  clear hfyxs hoyxs
  have B7 := nxt B6 hb
  have OW0' := Lib.hid (OW0.out.mono hb)
  have OW1' := Lib.hid (OW1.out.mono hb)
  have Oxxs' := Lib.hid (Oxxs.out.mono hb)
  have OG0' := Lib.hid (OG0.out.mono hb)
  have OG1' := Lib.hid (OG1.out.mono hb)
  clear OW0
  have OW0 := OW0'
  clear OW0'
  clear OW1
  have OW1 := OW1'
  clear OW1'
  clear Oxxs
  have Oxxs := Oxxs'
  clear Oxxs'
  clear OG0
  have OG0 := OG0'
  clear OG0'
  clear OG1
  have OG1 := OG1'
  clear OG1'
  clear hb B6
  go_wp2_with fail
  refine (eqIntS_same _ _ (xs) _ Oxxs.out.ints Oyxs.out.ints).mono ?_
  rintro e w8 ⟨rfl, hb⟩
  have B8 := nxt B7 hb
  have OW0' := Lib.hid (OW0.out.mono hb)
  have OW1' := Lib.hid (OW1.out.mono hb)
  have Oxxs' := Lib.hid (Oxxs.out.mono hb)
  have OG0' := Lib.hid (OG0.out.mono hb)
  have OG1' := Lib.hid (OG1.out.mono hb)
  have Oyxs' := Lib.hid (Oyxs.out.mono hb)
  clear OW0
  have OW0 := OW0'
  clear OW0'
  clear OW1
  have OW1 := OW1'
  clear OW1'
  clear Oxxs
  have Oxxs := Oxxs'
  clear Oxxs'
  clear OG0
  have OG0 := OG0'
  clear OG0'
  clear OG1
  have OG1 := OG1'
  clear OG1'
  clear Oyxs
  have Oyxs := Oyxs'
  clear Oyxs'
  clear hb B7
  clear Oyxs Fyxs
  clear HNG0_yxs
  clear HNW1_yxs
  clear HNW0_yxs
  clear HNG1_yxs
  clear HNxxs_yxs
  go_wp2_with fail
  refine (markIntS_any _ _ (xs) (1) _ Oxxs.out (by omega) (by omega)).mono ?_
  rintro e w9 ⟨rfl, hoxxs, hg⟩
  have B9 := nxtG B8 hg Fxxs.out
  have OW0' := Lib.hid (OW0.out.grown hg HNW0_xxs.out)
  have OW1' := Lib.hid (OW1.out.grown hg HNW1_xxs.out)
  have OG0' := Lib.hid (OG0.out.grown hg (fun g h1 h2 => HNxxs_G0.out g h2 h1))
  have OG1' := Lib.hid (OG1.out.grown hg (fun g h1 h2 => HNxxs_G1.out g h2 h1))
  clear OW0
  have OW0 := OW0'
  clear OW0'
  clear OW1
  have OW1 := OW1'
  clear OW1'
  clear OG0
  have OG0 := OG0'
  clear OG0'
  clear OG1
  have OG1 := OG1'
  clear OG1'
  clear Oxxs
  have Oxxs := Lib.hid hoxxs
  clear hoxxs hg B8
  go_wp2_with fail
  refine (eqIntS_same _ _ (writeV xs a b) _ OG0.out.ints OW0.out.ints).mono ?_
  rintro e w10 ⟨rfl, hb⟩
  have B10 := nxt B9 hb
  have OW0' := Lib.hid (OW0.out.mono hb)
  have OW1' := Lib.hid (OW1.out.mono hb)
  have Oxxs' := Lib.hid (Oxxs.out.mono hb)
  have OG0' := Lib.hid (OG0.out.mono hb)
  have OG1' := Lib.hid (OG1.out.mono hb)
  clear OW0
  have OW0 := OW0'
  clear OW0'
  clear OW1
  have OW1 := OW1'
  clear OW1'
  clear Oxxs
  have Oxxs := Oxxs'
  clear Oxxs'
  clear OG0
  have OG0 := OG0'
  clear OG0'
  clear OG1
  have OG1 := OG1'
  clear OG1'
  clear hb B9
  go_wp2_with fail
  refine (eqAccessS_same _ _ (writesV xs.length) _ OG1.out.accs OW1.out.accs).mono ?_
  rintro e w11 ⟨rfl, hb⟩
  have B11 := nxt B10 hb
  have OW0' := Lib.hid (OW0.out.mono hb)
  have OW1' := Lib.hid (OW1.out.mono hb)
  have Oxxs' := Lib.hid (Oxxs.out.mono hb)
  have OG0' := Lib.hid (OG0.out.mono hb)
  have OG1' := Lib.hid (OG1.out.mono hb)
  clear OW0
  have OW0 := OW0'
  clear OW0'
  clear OW1
  have OW1 := OW1'
  clear OW1'
  clear Oxxs
  have Oxxs := Oxxs'
  clear Oxxs'
  clear OG0
  have OG0 := OG0'
  clear OG0'
  clear OG1
  have OG1 := OG1'
  clear OG1'
  clear hb B10
  go_wp2_with fail
  refine (markIntS_any _ _ (writeV xs a b) (1) _ OG0.out (by omega) (by rw [hn0]; omega)).mono ?_
  rintro e w12 ⟨rfl, hoG0, hg⟩
  have B12 := nxtG B11 hg FG0.out
  have OW0' := Lib.hid (OW0.out.grown hg HNW0_G0.out)
  have OW1' := Lib.hid (OW1.out.grown hg HNW1_G0.out)
  have Oxxs' := Lib.hid (Oxxs.out.grown hg HNxxs_G0.out)
  have OG1' := Lib.hid (OG1.out.grown hg (fun g h1 h2 => HNG0_G1.out g h2 h1))
  clear OW0
  have OW0 := OW0'
  clear OW0'
  clear OW1
  have OW1 := OW1'
  clear OW1'
  clear Oxxs
  have Oxxs := Oxxs'
  clear Oxxs'
  clear OG1
  have OG1 := OG1'
  clear OG1'
  clear OG0
  have OG0 := Lib.hid hoG0
  clear hoG0 hg B11
  go_wp2_with fail
  refine (markAccessS_any _ _ (writesV xs.length) (1 + (n0 : Int)) _ OG1.out (by omega) (by rw [hn1]; omega)).mono ?_
  rintro e w13 ⟨rfl, hoG1, hg⟩
  have B13 := nxtG B12 hg FG1.out
  have OW0' := Lib.hid (OW0.out.grown hg HNW0_G1.out)
  have OW1' := Lib.hid (OW1.out.grown hg HNW1_G1.out)
  have Oxxs' := Lib.hid (Oxxs.out.grown hg HNxxs_G1.out)
  have OG0' := Lib.hid (OG0.out.grown hg HNG0_G1.out)
  clear OW0
  have OW0 := OW0'
  clear OW0'
  clear OW1
  have OW1 := OW1'
  clear OW1'
  clear Oxxs
  have Oxxs := Oxxs'
  clear Oxxs'
  clear OG0
  have OG0 := OG0'
  clear OG0'
  clear OG1
  have OG1 := Lib.hid hoG1
  clear hoG1 hg B12
  go_wp2_with fail
  refine (heldIntS_any _ (writeV xs a b).length (1) _ OG0.out.ints (by omega) (by rw [hn0]; omega)).mono ?_
  rintro e w14 ⟨rfl, hb⟩
  have B14 := nxt B13 hb
  have OW0' := Lib.hid (OW0.out.mono hb)
  have OW1' := Lib.hid (OW1.out.mono hb)
  have Oxxs' := Lib.hid (Oxxs.out.mono hb)
  have OG0' := Lib.hid (OG0.out.mono hb)
  have OG1' := Lib.hid (OG1.out.mono hb)
  clear OW0
  have OW0 := OW0'
  clear OW0'
  clear OW1
  have OW1 := OW1'
  clear OW1'
  clear Oxxs
  have Oxxs := Oxxs'
  clear Oxxs'
  clear OG0
  have OG0 := OG0'
  clear OG0'
  clear OG1
  have OG1 := OG1'
  clear OG1'
  clear hb B13
  go_wp2_with fail
  refine (heldAccessS_any _ (writesV xs.length).length (1 + (n0 : Int)) _ OG1.out.accs (by omega) (by rw [hn1]; omega)).mono ?_
  rintro e w15 ⟨rfl, hb⟩
  have B15 := nxt B14 hb
  have OW0' := Lib.hid (OW0.out.mono hb)
  have OW1' := Lib.hid (OW1.out.mono hb)
  have Oxxs' := Lib.hid (Oxxs.out.mono hb)
  have OG0' := Lib.hid (OG0.out.mono hb)
  have OG1' := Lib.hid (OG1.out.mono hb)
  clear OW0
  have OW0 := OW0'
  clear OW0'
  clear OW1
  have OW1 := OW1'
  clear OW1'
  clear Oxxs
  have Oxxs := Oxxs'
  clear Oxxs'
  clear OG0
  have OG0 := OG0'
  clear OG0'
  clear OG1
  have OG1 := OG1'
  clear OG1'
  clear hb B14
  clear Oxxs Fxxs
  clear HNW1_xxs
  clear HNxxs_G0
  clear HNW0_xxs
  clear HNxxs_G1
  go_wp2_with fail
  refine (toIntS_own _ xs _ (Hxs.out.mono B15.out (Nat.le_refl _)) (by omega)).mono ?_
  rintro e w16 ⟨vzxs, bzxs, rfl, hozxs, hfzxs, hb⟩
  have NW0_zxs : ∀ g, bW0 = some g → bzxs ≠ some g := fun g h1 h2 => by have := OW0.out.lt g h1; have := hfzxs g h2; omega
  have HNW0_zxs := Lib.hid NW0_zxs
  clear NW0_zxs
  have NW1_zxs : ∀ g, bW1 = some g → bzxs ≠ some g := fun g h1 h2 => by have := OW1.out.lt g h1; have := hfzxs g h2; omega
  have HNW1_zxs := Lib.hid NW1_zxs
  clear NW1_zxs
  have NG0_zxs : ∀ g, bG0 = some g → bzxs ≠ some g := fun g h1 h2 => by have := OG0.out.lt g h1; have := hfzxs g h2; omega
  have HNG0_zxs := Lib.hid NG0_zxs
  clear NG0_zxs
  have NG1_zxs : ∀ g, bG1 = some g → bzxs ≠ some g := fun g h1 h2 => by have := OG1.out.lt g h1; have := hfzxs g h2; omega
  have HNG1_zxs := Lib.hid NG1_zxs
  clear NG1_zxs
  have Fzxs := Lib.hid (From.up B15 hfzxs)
  have Ozxs := Lib.hid hozxs
  clear hfzxs hozxs
  have B16 := nxt B15 hb
  have OW0' := Lib.hid (OW0.out.mono hb)
  have OW1' := Lib.hid (OW1.out.mono hb)
  have OG0' := Lib.hid (OG0.out.mono hb)
  have OG1' := Lib.hid (OG1.out.mono hb)
  clear OW0
  have OW0 := OW0'
  clear OW0'
  clear OW1
  have OW1 := OW1'
  clear OW1'
  clear OG0
  have OG0 := OG0'
  clear OG0'
  clear OG1
  have OG1 := OG1'
  clear OG1'
  clear hb B15
  go_wp2_with fail
  refine (impl_ScanWrite_own _ xs a b _ Ozxs.out.ints (by omega)).mono ?_
  rintro e w17 ⟨vH0, vH1, bH0, bH1, rfl, hoH0, hfH0, hoH1, hfH1, hapH0, hb⟩
  have NW0_H0 : ∀ g, bW0 = some g → bH0 ≠ some g := fun g h1 h2 => by have := OW0.out.lt g h1; have := hfH0 g h2; omega
  have HNW0_H0 := Lib.hid NW0_H0
  clear NW0_H0
  have NW1_H0 : ∀ g, bW1 = some g → bH0 ≠ some g := fun g h1 h2 => by have := OW1.out.lt g h1; have := hfH0 g h2; omega
  have HNW1_H0 := Lib.hid NW1_H0
  clear NW1_H0
  have NG0_H0 : ∀ g, bG0 = some g → bH0 ≠ some g := fun g h1 h2 => by have := OG0.out.lt g h1; have := hfH0 g h2; omega
  have HNG0_H0 := Lib.hid NG0_H0
  clear NG0_H0
  have NG1_H0 : ∀ g, bG1 = some g → bH0 ≠ some g := fun g h1 h2 => by have := OG1.out.lt g h1; have := hfH0 g h2; omega
  have HNG1_H0 := Lib.hid NG1_H0
  clear NG1_H0
  have Nzxs_H0 : ∀ g, bzxs = some g → bH0 ≠ some g := fun g h1 h2 => by have := Ozxs.out.lt g h1; have := hfH0 g h2; omega
  have HNzxs_H0 := Lib.hid Nzxs_H0
  clear Nzxs_H0
  have NW0_H1 : ∀ g, bW0 = some g → bH1 ≠ some g := fun g h1 h2 => by have := OW0.out.lt g h1; have := hfH1 g h2; omega
  have HNW0_H1 := Lib.hid NW0_H1
  clear NW0_H1
  have NW1_H1 : ∀ g, bW1 = some g → bH1 ≠ some g := fun g h1 h2 => by have := OW1.out.lt g h1; have := hfH1 g h2; omega
  have HNW1_H1 := Lib.hid NW1_H1
  clear NW1_H1
  have NG0_H1 : ∀ g, bG0 = some g → bH1 ≠ some g := fun g h1 h2 => by have := OG0.out.lt g h1; have := hfH1 g h2; omega
  have HNG0_H1 := Lib.hid NG0_H1
  clear NG0_H1
  have NG1_H1 : ∀ g, bG1 = some g → bH1 ≠ some g := fun g h1 h2 => by have := OG1.out.lt g h1; have := hfH1 g h2; omega
  have HNG1_H1 := Lib.hid NG1_H1
  clear NG1_H1
  have Nzxs_H1 : ∀ g, bzxs = some g → bH1 ≠ some g := fun g h1 h2 => by have := Ozxs.out.lt g h1; have := hfH1 g h2; omega
  have HNzxs_H1 := Lib.hid Nzxs_H1
  clear Nzxs_H1
  have HNH0_H1 := Lib.hid hapH0
  clear hapH0
  have FH0 := Lib.hid (From.up B16 hfH0)
  have OH0 := Lib.hid hoH0
  clear hfH0 hoH0
  have FH1 := Lib.hid (From.up B16 hfH1)
  have OH1 := Lib.hid hoH1
  clear hfH1 hoH1
  have B17 := nxt B16 hb
  have OW0' := Lib.hid (OW0.out.mono hb)
  have OW1' := Lib.hid (OW1.out.mono hb)
  have OG0' := Lib.hid (OG0.out.mono hb)
  have OG1' := Lib.hid (OG1.out.mono hb)
  have Ozxs' := Lib.hid (Ozxs.out.mono hb)
  clear OW0
  have OW0 := OW0'
  clear OW0'
  clear OW1
  have OW1 := OW1'
  clear OW1'
  clear OG0
  have OG0 := OG0'
  clear OG0'
  clear OG1
  have OG1 := OG1'
  clear OG1'
  clear Ozxs
  have Ozxs := Ozxs'
  clear Ozxs'
  clear hb B16
  go_wp2_with fail
  refine (eqIntS_same _ _ (writeV xs a b) _ OH0.out.ints OW0.out.ints).mono ?_
  rintro e w18 ⟨rfl, hb⟩
  have B18 := nxt B17 hb
  have OW0' := Lib.hid (OW0.out.mono hb)
  have OW1' := Lib.hid (OW1.out.mono hb)
  have OG0' := Lib.hid (OG0.out.mono hb)
  have OG1' := Lib.hid (OG1.out.mono hb)
  have Ozxs' := Lib.hid (Ozxs.out.mono hb)
  have OH0' := Lib.hid (OH0.out.mono hb)
  have OH1' := Lib.hid (OH1.out.mono hb)
  clear OW0
  have OW0 := OW0'
  clear OW0'
  clear OW1
  have OW1 := OW1'
  clear OW1'
  clear OG0
  have OG0 := OG0'
  clear OG0'
  clear OG1
  have OG1 := OG1'
  clear OG1'
  clear Ozxs
  have Ozxs := Ozxs'
  clear Ozxs'
  clear OH0
  have OH0 := OH0'
  clear OH0'
  clear OH1
  have OH1 := OH1'
  clear OH1'
  clear hb B17
  go_wp2_with fail
  refine (eqAccessS_same _ _ (writesV xs.length) _ OH1.out.accs OW1.out.accs).mono ?_
  rintro e w19 ⟨rfl, hb⟩
  have B19 := nxt B18 hb
  have OW0' := Lib.hid (OW0.out.mono hb)
  have OW1' := Lib.hid (OW1.out.mono hb)
  have OG0' := Lib.hid (OG0.out.mono hb)
  have OG1' := Lib.hid (OG1.out.mono hb)
  have Ozxs' := Lib.hid (Ozxs.out.mono hb)
  have OH0' := Lib.hid (OH0.out.mono hb)
  have OH1' := Lib.hid (OH1.out.mono hb)
  clear OW0
  have OW0 := OW0'
  clear OW0'
  clear OW1
  have OW1 := OW1'
  clear OW1'
  clear OG0
  have OG0 := OG0'
  clear OG0'
  clear OG1
  have OG1 := OG1'
  clear OG1'
  clear Ozxs
  have Ozxs := Ozxs'
  clear Ozxs'
  clear OH0
  have OH0 := OH0'
  clear OH0'
  clear OH1
  have OH1 := OH1'
  clear OH1'
  clear hb B18
  go_wp2_with fail
  refine (heldIntS_any _ (writeV xs a b).length (1) _ OG0.out.ints (by omega) (by rw [hn0]; omega)).mono ?_
  rintro e w20 ⟨rfl, hb⟩
  have B20 := nxt B19 hb
  have OW0' := Lib.hid (OW0.out.mono hb)
  have OW1' := Lib.hid (OW1.out.mono hb)
  have OG0' := Lib.hid (OG0.out.mono hb)
  have OG1' := Lib.hid (OG1.out.mono hb)
  have Ozxs' := Lib.hid (Ozxs.out.mono hb)
  have OH0' := Lib.hid (OH0.out.mono hb)
  have OH1' := Lib.hid (OH1.out.mono hb)
  clear OW0
  have OW0 := OW0'
  clear OW0'
  clear OW1
  have OW1 := OW1'
  clear OW1'
  clear OG0
  have OG0 := OG0'
  clear OG0'
  clear OG1
  have OG1 := OG1'
  clear OG1'
  clear Ozxs
  have Ozxs := Ozxs'
  clear Ozxs'
  clear OH0
  have OH0 := OH0'
  clear OH0'
  clear OH1
  have OH1 := OH1'
  clear OH1'
  clear hb B19
  go_wp2_with fail
  refine (heldAccessS_any _ (writesV xs.length).length (1 + (n0 : Int)) _ OG1.out.accs (by omega) (by rw [hn1]; omega)).mono ?_
  rintro e w21 ⟨rfl, hb⟩
  have B21 := nxt B20 hb
  have OW0' := Lib.hid (OW0.out.mono hb)
  have OW1' := Lib.hid (OW1.out.mono hb)
  have OG0' := Lib.hid (OG0.out.mono hb)
  have OG1' := Lib.hid (OG1.out.mono hb)
  have Ozxs' := Lib.hid (Ozxs.out.mono hb)
  have OH0' := Lib.hid (OH0.out.mono hb)
  have OH1' := Lib.hid (OH1.out.mono hb)
  clear OW0
  have OW0 := OW0'
  clear OW0'
  clear OW1
  have OW1 := OW1'
  clear OW1'
  clear OG0
  have OG0 := OG0'
  clear OG0'
  clear OG1
  have OG1 := OG1'
  clear OG1'
  clear Ozxs
  have Ozxs := Ozxs'
  clear Ozxs'
  clear OH0
  have OH0 := OH0'
  clear OH0'
  clear OH1
  have OH1 := OH1'
  clear OH1'
  clear hb B20
  go_wp2
  go_ret
  exact ⟨rfl, B21.out⟩
end Go.Proofs.Ytkfhfhcjgeigeaa
