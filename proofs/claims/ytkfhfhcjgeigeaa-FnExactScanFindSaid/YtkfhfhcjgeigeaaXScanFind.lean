/- the walk of FnExactScanFind -/
import Derived.Test.YtkfhfhcjgeigeaaScan
import Derived.Test.YtkfhfhcjgeigeaaInts
import Derived.Test.YtkfhfhcjgeigeaaMem
namespace Go.Proofs.Ytkfhfhcjgeigeaa
open Go.RowKit
set_option maxHeartbeats 1000000 in
theorem walk_FnExactScanFind (w : World) (vxs : Value) (xs : List Int) (hxs : Ints w vxs xs) (fxs : FitL xs) (a : Int) (ha : Fit a) :
    Calls Try.prog 4 #[vxs, .int .i64 a] w fun e w' => e = .returned (.bool true) ∧ Below w.heap.size w w' := by
  have Hxs := Lib.hid hxs
  obtain ⟨adxs, cxs, hvxs, hmxs, _⟩ := hxs.open
  subst hvxs
  unfold maxLen at hmxs
  clear hxs fxs
  clear ha
  by_cases hbxs : 1048576 < xs.length
  · go_enter Try.func4, Try.ntmps4
    go_wp2
    go_ret
    exact ⟨rfl, Below.refl _ _⟩
  have B0 := Lib.hid (Below.refl w.heap.size w)
  go_enter Try.func4, Try.ntmps4
  have hs0 : ((findV xs a) != (findV xs a)) = false := by simp
  have hz1 := readsV_le xs.length
  obtain ⟨n1, hn1⟩ : ∃ n, (readsV xs.length).length = n := ⟨_, rfl⟩
  rw [hn1] at hz1
  have hkb1 : decide ((1 + (xs.length : Int) : Int) < 0) = false := by simp; omega
  have hmb1 : decide ((1 + 3 * (n1 : Int) : Int) < 0) = false := by simp; omega
  go_wp2_with fail
  refine (toIntS_own _ xs _ (Hxs.out.mono B0.out (Nat.le_refl _)) (by omega)).mono ?_
  rintro e w1 ⟨vsxs, bsxs, rfl, hosxs, hfsxs, hb⟩
  have Fsxs := Lib.hid (From.up B0 hfsxs)
  have Osxs := Lib.hid hosxs
  clear hfsxs hosxs
  have B1 := nxt B0 hb
  clear hb B0
  go_wp2_with fail
  refine (spec_ScanFind_own _ xs a _ Osxs.out.ints (by omega)).mono ?_
  rintro e w2 ⟨vW1, bW1, rfl, hoW1, hfW1, hb⟩
  have Nsxs_W1 : ∀ g, bsxs = some g → bW1 ≠ some g := fun g h1 h2 => by have := Osxs.out.lt g h1; have := hfW1 g h2; omega
  have HNsxs_W1 := Lib.hid Nsxs_W1
  clear Nsxs_W1
  have FW1 := Lib.hid (From.up B1 hfW1)
  have OW1 := Lib.hid hoW1
  clear hfW1 hoW1
  have B2 := nxt B1 hb
  have Osxs' := Lib.hid (Osxs.out.mono hb)
  clear Osxs
  have Osxs := Osxs'
  clear Osxs'
  clear hb B1
  clear Osxs Fsxs
  clear HNsxs_W1
  go_wp2_with fail
  refine (toIntS_own _ xs _ (Hxs.out.mono B2.out (Nat.le_refl _)) (by omega)).mono ?_
  rintro e w3 ⟨vxxs, bxxs, rfl, hoxxs, hfxxs, hb⟩
  have NW1_xxs : ∀ g, bW1 = some g → bxxs ≠ some g := fun g h1 h2 => by have := OW1.out.lt g h1; have := hfxxs g h2; omega
  have HNW1_xxs := Lib.hid NW1_xxs
  clear NW1_xxs
  have Fxxs := Lib.hid (From.up B2 hfxxs)
  have Oxxs := Lib.hid hoxxs
  clear hfxxs hoxxs
  have B3 := nxt B2 hb
  have OW1' := Lib.hid (OW1.out.mono hb)
  clear OW1
  have OW1 := OW1'
  clear OW1'
  clear hb B2
  go_wp2_with fail
  refine (impl_ScanFind_own _ xs a _ Oxxs.out.ints (by omega)).mono ?_
  rintro e w4 ⟨vG1, bG1, rfl, hoG1, hfG1, hb⟩
  have NW1_G1 : ∀ g, bW1 = some g → bG1 ≠ some g := fun g h1 h2 => by have := OW1.out.lt g h1; have := hfG1 g h2; omega
  have HNW1_G1 := Lib.hid NW1_G1
  clear NW1_G1
  have Nxxs_G1 : ∀ g, bxxs = some g → bG1 ≠ some g := fun g h1 h2 => by have := Oxxs.out.lt g h1; have := hfG1 g h2; omega
  have HNxxs_G1 := Lib.hid Nxxs_G1
  clear Nxxs_G1
  have FG1 := Lib.hid (From.up B3 hfG1)
  have OG1 := Lib.hid hoG1
  clear hfG1 hoG1
  have B4 := nxt B3 hb
  have OW1' := Lib.hid (OW1.out.mono hb)
  have Oxxs' := Lib.hid (Oxxs.out.mono hb)
  clear OW1
  have OW1 := OW1'
  clear OW1'
  clear Oxxs
  have Oxxs := Oxxs'
  clear Oxxs'
  clear hb B3
  go_wp2_with fail
  refine (eqAccessS_same _ _ (readsV xs.length) _ OG1.out.accs OW1.out.accs).mono ?_
  rintro e w5 ⟨rfl, hb⟩
  have B5 := nxt B4 hb
  have OW1' := Lib.hid (OW1.out.mono hb)
  have Oxxs' := Lib.hid (Oxxs.out.mono hb)
  have OG1' := Lib.hid (OG1.out.mono hb)
  clear OW1
  have OW1 := OW1'
  clear OW1'
  clear Oxxs
  have Oxxs := Oxxs'
  clear Oxxs'
  clear OG1
  have OG1 := OG1'
  clear OG1'
  clear hb B4
  go_wp2_with fail
  refine (toIntS_own _ xs _ (Hxs.out.mono B5.out (Nat.le_refl _)) (by omega)).mono ?_
  rintro e w6 ⟨vyxs, byxs, rfl, hoyxs, hfyxs, hb⟩
  have NW1_yxs : ∀ g, bW1 = some g → byxs ≠ some g := fun g h1 h2 => by have := OW1.out.lt g h1; have := hfyxs g h2; omega
  have HNW1_yxs := Lib.hid NW1_yxs
  clear NW1_yxs
  have Nxxs_yxs : ∀ g, bxxs = some g → byxs ≠ some g := fun g h1 h2 => by have := Oxxs.out.lt g h1; have := hfyxs g h2; omega
  have HNxxs_yxs := Lib.hid Nxxs_yxs
  clear Nxxs_yxs
  have NG1_yxs : ∀ g, bG1 = some g → byxs ≠ some g := fun g h1 h2 => by have := OG1.out.lt g h1; have := hfyxs g h2; omega
  have HNG1_yxs := Lib.hid NG1_yxs
  clear NG1_yxs
  have Fyxs := Lib.hid (From.up B5 hfyxs)
  have Oyxs := Lib.hid hoyxs
  clear hfyxs hoyxs
  have B6 := nxt B5 hb
  have OW1' := Lib.hid (OW1.out.mono hb)
  have Oxxs' := Lib.hid (Oxxs.out.mono hb)
  have OG1' := Lib.hid (OG1.out.mono hb)
  clear OW1
  have OW1 := OW1'
  clear OW1'
  clear Oxxs
  have Oxxs := Oxxs'
  clear Oxxs'
  clear OG1
  have OG1 := OG1'
  clear OG1'
  clear hb B5
  go_wp2_with fail
  refine (eqIntS_same _ _ (xs) _ Oxxs.out.ints Oyxs.out.ints).mono ?_
  rintro e w7 ⟨rfl, hb⟩
  have B7 := nxt B6 hb
  have OW1' := Lib.hid (OW1.out.mono hb)
  have Oxxs' := Lib.hid (Oxxs.out.mono hb)
  have OG1' := Lib.hid (OG1.out.mono hb)
  have Oyxs' := Lib.hid (Oyxs.out.mono hb)
  clear OW1
  have OW1 := OW1'
  clear OW1'
  clear Oxxs
  have Oxxs := Oxxs'
  clear Oxxs'
  clear OG1
  have OG1 := OG1'
  clear OG1'
  clear Oyxs
  have Oyxs := Oyxs'
  clear Oyxs'
  clear hb B6
  clear Oyxs Fyxs
  clear HNW1_yxs
  clear HNG1_yxs
  clear HNxxs_yxs
  go_wp2_with fail
  refine (markIntS_any _ _ (xs) (1) _ Oxxs.out (by omega) (by omega)).mono ?_
  rintro e w8 ⟨rfl, hoxxs, hg⟩
  have B8 := nxtG B7 hg Fxxs.out
  have OW1' := Lib.hid (OW1.out.grown hg HNW1_xxs.out)
  have OG1' := Lib.hid (OG1.out.grown hg (fun g h1 h2 => HNxxs_G1.out g h2 h1))
  clear OW1
  have OW1 := OW1'
  clear OW1'
  clear OG1
  have OG1 := OG1'
  clear OG1'
  clear Oxxs
  have Oxxs := Lib.hid hoxxs
  clear hoxxs hg B7
  go_wp2_with fail
  refine (eqAccessS_same _ _ (readsV xs.length) _ OG1.out.accs OW1.out.accs).mono ?_
  rintro e w9 ⟨rfl, hb⟩
  have B9 := nxt B8 hb
  have OW1' := Lib.hid (OW1.out.mono hb)
  have Oxxs' := Lib.hid (Oxxs.out.mono hb)
  have OG1' := Lib.hid (OG1.out.mono hb)
  clear OW1
  have OW1 := OW1'
  clear OW1'
  clear Oxxs
  have Oxxs := Oxxs'
  clear Oxxs'
  clear OG1
  have OG1 := OG1'
  clear OG1'
  clear hb B8
  go_wp2_with fail
  refine (markAccessS_any _ _ (readsV xs.length) (1) _ OG1.out (by omega) (by rw [hn1]; omega)).mono ?_
  rintro e w10 ⟨rfl, hoG1, hg⟩
  have B10 := nxtG B9 hg FG1.out
  have OW1' := Lib.hid (OW1.out.grown hg HNW1_G1.out)
  have Oxxs' := Lib.hid (Oxxs.out.grown hg HNxxs_G1.out)
  clear OW1
  have OW1 := OW1'
  clear OW1'
  clear Oxxs
  have Oxxs := Oxxs'
  clear Oxxs'
  clear OG1
  have OG1 := Lib.hid hoG1
  clear hoG1 hg B9
  go_wp2_with fail
  refine (heldAccessS_any _ (readsV xs.length).length (1) _ OG1.out.accs (by omega) (by rw [hn1]; omega)).mono ?_
  rintro e w11 ⟨rfl, hb⟩
  have B11 := nxt B10 hb
  have OW1' := Lib.hid (OW1.out.mono hb)
  have Oxxs' := Lib.hid (Oxxs.out.mono hb)
  have OG1' := Lib.hid (OG1.out.mono hb)
  clear OW1
  have OW1 := OW1'
  clear OW1'
  clear Oxxs
  have Oxxs := Oxxs'
  clear Oxxs'
  clear OG1
  have OG1 := OG1'
  clear OG1'
  clear hb B10
  clear Oxxs Fxxs
  clear HNW1_xxs
  clear HNxxs_G1
  go_wp2_with fail
  refine (toIntS_own _ xs _ (Hxs.out.mono B11.out (Nat.le_refl _)) (by omega)).mono ?_
  rintro e w12 ⟨vzxs, bzxs, rfl, hozxs, hfzxs, hb⟩
  have NW1_zxs : ∀ g, bW1 = some g → bzxs ≠ some g := fun g h1 h2 => by have := OW1.out.lt g h1; have := hfzxs g h2; omega
  have HNW1_zxs := Lib.hid NW1_zxs
  clear NW1_zxs
  have NG1_zxs : ∀ g, bG1 = some g → bzxs ≠ some g := fun g h1 h2 => by have := OG1.out.lt g h1; have := hfzxs g h2; omega
  have HNG1_zxs := Lib.hid NG1_zxs
  clear NG1_zxs
  have Fzxs := Lib.hid (From.up B11 hfzxs)
  have Ozxs := Lib.hid hozxs
  clear hfzxs hozxs
  have B12 := nxt B11 hb
  have OW1' := Lib.hid (OW1.out.mono hb)
  have OG1' := Lib.hid (OG1.out.mono hb)
  clear OW1
  have OW1 := OW1'
  clear OW1'
  clear OG1
  have OG1 := OG1'
  clear OG1'
  clear hb B11
  go_wp2_with fail
  refine (impl_ScanFind_own _ xs a _ Ozxs.out.ints (by omega)).mono ?_
  rintro e w13 ⟨vH1, bH1, rfl, hoH1, hfH1, hb⟩
  have NW1_H1 : ∀ g, bW1 = some g → bH1 ≠ some g := fun g h1 h2 => by have := OW1.out.lt g h1; have := hfH1 g h2; omega
  have HNW1_H1 := Lib.hid NW1_H1
  clear NW1_H1
  have NG1_H1 : ∀ g, bG1 = some g → bH1 ≠ some g := fun g h1 h2 => by have := OG1.out.lt g h1; have := hfH1 g h2; omega
  have HNG1_H1 := Lib.hid NG1_H1
  clear NG1_H1
  have Nzxs_H1 : ∀ g, bzxs = some g → bH1 ≠ some g := fun g h1 h2 => by have := Ozxs.out.lt g h1; have := hfH1 g h2; omega
  have HNzxs_H1 := Lib.hid Nzxs_H1
  clear Nzxs_H1
  have FH1 := Lib.hid (From.up B12 hfH1)
  have OH1 := Lib.hid hoH1
  clear hfH1 hoH1
  have B13 := nxt B12 hb
  have OW1' := Lib.hid (OW1.out.mono hb)
  have OG1' := Lib.hid (OG1.out.mono hb)
  have Ozxs' := Lib.hid (Ozxs.out.mono hb)
  clear OW1
  have OW1 := OW1'
  clear OW1'
  clear OG1
  have OG1 := OG1'
  clear OG1'
  clear Ozxs
  have Ozxs := Ozxs'
  clear Ozxs'
  clear hb B12
  go_wp2_with fail
  refine (eqAccessS_same _ _ (readsV xs.length) _ OH1.out.accs OW1.out.accs).mono ?_
  rintro e w14 ⟨rfl, hb⟩
  have B14 := nxt B13 hb
  have OW1' := Lib.hid (OW1.out.mono hb)
  have OG1' := Lib.hid (OG1.out.mono hb)
  have Ozxs' := Lib.hid (Ozxs.out.mono hb)
  have OH1' := Lib.hid (OH1.out.mono hb)
  clear OW1
  have OW1 := OW1'
  clear OW1'
  clear OG1
  have OG1 := OG1'
  clear OG1'
  clear Ozxs
  have Ozxs := Ozxs'
  clear Ozxs'
  clear OH1
  have OH1 := OH1'
  clear OH1'
  clear hb B13
  go_wp2_with fail
  refine (heldAccessS_any _ (readsV xs.length).length (1) _ OG1.out.accs (by omega) (by rw [hn1]; omega)).mono ?_
  rintro e w15 ⟨rfl, hb⟩
  have B15 := nxt B14 hb
  have OW1' := Lib.hid (OW1.out.mono hb)
  have OG1' := Lib.hid (OG1.out.mono hb)
  have Ozxs' := Lib.hid (Ozxs.out.mono hb)
  have OH1' := Lib.hid (OH1.out.mono hb)
  clear OW1
  have OW1 := OW1'
  clear OW1'
  clear OG1
  have OG1 := OG1'
  clear OG1'
  clear Ozxs
  have Ozxs := Ozxs'
  clear Ozxs'
  clear OH1
  have OH1 := OH1'
  clear OH1'
  clear hb B14
  go_wp2
  go_ret
  exact ⟨rfl, B15.out⟩
end Go.Proofs.Ytkfhfhcjgeigeaa
