/- the walk of FnExactLookupSets -/
import Derived.Test.YtgapjgmkkmdadaaSets
import Derived.Test.YtgapjgmkkmdadaaInts
import Derived.Test.YtgapjgmkkmdadaaMem
namespace Go.Proofs.Ytgapjgmkkmdadaa
open Go.RowKit
set_option maxHeartbeats 1000000 in
theorem walk_FnExactLookupSets (w : World) (s : Int) (hs : Fit s) (m : Int) (hm : Fit m) (a : Int) (ha : Fit a) :
    Calls Try.prog 7 #[.int .i64 s, .int .i64 m, .int .i64 a] w fun e w' => e = .returned (.bool true) ∧ Below w.heap.size w w' := by
  clear hs
  clear hm
  clear ha
  have B0 := Lib.hid (Below.refl w.heap.size w)
  go_enter Try.func7, Try.ntmps7
  have hs2 : ((setsOk s m a) != (setsOk s m a)) = false := by simp
  have hz0 := setsA_le s m a
  obtain ⟨n0, hn0⟩ : ∃ n, (setsA s m a).length = n := ⟨_, rfl⟩
  rw [hn0] at hz0
  have hz1 := setsB_le s m a
  obtain ⟨n1, hn1⟩ : ∃ n, (setsB s m a).length = n := ⟨_, rfl⟩
  rw [hn1] at hz1
  have hmb1 : decide ((1 + (n0 : Int) : Int) < 0) = false := by simp; omega
  have hmb2 : decide ((1 + (n0 : Int) + (n1 : Int) : Int) < 0) = false := by simp; omega
  go_wp2_with fail
  refine (spec_LookupSets_own s m a _ ).mono ?_
  rintro e w1 ⟨vW0, vW1, bW0, bW1, rfl, hoW0, hfW0, hoW1, hfW1, hapW0, hb⟩
  have HNW0_W1 := Lib.hid hapW0
  clear hapW0
  have FW0 := Lib.hid (From.up B0 hfW0)
  have OW0 := Lib.hid hoW0
  clear hfW0 hoW0
  have FW1 := Lib.hid (From.up B0 hfW1)
  have OW1 := Lib.hid hoW1
  clear hfW1 hoW1
  have B1 := nxt B0 hb
  clear hb B0
  go_wp2_with fail
  refine (impl_LookupSets_own s m a _ ).mono ?_
  rintro e w2 ⟨vG0, vG1, bG0, bG1, rfl, hoG0, hfG0, hoG1, hfG1, hapG0, hb⟩
  have NW0_G0 : ∀ g, bW0 = some g → bG0 ≠ some g := fun g h1 h2 => by have := OW0.out.lt g h1; have := hfG0 g h2; omega
  have HNW0_G0 := Lib.hid NW0_G0
  clear NW0_G0
  have NW1_G0 : ∀ g, bW1 = some g → bG0 ≠ some g := fun g h1 h2 => by have := OW1.out.lt g h1; have := hfG0 g h2; omega
  have HNW1_G0 := Lib.hid NW1_G0
  clear NW1_G0
  have NW0_G1 : ∀ g, bW0 = some g → bG1 ≠ some g := fun g h1 h2 => by have := OW0.out.lt g h1; have := hfG1 g h2; omega
  have HNW0_G1 := Lib.hid NW0_G1
  clear NW0_G1
  have NW1_G1 : ∀ g, bW1 = some g → bG1 ≠ some g := fun g h1 h2 => by have := OW1.out.lt g h1; have := hfG1 g h2; omega
  have HNW1_G1 := Lib.hid NW1_G1
  clear NW1_G1
  have HNG0_G1 := Lib.hid hapG0
  clear hapG0
  have FG0 := Lib.hid (From.up B1 hfG0)
  have OG0 := Lib.hid hoG0
  clear hfG0 hoG0
  have FG1 := Lib.hid (From.up B1 hfG1)
  have OG1 := Lib.hid hoG1
  clear hfG1 hoG1
  have B2 := nxt B1 hb
  have OW0' := Lib.hid (OW0.out.mono hb)
  have OW1' := Lib.hid (OW1.out.mono hb)
  clear OW0
  have OW0 := OW0'
  clear OW0'
  clear OW1
  have OW1 := OW1'
  clear OW1'
  clear hb B1
  go_wp2_with fail
  refine (eqBoolS_same _ _ (setsA s m a) _ OG0.out.bools OW0.out.bools).mono ?_
  rintro e w3 ⟨rfl, hb⟩
  have B3 := nxt B2 hb
  have OW0' := Lib.hid (OW0.out.mono hb)
  have OW1' := Lib.hid (OW1.out.mono hb)
  have OG0' := Lib.hid (OG0.out.mono hb)
  have OG1' := Lib.hid (OG1.out.mono hb)
  clear OW0
  have OW0 := OW0'
  clear OW0'
  clear OW1
  have OW1 := OW1'
  clear OW1'
  clear OG0
  have OG0 := OG0'
  clear OG0'
  clear OG1
  have OG1 := OG1'
  clear OG1'
  clear hb B2
  go_wp2_with fail
  refine (eqBoolS_same _ _ (setsB s m a) _ OG1.out.bools OW1.out.bools).mono ?_
  rintro e w4 ⟨rfl, hb⟩
  have B4 := nxt B3 hb
  have OW0' := Lib.hid (OW0.out.mono hb)
  have OW1' := Lib.hid (OW1.out.mono hb)
  have OG0' := Lib.hid (OG0.out.mono hb)
  have OG1' := Lib.hid (OG1.out.mono hb)
  clear OW0
  have OW0 := OW0'
  clear OW0'
  clear OW1
  have OW1 := OW1'
  clear OW1'
  clear OG0
  have OG0 := OG0'
  clear OG0'
  clear OG1
  have OG1 := OG1'
  clear OG1'
  clear hb B3
  go_wp2_with fail
  refine (markBoolS_any _ _ (setsA s m a) (1) _ OG0.out (by omega) (by rw [hn0]; omega)).mono ?_
  rintro e w5 ⟨rfl, hoG0, hg⟩
  have B5 := nxtG B4 hg FG0.out
  have OW0' := Lib.hid (OW0.out.grown hg HNW0_G0.out)
  have OW1' := Lib.hid (OW1.out.grown hg HNW1_G0.out)
  have OG1' := Lib.hid (OG1.out.grown hg (fun g h1 h2 => HNG0_G1.out g h2 h1))
  clear OW0
  have OW0 := OW0'
  clear OW0'
  clear OW1
  have OW1 := OW1'
  clear OW1'
  clear OG1
  have OG1 := OG1'
  clear OG1'
  clear OG0
  have OG0 := Lib.hid hoG0
  clear hoG0 hg B4
  go_wp2_with fail
  refine (markBoolS_any _ _ (setsB s m a) (1 + (n0 : Int)) _ OG1.out (by omega) (by rw [hn1]; omega)).mono ?_
  rintro e w6 ⟨rfl, hoG1, hg⟩
  have B6 := nxtG B5 hg FG1.out
  have OW0' := Lib.hid (OW0.out.grown hg HNW0_G1.out)
  have OW1' := Lib.hid (OW1.out.grown hg HNW1_G1.out)
  have OG0' := Lib.hid (OG0.out.grown hg HNG0_G1.out)
  clear OW0
  have OW0 := OW0'
  clear OW0'
  clear OW1
  have OW1 := OW1'
  clear OW1'
  clear OG0
  have OG0 := OG0'
  clear OG0'
  clear OG1
  have OG1 := Lib.hid hoG1
  clear hoG1 hg B5
  go_wp2_with fail
  refine (heldBoolS_any _ (setsA s m a).length (1) _ OG0.out.bools (by omega) (by rw [hn0]; omega)).mono ?_
  rintro e w7 ⟨rfl, hb⟩
  have B7 := nxt B6 hb
  have OW0' := Lib.hid (OW0.out.mono hb)
  have OW1' := Lib.hid (OW1.out.mono hb)
  have OG0' := Lib.hid (OG0.out.mono hb)
  have OG1' := Lib.hid (OG1.out.mono hb)
  clear OW0
  have OW0 := OW0'
  clear OW0'
  clear OW1
  have OW1 := OW1'
  clear OW1'
  clear OG0
  have OG0 := OG0'
  clear OG0'
  clear OG1
  have OG1 := OG1'
  clear OG1'
  clear hb B6
  go_wp2_with fail
  refine (heldBoolS_any _ (setsB s m a).length (1 + (n0 : Int)) _ OG1.out.bools (by omega) (by rw [hn1]; omega)).mono ?_
  rintro e w8 ⟨rfl, hb⟩
  have B8 := nxt B7 hb
  have OW0' := Lib.hid (OW0.out.mono hb)
  have OW1' := Lib.hid (OW1.out.mono hb)
  have OG0' := Lib.hid (OG0.out.mono hb)
  have OG1' := Lib.hid (OG1.out.mono hb)
  clear OW0
  have OW0 := OW0'
  clear OW0'
  clear OW1
  have OW1 := OW1'
  clear OW1'
  clear OG0
  have OG0 := OG0'
  clear OG0'
  clear OG1
  have OG1 := OG1'
  clear OG1'
  clear hb B7
  go_wp2_with fail
  refine (impl_LookupSets_own s m a _ ).mono ?_
  rintro e w9 ⟨vH0, vH1, bH0, bH1, rfl, hoH0, hfH0, hoH1, hfH1, hapH0, hb⟩
  have NW0_H0 : ∀ g, bW0 = some g → bH0 ≠ some g := fun g h1 h2 => by have := OW0.out.lt g h1; have := hfH0 g h2; omega
  have HNW0_H0 := Lib.hid NW0_H0
  clear NW0_H0
  have NW1_H0 : ∀ g, bW1 = some g → bH0 ≠ some g := fun g h1 h2 => by have := OW1.out.lt g h1; have := hfH0 g h2; omega
  have HNW1_H0 := Lib.hid NW1_H0
  clear NW1_H0
  have NG0_H0 : ∀ g, bG0 = some g → bH0 ≠ some g := fun g h1 h2 => by have := OG0.out.lt g h1; have := hfH0 g h2; omega
  have HNG0_H0 := Lib.hid NG0_H0
  clear NG0_H0
  have NG1_H0 : ∀ g, bG1 = some g → bH0 ≠ some g := fun g h1 h2 => by have := OG1.out.lt g h1; have := hfH0 g h2; omega
  have HNG1_H0 := Lib.hid NG1_H0
  clear NG1_H0
  have NW0_H1 : ∀ g, bW0 = some g → bH1 ≠ some g := fun g h1 h2 => by have := OW0.out.lt g h1; have := hfH1 g h2; omega
  have HNW0_H1 := Lib.hid NW0_H1
  clear NW0_H1
  have NW1_H1 : ∀ g, bW1 = some g → bH1 ≠ some g := fun g h1 h2 => by have := OW1.out.lt g h1; have := hfH1 g h2; omega
  have HNW1_H1 := Lib.hid NW1_H1
  clear NW1_H1
  have NG0_H1 : ∀ g, bG0 = some g → bH1 ≠ some g := fun g h1 h2 => by have := OG0.out.lt g h1; have := hfH1 g h2; omega
  have HNG0_H1 := Lib.hid NG0_H1
  clear NG0_H1
  have NG1_H1 : ∀ g, bG1 = some g → bH1 ≠ some g := fun g h1 h2 => by have := OG1.out.lt g h1; have := hfH1 g h2; omega
  have HNG1_H1 := Lib.hid NG1_H1
  clear NG1_H1
  have HNH0_H1 := Lib.hid hapH0
  clear hapH0
  have FH0 := Lib.hid (From.up B8 hfH0)
  have OH0 := Lib.hid hoH0
  clear hfH0 hoH0
  have FH1 := Lib.hid (From.up B8 hfH1)
  have OH1 := Lib.hid hoH1
  clear hfH1 hoH1
  have B9 := nxt B8 hb
  have OW0' := Lib.hid (OW0.out.mono hb)
  have OW1' := Lib.hid (OW1.out.mono hb)
  have OG0' := Lib.hid (OG0.out.mono hb)
  have OG1' := Lib.hid (OG1.out.mono hb)
  clear OW0
  have OW0 := OW0'
  clear OW0'
  clear OW1
  have OW1 := OW1'
  clear OW1'
  clear OG0
  have OG0 := OG0'
  clear OG0'
  clear OG1
  have OG1 := OG1'
  clear OG1'
  clear hb B8
  go_wp2_with fail
  refine (eqBoolS_same _ _ (setsA s m a) _ OH0.out.bools OW0.out.bools).mono ?_
  rintro e w10 ⟨rfl, hb⟩
  have B10 := nxt B9 hb
  have OW0' := Lib.hid (OW0.out.mono hb)
  have OW1' := Lib.hid (OW1.out.mono hb)
  have OG0' := Lib.hid (OG0.out.mono hb)
  have OG1' := Lib.hid (OG1.out.mono hb)
  have OH0' := Lib.hid (OH0.out.mono hb)
  have OH1' := Lib.hid (OH1.out.mono hb)
  clear OW0
  have OW0 := OW0'
  clear OW0'
  clear OW1
  have OW1 := OW1'
  clear OW1'
  clear OG0
  have OG0 := OG0'
  clear OG0'
  clear OG1
  have OG1 := OG1'
  clear OG1'
  clear OH0
  have OH0 := OH0'
  clear OH0'
  clear OH1
  have OH1 := OH1'
  clear OH1'
  clear hb B9
  go_wp2_with fail
  refine (eqBoolS_same _ _ (setsB s m a) _ OH1.out.bools OW1.out.bools).mono ?_
  rintro e w11 ⟨rfl, hb⟩
  have B11 := nxt B10 hb
  have OW0' := Lib.hid (OW0.out.mono hb)
  have OW1' := Lib.hid (OW1.out.mono hb)
  have OG0' := Lib.hid (OG0.out.mono hb)
  have OG1' := Lib.hid (OG1.out.mono hb)
  have OH0' := Lib.hid (OH0.out.mono hb)
  have OH1' := Lib.hid (OH1.out.mono hb)
  clear OW0
  have OW0 := OW0'
  clear OW0'
  clear OW1
  have OW1 := OW1'
  clear OW1'
  clear OG0
  have OG0 := OG0'
  clear OG0'
  clear OG1
  have OG1 := OG1'
  clear OG1'
  clear OH0
  have OH0 := OH0'
  clear OH0'
  clear OH1
  have OH1 := OH1'
  clear OH1'
  clear hb B10
  go_wp2_with fail
  refine (heldBoolS_any _ (setsA s m a).length (1) _ OG0.out.bools (by omega) (by rw [hn0]; omega)).mono ?_
  rintro e w12 ⟨rfl, hb⟩
  have B12 := nxt B11 hb
  have OW0' := Lib.hid (OW0.out.mono hb)
  have OW1' := Lib.hid (OW1.out.mono hb)
  have OG0' := Lib.hid (OG0.out.mono hb)
  have OG1' := Lib.hid (OG1.out.mono hb)
  have OH0' := Lib.hid (OH0.out.mono hb)
  have OH1' := Lib.hid (OH1.out.mono hb)
  clear OW0
  have OW0 := OW0'
  clear OW0'
  clear OW1
  have OW1 := OW1'
  clear OW1'
  clear OG0
  have OG0 := OG0'
  clear OG0'
  clear OG1
  have OG1 := OG1'
  clear OG1'
  clear OH0
  have OH0 := OH0'
  clear OH0'
  clear OH1
  have OH1 := OH1'
  clear OH1'
  clear hb B11
  go_wp2_with fail
  refine (heldBoolS_any _ (setsB s m a).length (1 + (n0 : Int)) _ OG1.out.bools (by omega) (by rw [hn1]; omega)).mono ?_
  rintro e w13 ⟨rfl, hb⟩
  have B13 := nxt B12 hb
  have OW0' := Lib.hid (OW0.out.mono hb)
  have OW1' := Lib.hid (OW1.out.mono hb)
  have OG0' := Lib.hid (OG0.out.mono hb)
  have OG1' := Lib.hid (OG1.out.mono hb)
  have OH0' := Lib.hid (OH0.out.mono hb)
  have OH1' := Lib.hid (OH1.out.mono hb)
  clear OW0
  have OW0 := OW0'
  clear OW0'
  clear OW1
  have OW1 := OW1'
  clear OW1'
  clear OG0
  have OG0 := OG0'
  clear OG0'
  clear OG1
  have OG1 := OG1'
  clear OG1'
  clear OH0
  have OH0 := OH0'
  clear OH0'
  clear OH1
  have OH1 := OH1'
  clear OH1'
  clear hb B12
  go_wp2
  go_ret
  exact ⟨rfl, B13.out⟩
end Go.Proofs.Ytgapjgmkkmdadaa
