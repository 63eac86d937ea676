/- the walk of FnExactFillBins -/
import Derived.Test.YtkekacnnjmbelaaFillC
import Derived.Test.YtkekacnnjmbelaaInts
import Derived.Test.YtkekacnnjmbelaaMem
namespace Go.Proofs.Ytkekacnnjmbelaa
open Go.RowKit
set_option maxHeartbeats 1000000 in
theorem walk_FnExactFillBins (w : World) (vxs : Value) (xs : List Int) (hxs : Ints w vxs xs) (fxs : FitL xs) (vbs : Value) (bs : List Int) (hbs : Ints w vbs bs) (fbs : FitL bs) (m : Int) (hm : Fit m) (r : Int) (hr : Fit r) :
    Calls Try.prog 7 #[vxs, vbs, .int .i64 m, .int .i64 r] w fun e w' => e = .returned (.bool true) ∧ Below w.heap.size w w' := by
  have Hxs := Lib.hid hxs
  have Hbs := Lib.hid hbs
  obtain ⟨adx, cx, hvx, hmx, _⟩ := hxs.open
  obtain ⟨adb, cb, hvb, hmb, _⟩ := hbs.open
  subst hvx hvb
  unfold maxLen at hmx hmb
  clear hxs hbs fxs fbs hm hr
  by_cases hb1 : 1048576 < xs.length
  · go_enter Try.func7, Try.ntmps7
    go_wp2
    go_ret
    exact ⟨rfl, Below.refl _ _⟩
  by_cases hb2 : 1048576 < bs.length
  · go_enter Try.func7, Try.ntmps7
    go_wp2
    go_ret
    exact ⟨rfl, Below.refl _ _⟩
  obtain ⟨t, ht⟩ : ∃ t, fillB xs bs m r = t := ⟨_, rfl⟩
  obtain ⟨n, hn⟩ : ∃ n, fillN xs bs m r = n := ⟨_, rfl⟩
  obtain ⟨f, hf⟩ : ∃ f, fillF xs bs r = f := ⟨_, rfl⟩
  have hn8 : n ≤ 8 := by rw [← hn]; exact fillN_le _ _ _ _
  have hpre : preL f n ≤ n * 16 := preL_bound f 16 n (by rw [← hn, ← hf]; exact fillF_le)
  have HT := Lib.hid ht
  have HN := Lib.hid hn
  have HF := Lib.hid hf
  have htt : (t != t) = false := by simp
  obtain ⟨L, hL⟩ : ∃ L, preL f n = L := ⟨_, rfl⟩
  rw [hL] at hpre
  have HL := Lib.hid hL
  have q1 : decide ((1 + (xs.length : Int)) < 0) = false := by simp; omega
  have q2 : decide ((1 + (xs.length : Int) + (bs.length : Int)) < 0) = false := by simp; omega
  have q3 : decide ((1 + (L : Int)) < 0) = false := by simp; omega
  have q4 : ((1 + (L : Int)) != (1 + (L : Int))) = false := by simp
  clear ht hn hf hL
  have B0 := Lib.hid (Below.refl w.heap.size w)
  go_enter Try.func7, Try.ntmps7
  go_wp2_with fail
  refine (toIntS_own _ xs _ (Hxs.out.mono B0.out (Nat.le_refl _)) (by omega)).mono ?_
  rintro e w1 ⟨vsx, bsx, rfl, ho, hfsx, hb⟩
  have B1 := nxt B0 hb
  clear hb B0
  have Osx := Lib.hid ho
  clear ho
  clear hfsx
  go_wp2_with fail
  refine (toIntS_own _ bs _ (Hbs.out.mono B1.out (Nat.le_refl _)) (by omega)).mono ?_
  rintro e w2 ⟨vsb, bsb, rfl, ho, hfsb, hb⟩
  have B2 := nxt B1 hb
  have Osx' := Lib.hid (Osx.out.mono hb)
  clear Osx
  have Osx := Osx'
  clear Osx'
  clear hb B1
  have Osb := Lib.hid ho
  clear ho
  clear hfsb
  go_wp2_with fail
  refine (spec_FillBins _ xs _ bs m r _ Osx.out.ints Osb.out.ints).mono ?_
  rw [HT.out, HN.out, HF.out]
  rintro e w3 ⟨vW, rfl, hoW, hb⟩
  clear Osx
  clear Osb
  have B3 := nxt B2 hb
  clear hb B2
  have OW := Lib.hid hoW
  clear hoW
  have S3 := Lib.hid (Below.refl w3.heap.size w3)
  have HWW : Hid (w.heap.size ≤ w3.heap.size) := B3.out.size
  go_wp2_with fail
  refine (toIntS_own _ xs _ (Hxs.out.mono B3.out (Nat.le_refl _)) (by omega)).mono ?_
  rintro e w4 ⟨vx, bx, rfl, ho, hfx, hb⟩
  have B4 := nxt B3 hb
  have S4 := nxt S3 hb
  clear hb B3 S3
  have Ox := Lib.hid ho
  clear ho
  have Fx := Lib.hid hfx
  have Lxx : Hid (∀ g, bx = some g → g < w4.heap.size) := Ox.out.lt
  have S4x : Hid (w3.heap.size ≤ w4.heap.size) := S4.out.size
  clear hfx
  go_wp2_with fail
  refine (toIntS_own _ bs _ (Hbs.out.mono B4.out (Nat.le_refl _)) (by omega)).mono ?_
  rintro e w5 ⟨vy, by0, rfl, ho, hfy, hb⟩
  have B5 := nxt B4 hb
  have S5 := nxt S4 hb
  have Ox' := Lib.hid (Ox.out.mono hb)
  clear Ox
  have Ox := Ox'
  clear Ox'
  clear hb B4 S4
  have Oy := Lib.hid ho
  clear ho
  have Nxy : Hid (∀ g, by0 = some g → bx ≠ some g) := fun g h1 h2 => by have := hfy g h1; have := Lxx.out g h2; omega
  have Fy : Hid (From w3.heap.size by0) := fun g h => Nat.le_trans S4x.out (hfy g h)
  clear hfy
  go_wp2_with fail
  refine (impl_FillBins _ xs _ bs m r _ Ox.out.ints Oy.out.ints).mono ?_
  rw [HT.out, HN.out, HF.out]
  rintro e w6 ⟨vG, rfl, hoG, hb⟩
  have HBW : Hid (w.heap.size ≤ w5.heap.size) := B5.out.size
  have HBS : Hid (w3.heap.size ≤ w5.heap.size) := S5.out.size
  have LWx : Hid (w.heap.size ≤ w3.heap.size ∧ ∀ g, bx = some g → w3.heap.size ≤ g) := ⟨HWW.out, Fx.out⟩
  have LWy : Hid (w.heap.size ≤ w3.heap.size ∧ ∀ g, by0 = some g → w3.heap.size ≤ g) := ⟨HWW.out, Fy.out⟩
  have Z6 : Hid (w5.heap.size ≤ w6.heap.size) := hb.size
  have Lx := Lib.hid Ox.out.lt
  have Ly := Lib.hid Oy.out.lt
  have B6 := nxt B5 hb
  have S6 := nxt S5 hb
  have Ox' := Lib.hid (Ox.out.mono hb)
  have Oy' := Lib.hid (Oy.out.mono hb)
  clear Ox
  have Ox := Ox'
  clear Ox'
  clear Oy
  have Oy := Oy'
  clear Oy'
  clear hb B5 S5
  have OG := Lib.hid hoG
  clear hoG
  go_wp2_with fail
  refine (eqIntSS_same _ _ n f _ OG.out.view (OW.out.mono S6.out (Nat.le_refl _))).mono ?_
  rintro e w7 ⟨rfl, hb⟩
  have B7 := nxt B6 hb
  have S7 := nxt S6 hb
  have Z7 : Hid (w5.heap.size ≤ w7.heap.size) := Nat.le_trans Z6.out hb.size
  clear Z6
  have Ox' := Lib.hid (Ox.out.mono hb)
  have Oy' := Lib.hid (Oy.out.mono hb)
  have OG' := Lib.hid (OG.out.mono hb)
  clear Ox
  have Ox := Ox'
  clear Ox'
  clear Oy
  have Oy := Oy'
  clear Oy'
  clear OG
  have OG := OG'
  clear OG'
  clear hb B6 S6
  go_wp2_with fail
  refine (toIntS_own _ xs _ (Hxs.out.mono B7.out (Nat.le_refl _)) (by omega)).mono ?_
  rintro e w8 ⟨vzx, bzx, rfl, ho, hfzx, hb⟩
  have B8 := nxt B7 hb
  have S8 := nxt S7 hb
  have Z8 : Hid (w5.heap.size ≤ w8.heap.size) := Nat.le_trans Z7.out hb.size
  clear Z7
  have Ox' := Lib.hid (Ox.out.mono hb)
  have Oy' := Lib.hid (Oy.out.mono hb)
  have OG' := Lib.hid (OG.out.mono hb)
  clear Ox
  have Ox := Ox'
  clear Ox'
  clear Oy
  have Oy := Oy'
  clear Oy'
  clear OG
  have OG := OG'
  clear OG'
  clear hb B7 S7
  have Ozx := Lib.hid ho
  clear ho
  clear hfzx
  go_wp2_with fail
  refine (eqIntS_same _ _ xs _ Ox.out.ints Ozx.out.ints).mono ?_
  rintro e w9 ⟨rfl, hb⟩
  clear Ozx
  have B9 := nxt B8 hb
  have S9 := nxt S8 hb
  have Z9 : Hid (w5.heap.size ≤ w9.heap.size) := Nat.le_trans Z8.out hb.size
  clear Z8
  have Ox' := Lib.hid (Ox.out.mono hb)
  have Oy' := Lib.hid (Oy.out.mono hb)
  have OG' := Lib.hid (OG.out.mono hb)
  clear Ox
  have Ox := Ox'
  clear Ox'
  clear Oy
  have Oy := Oy'
  clear Oy'
  clear OG
  have OG := OG'
  clear OG'
  clear hb B8 S8
  go_wp2_with fail
  refine (toIntS_own _ bs _ (Hbs.out.mono B9.out (Nat.le_refl _)) (by omega)).mono ?_
  rintro e w10 ⟨vzy, bzy, rfl, ho, hfzy, hb⟩
  have B10 := nxt B9 hb
  have S10 := nxt S9 hb
  have Z10 : Hid (w5.heap.size ≤ w10.heap.size) := Nat.le_trans Z9.out hb.size
  clear Z9
  have Ox' := Lib.hid (Ox.out.mono hb)
  have Oy' := Lib.hid (Oy.out.mono hb)
  have OG' := Lib.hid (OG.out.mono hb)
  clear Ox
  have Ox := Ox'
  clear Ox'
  clear Oy
  have Oy := Oy'
  clear Oy'
  clear OG
  have OG := OG'
  clear OG'
  clear hb B9 S9
  have Ozy := Lib.hid ho
  clear ho
  clear hfzy
  go_wp2_with fail
  refine (eqIntS_same _ _ bs _ Oy.out.ints Ozy.out.ints).mono ?_
  rintro e w11 ⟨rfl, hb⟩
  clear Ozy
  have B11 := nxt B10 hb
  have S11 := nxt S10 hb
  have Z11 : Hid (w5.heap.size ≤ w11.heap.size) := Nat.le_trans Z10.out hb.size
  clear Z10
  have Ox' := Lib.hid (Ox.out.mono hb)
  have Oy' := Lib.hid (Oy.out.mono hb)
  have OG' := Lib.hid (OG.out.mono hb)
  clear Ox
  have Ox := Ox'
  clear Ox'
  clear Oy
  have Oy := Oy'
  clear Oy'
  clear OG
  have OG := OG'
  clear OG'
  clear hb B10 S10
  go_wp2_with fail
  refine (markIntS_any _ _ xs (1) _ Ox.out (by omega) (by omega)).mono ?_
  rintro e w12 ⟨rfl, -, hg⟩
  have B12 := nxtG B11 hg (fun g h => Nat.le_trans LWx.out.1 (LWx.out.2 g h))
  have S12 := nxtG S11 hg LWx.out.2
  have Z12 : Hid (w5.heap.size ≤ w12.heap.size) := Nat.le_trans Z11.out hg.size
  clear Z11
  have OG' := Lib.hid (OG.out.grown hg Lx.out)
  have Oy' := Lib.hid (Oy.out.grown hg Nxy.out)
  clear OG
  have OG := OG'
  clear OG'
  clear Oy
  have Oy := Oy'
  clear Oy'
  clear Ox hg B11 S11
  go_wp2_with fail
  refine (markIntS_any _ _ bs (1 + (xs.length : Int)) _ Oy.out (by omega) (by omega)).mono ?_
  rintro e w13 ⟨rfl, -, hg⟩
  have B13 := nxtG B12 hg (fun g h => Nat.le_trans LWy.out.1 (LWy.out.2 g h))
  have S13 := nxtG S12 hg LWy.out.2
  have Z13 : Hid (w5.heap.size ≤ w13.heap.size) := Nat.le_trans Z12.out hg.size
  clear Z12
  have OG' := Lib.hid (OG.out.grown hg Ly.out)
  clear OG
  have OG := OG'
  clear OG'
  clear Oy hg B12 S12
  go_wp2_with fail
  refine (eqIntSS_same _ _ n f _ OG.out.view (OW.out.mono S13.out (Nat.le_refl _))).mono ?_
  rintro e w14 ⟨rfl, hb⟩
  have B14 := nxt B13 hb
  have S14 := nxt S13 hb
  have Z14 : Hid (w5.heap.size ≤ w14.heap.size) := Nat.le_trans Z13.out hb.size
  clear Z13
  have OG' := Lib.hid (OG.out.mono hb)
  clear OG
  have OG := OG'
  clear OG'
  clear hb B13 S13
  go_wp2_with fail
  refine (markIntSS_any _ _ n f 1 _ OG.out Z14.out (by omega) (by rw [HL.out]; omega)).mono ?_
  rw [HL.out]
  rintro e w15 ⟨rfl, ho, hb⟩
  have B15 : Hid (Below w.heap.size w w15) := B14.out.trans (hb.mono HBW.out)
  have S15 : Hid (Below w3.heap.size w3 w15) := S14.out.trans (hb.mono HBS.out)
  have Z15 : Hid (w5.heap.size ≤ w15.heap.size) := Nat.le_trans Z14.out hb.size
  clear Z14
  clear OG hb B14 S14
  have OG := Lib.hid ho
  clear ho
  go_wp2_with fail
  refine (heldIntSS_any _ n f 1 _ OG.out.view (by omega) (by rw [HL.out]; omega)).mono ?_
  rw [HL.out]
  rintro e w16 ⟨rfl, hb⟩
  have B16 := nxt B15 hb
  have S16 := nxt S15 hb
  have Z16 : Hid (w5.heap.size ≤ w16.heap.size) := Nat.le_trans Z15.out hb.size
  clear Z15
  have OG' := Lib.hid (OG.out.mono hb)
  clear OG
  have OG := OG'
  clear OG'
  clear hb B15 S15
  go_wp2_with fail
  refine (toIntS_own _ xs _ (Hxs.out.mono B16.out (Nat.le_refl _)) (by omega)).mono ?_
  rintro e w17 ⟨vux, bux, rfl, ho, hfux, hb⟩
  have B17 := nxt B16 hb
  have S17 := nxt S16 hb
  have Z17 : Hid (w5.heap.size ≤ w17.heap.size) := Nat.le_trans Z16.out hb.size
  clear Z16
  have OG' := Lib.hid (OG.out.mono hb)
  clear OG
  have OG := OG'
  clear OG'
  clear hb B16 S16
  have Oux := Lib.hid ho
  clear ho
  clear hfux
  go_wp2_with fail
  refine (toIntS_own _ bs _ (Hbs.out.mono B17.out (Nat.le_refl _)) (by omega)).mono ?_
  rintro e w18 ⟨vuy, buy, rfl, ho, hfuy, hb⟩
  have B18 := nxt B17 hb
  have S18 := nxt S17 hb
  have Z18 : Hid (w5.heap.size ≤ w18.heap.size) := Nat.le_trans Z17.out hb.size
  clear Z17
  have OG' := Lib.hid (OG.out.mono hb)
  have Oux' := Lib.hid (Oux.out.mono hb)
  clear OG
  have OG := OG'
  clear OG'
  clear Oux
  have Oux := Oux'
  clear Oux'
  clear hb B17 S17
  have Ouy := Lib.hid ho
  clear ho
  clear hfuy
  go_wp2_with fail
  refine (impl_FillBins _ xs _ bs m r _ Oux.out.ints Ouy.out.ints).mono ?_
  rw [HT.out, HN.out, HF.out]
  rintro e w19 ⟨vH, rfl, hoH, hb⟩
  clear Oux
  clear Ouy
  have B19 := nxt B18 hb
  have S19 := nxt S18 hb
  have Z19 : Hid (w5.heap.size ≤ w19.heap.size) := Nat.le_trans Z18.out hb.size
  clear Z18
  have OG' := Lib.hid (OG.out.mono hb)
  clear OG
  have OG := OG'
  clear OG'
  clear hb B18 S18
  have OH := Lib.hid hoH
  clear hoH
  go_wp2_with fail
  refine (eqIntSS_same _ _ n f _ OH.out.view (OW.out.mono S19.out (Nat.le_refl _))).mono ?_
  rintro e w20 ⟨rfl, hb⟩
  have B20 := nxt B19 hb
  have S20 := nxt S19 hb
  have Z20 : Hid (w5.heap.size ≤ w20.heap.size) := Nat.le_trans Z19.out hb.size
  clear Z19
  have OG' := Lib.hid (OG.out.mono hb)
  have OH' := Lib.hid (OH.out.mono hb)
  clear OG
  have OG := OG'
  clear OG'
  clear OH
  have OH := OH'
  clear OH'
  clear hb B19 S19
  go_wp2_with fail
  refine (heldIntSS_any _ n f 1 _ OG.out.view (by omega) (by rw [HL.out]; omega)).mono ?_
  rw [HL.out]
  rintro e w21 ⟨rfl, hb⟩
  have B21 := nxt B20 hb
  have S21 := nxt S20 hb
  have Z21 : Hid (w5.heap.size ≤ w21.heap.size) := Nat.le_trans Z20.out hb.size
  clear Z20
  have OG' := Lib.hid (OG.out.mono hb)
  have OH' := Lib.hid (OH.out.mono hb)
  clear OG
  have OG := OG'
  clear OG'
  clear OH
  have OH := OH'
  clear OH'
  clear hb B20 S20
  go_wp2
  go_ret
  exact ⟨rfl, B21.out⟩
end Go.Proofs.Ytkekacnnjmbelaa
