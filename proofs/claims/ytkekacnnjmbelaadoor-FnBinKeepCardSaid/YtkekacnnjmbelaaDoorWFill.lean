/- the walks of FnFillBins and FnBinKeep -/
import Derived.Test.YtkekacnnjmbelaaDoorFillDraw
import Derived.Test.YtkekacnnjmbelaaDoorFillDr
import Derived.Test.YtkekacnnjmbelaaDoorName
namespace Go.Proofs.YtkekacnnjmbelaaDoor
open Go.RowKit
set_option maxHeartbeats 2000000 in
theorem walk0_FnFillBins (w : World) (v : Value) (bs : List Int) (h : Bts w v bs) (hR : Resv w) :
    Calls Tryd.prog 9 #[v] w fun e w' => LawOk w e w' := by
  obtain ⟨ad, c, hv, hm⟩ := bts_lit h
  have H := Lib.hid h
  have HR := Lib.hid hR
  clear h hR
  subst hv
  by_cases hbig : 1048576 < bs.length
  · go_enter Tryd.func9, Tryd.ntmps9
    go_wp2
    go_ret
    exact ⟨rfl, Below.refl _ _⟩
  · go_enter Tryd.func9, Tryd.ntmps9
    go_wp2_with fail
    refine (draw_FillBins _ bs w H.out).mono ?_
    rintro e w1 ⟨u, xs, u2, ns, m, r, rfl, hU, hV, hxl, hnl, m0, m1, r0, r1, hb⟩
    have HU := Lib.hid hU
    have HV := Lib.hid hV
    have B1 := nxt (Lib.hid (Below.refl _ _)) hb
    clear hb H hU hV
    obtain ⟨ad2, c2, hu, _, _⟩ := HU.out.open
    obtain ⟨ad3, c3, hu2, _, _⟩ := HV.out.open
    subst hu hu2
    obtain ⟨M, rfl⟩ := Int.eq_ofNat_of_zero_le (by omega : 0 ≤ m)
    obtain ⟨R, rfl⟩ := Int.eq_ofNat_of_zero_le r0
    obtain ⟨t, ht⟩ : ∃ t, fillB xs ns M R = t := ⟨_, rfl⟩
    obtain ⟨n, hn⟩ : ∃ n, fillN xs ns M R = n := ⟨_, rfl⟩
    obtain ⟨f, hf⟩ : ∃ f, fillF xs ns R = f := ⟨_, rfl⟩
    have HT := Lib.hid ht
    have HN := Lib.hid hn
    have HF := Lib.hid hf
    have htt : (t != t) = false := by simp
    clear ht hn hf
    go_wp2_with fail
    refine (impl_FillBins _ xs _ ns M R _ HU.out HV.out).mono ?_
    rw [HT.out, HN.out, HF.out]
    rintro e w2 ⟨x, rfl, hg, hb⟩
    have HX2 := Lib.hid hg.view
    have HU2 := Lib.hid (HU.out.mono hb (Nat.le_refl _))
    have HV2 := Lib.hid (HV.out.mono hb (Nat.le_refl _))
    have B2 := nxt B1 hb
    clear hg hb B1 HU HV
    go_wp2_with fail
    refine (spec_FillBins _ xs _ ns M R _ HU2.out HV2.out).mono ?_
    rw [HT.out, HN.out, HF.out]
    rintro e w3 ⟨y, rfl, hg, hb⟩
    have HX3 := Lib.hid (HX2.out.mono hb (Nat.le_refl _))
    have HY3 := Lib.hid hg
    have HV3 := Lib.hid (HV2.out.mono hb (Nat.le_refl _))
    have B3 := nxt B2 hb
    clear hg hb B2 HU2 HV2 HX2
    go_wp2_with fail
    refine (sameRows_same _ _ n f _ HX3.out HY3.out).mono ?_
    rintro e w4 ⟨rfl, hb⟩
    have HX4 := Lib.hid (HX3.out.mono hb (Nat.le_refl _))
    have HV4 := Lib.hid (HV3.out.mono hb (Nat.le_refl _))
    have B4 := nxt B3 hb
    clear hb B3 HV3 HX3 HY3
    obtain ⟨ls, hls⟩ : ∃ ls, loadsV ns M = ls := ⟨_, rfl⟩
    have HLS := Lib.hid hls
    clear hls
    go_wp2_with fail
    refine (impl_BinLoads _ ns M _ HV4.out).mono ?_
    rw [HLS.out]
    rintro e w5 ⟨z, rfl, hg, hb⟩
    have HX5 := Lib.hid (HX4.out.mono hb (Nat.le_refl _))
    have HZ5 : Hid (Ints w5 z ls) := Gr.ints hg rfl
    have B5 := nxt B4 hb
    have HR5 := Lib.hid (HR.out.mono B5.out (Nat.le_refl _))
    clear hg hb B4 HV4 HX4 HR
    obtain ⟨ad5, c5, hx5, _, hop⟩ := HX5.out.open
    obtain ⟨ad6, c6, hz5, _, hop2⟩ := HZ5.out.open
    have HOP := Lib.hid hop
    have HOP2 := Lib.hid hop2
    clear hop hop2
    cases t
    · have hn0 : n = 0 := by rw [← HN.out]; unfold fillN; rw [HT.out]; rfl
      rw [hn0] at hx5
      subst hx5 hz5
      clear hn0
      go_wp2_with (go_at_call 14; refine (alive_any _ HR5.out).mono ?_; rintro e w' ⟨rfl, rfl⟩)
      go_ret
      exact ⟨rfl, B5.out⟩
    · obtain ⟨g1, g2, g3, g4, g5, g6, g7, g8, g9, -⟩ := fill_good HT.out
      rw [HN.out] at g5
      rw [HLS.out] at g6
      rw [HF.out] at g7 g8 g9
      have hl6 : ls.length = M := by rw [g6, tab_length]
      rw [g5] at hx5
      rw [hl6] at hz5
      subst hx5 hz5
      have HG5 := Lib.hid g5
      have HG6 := Lib.hid g6
      have HG7 := Lib.hid g7
      have HG8 := Lib.hid g8
      have HG9 := Lib.hid g9
      have HL6 := Lib.hid hl6
      clear g1 g5 g6 g7 g8 g9 hl6 HF
      go_wp2
      go_loop [12] (fun i => ∃ k : Nat, k ≤ M ∧ i = .int .i64 k) (fun i => M - (intOf i).toNat)
      case atStart => exact ⟨0, Nat.zero_le _, rfl⟩
      case round =>
        obtain ⟨k, hk, rfl⟩ := hrel
        by_cases hlt : k < M
        · obtain ⟨b, off, rfl, hcell⟩ := HOP.out k (by rw [HG5.out]; exact hlt)
          obtain ⟨a', c', h1, h2⟩ := hcell k (by rw [HG5.out]; exact hlt)
          obtain ⟨e1, e2, e3⟩ := HG7.out k hlt
          rw [e1] at h1
          have HI := Lib.hid h2
          obtain ⟨L, hL⟩ : ∃ L, (binL xs ns k xs.length).length = L := ⟨_, rfl⟩
          rw [hL] at e2 e3
          have HK8 : Hid (∀ j, j < R → j < L → 0 ≤ (f k)[j]?.getD 0) := fun j h1 h2 => HG8.out k j hlt h1 (by rw [hL]; exact h2)
          have HK9 : Hid (∀ j, j < R → ¬ j < L → (f k)[j]?.getD 0 = -1) := fun j h1 h2 => HG9.out k j hlt h1 (by rw [hL]; exact h2)
          obtain ⟨b2, off2, rfl, hcell2⟩ := HOP2.out k (by rw [HL6.out]; exact hlt)
          have hc2 := hcell2 k (by rw [HL6.out]; exact hlt)
          have hx2 : iv ls k = .int .i64 (L : Int) := by rw [HG6.out, iv_tab _ hlt, e3]
          rw [hx2] at hc2
          have HE1 := Lib.hid e1
          clear hcell hcell2 hx2 hL e1 e3 h2
          go_wp2
          go_loop [13, 14] (fun x i => ∃ j : Nat, j ≤ R ∧ i = .int .i64 j ∧ x = .int .i64 (min j L : Nat)) (fun _ i => R - (intOf i).toNat)
          case atStart => exact ⟨0, Nat.zero_le _, rfl, by simp⟩
          case round =>
            obtain ⟨j, hj, rfl, rfl⟩ := hrel
            by_cases hltj : j < R
            · obtain ⟨ad7, c7, hv7, _, hop7⟩ := HI.out.open
              cases hv7
              obtain ⟨b3, off3, rfl, hcell3⟩ := hop7 j (by rw [HE1.out]; exact hltj)
              have hc3 := hcell3 j (by rw [HE1.out]; exact hltj)
              obtain ⟨y, hy⟩ : ∃ y, (f k)[j]?.getD 0 = y := ⟨_, rfl⟩
              have hx3 : iv (f k) j = .int .i64 y := by rw [iv, hy]
              rw [hx3] at hc3
              by_cases hjL : j < L
              · have hy0 := HK8.out j hltj hjL
                rw [hy] at hy0
                have e4 : min j L = j := by omega
                have HE4 : Hid (min (j + 1) L = j + 1) := by unfold Hid; omega
                rw [e4]
                clear hop7 hcell3 hx3 hy e4
                go_wp2
                go_round
                case rel => exact ⟨j + 1, hltj, by go_num, by rw [HE4.out]; go_num⟩
                case measure => simp [intOf]; omega
              · have hy0 := HK9.out j hltj hjL
                rw [hy] at hy0
                subst hy0
                have e4 : min j L = L := by omega
                have HE4 : Hid (min (j + 1) L = L) := by unfold Hid; omega
                rw [e4]
                clear hop7 hcell3 hx3 hy e4
                go_wp2
                go_round
                case rel => exact ⟨j + 1, hltj, by go_num, by rw [HE4.out]⟩
                case measure => simp [intOf]; omega
            · obtain rfl : j = R := by omega
              have e4 : min j L = L := by omega
              rw [e4]
              have hjj : ((j : Int) != (j : Int)) = false := by simp
              have hLL : ((L : Int) != (L : Int)) = false := by simp
              clear e4
              go_wp2
              go_round
              case rel => exact ⟨k + 1, hlt, by go_num⟩
              case measure => simp [intOf]; omega
        · obtain rfl : k = M := by omega
          go_wp2
          go_ret
          exact ⟨rfl, B5.out⟩
theorem walk_FnFillBins (w : World) (v : Value) (bs : List Int) (h : View w 1 v bs.length (bs.map (Value.int .u8)) ∧ ∀ b ∈ bs, 0 ≤ b ∧ b ≤ 255) (hR : Resv w) :
    Calls Tryd.prog 9 #[v] w fun e w' => e = .returned (.bool true) ∧ Below w.heap.size w w' := walk0_FnFillBins w v bs h hR
theorem any_take {l : List Int} {y : Int} {j : Nat} (h : j < l.length) : (l.take (j + 1)).any (· == y) = ((l.take j).any (· == y) || (l[j]?.getD 0 == y)) := by
  rw [List.take_succ_eq_append_getElem h, List.any_append, List.getElem?_eq_getElem h]; simp only [List.any_cons, List.any_nil, Bool.or_false, Option.getD_some]
set_option maxHeartbeats 2000000 in
theorem walk0_FnBinKeep (w : World) (v : Value) (bs : List Int) (h : Bts w v bs) (hR : Resv w) :
    Calls Tryd.prog 8 #[v] w fun e w' => LawOk w e w' := by
  obtain ⟨ad, c, hv, hm⟩ := bts_lit h
  have H := Lib.hid h
  have HR := Lib.hid hR
  clear h hR
  subst hv
  by_cases hbig : 1048576 < bs.length
  · go_enter Tryd.func8, Tryd.ntmps8
    go_wp2
    go_ret
    exact ⟨rfl, Below.refl _ _⟩
  · go_enter Tryd.func8, Tryd.ntmps8
    go_wp2_with fail
    refine (draw_FillBins _ bs w H.out).mono ?_
    rintro e w1 ⟨u, xs, u2, ns, m, r, rfl, hU, hV, hxl, hnl, m0, m1, r0, r1, hb⟩
    have HU := Lib.hid hU
    have HV := Lib.hid hV
    have B1 := nxt (Lib.hid (Below.refl _ _)) hb
    clear hb H hU hV
    obtain ⟨ad2, c2, hu, _, _⟩ := HU.out.open
    obtain ⟨ad3, c3, hu2, _, _⟩ := HV.out.open
    subst hu hu2
    obtain ⟨M, rfl⟩ := Int.eq_ofNat_of_zero_le (by omega : 0 ≤ m)
    obtain ⟨R, rfl⟩ := Int.eq_ofNat_of_zero_le r0
    obtain ⟨t, ht⟩ : ∃ t, fillB xs ns M R = t := ⟨_, rfl⟩
    obtain ⟨n, hn⟩ : ∃ n, fillN xs ns M R = n := ⟨_, rfl⟩
    obtain ⟨f, hf⟩ : ∃ f, fillF xs ns R = f := ⟨_, rfl⟩
    have HT := Lib.hid ht
    have HN := Lib.hid hn
    have HF := Lib.hid hf
    have htt : (t != t) = false := by simp
    clear ht hn hf
    go_wp2_with fail
    refine (impl_FillBins _ xs _ ns M R _ HU.out HV.out).mono ?_
    rw [HT.out, HN.out, HF.out]
    rintro e w2 ⟨x, rfl, hg, hb⟩
    have HX2 := Lib.hid hg.view
    have HU2 := Lib.hid (HU.out.mono hb (Nat.le_refl _))
    have HV2 := Lib.hid (HV.out.mono hb (Nat.le_refl _))
    have B2 := nxt B1 hb
    clear hg hb B1 HU HV
    go_wp2_with fail
    refine (spec_FillBins _ xs _ ns M R _ HU2.out HV2.out).mono ?_
    rw [HT.out, HN.out, HF.out]
    rintro e w3 ⟨y, rfl, hg, hb⟩
    have HX3 := Lib.hid (HX2.out.mono hb (Nat.le_refl _))
    have HY3 := Lib.hid hg
    have HU3 := Lib.hid (HU2.out.mono hb (Nat.le_refl _))
    have HV3 := Lib.hid (HV2.out.mono hb (Nat.le_refl _))
    have B3 := nxt B2 hb
    clear hg hb B2 HU2 HV2 HX2
    go_wp2_with fail
    refine (sameRows_same _ _ n f _ HX3.out HY3.out).mono ?_
    rintro e w4 ⟨rfl, hb⟩
    have HX4 := Lib.hid (HX3.out.mono hb (Nat.le_refl _))
    have HU4 := Lib.hid (HU3.out.mono hb (Nat.le_refl _))
    have HV4 := Lib.hid (HV3.out.mono hb (Nat.le_refl _))
    have B4 := nxt B3 hb
    have HR4 := Lib.hid (HR.out.mono B4.out (Nat.le_refl _))
    clear hb B3 HV3 HU3 HX3 HY3 HR
    obtain ⟨ad5, c5, hx5, _, hop⟩ := HX4.out.open
    have HOP := Lib.hid hop
    clear hop
    cases t
    · subst hx5
      go_wp2_with (go_at_call 14; refine (alive_any _ HR4.out).mono ?_; rintro e w' ⟨rfl, rfl⟩)
      go_ret
      exact ⟨rfl, B4.out⟩
    · obtain ⟨g1, g2, g3, g4, g5, -, g7, -, -, g10⟩ := fill_good HT.out
      rw [HN.out] at g5
      rw [HF.out] at g7 g10
      rw [g5] at hx5
      subst hx5
      have HG5 := Lib.hid g5
      have HG7 := Lib.hid g7
      have HG10 := Lib.hid g10
      have hxn : xs.length ≤ ns.length := by omega
      obtain ⟨ad6, c6, hv6, hmx, hopx⟩ := HU4.out.open
      cases hv6
      obtain ⟨ad7, c7, hv7, _, hopn⟩ := HV4.out.open
      cases hv7
      unfold maxLen at hmx
      have HOPX := Lib.hid hopx
      have HOPN := Lib.hid hopn
      clear g1 g5 g7 g10 hopx hopn HF
      go_wp2
      go_loopw [11] (fun i wr => ∃ k : Nat, k ≤ xs.length ∧ i = .int .i64 k ∧ Hid (Below w4.heap.size w4 wr)) (fun i _ => xs.length - (intOf i).toNat)
      case atStart => exact ⟨0, Nat.zero_le _, rfl, Below.refl _ _⟩
      case round =>
        obtain ⟨k, hk, rfl, hB⟩ := hrel
        by_cases hlt : k < xs.length
        · obtain ⟨b, hbk, hbM, hmem⟩ := HG10.out k hlt
          obtain ⟨p1, o1, rfl, hcell1⟩ := HOPX.out k hlt
          have hc1 := hcell1 k hlt
          obtain ⟨y, hy⟩ : ∃ y, xs[k]?.getD 0 = y := ⟨_, rfl⟩
          have hx1 : iv xs k = .int .i64 y := by rw [iv, hy]
          rw [hx1] at hc1
          obtain ⟨p2, o2, rfl, hcell2⟩ := HOPN.out k (by omega)
          have hc2 := hcell2 k (by omega)
          have hx2 : iv ns k = .int .i64 (b : Int) := by rw [iv, hbk]
          rw [hx2] at hc2
          obtain ⟨p3, o3, rfl, hcell3⟩ := HOP.out b (by rw [HG5.out]; exact hbM)
          obtain ⟨a', c', h1, h2⟩ := hcell3 b (by rw [HG5.out]; exact hbM)
          obtain ⟨e1, -, -⟩ := HG7.out b hbM
          rw [e1] at h1
          rw [hy] at hmem
          have HI := Lib.hid h2
          have HE1 := Lib.hid e1
          have HMEM := Lib.hid hmem
          have hc1 := (hB.out.cell (p := ⟨p1, o1 + k, none⟩) (World.block_lt_of_cell? _ _ hc1)).trans hc1
          have hc2 := (hB.out.cell (p := ⟨p2, o2 + k, none⟩) (World.block_lt_of_cell? _ _ hc2)).trans hc2
          have h1 := (hB.out.cell (p := ⟨p3, o3 + b, none⟩) (World.block_lt_of_cell? _ _ h1)).trans h1
          have HC1 := Lib.hid hc1
          have HC2 := Lib.hid hc2
          have HC3 := Lib.hid h1
          clear hcell1 hcell2 hcell3 hx1 hx2 hy hbk h2 e1 hmem hc1 hc2 h1
          obtain ⟨wo, hwo⟩ : ∃ wo : World, wo = wr := ⟨_, rfl⟩
          subst hwo
          go_wp2
          go_loopw [12, 13] (fun x i wr => ∃ j : Nat, j ≤ R ∧ i = .int .i64 j ∧ x = .bool (((f b).take j).any (· == y)) ∧ Hid (Below wo.heap.size wo wr)) (fun _ i _ => R - (intOf i).toNat)
          case atStart => exact ⟨0, Nat.zero_le _, rfl, by simp, Below.refl _ _⟩
          case round =>
            obtain ⟨j, hj, rfl, rfl, hC⟩ := hrel
            have hc1 := (hC.out.cell (p := ⟨p1, o1 + k, none⟩) (World.block_lt_of_cell? _ _ HC1.out)).trans HC1.out
            have hc2 := (hC.out.cell (p := ⟨p2, o2 + k, none⟩) (World.block_lt_of_cell? _ _ HC2.out)).trans HC2.out
            have hc3 := (hC.out.cell (p := ⟨p3, o3 + b, none⟩) (World.block_lt_of_cell? _ _ HC3.out)).trans HC3.out
            obtain ⟨t, ht⟩ : ∃ t, ((f b).take j).any (· == y) = t := ⟨_, rfl⟩
            by_cases hltj : j < R
            · obtain ⟨ad9, c9, hv9, _, hop9⟩ := HI.out.open
              cases hv9
              obtain ⟨b9, off9, rfl, hcell9⟩ := hop9 j (by rw [HE1.out]; exact hltj)
              have hc9 := hcell9 j (by rw [HE1.out]; exact hltj)
              obtain ⟨z, hz⟩ : ∃ z, (f b)[j]?.getD 0 = z := ⟨_, rfl⟩
              have hx9 : iv (f b) j = .int .i64 z := by rw [iv, hz]
              rw [hx9] at hc9
              have hc9 := (hB.out.cell (p := ⟨b9, off9 + j, none⟩) (World.block_lt_of_cell? _ _ hc9)).trans hc9
              have hc9 := (hC.out.cell (p := ⟨b9, off9 + j, none⟩) (World.block_lt_of_cell? _ _ hc9)).trans hc9
              have HST := any_take (l := f b) (y := y) (j := j) (by rw [HE1.out]; exact hltj)
              rw [ht, hz] at HST
              have HST := Lib.hid HST
              rw [ht]
              clear hop9 hcell9 hx9 hz ht
              cases t
              · go_wp2
                go_quiet (fail)
                go_wp2
                go_roundw
                case rel => exact ⟨j + 1, hltj, by go_num, by rw [HST.out]; simp, below_drewN hC.out _⟩
                case measure => simp [intOf]; omega
              · go_wp2
                go_quiet (fail)
                go_wp2
                go_roundw
                case rel => exact ⟨j + 1, hltj, by go_num, by rw [HST.out]; simp, below_drewN hC.out _⟩
                case measure => simp [intOf]; omega
            · obtain rfl : j = R := by omega
              have e4 : ((f b).take j).any (· == y) = true := by
                rw [List.take_of_length_le (by rw [HE1.out]; omega), List.any_eq_true]
                exact ⟨y, HMEM.out, by simp⟩
              rw [e4]
              clear e4 ht
              have HB9 : Hid (Below w4.heap.size w4 wr) := hB.out.trans (hC.out.mono hB.out.size)
              go_wp2
              go_roundw
              case rel => exact ⟨k + 1, hlt, by go_num, HB9.out⟩
              case measure => simp [intOf]; omega
        · obtain rfl : k = xs.length := by omega
          have B5 := nxt B4 hB.out
          go_wp2
          go_ret
          exact ⟨rfl, B5.out⟩
theorem walk_FnBinKeep (w : World) (v : Value) (bs : List Int) (h : View w 1 v bs.length (bs.map (Value.int .u8)) ∧ ∀ b ∈ bs, 0 ≤ b ∧ b ≤ 255) (hR : Resv w) :
    Calls Tryd.prog 8 #[v] w fun e w' => e = .returned (.bool true) ∧ Below w.heap.size w w' := walk0_FnBinKeep w v bs h hR
end Go.Proofs.YtkekacnnjmbelaaDoor
