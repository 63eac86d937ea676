/- MemoryUse uses -/
import Derived.Test.YtbnplohlfiefhaaDoorUseP
import Derived.Test.YtbnplohlfiefhaaDoorRegM
namespace Go.Proofs.YtbnplohlfiefhaaDoor
open Go.RowKit
set_option maxRecDepth 40000 in
set_option maxHeartbeats 8000000 in
theorem impl_Use_yes (mv : Value) (f : Nat → List (Int × Int × Int)) (st : List (Int × Int × Int)) (a : Int) (t : Bool) (v l : Int) (w : World) (h : MemIn w mv 7 f st) (hs : Small 7 f st) (hk : useOk 7 f st a v l = true)
    (hsm : Small 7 (fun i => useLs (lsOf f st) (blkAt (allM 7 f st) a).2.2 a t v l (i + 2)) (useLs (lsOf f st) (blkAt (allM 7 f st) a).2.2 a t v l 0)) :
    Calls Tryd.prog 14 #[mv, .int .i64 a, .bool t, .int .i64 v, .int .i64 l] w (UsePost true 7 (useLs (lsOf f st) (blkAt (allM 7 f st) a).2.2 a t v l) (blkAt (allM 7 f st) a).2.1 (pathL (blkAt (allM 7 f st) a).2.2) w) := by
  obtain ⟨POST, hpost⟩ : ∃ P, UsePost true 7 (useLs (lsOf f st) (blkAt (allM 7 f st) a).2.2 a t v l) (blkAt (allM 7 f st) a).2.1 (pathL (blkAt (allM 7 f st) a).2.2) w = P := ⟨_, rfl⟩
  rw [hpost]
  have HPOST := Lib.hid hpost
  clear hpost
  have HM := Lib.hid h
  obtain ⟨bs, sv, rfl, h1, h2⟩ := h
  have HSM := Lib.hid hs
  have HSMU := Lib.hid hsm
  clear h1 h2 hs hsm
  unfold useOk at hk
  rw [Bool.and_eq_true, Bool.and_eq_true, Bool.and_eq_true] at hk
  obtain ⟨⟨⟨hv, ha⟩, hvv⟩, hl⟩ := hk
  have HVAL := Lib.hid (validB_iff.1 hv)
  have HV := Lib.hid hv
  have HA := Lib.hid ha
  have HVV := Lib.hid hvv
  have HL := Lib.hid hl
  have HEX := Lib.hid (valid_at HVAL.out ha)
  have HLF0 : Hid (LeafB (lsOf f st)) := fun i hi b hb => by
    have hm : b ∈ allM 7 f st := by
      unfold lsOf at hb
      split at hb
      · exact allM_mem.2 (.inl hb)
      · split at hb
        · cases hb
        · exact allM_mem.2 (.inr ⟨i - 2, by omega, hb⟩)
    have := HVAL.out.ok b hm
    unfold blkOk at this
    rw [Bool.and_eq_true] at this; exact this.2
  have HLB0 : Hid (LenB (lsOf f st) 100) := fun i hi => by
    unfold lsOf
    split
    · exact HSM.out.2.1
    · split
      · simp
      · exact HSM.out.2.2 (i - 2) (by omega)
  clear hv ha hvv hl
  obtain ⟨w1, hw1⟩ : ∃ w1, w1 = (w.alloc (.cells #[bs, sv] 29)).alloc (.cells #[.slice none 0 0, .slice none 0 0] 29) := ⟨_, rfl⟩
  have HW1 := Lib.hid hw1
  have HB1 : Hid (Below w.heap.size w w1) := by rw [hw1]; exact ((Below.refl _ _).alloc (Nat.le_refl _) _).alloc (by simp) _
  have HR0 : Hid (Row w1 w.heap.size 29 [bs, sv]) := by rw [hw1]; exact (Row.new w 29 [bs, sv]).alloc _
  have HR1 : Hid (Row w1 (w.heap.size + 1) 29 [.slice none 0 0, .slice none 0 0]) := by
    have := Row.new (w.alloc (.cells #[bs, sv] 29)) 29 [.slice none 0 0, .slice none 0 0]
    rw [World.size_alloc] at this
    rw [hw1]; exact this
  clear hw1
  go_enter Tryd.func14, Tryd.ntmps14
  go_wp2_with fail
  rw [← HW1.out]
  refine (impl_MemoryValid _ 7 f st w1 (HM.out.mono HB1.out (Nat.le_refl _)) HSM.out).mono ?_
  rw [HV.out]
  rintro e w2 ⟨rfl, hb⟩
  have HB2 : Hid (Below w.heap.size w w2) := HB1.out.trans (hb.mono HB1.out.size)
  have HR2 := Lib.hid (HR1.out.mono hb HR1.out.lt)
  have HR02 := Lib.hid (HR0.out.mono hb HR0.out.lt)
  clear hb HB1 HR0 HR1 HW1
  have k0 := HR02.out.cell (i := 0) rfl
  have k1 := HR02.out.cell (i := 1) rfl
  go_wp2_with (first
    | (go_at_call 32; refine (isAddress_any _ _).mono ?_; rw [HA.out]; rintro e w' ⟨rfl, rfl⟩)
    | (go_at_call 33; refine (isValue_any _ _).mono ?_; rw [HVV.out]; rintro e w' ⟨rfl, rfl⟩)
    | (go_at_call 34; refine (isLeaf_any _ _).mono ?_; rw [HL.out]; rintro e w' ⟨rfl, rfl⟩))
  clear k0 k1
  refine (clone_any' _ f st w2 (HM.out.mono HB2.out (Nat.le_refl _)) HSM.out).mono ?_
  rintro e w3 ⟨cv, rfl, hmo, hb⟩
  obtain ⟨bv, vs, rfl, hbv, hfam⟩ := hmo
  obtain ⟨gb, cb, hbvv, -, -, -⟩ := hbv.at (show 0 < 7 by omega)
  obtain ⟨a0, c0, hv0⟩ := (hfam 0 (by omega)).1.lit
  have HMI : Hid (MemIn w3 (.agg #[.slice (some ⟨gb, 0, none⟩) 7 cb, .slice a0 (lsOf f st 0).length c0]) 7 f st) := by
    have := (show MO w3 w2.heap.size (.agg #[bv, vs 0]) 7 (lsOf f st) from ⟨bv, vs, rfl, hbv, hfam⟩).view
    rw [hbvv, hv0] at this
    exact this
  have HB3 : Hid (Below w.heap.size w w3) := HB2.out.trans (hb.mono HB2.out.size)
  have HR3 := Lib.hid (HR2.out.mono hb HR2.out.lt)
  have hgrB : w.heap.size + 1 < w2.heap.size := HR2.out.lt
  have hz23 : w2.heap.size ≤ w3.heap.size := hb.size
  have HBV := Lib.hid hbv
  have HFAM := Lib.hid hfam
  have HV0 := Lib.hid hv0
  have HBVV := Lib.hid hbvv
  rw [hbvv, hv0]
  clear hb hbv hfam hv0 hbvv HR02
  have hq0 : (w3.alloc (.cells #[.slice (some ⟨gb, 0, none⟩) 7 cb, .slice a0 (lsOf f st 0).length c0] 29)).cell? ⟨w3.heap.size, 0, none⟩ = some (.slice (some ⟨gb, 0, none⟩) 7 cb) := (Row.new w3 29 [.slice (some ⟨gb, 0, none⟩) 7 cb, .slice a0 (lsOf f st 0).length c0]).cell rfl
  have hq1 : (w3.alloc (.cells #[.slice (some ⟨gb, 0, none⟩) 7 cb, .slice a0 (lsOf f st 0).length c0] 29)).cell? ⟨w3.heap.size, 1, none⟩ = some (.slice a0 (lsOf f st 0).length c0) := (Row.new w3 29 [.slice (some ⟨gb, 0, none⟩) 7 cb, .slice a0 (lsOf f st 0).length c0]).cell rfl
  go_wp2_with fail
  clear hq0 hq1
  have hba : Below w3.heap.size w3 (w3.alloc (.cells #[.slice (some ⟨gb, 0, none⟩) 7 cb, .slice a0 (lsOf f st 0).length c0] 29)) := (Below.refl _ _).alloc (Nat.le_refl _) _
  refine (block_any _ 7 f st a _ (HMI.out.mono hba (Nat.le_refl _)) HSM.out HEX.out).mono ?_
  rintro e w4 ⟨o, ho1, ho2, rfl, hb⟩
  have HO : Hid (blkAt (allM 7 f st) a = o) := blkAt_of HVAL.out.nodup ho1 ho2
  have HOL : Hid (inB o.2.2 0 3 = true) := by
    have := HVAL.out.ok o ho1
    unfold blkOk at this
    rw [Bool.and_eq_true] at this; exact this.2
  rw [HO.out] at HSMU HPOST
  have hrx : Row w4 w3.heap.size 29 [.slice (some ⟨gb, 0, none⟩) 7 cb, .slice a0 (lsOf f st 0).length c0] := (Row.new w3 29 [.slice (some ⟨gb, 0, none⟩) 7 cb, .slice a0 (lsOf f st 0).length c0]).mono hb (by simp)
  have hb34 : Below w3.heap.size w3 w4 := hba.trans (hb.mono hba.size)
  have HRX := Lib.hid hrx
  have HB34 := Lib.hid hb34
  clear hba hb hrx hb34 ho1 ho2
  obtain ⟨o0, o1, o2⟩ := o
  unfold blkV
  go_wp2_with fail
  have hrt : Row (w4.alloc (.cells #[.int .i64 o0, .int .i64 o1, .int .i64 o2] 56)) w4.heap.size 56 [.int .i64 o0, .int .i64 o1, .int .i64 o2] := Row.new w4 56 [.int .i64 o0, .int .i64 o1, .int .i64 o2]
  have hb5 : Below w3.heap.size w3 (w4.alloc (.cells #[.int .i64 o0, .int .i64 o1, .int .i64 o2] 56)) := HB34.out.alloc HB34.out.size _
  have hrx5 : Row (w4.alloc (.cells #[.int .i64 o0, .int .i64 o1, .int .i64 o2] 56)) w3.heap.size 29 [.slice (some ⟨gb, 0, none⟩) 7 cb, .slice a0 (lsOf f st 0).length c0] := HRX.out.alloc _
  have HZ4 : Hid ((w4.alloc (.cells #[.int .i64 o0, .int .i64 o1, .int .i64 o2] 56)).heap.size = w4.heap.size + 1) := by simp [Hid]
  generalize (w4.alloc (.cells #[.int .i64 o0, .int .i64 o1, .int .i64 o2] 56)) = w5 at hrt hb5 hrx5 HZ4 ⊢
  refine (path_any _ w5 HOL.out).mono ?_
  rintro e w6 ⟨way, rfl, hway, hb⟩
  have hx4 : w3.heap.size < w4.heap.size := HRX.out.lt
  have HUS : Hid (US w w2.heap.size w3.heap.size w4.heap.size (w.heap.size + 1) (.slice (some ⟨gb, 0, none⟩) 7 cb) way (pathL o2) (o0, o1, o2) vs (lsOf f st) w6) := by
    have hb36 : Below w3.heap.size w3 w6 := hb5.trans (hb.mono hb5.size)
    refine ⟨⟨?_, ?_, ?_⟩, ?_, ?_, ?_, ?_, ?_, ?_⟩
    · rw [HV0.out]; exact hrx5.mono hb hrx5.lt
    · rw [← HBVV.out]; exact HBV.out.mono hb36 (Nat.le_refl _)
    · exact HFAM.out.mono hb36 (Nat.le_refl _)
    · exact hway.low (by have := HZ4.out; omega)
    · exact hrt.mono hb hrt.lt
    · exact HR3.out.mono hb36 HR3.out.lt
    · exact fun i hi e => by have := ((HFAM.out i hi).1.lt _ e).2; omega
    · exact HB3.out.trans (hb36.mono HB3.out.size)
    · exact ⟨hz23, HB2.out.size, hgrB, by omega⟩
  obtain ⟨aw, cw, hw⟩ := hway.lit
  have hpl : (pathL o2).length = 3 := rfl
  rw [hpl] at hw
  subst hw
  clear hway hb hrt hb5 hrx5 HRX HB34 HBV HFAM HV0 HBVV HR3 HB3 HR2 HB2 HMI HZ4 hpl
  obtain ⟨B, hB⟩ : ∃ B, w2.heap.size = B := ⟨_, rfl⟩
  obtain ⟨gx, hgx⟩ : ∃ gx, w3.heap.size = gx := ⟨_, rfl⟩
  obtain ⟨gt, hgt⟩ : ∃ gt, w4.heap.size = gt := ⟨_, rfl⟩
  rw [hB, hgx, hgt] at HUS
  rw [hgx, hgt]
  clear hB hgx hgt hgrB hz23 hx4
  go_wp2
  go_loopw [54] (fun i wr => ∃ (k : Nat) (vs : Nat → Value), k ≤ 3 ∧ i = .int .i64 k ∧ Hid (US w B gx gt (w.heap.size + 1) (.slice (some ⟨gb, 0, none⟩) 7 cb) (.slice aw 3 cw) (pathL o2) (o0, o1, o2) vs (gathK (lsOf f st) o2 k) wr)) (fun i _ => 3 - (intOf i).toNat)
  case atStart => exact ⟨0, vs, Nat.zero_le _, rfl, HUS.out⟩
  case round =>
    obtain ⟨k, vs, hk, rfl, hU⟩ := hrel
    by_cases hlt : k < 3
    · obtain ⟨hp1, hp7⟩ := pN_path HOL.out hlt
      have HLB := Lib.hid (HLB0.out.gathK HOL.out k hk)
      have hpow : 100 * 2 ^ k ≤ 800 := pow_le (Nat.le_refl _) hk
      have HGS : Hid (gathK (lsOf f st) o2 (k + 1) = gath (gathK (lsOf f st) o2 k) (pN o2 k)) := rfl
      obtain ⟨lsK, hls⟩ : ∃ x, gathK (lsOf f st) o2 k = x := ⟨_, rfl⟩
      rw [hls] at hU HLB HGS
      obtain ⟨q, hq⟩ : ∃ x, pN o2 k = x := ⟨_, rfl⟩
      rw [hq] at hp1 hp7 HGS
      clear hls hq
      have hl0 := HLB.out 0 (by omega)
      have hl2 := HLB.out (q + 2) (by omega)
      obtain ⟨_, _, hve, -, hopw⟩ := (show Ints wr _ (pathL o2) from Gr.ints hU.out.way rfl).open
      cases hve
      obtain ⟨b9, off9, rfl, hcw⟩ := hopw k hlt
      have cw1 := hcw k hlt
      have hiv : iv (pathL o2) k = .int .i64 ((q : Nat) : Int) := by unfold iv; rw [hp1]; rfl
      rw [hiv] at cw1
      obtain ⟨_, _, hvb, -, -, -, hfb, hcb, -⟩ := hU.out.m.2.1.at (show 0 < 7 by omega)
      cases hvb
      obtain ⟨a1, c1, hv1⟩ := (hU.out.m.2.2 0 (by omega)).1.lit
      obtain ⟨a2, c2, hv2⟩ := (hU.out.m.2.2 (q + 2) (by omega)).1.lit
      have x0 := hU.out.m.1.cell (i := 0) rfl
      have x1 := hU.out.m.1.cell (i := 1) rfl
      have x2 := hcb q _ (tab_get (fun i => vs (i + 2)) hp7)
      rw [hv1] at x1
      rw [hv2] at x2
      have HV1 := Lib.hid hv1
      have HV2 := Lib.hid hv2
      have hG0 := Lib.hid (hU.out.drew.m.2.2 0 (by omega)).1
      have hG2 := Lib.hid (hU.out.drew.m.2.2 (q + 2) (by omega)).1
      rw [hv1] at hG0
      rw [hv2] at hG2
      have hszB : B ≤ wr.heap.size := Nat.le_trans hU.out.ge.1 (Nat.le_of_lt hU.out.m.1.lt)
      have hq7 : (q : Int) < 7 := by omega
      have HQ7 := Lib.hid hp7
      clear hcb hfb hopw hcw hiv hp1 hv1 hv2
      go_wp2_with fail
      go_region_law (first
        | (refine step_app _ rfl (.tmp 59) (.tmp 64) 27 rfl B 56 (.agg #[.int .i64 0, .int .i64 0, .int .i64 0]) 3 24 Tryd.underlying27 Tryd.infoBlk rfl (by omega) (.slice a1 (lsK 0).length c1) (lsK 0).length (blks (lsK 0)) rfl hG0.out _ (lsK (q + 2)).length (blks (lsK (q + 2))) rfl hG2.out.view (one_blks _) (by unfold maxLen; omega) (by omega) hszB ?_
           intro v1 w7 g1 r1 k1
           have G1 : Hid (Gr w7 B 56 3 v1 (lsK 0 ++ lsK (q + 2)).length (blks (lsK 0 ++ lsK (q + 2)))) := by unfold Hid; rw [List.length_append, blks_append]; exact g1
           have HU1 : Hid (US w B gx gt (w.heap.size + 1) (.slice (some ⟨gb, 0, none⟩) 7 cb) _ (pathL o2) (o0, o1, o2) (upd vs 0 v1) (upd lsK 0 (lsK 0 ++ lsK (q + 2))) (w7.setCell ⟨gx, 1, none⟩ v1)) := hU.out.drew.stash G1.out (by rw [HV1.out]; exact r1) (by rw [HV1.out]; exact k1)
           have HRX7 := Lib.hid (hU.out.drew.m.app (j := 0) (by omega) G1.out (by rw [HV1.out]; exact r1) (by rw [HV1.out]; exact k1)).1
           obtain ⟨a7, c7, hv7⟩ := g1.lit
           subst hv7
           have s1 := HRX7.out.cell (i := 1) rfl
           have sf := HRX7.out.free 1
           have t0 := HU1.out.m.1.cell (i := 0) rfl
           obtain ⟨_, _, hvb, -, -, -, hfb, hcb, -⟩ := HU1.out.m.2.1.at (show 0 < 7 by omega)
           cases hvb
           have t2 := hcb q _ (tab_get (fun i => upd vs 0 _ (i + 2)) HQ7.out)
           have tf := hfb q
           clear hfb hcb g1 r1 k1))
      all_goals
        go_wp2
        go_roundw
        case rel => exact ⟨k + 1, _, hlt, by go_num, by rw [HGS.out]; exact HU1.out.clear HQ7.out rfl (Gr.nil _ _ _ _) rfl⟩
        case measure => simp [intOf]; omega
    · obtain rfl : k = 3 := by omega
      have HLBG := Lib.hid (HLB0.out.gathK HOL.out 3 (Nat.le_refl _))
      have HLFG := Lib.hid (HLF0.out.gathK HOL.out 3 (Nat.le_refl _))
      have HDEF : Hid (useLs (lsOf f st) o2 a t v l = stepK (setS (gathK (lsOf f st) o2 3) a t v l) o2 3) := rfl
      obtain ⟨lsG, hls⟩ : ∃ x, gathK (lsOf f st) o2 3 = x := ⟨_, rfl⟩
      rw [hls] at hU HLBG HLFG HDEF
      clear hls HLF0 HLB0 HUS
      obtain ⟨L, hL⟩ : ∃ L, lsG 0 = L := ⟨_, rfl⟩
      have hLl : L.length ≤ 800 := by rw [← hL]; exact HLBG.out 0 (by omega)
      obtain ⟨a1, c1, hv1⟩ := (hU.out.m.2.2 0 (by omega)).1.lit
      rw [hL] at hv1
      have x1 := hU.out.m.1.cell (i := 1) rfl
      rw [hv1] at x1
      have HV1 := Lib.hid hv1
      have HLL := Lib.hid hL
      obtain ⟨U, hUd⟩ : ∃ U, upB a t v l = U := ⟨_, rfl⟩
      have HSET : Hid (setS lsG a t v l = upd lsG 0 (L.map U)) := by unfold Hid setS; rw [hL, hUd]
      have HUA : Hid (∀ b : (Int × Int × Int), b.1 = a → U b = (b.1, if t then v else b.2.1, l)) := fun b e => by rw [← hUd]; unfold upB; rw [e]; simp
      have HUN : Hid (∀ b : (Int × Int × Int), b.1 ≠ a → U b = b) := fun b e => by rw [← hUd]; unfold upB; rw [if_neg (by simpa using e)]
      clear hv1 hL hUd
      go_wp2
      clear x1
      go_loopw [75] (fun i wr => ∃ i' : Nat, i' ≤ L.length ∧ i = .int .i64 i' ∧ Hid (US w B gx gt (w.heap.size + 1) (.slice (some ⟨gb, 0, none⟩) 7 cb) (.slice aw 3 cw) (pathL o2) (o0, o1, o2) vs (upd lsG 0 (upto L U i')) wr)) (fun i _ => L.length - (intOf i).toNat)
      case atStart => exact ⟨0, Nat.zero_le _, rfl, by rw [show upd lsG 0 (upto L U 0) = lsG by rw [show upto L U 0 = L by simp [upto], ← HLL.out, upd_id]]; exact hU.out⟩
      case round =>
        clear hU
        obtain ⟨i, hi, rfl, hU⟩ := hrel
        by_cases hil : i < L.length
        · have hcl : (upd lsG 0 (upto L U i) 0).length = L.length := by rw [upd_same, upto_len]
          obtain ⟨gs, cs, hve, hgs, -, hfr, hcell, hset⟩ := gr_one (hU.out.m.2.2 0 (by omega)).1 (by rw [hcl]; omega)
          rw [hcl, HV1.out] at hve
          cases hve
          rw [upd_same] at hcell hset
          have hbat := upto_bat (U := U) hil
          obtain ⟨e0, e1, e2⟩ := blks_get (xs := upto L U i) (k := i) (by rw [upto_len]; exact hil)
          rw [hbat] at e0 e1 e2
          have d0 := hcell _ _ e0
          have d1 := hcell _ _ e1
          have d2 := hcell _ _ e2
          have f1 := hfr (i * 3 + 1)
          have f2 := hfr (i * 3 + 2)
          have x1 := hU.out.m.1.cell (i := 1) rfl
          rw [HV1.out] at x1
          have HST := Lib.hid (upto_step (U := U) hil)
          have HKP : Hid (U (bat L i) = bat L i → upto L U (i + 1) = upto L U i) := fun e => upto_keep hil e
          have HBT : Hid (bat (upto L U i) i = bat L i) := hbat
          obtain ⟨y, hy⟩ : ∃ y, bat L i = y := ⟨_, rfl⟩
          rw [hy] at d0 d1 d2 HST HKP HBT
          obtain ⟨y0, y1, y2⟩ := y
          have HSE := Lib.hid hset
          have HGS := Lib.hid hgs
          have hlu : i < (upto L U i).length := by rw [upto_len]; exact hil
          have HLU := Lib.hid hlu
          clear hcl hcell hset hbat e0 e1 e2 hy hgs hfr hlu
          by_cases hya : y0 = a
          · have hyb : (y0 == a) = true := by simp [hya]
            have HUY : Hid (U (y0, y1, y2) = (y0, if t then v else y1, l)) := HUA.out _ hya
            have G1 := HSE.out (i * 3 + 2) (.int .i64 l) ((upto L U i).set i (y0, y1, l)) (blks_setf HLU.out 2 (by omega) _ _ (by rw [HBT.out]; rfl)).symm (by simp)
            have HU1 := Lib.hid (hU.out.field HGS.out G1)
            clear hya G1
            cases t with
            | false =>
              go_wp2
              go_roundw
              case rel =>
                refine ⟨i + 1, hil, by go_num, ?_⟩
                have := HU1.out
                rw [upd_upd] at this
                rw [← HST.out, HUY.out]
                exact this
              case measure => simp [intOf]; omega
            | true =>
              have x1' := HU1.out.m.1.cell (i := 1) rfl
              rw [HV1.out] at x1'
              obtain ⟨gs2, cs2, hve2, hgs2, -, hfr2, hcell2, hset2⟩ := gr_one (HU1.out.m.2.2 0 (by omega)).1 (by rw [upd_same]; simp; rw [upto_len]; omega)
              rw [HGS.out] at hgs2
              cases hgs2
              rw [upd_same] at hcell2 hset2
              have hlu2 : i < ((upto L U i).set i (y0, y1, l)).length := by simp; exact HLU.out
              have hb2 : bat ((upto L U i).set i (y0, y1, l)) i = (y0, y1, l) := by unfold bat; rw [List.getElem?_set_self HLU.out]; rfl
              obtain ⟨-, e1, -⟩ := blks_get (xs := (upto L U i).set i (y0, y1, l)) (k := i) hlu2
              rw [hb2] at e1
              have d1' := hcell2 _ _ e1
              have f1' := hfr2 (i * 3 + 1)
              have G2 := hset2 (i * 3 + 1) (.int .i64 v) (((upto L U i).set i (y0, y1, l)).set i (y0, v, l)) (blks_setf hlu2 1 (by omega) _ _ (by rw [hb2]; rfl)).symm (by simp)
              have HU2 := Lib.hid (HU1.out.field HGS.out G2)
              clear hcell2 hset2 hfr2 hlu2 hb2 e1 hve2 G2
              go_wp2
              go_roundw
              case rel =>
                refine ⟨i + 1, hil, by go_num, ?_⟩
                have := HU2.out
                rw [upd_upd, upd_upd, List.set_set] at this
                rw [← HST.out, HUY.out]
                exact this
              case measure => simp [intOf]; omega
          · have hyb : (y0 == a) = false := by simpa using hya
            have HK2 : Hid (upto L U (i + 1) = upto L U i) := HKP.out (HUN.out _ hya)
            clear hya
            go_wp2
            go_roundw
            case rel => exact ⟨i + 1, hil, by go_num, by rw [HK2.out]; exact hU.out⟩
            case measure => simp [intOf]; omega
        · obtain rfl : i = L.length := by omega
          have HU3 : Hid (US w B gx gt (w.heap.size + 1) (.slice (some ⟨gb, 0, none⟩) 7 cb) (.slice aw 3 cw) (pathL o2) (o0, o1, o2) vs (setS lsG a t v l) wr) := by rw [HSET.out, ← upto_all]; exact hU.out
          have HLFS := Lib.hid (HLFG.out.setS (a := a) (v := v) (t := t) HL.out)
          have HLBS : Hid (LenB (setS lsG a t v l) 800) := HLBG.out.setS
          obtain ⟨lsS, hls⟩ : ∃ x, setS lsG a t v l = x := ⟨_, rfl⟩
          rw [hls] at HU3 HLFS HLBS HDEF
          clear hls hU HSET HUA HUN HLBG HLFG HLL
          go_wp2
          go_loopg [20] 3 (fun gk kv wr => ∃ (j : Nat) (vs : Nat → Value), j ≤ 3 ∧ 3 - j ≤ gk ∧ kv = .int .i64 (2 - (j : Int)) ∧ Hid (US w B gx gt (w.heap.size + 1) (.slice (some ⟨gb, 0, none⟩) 7 cb) (.slice aw 3 cw) (pathL o2) (o0, o1, o2) vs (stepK lsS o2 j) wr))
          case atStart => exact ⟨0, vs, Nat.zero_le _, Nat.le_refl _, by go_num, HU3.out⟩
          case round =>
            clear HU3
            obtain ⟨j, vs, hj, hgk, rfl, hU⟩ := hrel
            by_cases hlt : j < 3
            · obtain ⟨hp1, hp7⟩ := pN_path HOL.out (k := 2 - j) (by omega)
              have HLB := Lib.hid (LenB.stepK HLBS.out HOL.out j hj)
              have HLF := Lib.hid (HLFS.out.stepK HOL.out j hj)
              have hpow : 800 * 2 ^ j ≤ 6400 := by
                have := pow_le (c := 100) (k := j) (Nat.le_refl _) hj
                omega
              have HGS : Hid (stepK lsS o2 (j + 1) = step3 (stepK lsS o2 j) (pN o2 (2 - j))) := rfl
              obtain ⟨lsJ, hlj⟩ : ∃ x, stepK lsS o2 j = x := ⟨_, rfl⟩
              rw [hlj] at hU HLB HLF HGS
              obtain ⟨q, hq⟩ : ∃ x, pN o2 (2 - j) = x := ⟨_, rfl⟩
              rw [hq] at hp1 hp7 HGS
              obtain ⟨kk, hkk⟩ : ∃ kk : Nat, kk = 2 - j := ⟨_, rfl⟩
              have hkz : (2 : Int) - (j : Int) = (kk : Int) := by omega
              have HKZ := Lib.hid hkz
              have hk3 : kk < 3 := by omega
              rw [← hkk] at hp1
              rw [hkz]
              have HKK := Lib.hid hkk
              clear hlj hq hkz hkk
              have hl0 := HLB.out 0 (by omega)
              have hl2 := HLB.out (q + 2) (by omega)
              obtain ⟨_, _, hve, -, hopw⟩ := (show Ints wr _ (pathL o2) from Gr.ints hU.out.way rfl).open
              cases hve
              obtain ⟨b9, off9, rfl, hcw⟩ := hopw kk hk3
              have cw1 := hcw kk hk3
              have hiv : iv (pathL o2) kk = .int .i64 ((q : Nat) : Int) := by unfold iv; rw [hp1]; rfl
              rw [hiv] at cw1
              obtain ⟨a2, c2, hv2⟩ := (hU.out.m.2.2 0 (by omega)).1.lit
              have x1 := hU.out.m.1.cell (i := 1) rfl
              rw [hv2] at x1
              have HV2 := Lib.hid hv2
              obtain ⟨M, hM⟩ : ∃ M, lsJ 0 = M := ⟨_, rfl⟩
              rw [hM] at x1 HV2 hl0
              have HMM := Lib.hid hM
              have HQ7 := Lib.hid hp7
              have hkge : (0 : Int) ≤ (kk : Int) := by omega
              have hk3z : (kk : Int) < 3 := by omega
              have HU4 : Hid (US w B gx gt (w.heap.size + 1) (.slice (some ⟨gb, 0, none⟩) 7 cb) (.slice (some ⟨b9, off9, none⟩) 3 cw) (pathL o2) (o0, o1, o2) (upd vs 1 (.slice none 0 0)) (upd (upd lsJ (q + 2) (fillR q lsJ 0).1) 1 (fillR q lsJ 0).2) wr) := by
                rw [fillR_zero, upd_id]; exact hU.out.rest0 (Gr.nil _ _ _ _) rfl
              clear hopw hcw hiv hp1 hv2 hM hU
              go_wp2
              clear x1 cw1
              generalize wr = wo at HU4 ⊢
              go_loopg [22, 114] M.length (fun gg rv iv' wr => ∃ (i : Nat) (vs' : Nat → Value), i ≤ M.length ∧ M.length - i ≤ gg ∧ iv' = .int .i64 i ∧ rv = vs' 1 ∧ Hid (vs' 0 = .slice a2 M.length c2) ∧ Hid (US w B gx gt (w.heap.size + 1) (.slice (some ⟨gb, 0, none⟩) 7 cb) (.slice (some ⟨b9, off9, none⟩) 3 cw) (pathL o2) (o0, o1, o2) vs' (upd (upd lsJ (q + 2) (fillR q lsJ i).1) 1 (fillR q lsJ i).2) wr))
              case atStart => exact ⟨0, _, Nat.zero_le _, Nat.le_refl _, rfl, rfl, by rw [upd_other _ _ (by omega)]; exact HV2.out, HU4.out⟩
              case round =>
                clear HU4
                obtain ⟨i, vs', hi, hgg, rfl, rfl, hV0, hU⟩ := hrel
                by_cases hil : i < M.length
                · have hSU : fillR q lsJ (i + 1) = fillOne q (fillR q lsJ i) (bat M i) := by rw [← HMM.out]; exact fillR_succ (by rw [HMM.out]; exact hil)
                  obtain ⟨hR1, hR2, -⟩ := fillR_inv (p := q) (ls := lsJ) (i := i) (by rw [HMM.out]; omega)
                  have HSU := Lib.hid hSU
                  obtain ⟨r1, hr1⟩ : ∃ x, (fillR q lsJ i).1 = x := ⟨_, rfl⟩
                  obtain ⟨r2, hr2⟩ : ∃ x, (fillR q lsJ i).2 = x := ⟨_, rfl⟩
                  have hfr : fillR q lsJ i = (r1, r2) := by rw [← hr1, ← hr2]
                  rw [hfr] at HSU
                  rw [hr1] at hR1 hU
                  rw [hr2] at hR2 hU
                  have hr1l : r1.length ≤ 20000 := by omega
                  have hr2l : r2.length ≤ 20000 := by omega
                  have e0 : upd (upd lsJ (q + 2) r1) 1 r2 0 = M := by rw [upd_other _ _ (by omega), upd_other _ _ (by omega)]; exact HMM.out
                  have e1 : upd (upd lsJ (q + 2) r1) 1 r2 1 = r2 := upd_same _ _ _
                  have e2 : upd (upd lsJ (q + 2) r1) 1 r2 (q + 2) = r1 := by rw [upd_other _ _ (by omega), upd_same]
                  have g0 := (hU.out.m.2.2 0 (by omega)).1
                  rw [e0] at g0
                  obtain ⟨gs, cs, hve, hgs, -, -, hcell, -⟩ := gr_one g0 (by omega)
                  rw [hV0.out] at hve
                  cases hve
                  obtain ⟨d0, d1, d2⟩ := blks_get hil
                  have d0 := hcell _ _ d0
                  have d1 := hcell _ _ d1
                  have d2 := hcell _ _ d2
                  have hyl := HLF.out 0 (by omega) (bat M i) (by rw [HMM.out]; exact bat_mem hil)
                  obtain ⟨y, hy⟩ : ∃ y, bat M i = y := ⟨_, rfl⟩
                  rw [hy] at d0 d1 d2 HSU hyl
                  obtain ⟨y0, y1, y2⟩ := y
                  have HYL : Hid (inB y2 0 3 = true) := hyl
                  have HE1 := Lib.hid e1
                  have HE2 := Lib.hid e2
                  have HWB : Hid (Row (wr.alloc (.cells #[.int .i64 y0, .int .i64 y1, .int .i64 y2] 56)) wr.heap.size 56 [.int .i64 y0, .int .i64 y1, .int .i64 y2]) := Row.new wr 56 [.int .i64 y0, .int .i64 y1, .int .i64 y2]
                  have HUB := Lib.hid (hU.out.alloc (.cells #[.int .i64 y0, .int .i64 y1, .int .i64 y2] 56))
                  have hszB : B ≤ wr.heap.size := Nat.le_trans hU.out.ge.1 (Nat.le_of_lt hU.out.m.1.lt)
                  clear hSU hR1 hR2 hr1 hr2 hfr e0 e1 e2 g0 hcell hy hyl
                  obtain ⟨a6, c6, hv6⟩ := (HUB.out.m.2.2 (q + 2) (by omega)).1.lit
                  rw [HE2.out] at hv6
                  have HV6 := Lib.hid hv6
                  have x0 := HUB.out.m.1.cell (i := 0) rfl
                  obtain ⟨_, _, hvb, -, -, -, -, hcb, -⟩ := HUB.out.m.2.1.at (show 0 < 7 by omega)
                  cases hvb
                  have x2 := hcb q _ (tab_get (fun i => vs' (i + 2)) HQ7.out)
                  rw [hv6] at x2
                  have b2 := HWB.out.cell (i := 2) rfl
                  have hq7z : (q : Int) < 7 := by have := HQ7.out; omega
                  clear hcb hv6
                  by_cases hm2 : r1.length < 2
                  · have hm2z : (r1.length : Int) < 2 := by omega
                    have HM2 := Lib.hid hm2
                    have hm2d : decide (r1.length < 2) = true := decide_eq_true hm2
                    clear hm2
                    go_wp2_with fail
                    refine (path_any _ _ HYL.out).mono ?_
                    rintro e w7 ⟨u7, rfl, hg, hb⟩
                    have HI7 : Hid (Ints w7 u7 (pathL y2)) := Gr.ints hg rfl
                    have HU7 := Lib.hid (HUB.out.mono hb (Nat.le_refl _))
                    have HW7 := Lib.hid (HWB.out.mono hb HWB.out.lt)
                    have HON : Hid ((pathL y2).contains (q : Int) = onB q y2) := (onB_path HYL.out).symm
                    clear hg hb HUB HWB x0 x2 b2
                    go_wp2_with fail
                    refine (contains_any _ _ _ _ HI7.out).mono ?_
                    rw [HON.out]
                    have b0 := HW7.out.cell (i := 0) rfl
                    have b1 := HW7.out.cell (i := 1) rfl
                    have b2 := HW7.out.cell (i := 2) rfl
                    cases hon : onB (q : Int) y2 with
                    | false =>
                      have HF1 : Hid (fillR q lsJ (i + 1) = (r1, r2 ++ [(y0, y1, y2)])) := by rw [HSU.out]; unfold Hid fillOne; rw [hon, Bool.and_false]; rfl
                      clear hon hm2d
                      rintro e w' ⟨rfl, rfl⟩
                      have HU8 := Lib.hid (HU7.out.alloc (.cells #[.int .i64 y0, .int .i64 y1, .int .i64 y2] 56))
                      have hG8 := Lib.hid (HU8.out.m.2.2 1 (by omega)).1
                      rw [HE1.out] at hG8
                      go_wp2_with (at_builtin; refine wpList_app _ rfl (.tmp 144) (.tmp 146) 27 rfl B 56 (.agg #[.int .i64 0, .int .i64 0, .int .i64 0]) 3 24 Tryd.underlying27 Tryd.infoBlk rfl (by omega) (vs' 1) r2.length (blks r2) rfl hG8.out _ 1 (blks [(y0, y1, y2)]) rfl (view_blk _ (y0, y1, y2)) (one_blks _) (by unfold maxLen; omega) (by omega) (Nat.le_trans HU8.out.ge.1 (Nat.le_of_lt HU8.out.m.1.lt)) ?_; intro v9 w9 g1 r9 k1; have G9 : Hid (Gr w9 B 56 3 v9 (r2 ++ [(y0, y1, y2)]).length (blks (r2 ++ [(y0, y1, y2)]))) := (by unfold Hid; rw [List.length_append, blks_append]; exact g1); have HU9 := Lib.hid (HU8.out.rest G9.out r9 k1); clear g1 r9 k1)
                      go_roundg (M.length - (i + 1))
                      case rel =>
                        refine ⟨i + 1, upd vs' 1 v9, hil, Nat.le_refl _, by go_num, (upd_same _ _ _).symm, by rw [upd_other _ _ (by omega)]; exact hV0.out, ?_⟩
                        have := HU9.out
                        rw [upd_upd] at this
                        rw [HF1.out]
                        exact this
                      case measure => omega
                    | true =>
                      have HF1 : Hid (fillR q lsJ (i + 1) = (r1 ++ [(y0, y1, y2)], r2)) := by rw [HSU.out]; unfold Hid fillOne; rw [hon, hm2d]; rfl
                      clear hon hm2d
                      have HU8 := Lib.hid (HU7.out.alloc (.cells #[.int .i64 y0, .int .i64 y1, .int .i64 y2] 56))
                      have hG8 := Lib.hid (HU8.out.drew.m.2.2 (q + 2) (by omega)).1
                      rw [HE2.out, HV6.out] at hG8
                      have x0 := HU7.out.m.1.cell (i := 0) rfl
                      have x08 := HU8.out.m.1.cell (i := 0) rfl
                      obtain ⟨_, _, hvb, -, -, -, -, hcb, -⟩ := HU7.out.m.2.1.at (show 0 < 7 by omega)
                      cases hvb
                      have x2 := hcb q _ (tab_get (fun i => vs' (i + 2)) HQ7.out)
                      obtain ⟨_, _, hvb, -, -, -, -, hcb8, -⟩ := HU8.out.m.2.1.at (show 0 < 7 by omega)
                      cases hvb
                      have x28 := hcb8 q _ (tab_get (fun i => vs' (i + 2)) HQ7.out)
                      rw [HV6.out] at x2 x28
                      clear hcb hcb8
                      rintro e w' ⟨rfl, rfl⟩
                      have hszw : B ≤ w7.heap.size := Nat.le_trans HU7.out.ge.1 (Nat.le_of_lt HU7.out.m.1.lt)
                      obtain ⟨i9, q1, q2, q3, q4⟩ := info_parts Tryd.infoBlk
                      obtain ⟨v9, w9, hr9, g1, r9, k1⟩ := run_app (P := Tryd.prog) (w7.alloc (.cells #[.int .i64 y0, .int .i64 y1, .int .i64 y2] 56)).drew B 27 27 56 i9 (.agg #[.int .i64 0, .int .i64 0, .int .i64 0]) 3 24 Tryd.underlying27 q1 q2 q3 q4 rfl (by omega) (.slice a6 r1.length c6) r1.length (blks r1) hG8.out (.slice (some ⟨w7.heap.size, 0, none⟩) 1 1) 1 (blks [(y0, y1, y2)]) ((view_blk w7 (y0, y1, y2)).mono (Below.refl _ _).drew (Nat.le_refl _)) (one_blks _) (by unfold maxLen; omega) (by omega) (Nat.le_trans HU8.out.ge.1 (Nat.le_of_lt HU8.out.m.1.lt))
                      have G9 : Hid (Gr w9 B 56 3 v9 (r1 ++ [(y0, y1, y2)]).length (blks (r1 ++ [(y0, y1, y2)]))) := by unfold Hid; rw [List.length_append, blks_append]; exact g1
                      have HU9 := Lib.hid (HU8.out.drew.fill HQ7.out rfl G9.out (by rw [HV6.out]; exact r9) (by rw [HV6.out]; exact k1))
                      have hapr := (HU8.out.drew.m.app (j := q + 2) (by have := HQ7.out; omega) G9.out (by rw [HV6.out]; exact r9) (by rw [HV6.out]; exact k1)).1
                      have hap := (HU8.out.drew.m.app (j := q + 2) (by have := HQ7.out; omega) G9.out (by rw [HV6.out]; exact r9) (by rw [HV6.out]; exact k1)).2.1
                      have y09 := hapr.cell (i := 0) rfl
                      obtain ⟨a9, c9, hv9⟩ := g1.lit
                      subst hv9
                      obtain ⟨_, _, hvb, -, -, -, hfb, hcb, -⟩ := hap.at (show 0 < 7 by omega)
                      cases hvb
                      have t2 := hcb q _ (tab_get (fun i => vs' (i + 2)) HQ7.out)
                      have tf := hfb q
                      obtain ⟨WW, hWW⟩ : ∃ WW : Nat → World, WW = fun k => match k with | 0 => w7.drew | 1 => (w7.alloc (.cells #[.int .i64 y0, .int .i64 y1, .int .i64 y2] 56)).drew | _ => w9 := ⟨_, rfl⟩
                      have hW0 : WW 0 = w7.drew := congrFun hWW 0
                      have hW1 : WW 1 = (w7.alloc (.cells #[.int .i64 y0, .int .i64 y1, .int .i64 y2] 56)).drew := congrFun hWW 1
                      have hW2 : WW 2 = w9 := congrFun hWW 2
                      clear hWW hfb hcb hap hapr g1 r9 k1 q1 q2 q3 q4
                      have hx0 : ∀ k, k ≤ 2 → (WW k).cell? ⟨gx, 0, none⟩ = some (.slice (some ⟨gb, 0, none⟩) 7 cb) := fun k hk => by
                        match k, hk with
                        | 0, _ => rw [hW0]; exact x0
                        | 1, _ => rw [hW1]; exact x08
                        | 2, _ => rw [hW2]; exact y09
                      have hx2 : ∀ k, k ≤ 1 → (WW k).cell? ⟨gb, q, none⟩ = some (.slice a6 r1.length c6) := fun k hk => by
                        match k, hk with
                        | 0, _ => rw [hW0]; exact x2
                        | 1, _ => rw [hW1]; exact x28
                      have hxb : ∀ k, k ≤ 0 → Row (WW k) wr.heap.size 56 [.int .i64 y0, .int .i64 y1, .int .i64 y2] := fun k hk => by
                        match k, hk with
                        | 0, _ => rw [hW0]; exact HW7.out
                      have HXS := Lib.hid hx0
                      have HX2 := Lib.hid hx2
                      have HXB := Lib.hid hxb
                      have HWS := Lib.hid (And.intro hW0 (And.intro hW1 hW2))
                      have HR9 := Lib.hid hr9
                      have HT := Lib.hid (And.intro t2 tf)
                      clear hx0 hx2 hxb hW0 hW1 hW2 hr9 t2 tf y09
                      go_wp2_with fail
                      refine region_det (l := [(132, .pointer (some ⟨gx, 0, none⟩)), (133, .slice (some ⟨gb, 0, none⟩) 7 cb), (134, .int .i64 q), (135, .pointer (some ⟨gx, 0, none⟩)), (136, .slice (some ⟨gb, 0, none⟩) 7 cb), (137, .int .i64 q), (138, .pointer (some ⟨gb, q, none⟩)), (139, .slice a6 r1.length c6), (140, .agg #[.int .i64 y0, .int .i64 y1, .int .i64 y2]), (141, .slice (some ⟨w7.heap.size, 0, none⟩) 1 1), (142, .slice a9 (r1.length + 1) c9), (143, .pointer (some ⟨gb, q, none⟩))]) (acts := [9, 10]) (W := WW) (wl := w9.setCell ⟨gb, q, none⟩ (.slice a9 (r1.length + 1) c9)) 156 rfl HWS.out.1 (by kernel_rfl) (by kernel_rfl) (by kernel_rfl) (by kernel_rfl) rfl (by kernel_rfl) ⟨?_, ?_, ?_, ?_, ?_, ?_, ?_, ?_, ?_, ?_, ?_, ?_, ?_⟩ ?_
                      · exact pv_field rfl rfl (by omega) (by kernel_rfl) rfl rfl
                      · exact pv_load (j := 0) (.inl rfl) rfl rfl rfl rfl (by kernel_rfl) rfl fun k hk => HXS.out k (Nat.le_trans hk (Nat.le_of_eq (by kernel_rfl)))
                      · exact pv_fresh rfl (.inl rfl) (by kernel_rfl) rfl
                      · exact pv_field rfl rfl (by omega) (by kernel_rfl) rfl rfl
                      · exact pv_load (j := 3) (.inl rfl) rfl rfl rfl rfl (by kernel_rfl) rfl fun k hk => HXS.out k (Nat.le_trans hk (Nat.le_of_eq (by kernel_rfl)))
                      · exact pv_fresh rfl (.inl rfl) (by kernel_rfl) rfl
                      · exact pv_indexBs (j := 4) (j' := 5) rfl rfl rfl rfl (by kernel_rfl) rfl rfl (by kernel_rfl) rfl rfl HQ7.out rfl
                      · exact pv_load (j := 6) (.inr (.inl rfl)) rfl rfl rfl rfl (by kernel_rfl) rfl fun k hk => HX2.out k (Nat.le_trans hk (Nat.le_of_eq (by kernel_rfl)))
                      · exact pv_loadB rfl rfl (by kernel_rfl) rfl (fun k hk => HXB.out k (Nat.le_trans hk (Nat.le_of_eq (by kernel_rfl)))) rfl
                      · exact av_lit1 (j := 8) rfl rfl rfl rfl (by kernel_rfl) rfl (by rw [HWS.out.1]; rfl) (by rw [HWS.out.1, HWS.out.2.1]; rfl)
                      · exact av_app (j := 7) (j' := 9) rfl rfl rfl rfl (by kernel_rfl) rfl rfl (by kernel_rfl) (by rw [HWS.out.2.1, HWS.out.2.2]; exact HR9.out)
                      · exact pv_indexBs (j := 1) (j' := 2) rfl rfl rfl rfl (by kernel_rfl) rfl rfl (by kernel_rfl) rfl rfl HQ7.out rfl
                      · exact lv_store (j := 11) (j' := 10) rfl rfl rfl rfl (by kernel_rfl) rfl rfl (by kernel_rfl) rfl rfl (by show (WW 2).cell? _ = _; rw [HWS.out.2.2]; exact HT.out.1) (by show (WW 2).frozen? _ = _; rw [HWS.out.2.2]; exact HT.out.2) (by show _ = (WW 2).setCell _ _; rw [HWS.out.2.2])
                      simp only [putL, List.foldl_cons, List.foldl_nil]
                      go_wp2
                      go_roundg (M.length - (i + 1))
                      case rel =>
                        refine ⟨i + 1, upd vs' (q + 2) (.slice a9 (r1.length + 1) c9), hil, Nat.le_refl _, by go_num, (upd_other _ _ (by omega)).symm, by rw [upd_other _ _ (by omega)]; exact hV0.out, ?_⟩
                        have := HU9.out
                        rw [upd_swap _ _ _ _ (show q + 2 ≠ 1 by omega)] at this
                        rw [HF1.out]
                        exact this
                      case measure => omega
                  · have hm2z : decide ((r1.length : Int) < 2) = false := by simp; omega
                    have hm2n : decide (r1.length < 2) = false := by simp; omega
                    have HF1 : Hid (fillR q lsJ (i + 1) = (r1, r2 ++ [(y0, y1, y2)])) := by rw [HSU.out]; unfold Hid fillOne; rw [hm2n]; rfl
                    have b0 := HWB.out.cell (i := 0) rfl
                    have b1 := HWB.out.cell (i := 1) rfl
                    clear hm2
                    have HU8 := Lib.hid (HUB.out.alloc (.cells #[.int .i64 y0, .int .i64 y1, .int .i64 y2] 56))
                    have hG8 := Lib.hid (HU8.out.m.2.2 1 (by omega)).1
                    rw [HE1.out] at hG8
                    go_wp2_with (at_builtin; refine wpList_app _ rfl (.tmp 144) (.tmp 146) 27 rfl B 56 (.agg #[.int .i64 0, .int .i64 0, .int .i64 0]) 3 24 Tryd.underlying27 Tryd.infoBlk rfl (by omega) (vs' 1) r2.length (blks r2) rfl hG8.out _ 1 (blks [(y0, y1, y2)]) rfl (view_blk2 _ _ (y0, y1, y2)) (one_blks _) (by unfold maxLen; omega) (by omega) (Nat.le_trans HU8.out.ge.1 (Nat.le_of_lt HU8.out.m.1.lt)) ?_; intro v9 w9 g1 r9 k1; have G9 : Hid (Gr w9 B 56 3 v9 (r2 ++ [(y0, y1, y2)]).length (blks (r2 ++ [(y0, y1, y2)]))) := (by unfold Hid; rw [List.length_append, blks_append]; exact g1); have HU9 := Lib.hid (HU8.out.rest G9.out r9 k1); clear g1 r9 k1)
                    go_roundg (M.length - (i + 1))
                    case rel =>
                      refine ⟨i + 1, upd vs' 1 v9, hil, Nat.le_refl _, by go_num, (upd_same _ _ _).symm, by rw [upd_other _ _ (by omega)]; exact hV0.out, ?_⟩
                      have := HU9.out
                      rw [upd_upd] at this
                      rw [HF1.out]
                      exact this
                    case measure => omega
                · obtain rfl : i = M.length := by omega
                  obtain ⟨a6, c6, hv6⟩ := (hU.out.m.2.2 1 (by omega)).1.lit
                  have x1 := hU.out.m.1.cell (i := 1) rfl
                  have z1 := hU.out.m.1.free 1
                  have HSW := Lib.hid hU.out.swap
                  have HX1 : Hid (upd (upd lsJ (q + 2) (fillR q lsJ M.length).1) 1 (fillR q lsJ M.length).2 1 = (fillR q lsJ M.length).2) := upd_same _ _ _
                  have HST : Hid (upd (upd (upd (upd lsJ (q + 2) (fillR q lsJ M.length).1) 1 (fillR q lsJ M.length).2) 0 (fillR q lsJ M.length).2) 1 [] = step3 lsJ q) := by rw [← HMM.out]; exact step3_eq lsJ q
                  rw [hV0.out] at x1
                  have hwk : IntKind.i64.wrap ((kk : Int) - 1) = (kk : Int) - 1 := by rw [IntKind.wrap_i64]; omega
                  rw [hv6] at HSW ⊢
                  clear hv6
                  go_wp2
                  go_roundg (3 - (j + 1))
                  case measure => omega
                  case rel =>
                    have hkz := HKZ.out
                    have h9 := HSW.out
                    rw [HX1.out, HST.out, ← HGS.out] at h9
                    exact ⟨j + 1, _, hlt, Nat.le_refl _, by congr 1; omega, h9⟩
            · obtain rfl : j = 3 := by omega
              rw [← HDEF.out] at hU
              have HONE : Hid (useLs (lsOf f st) o2 a t v l 1 = []) := useLs_one _ _ _ _ _ _
              obtain ⟨X, hX⟩ : ∃ X, useLs (lsOf f st) o2 a t v l = X := ⟨_, rfl⟩
              rw [hX] at hU HONE HSMU
              have HX := Lib.hid hX
              clear hX HDEF
              obtain ⟨a7, c7, hv7⟩ := (hU.out.m.2.2 0 (by omega)).1.lit
              have HMI : Hid (MemIn wr (.agg #[.slice (some ⟨gb, 0, none⟩) 7 cb, .slice a7 (X 0).length c7]) 7 (fun i => X (i + 2)) (X 0)) := by have := hU.out.m.memIn; rwa [hv7] at this
              have x0 := hU.out.m.1.cell (i := 0) rfl
              have x1 := hU.out.m.1.cell (i := 1) rfl
              rw [hv7] at x1
              have o1' := hU.out.old.cell (i := 1) rfl
              have HOLD := Lib.hid hU.out.old
              have HRES := Lib.hid hU.out.res
              have HWAY := Lib.hid hU.out.way
              have HBE := Lib.hid hU.out.below
              have HGE := Lib.hid hU.out.ge
              have hz3 : decide ((2 : Int) - ((3 : Nat) : Int) ≥ 0) = false := by decide
              have hz4 : ((2 : Int) - ((3 : Nat) : Int)) = -1 := by decide
              rw [hz4]
              have hne : gt ≠ w.heap.size + 1 := fun e => by
                have r1 := HOLD.out
                have r2 := HRES.out
                unfold Row at r1 r2
                rw [e, r2] at r1
                cases r1
              have hne' : w.heap.size + 1 ≠ gt := Ne.symm hne
              clear hv7 hU
              go_wp2_with fail
              rename_i v9' k7 w9' v8' h9' q1' k6 p5 k5 w8' q0' k4 p4 k3 j0 k2 p3 p2 k1 p1 k0 p0
              clear p1 p2 p3 p4 p5 q0' q1'
              clear HSM HVAL HV HA HVV HL HEX HM
              go_region_law (first
                | (go_simp
                   go_at_call 35
                   refine (clone_any' _ _ _ _ (HMI.out.mono ((Below.refl wr.heap.size wr).drew) (Nat.le_refl _)) HSMU.out).mono ?_
                   rintro e w8 ⟨cv, rfl, hmo, hb⟩
                   have HB8 : Hid (Below wr.heap.size wr w8) := (Below.refl wr.heap.size wr).drew.trans hb
                   obtain ⟨bv8, vs8, hcv, hbv8, hfam8⟩ := hmo
                   subst hcv
                   have HMO : Hid (MO w8 wr.heap.size (.agg #[bv8, vs8 0]) 7 X) := ⟨bv8, vs8, rfl, hbv8, by have := hfam8; rwa [lsOf_id HONE.out] at this⟩
                   obtain ⟨a8, c8, hv8⟩ := hbv8.lit
                   obtain ⟨a9, c9, hv9⟩ := (hfam8 0 (by omega)).1.lit
                   rw [hv8, hv9] at HMO
                   rw [hv8, hv9]
                   have HRES8 := Lib.hid (HRES.out.mono HB8.out HRES.out.lt)
                   have p1 := (HOLD.out.mono HB8.out HOLD.out.lt).cell (i := 1) rfl
                   have y0 := HRES8.out.cell (i := 0) rfl
                   have y1 := HRES8.out.cell (i := 1) rfl
                   have z0 := HRES8.out.free 0
                   have z1 := HRES8.out.free 1
                   clear hb hbv8 hfam8 hv8 hv9))
              all_goals
                go_simp
                refine p0 _ _ (wp_ret ?_)
                have hrow := (HRES8.out.set 0 (.slice a8 7 c8)).set 1 (.slice a9 (lsOf (fun i => X (i + 2)) (X 0) 0).length c9)
                have f0 := hrow.cell (i := 0) rfl
                have f1 := hrow.cell (i := 1) rfl
                have hg1 : w8.grownBy ((w8.setCell ⟨w.heap.size + 1, 0, none⟩ (.slice a8 7 c8)).setCell ⟨w.heap.size + 1, 1, none⟩ (.slice a9 (lsOf (fun i => X (i + 2)) (X 0) 0).length c9)) (some (w.heap.size + 1)) := grown_set (set_other w8 ⟨w.heap.size + 1, 0, none⟩ _ rfl) _ _
                have HG1 := Lib.hid hg1
                refine bodyPost_ret (v := .tuple #[.agg #[.slice a8 7 c8, .slice a9 (lsOf (fun i => X (i + 2)) (X 0) 0).length c9], .int .i64 o1, .slice aw 3 cw, .bool true]) (by simp [results, Tryd.results14, go_sem, f0, f1]) rfl ?_
                rw [← HPOST.out, HX.out]
                have hge := HGE.out
                have hlw : w.heap.size + 1 < wr.heap.size := HRES.out.lt
                have hb8 := HB8.out.size
                have hbe := HBE.out.trans (HB8.out.mono HBE.out.size)
                refine ⟨_, _, rfl, (HMO.out.kept HG1.out hlw).low HBE.out.size, ((HWAY.out.mono HB8.out (Nat.le_refl _)).kept HG1.out (fun g hg he => by cases he; have := ((HWAY.out.mono HB8.out (Nat.le_refl _)).lt _ hg).1; omega)).low hge.2.1, hbe.grown HG1.out hbe.size (fun g hg => by cases hg; omega)⟩
end Go.Proofs.YtbnplohlfiefhaaDoor
