/- MemoryUse of the specification uses -/
import Derived.Test.YtbnplohlfiefhaaDoorSUseN
import Derived.Test.YtbnplohlfiefhaaDoorRegD
namespace Go.Proofs.YtbnplohlfiefhaaDoor
open Go.RowKit
set_option maxRecDepth 40000 in
set_option maxHeartbeats 8000000 in
theorem spec_Use_yes (mv : Value) (f : Nat → List (Int × Int × Int)) (st : List (Int × Int × Int)) (a : Int) (t : Bool) (v l : Int) (w : World) (h : MemIn w mv 7 f st) (hs : Small 7 f st) (hk : useOk 7 f st a v l = true) :
    Calls Tryd.prog 22 #[mv, .int .i64 a, .bool t, .int .i64 v, .int .i64 l] w (UsePost true 7 (useLs (lsOf f st) (blkAt (allM 7 f st) a).2.2 a t v l) (blkAt (allM 7 f st) a).2.1 (pathL (blkAt (allM 7 f st) a).2.2) w) := by
  obtain ⟨POST, hpost⟩ : ∃ P, UsePost true 7 (useLs (lsOf f st) (blkAt (allM 7 f st) a).2.2 a t v l) (blkAt (allM 7 f st) a).2.1 (pathL (blkAt (allM 7 f st) a).2.2) w = P := ⟨_, rfl⟩
  rw [hpost]
  have HPOST := Lib.hid hpost
  clear hpost
  have HM := Lib.hid h
  obtain ⟨bs, sv, rfl, h1, h2⟩ := h
  have HSM := Lib.hid hs
  clear h1 h2 hs
  unfold useOk at hk
  rw [Bool.and_eq_true, Bool.and_eq_true, Bool.and_eq_true] at hk
  obtain ⟨⟨⟨hv, ha⟩, hvv⟩, hl⟩ := hk
  have HVAL := validB_iff.1 hv
  have HVV := Lib.hid hvv
  have HL := Lib.hid hl
  have hol := leaf_in hv ha
  have hlv : leafV 7 f st a = (blkAt (allM 7 f st) a).2.2 := by unfold leafV; rw [hv, ha]; rfl
  have hhad := had_gath HVAL ha
  have HLF0 : Hid (LeafB (lsOf f st)) := fun i hi b hb => by
    have hm : b ∈ allM 7 f st := by
      unfold lsOf at hb
      split at hb
      · exact allM_mem.2 (.inl hb)
      · split at hb
        · cases hb
        · exact allM_mem.2 (.inr ⟨i - 2, by omega, hb⟩)
    have := HVAL.ok b hm
    unfold blkOk at this
    rw [Bool.and_eq_true] at this; exact this.2
  have HLB0 : Hid (LenB (lsOf f st) 100) := fun i hi => by
    unfold lsOf
    split
    · exact HSM.out.2.1
    · split
      · simp
      · exact HSM.out.2.2 (i - 2) (by omega)
  clear hv ha hvv hl HVAL
  obtain ⟨o, ho⟩ : ∃ o, blkAt (allM 7 f st) a = o := ⟨_, rfl⟩
  rw [ho] at HPOST hol hlv hhad
  obtain ⟨o0, o1, o2⟩ := o
  clear ho
  have HOL : Hid (inB o2 0 3 = true) := hol
  have HLV : Hid (leafV 7 f st a = o2) := hlv
  have HHAD : Hid (hadL a (gathK (lsOf f st) o2 3 0) = o1) := hhad
  have hpo : Hid (pathO o2 = pathL o2) := by unfold Hid pathO; rw [hol]; rfl
  have hdd : decide (o2 < 0) = false := by
    rw [inB_iff] at hol
    exact decide_eq_false (by have : 0 ≤ o2 := hol.1; omega)
  clear hol hlv hhad
  obtain ⟨w1, hw1⟩ : ∃ w1, w1 = (w.alloc (.cells #[bs, sv] 29)).alloc (.cells #[.slice none 0 0, .slice none 0 0] 29) := ⟨_, rfl⟩
  have HW1 := Lib.hid hw1
  have HB1 : Hid (Below w.heap.size w w1) := by rw [hw1]; exact ((Below.refl _ _).alloc (Nat.le_refl _) _).alloc (by simp) _
  have HR0 : Hid (Row w1 w.heap.size 29 [bs, sv]) := by rw [hw1]; exact (Row.new w 29 [bs, sv]).alloc _
  have HR1 : Hid (Row w1 (w.heap.size + 1) 29 [.slice none 0 0, .slice none 0 0]) := by
    have := Row.new (w.alloc (.cells #[bs, sv] 29)) 29 [.slice none 0 0, .slice none 0 0]
    rw [World.size_alloc] at this
    rw [hw1]; exact this
  have k0 : ((w.alloc (.cells #[bs, sv] 29)).alloc (.cells #[.slice none 0 0, .slice none 0 0] 29)).cell? ⟨w.heap.size, 0, none⟩ = some bs := by rw [← hw1]; exact HR0.out.cell rfl
  have k1 : ((w.alloc (.cells #[bs, sv] 29)).alloc (.cells #[.slice none 0 0, .slice none 0 0] 29)).cell? ⟨w.heap.size, 1, none⟩ = some sv := by rw [← hw1]; exact HR0.out.cell rfl
  clear hw1
  go_enter Tryd.func22, Tryd.ntmps22
  go_wp2_with fail
  rw [← HW1.out]
  clear k0 k1
  refine (spec_LeafOf _ 7 f st a w1 (HM.out.mono HB1.out (Nat.le_refl _)) HSM.out).mono ?_
  rw [HLV.out]
  rintro e w2 ⟨rfl, hb⟩
  have HB2 : Hid (Below w.heap.size w w2) := HB1.out.trans (hb.mono HB1.out.size)
  have HR2 := Lib.hid (HR1.out.mono hb HR1.out.lt)
  have HR02 := Lib.hid (HR0.out.mono hb HR0.out.lt)
  clear hb HB1 HR0 HR1 HW1
  go_wp2_with (first | (go_at_call 43; refine (l1In_any _ _ _ _).mono ?_; rw [HVV.out]; rintro e w' ⟨rfl, rfl⟩) | (go_at_call 43; refine (l1In_any _ _ _ _).mono ?_; rw [HL.out]; rintro e w' ⟨rfl, rfl⟩))
  refine (specPathOf_any o2 w2).mono ?_
  rw [hpo.out]
  rintro e w3 ⟨way, rfl, hway, hb⟩
  have hpl : (pathL o2).length = 3 := rfl
  rw [hpl] at hway
  obtain ⟨gw, cw, hwv, -, -, -, -, -, -⟩ := hway.at (show 0 < 3 by omega)
  subst hwv
  have HWAY := Lib.hid hway
  have HB3 : Hid (Below w.heap.size w w3) := HB2.out.trans (hb.mono HB2.out.size)
  have HR3 := Lib.hid (HR2.out.mono hb HR2.out.lt)
  have HR03 := Lib.hid (HR02.out.mono hb HR02.out.lt)
  have hgrB : w.heap.size + 1 < w2.heap.size := HR2.out.lt
  have hz23 : w2.heap.size ≤ w3.heap.size := hb.size
  have hzw : w.heap.size ≤ w2.heap.size := HB2.out.size
  have k0 := HR03.out.cell (i := 0) rfl
  have k1 := HR03.out.cell (i := 1) rfl
  clear hb hway HR2 HR02 hdd hpl
  go_wp2_with fail
  clear k0 k1
  refine (copy_any _ f st w3 (HM.out.mono HB3.out (Nat.le_refl _)) HSM.out).mono ?_
  rintro e w4 ⟨cv, rfl, hmo, hb⟩
  obtain ⟨bv, vs, rfl, hbv, hfam⟩ := hmo
  obtain ⟨gb, cb, hbvv, -, -, -, -, -, -⟩ := hbv.at (show 0 < 7 by omega)
  obtain ⟨a0, c0, hv0⟩ := (hfam 0 (by omega)).1.lit
  have hz34 : w3.heap.size ≤ w4.heap.size := hb.size
  have HUS : Hid (UT w w2.heap.size w4.heap.size (w.heap.size + 1) (.slice (some ⟨gb, 0, none⟩) 7 cb) (.slice (some ⟨gw, 0, none⟩) 3 cw) (pathL o2) vs (lsOf f st) (w4.alloc (.cells #[.slice (some ⟨gb, 0, none⟩) 7 cb, .slice a0 (lsOf f st 0).length c0] 29))) := by
    have hba : Below w4.heap.size w4 (w4.alloc (.cells #[.slice (some ⟨gb, 0, none⟩) 7 cb, .slice a0 (lsOf f st 0).length c0] 29)) := (Below.refl _ _).alloc (Nat.le_refl _) _
    refine ⟨⟨?_, ?_, ?_⟩, ?_, ?_, ?_, ?_⟩
    · rw [hv0]; exact Row.new w4 29 [.slice (some ⟨gb, 0, none⟩) 7 cb, .slice a0 (lsOf f st 0).length c0]
    · have hbv' := hbv
      rw [hbvv] at hbv'
      exact (hbv'.mono hba (Nat.le_refl _)).low hz23
    · exact (hfam.mono hba (Nat.le_refl _)).low hz23
    · exact (HWAY.out.mono hb (Nat.le_refl _)).mono hba (Nat.le_refl _)
    · exact (HR3.out.mono hb HR3.out.lt).mono hba (by omega)
    · exact (HB3.out.trans (hb.mono HB3.out.size)).trans (hba.mono (by omega))
    · exact ⟨by omega, hzw, hgrB⟩
  rw [hbvv, hv0]
  clear hb hbv hfam hv0 hbvv HR03 HR3 HB3 HB2 HWAY hz34
  obtain ⟨B, hB⟩ : ∃ B, w2.heap.size = B := ⟨_, rfl⟩
  rw [hB] at HUS
  clear hB hz23 hgrB hzw HM HSM HLV hpo HVV
  obtain ⟨gx, hgx⟩ : ∃ gx, w4.heap.size = gx := ⟨_, rfl⟩
  rw [hgx] at HUS
  go_wp2
  try rw [hgx]
  generalize (w4.alloc (.cells #[.slice (some ⟨gb, 0, none⟩) 7 cb, .slice a0 (lsOf f st 0).length c0] 29)) = W5 at HUS ⊢
  clear hgx
  go_loopg [17] 3 (fun gk i wr => ∃ (k : Nat) (vs : Nat → Value), k ≤ 3 ∧ 3 - k ≤ gk ∧ i = .int .i64 k ∧ Hid (UT w B gx (w.heap.size + 1) (.slice (some ⟨gb, 0, none⟩) 7 cb) (.slice (some ⟨gw, 0, none⟩) 3 cw) (pathL o2) vs (gathK (lsOf f st) o2 k) wr))
  case atStart => exact ⟨0, vs, Nat.zero_le _, Nat.le_refl _, rfl, HUS.out⟩
  case round =>
    clear HUS
    obtain ⟨k, vs, hk, hgk, rfl, hU⟩ := hrel
    by_cases hlt : k < 3
    · have hk3 := hk
      obtain ⟨hp1, hp7⟩ := pN_path HOL.out hlt
      have HLB := Lib.hid (HLB0.out.gathK HOL.out k hk)
      have hpow : 100 * 2 ^ k ≤ 800 := pow_le (Nat.le_refl _) hk
      have HGS : Hid (gathK (lsOf f st) o2 (k + 1) = gath (gathK (lsOf f st) o2 k) (pN o2 k)) := rfl
      obtain ⟨lsK, hls⟩ : ∃ x, gathK (lsOf f st) o2 k = x := ⟨_, rfl⟩
      rw [hls] at hU HLB HGS
      obtain ⟨q, hq⟩ : ∃ x, pN o2 k = x := ⟨_, rfl⟩
      rw [hq] at hp1 hp7 HGS
      clear hls hq
      have hl0 := HLB.out 0 (by omega)
      have hl2 := HLB.out (q + 2) (by omega)
      have HQ7 := Lib.hid hp7
      have HP1 := Lib.hid hp1
      have HLT := Lib.hid hlt
      obtain ⟨a1, c1, hv1⟩ := (hU.out.m.2.2 0 (by omega)).1.lit
      obtain ⟨a2, c2, hv2⟩ := (hU.out.m.2.2 (q + 2) (by omega)).1.lit
      have hG0 := (hU.out.drew.m.2.2 0 (by omega)).1
      have hG2 := (hU.out.drew.m.2.2 (q + 2) (by omega)).1
      have hG0b : Gr wr.drew B 56 3 (.slice a1 (lsK 0).length c1) (lsK 0).length (blks (lsK 0)) := by rw [← hv1]; exact hG0
      have hG2b : Gr wr.drew B 56 3 (.slice a2 (lsK (q + 2)).length c2) (lsK (q + 2)).length (blks (lsK (q + 2))) := by rw [← hv2]; exact hG2
      obtain ⟨i9, q1, q2, q3, q4⟩ := info_parts Tryd.infoBlk
      obtain ⟨v9, w9, hr9, g1, r9, k1⟩ := run_app (P := Tryd.prog) wr.drew B 27 27 56 i9 (.agg #[.int .i64 0, .int .i64 0, .int .i64 0]) 3 24 Tryd.underlying27 q1 q2 q3 q4 rfl (by omega) (.slice a1 (lsK 0).length c1) (lsK 0).length (blks (lsK 0)) hG0b (.slice a2 (lsK (q + 2)).length c2) (lsK (q + 2)).length (blks (lsK (q + 2))) hG2b.view (one_blks _) (by unfold maxLen; omega) (by omega) hU.out.drew.size
      have G1 : Gr w9 B 56 3 v9 (lsK 0 ++ lsK (q + 2)).length (blks (lsK 0 ++ lsK (q + 2))) := by rw [List.length_append, blks_append]; exact g1
      rw [← hv1] at r9 k1
      have HU1 : Hid (UT w B gx (w.heap.size + 1) (.slice (some ⟨gb, 0, none⟩) 7 cb) (.slice (some ⟨gw, 0, none⟩) 3 cw) (pathL o2) (upd vs 0 v9) (upd lsK 0 (lsK 0 ++ lsK (q + 2))) (w9.setCell ⟨gx, 1, none⟩ v9)) := hU.out.drew.stash G1 r9 k1
      have HM9 := Lib.hid (hU.out.drew.mid rfl (by omega) G1 r9 k1)
      have HM0 := Lib.hid (hU.out.drew.rds rfl)
      obtain ⟨a7, c7, hv7⟩ := g1.lit
      subst hv7
      obtain ⟨WW, hWW⟩ : ∃ WW : Nat → World, WW = fun k' => match k' with | 0 => wr.drew | _ => w9 := ⟨_, rfl⟩
      have HWS := Lib.hid (And.intro (show WW 0 = wr.drew from congrFun hWW 0) (show WW 1 = w9 from congrFun hWW 1))
      have HR9 := Lib.hid hr9
      have HC0 : Hid (∀ k', k' ≤ 1 → (WW k').cell? ⟨gx, 0, none⟩ = some (.slice (some ⟨gb, 0, none⟩) 7 cb)) := fun k' hk => by
        match k', hk with
        | 0, _ => rw [HWS.out.1]; exact HM0.out.c0
        | 1, _ => rw [HWS.out.2]; exact HM9.out.c0
      have HCW : Hid (∀ k', k' ≤ 1 → (WW k').cell? ⟨gw, 0 + k, none⟩ = some (.int .i64 (q : Int))) := fun k' hk => by
        match k', hk with
        | 0, _ => rw [HWS.out.1]; exact HM0.out.cw k _ HP1.out
        | 1, _ => rw [HWS.out.2]; exact HM9.out.cw k _ HP1.out
      have HC1 : Hid (∀ k', k' ≤ 0 → (WW k').cell? ⟨gx, 1, none⟩ = some (.slice a1 (lsK 0).length c1)) := fun k' hk => by
        match k', hk with
        | 0, _ => rw [HWS.out.1]; have := HM0.out.c1; rwa [hv1] at this
      have HCB : Hid (∀ k', k' ≤ 0 → (WW k').cell? ⟨gb, q, none⟩ = some (.slice a2 (lsK (q + 2)).length c2)) := fun k' hk => by
        match k', hk with
        | 0, _ => rw [HWS.out.1]; have := HM0.out.cb q HQ7.out; rwa [hv2] at this
      clear hWW hr9 g1 r9 k1 q1 q2 q3 q4 hG0 hG2 hG0b hG2b hv1 hv2 hp1 hp7
      go_wp2_with fail
      refine region_det (l := [(50, .pointer (some ⟨gx, 1, none⟩)), (51, .slice a1 (lsK 0).length c1), (52, .pointer (some ⟨gx, 0, none⟩)), (53, .slice (some ⟨gb, 0, none⟩) 7 cb), (54, .slice (some ⟨gw, 0, none⟩) 3 cw), (55, .int .i64 k), (56, .pointer (some ⟨gw, 0 + k, none⟩)), (57, .int .i64 q), (58, .pointer (some ⟨gb, q, none⟩)), (59, .slice a2 (lsK (q + 2)).length c2), (60, .slice a7 ((lsK 0).length + (lsK (q + 2)).length) c7), (61, .pointer (some ⟨gx, 1, none⟩))]) (acts := [10]) (W := WW) (wl := w9.setCell ⟨gx, 1, none⟩ (.slice a7 ((lsK 0).length + (lsK (q + 2)).length) c7)) 177 rfl HWS.out.1 (by kernel_rfl) (by kernel_rfl) (by kernel_rfl) (by kernel_rfl) rfl (by kernel_rfl) ⟨?_, ?_, ?_, ?_, ?_, ?_, ?_, ?_, ?_, ?_, ?_, ?_, ?_⟩ ?_
      · exact pv_field rfl rfl (by omega) (by kernel_rfl) rfl rfl
      · exact pv_load (j := 0) (.inr (.inl rfl)) rfl rfl rfl rfl (by kernel_rfl) rfl fun k' hk => HC1.out k' (Nat.le_trans hk (Nat.le_of_eq (by kernel_rfl)))
      · exact pv_field rfl rfl (by omega) (by kernel_rfl) rfl rfl
      · exact pv_load (j := 2) (.inl rfl) rfl rfl rfl rfl (by kernel_rfl) rfl fun k' hk => HC0.out k' (Nat.le_trans hk (Nat.le_of_eq (by kernel_rfl)))
      · exact pv_fresh rfl (.inl rfl) (by kernel_rfl) rfl
      · exact pv_fresh rfl (.inl rfl) (by kernel_rfl) rfl
      · exact pv_indexI (j := 4) (j' := 5) rfl rfl rfl rfl (by kernel_rfl) rfl rfl (by kernel_rfl) rfl rfl HLT.out rfl
      · exact pv_load (j := 6) (.inr (.inr (.inl rfl))) rfl rfl rfl rfl (by kernel_rfl) rfl fun k' hk => HCW.out k' (Nat.le_trans hk (Nat.le_of_eq (by kernel_rfl)))
      · exact pv_indexBs (j := 3) (j' := 7) rfl rfl rfl rfl (by kernel_rfl) rfl rfl (by kernel_rfl) rfl rfl HQ7.out rfl
      · exact pv_load (j := 8) (.inr (.inl rfl)) rfl rfl rfl rfl (by kernel_rfl) rfl fun k' hk => HCB.out k' (Nat.le_trans hk (Nat.le_of_eq (by kernel_rfl)))
      · exact av_app (j := 1) (j' := 9) rfl rfl rfl rfl (by kernel_rfl) rfl rfl (by kernel_rfl) (by rw [HWS.out.1, HWS.out.2]; exact HR9.out)
      · exact pv_field rfl rfl (by omega) (by kernel_rfl) rfl rfl
      · exact lv_store (j := 11) (j' := 10) rfl rfl rfl rfl (by kernel_rfl) rfl rfl (by kernel_rfl) rfl rfl (by show (WW 1).cell? _ = _; rw [HWS.out.2]; exact HM9.out.c1) (by show (WW 1).frozen? _ = _; rw [HWS.out.2]; exact HM9.out.f1) (by show _ = (WW 1).setCell _ _; rw [HWS.out.2])
      simp only [putL, List.foldl_cons, List.foldl_nil]
      go_simp
      clear HC0 HCW HC1 HCB HWS HR9 HM9 HM0
      generalize (w9.setCell ⟨gx, 1, none⟩ (.slice a7 ((lsK 0).length + (lsK (q + 2)).length) c7)) = wa at HU1 ⊢
      have HU2 : Hid (UT w B gx (w.heap.size + 1) (.slice (some ⟨gb, 0, none⟩) 7 cb) (.slice (some ⟨gw, 0, none⟩) 3 cw) (pathL o2) (upd vs 0 (.slice a7 ((lsK 0).length + (lsK (q + 2)).length) c7)) (upd lsK 0 (lsK 0 ++ lsK (q + 2))) (wa.alloc (.cells #[] 56)).drew) := (HU1.out.alloc _).drew
      have HM0 := Lib.hid (HU1.out.drew.rds rfl)
      have HM9 := Lib.hid (HU2.out.rds rfl)
      obtain ⟨WW, hWW⟩ : ∃ WW : Nat → World, WW = fun k' => match k' with | 0 => wa.drew | _ => (wa.alloc (.cells #[] 56)).drew := ⟨_, rfl⟩
      have HWS := Lib.hid (And.intro (show WW 0 = wa.drew from congrFun hWW 0) (show WW 1 = (wa.alloc (.cells #[] 56)).drew from congrFun hWW 1))
      have HC0 : Hid (∀ k', k' ≤ 1 → (WW k').cell? ⟨gx, 0, none⟩ = some (.slice (some ⟨gb, 0, none⟩) 7 cb)) := fun k' hk => by
        match k', hk with
        | 0, _ => rw [HWS.out.1]; exact HM0.out.c0
        | 1, _ => rw [HWS.out.2]; exact HM9.out.c0
      have HCW : Hid (∀ k', k' ≤ 1 → (WW k').cell? ⟨gw, 0 + k, none⟩ = some (.int .i64 (q : Int))) := fun k' hk => by
        match k', hk with
        | 0, _ => rw [HWS.out.1]; exact HM0.out.cw k _ HP1.out
        | 1, _ => rw [HWS.out.2]; exact HM9.out.cw k _ HP1.out
      have HCL : Hid (UT w B gx (w.heap.size + 1) (.slice (some ⟨gb, 0, none⟩) 7 cb) (.slice (some ⟨gw, 0, none⟩) 3 cw) (pathL o2) (upd (upd vs 0 (.slice a7 ((lsK 0).length + (lsK (q + 2)).length) c7)) (q + 2) (.slice (some ⟨wa.heap.size, 0, none⟩) 0 0)) (upd (upd lsK 0 (lsK 0 ++ lsK (q + 2))) (q + 2) []) ((wa.alloc (.cells #[] 56)).drew.setCell ⟨gb, q, none⟩ (.slice (some ⟨wa.heap.size, 0, none⟩) 0 0))) := HU2.out.clear HQ7.out rfl (Gr.none0 _ _ _ _ _) (by simp [gBlock])
      clear hWW
      go_wp2_with fail
      refine region_det (l := [(62, .pointer (some ⟨gx, 0, none⟩)), (63, .slice (some ⟨gb, 0, none⟩) 7 cb), (64, .slice (some ⟨gw, 0, none⟩) 3 cw), (65, .int .i64 k), (66, .pointer (some ⟨gw, 0 + k, none⟩)), (67, .int .i64 q), (68, .slice (some ⟨wa.heap.size, 0, none⟩) 0 0), (69, .pointer (some ⟨gb, q, none⟩))]) (acts := [6]) (W := WW) (wl := (wa.alloc (.cells #[] 56)).drew.setCell ⟨gb, q, none⟩ (.slice (some ⟨wa.heap.size, 0, none⟩) 0 0)) 177 rfl HWS.out.1 (by kernel_rfl) (by kernel_rfl) (by kernel_rfl) (by kernel_rfl) rfl (by kernel_rfl) ⟨?_, ?_, ?_, ?_, ?_, ?_, ?_, ?_, ?_⟩ ?_
      · exact pv_field rfl rfl (by omega) (by kernel_rfl) rfl rfl
      · exact pv_load (j := 0) (.inl rfl) rfl rfl rfl rfl (by kernel_rfl) rfl fun k' hk => HC0.out k' (Nat.le_trans hk (Nat.le_of_eq (by kernel_rfl)))
      · exact pv_fresh rfl (.inl rfl) (by kernel_rfl) rfl
      · exact pv_fresh rfl (.inl rfl) (by kernel_rfl) rfl
      · exact pv_indexI (j := 2) (j' := 3) rfl rfl rfl rfl (by kernel_rfl) rfl rfl (by kernel_rfl) rfl rfl HLT.out rfl
      · exact pv_load (j := 4) (.inr (.inr (.inl rfl))) rfl rfl rfl rfl (by kernel_rfl) rfl fun k' hk => HCW.out k' (Nat.le_trans hk (Nat.le_of_eq (by kernel_rfl)))
      · exact av_lit0 rfl rfl (by rw [HWS.out.1]; rfl) (by rw [HWS.out.1, HWS.out.2]; rfl)
      · exact pv_indexBs (j := 1) (j' := 5) rfl rfl rfl rfl (by kernel_rfl) rfl rfl (by kernel_rfl) rfl rfl HQ7.out rfl
      · exact lv_store (j := 7) (j' := 6) rfl rfl rfl rfl (by kernel_rfl) rfl rfl (by kernel_rfl) rfl rfl (by show (WW 1).cell? _ = _; rw [HWS.out.2]; exact HM9.out.cb q HQ7.out) (by show (WW 1).frozen? _ = _; rw [HWS.out.2]; exact HM9.out.fb q) (by show _ = (WW 1).setCell _ _; rw [HWS.out.2])
      simp only [putL, List.foldl_cons, List.foldl_nil]
      go_simp
      go_wp2_with fail
      go_roundg (3 - (k + 1))
      case rel => exact ⟨k + 1, _, HLT.out, Nat.le_refl _, by go_num, by rw [HGS.out]; exact HCL.out⟩
      case measure => have := HLT.out; omega
    · obtain rfl : k = 3 := by omega
      have HLBG := Lib.hid (HLB0.out.gathK HOL.out 3 (Nat.le_refl _))
      have HLFG := Lib.hid (HLF0.out.gathK HOL.out 3 (Nat.le_refl _))
      have HDEF : Hid (useLs (lsOf f st) o2 a t v l = stepK (setS (gathK (lsOf f st) o2 3) a t v l) o2 3) := rfl
      obtain ⟨lsG, hls⟩ : ∃ x, gathK (lsOf f st) o2 3 = x := ⟨_, rfl⟩
      rw [hls] at hU HLBG HLFG HDEF HHAD
      clear hls HLF0 HLB0
      obtain ⟨L, hL⟩ : ∃ L, lsG 0 = L := ⟨_, rfl⟩
      have hLl : L.length ≤ 800 := by rw [← hL]; exact HLBG.out 0 (by omega)
      rw [hL] at HHAD
      obtain ⟨a1, c1, hv1⟩ := (hU.out.m.2.2 0 (by omega)).1.lit
      rw [hL] at hv1
      have HV1 := Lib.hid hv1
      have HLL := Lib.hid hL
      obtain ⟨U, hUd⟩ : ∃ U, upB a t v l = U := ⟨_, rfl⟩
      have HSET : Hid (setS lsG a t v l = upd lsG 0 (L.map U)) := by unfold Hid setS; rw [hL, hUd]
      have HUA : Hid (∀ b : (Int × Int × Int), b.1 = a → U b = (b.1, if t then v else b.2.1, l)) := fun b e => by rw [← hUd]; unfold upB; rw [e]; simp
      have HUN : Hid (∀ b : (Int × Int × Int), b.1 ≠ a → U b = b) := fun b e => by rw [← hUd]; unfold upB; rw [if_neg (by simpa using e)]
      clear hv1 hL hUd
      go_wp2_with fail
      go_loopg [18, 19] L.length (fun gg hd i wr => ∃ i' : Nat, i' ≤ L.length ∧ L.length - i' ≤ gg ∧ hd = .int .i64 (hadL a (L.take i')) ∧ i = .int .i64 i' ∧ Hid (UT w B gx (w.heap.size + 1) (.slice (some ⟨gb, 0, none⟩) 7 cb) (.slice (some ⟨gw, 0, none⟩) 3 cw) (pathL o2) vs (upd lsG 0 (upto L U i')) wr))
      case atStart => exact ⟨0, Nat.zero_le _, Nat.le_refl _, by simp [hadL], rfl, by rw [show upd lsG 0 (upto L U 0) = lsG by rw [show upto L U 0 = L by simp [upto], ← HLL.out, upd_id]]; exact hU.out⟩
      case round =>
        clear hU
        obtain ⟨i, hi, hgg, rfl, rfl, hU⟩ := hrel
        have x1 := hU.out.m.1.cell (i := 1) rfl
        rw [HV1.out] at x1
        by_cases hil : i < L.length
        · have hcl : (upd lsG 0 (upto L U i) 0).length = L.length := by rw [upd_same, upto_len]
          obtain ⟨gs, cs, hve, hgs, -, hfr, hcell, hset⟩ := gr_one (hU.out.m.2.2 0 (by omega)).1 (by rw [hcl]; omega)
          rw [hcl, HV1.out] at hve
          cases hve
          rw [upd_same] at hcell hset
          have hbat := upto_bat (U := U) hil
          obtain ⟨e0, e1, e2⟩ := blks_get (xs := upto L U i) (k := i) (by rw [upto_len]; exact hil)
          rw [hbat] at e0 e1 e2
          have d0 := hcell _ _ e0
          have d1 := hcell _ _ e1
          have d2 := hcell _ _ e2
          have f1 := hfr (i * 3 + 1)
          have f2 := hfr (i * 3 + 2)
          have HST := Lib.hid (upto_step (U := U) hil)
          have HKP : Hid (U (bat L i) = bat L i → upto L U (i + 1) = upto L U i) := fun e => upto_keep hil e
          have HBT : Hid (bat (upto L U i) i = bat L i) := hbat
          have HHS := Lib.hid (hadL_succ (a := a) hil)
          obtain ⟨y, hy⟩ : ∃ y, bat L i = y := ⟨_, rfl⟩
          rw [hy] at d0 d1 d2 HST HKP HBT HHS
          obtain ⟨y0, y1, y2⟩ := y
          have HSE := Lib.hid hset
          have HGS := Lib.hid hgs
          have hlu : i < (upto L U i).length := by rw [upto_len]; exact hil
          have HLU := Lib.hid hlu
          have HIL := Lib.hid hil
          obtain ⟨hv0, hhv0⟩ : ∃ z, hadL a (L.take i) = z := ⟨_, rfl⟩
          rw [hhv0] at HHS ⊢
          clear hcl hcell hset hbat e0 e1 e2 hy hgs hfr hlu hhv0
          by_cases hya : y0 = a
          · have hyb : (y0 == a) = true := by simp [hya]
            have HUY : Hid (U (y0, y1, y2) = (y0, if t then v else y1, l)) := HUA.out _ hya
            have HHD : Hid (hadL a (L.take (i + 1)) = y1) := by rw [HHS.out, if_pos hyb]; rfl
            have G1 := HSE.out (i * 3 + 2) (.int .i64 l) ((upto L U i).set i (y0, y1, l)) (blks_setf HLU.out 2 (by omega) _ _ (by rw [HBT.out]; rfl)).symm (by simp)
            have HU1 := Lib.hid (hU.out.field HGS.out G1)
            clear hya G1
            cases t with
            | false =>
              go_wp2_with fail
              go_roundg (L.length - (i + 1))
              case rel =>
                refine ⟨i + 1, HIL.out, Nat.le_refl _, by rw [HHD.out], by go_num, ?_⟩
                have := HU1.out
                rw [upd_upd] at this
                rw [← HST.out, HUY.out]
                exact this
              case measure => have := HIL.out; omega
            | true =>
              have x1' := HU1.out.m.1.cell (i := 1) rfl
              rw [HV1.out] at x1'
              obtain ⟨gs2, cs2, hve2, hgs2, -, hfr2, hcell2, hset2⟩ := gr_one (HU1.out.m.2.2 0 (by omega)).1 (by rw [upd_same]; simp; rw [upto_len]; omega)
              rw [HGS.out] at hgs2
              cases hgs2
              rw [upd_same] at hcell2 hset2
              have hlu2 : i < ((upto L U i).set i (y0, y1, l)).length := by simp; exact HLU.out
              have hb2 : bat ((upto L U i).set i (y0, y1, l)) i = (y0, y1, l) := by unfold bat; rw [List.getElem?_set_self HLU.out]; rfl
              obtain ⟨-, e1, -⟩ := blks_get (xs := (upto L U i).set i (y0, y1, l)) (k := i) hlu2
              rw [hb2] at e1
              have d1' := hcell2 _ _ e1
              have f1' := hfr2 (i * 3 + 1)
              have G2 := hset2 (i * 3 + 1) (.int .i64 v) (((upto L U i).set i (y0, y1, l)).set i (y0, v, l)) (blks_setf hlu2 1 (by omega) _ _ (by rw [hb2]; rfl)).symm (by simp)
              have HU2 := Lib.hid (HU1.out.field HGS.out G2)
              clear hcell2 hset2 hfr2 hlu2 hb2 e1 hve2 G2
              go_wp2_with fail
              go_roundg (L.length - (i + 1))
              case rel =>
                refine ⟨i + 1, HIL.out, Nat.le_refl _, by rw [HHD.out], by go_num, ?_⟩
                have := HU2.out
                rw [upd_upd, upd_upd, List.set_set] at this
                rw [← HST.out, HUY.out]
                exact this
              case measure => have := HIL.out; omega
          · have hyb : (y0 == a) = false := by simpa using hya
            have HK2 : Hid (upto L U (i + 1) = upto L U i) := HKP.out (HUN.out _ hya)
            have HHD : Hid (hadL a (L.take (i + 1)) = hv0) := by rw [HHS.out, if_neg (by simp [hyb])]; rfl
            clear hya
            go_wp2_with fail
            go_roundg (L.length - (i + 1))
            case rel => exact ⟨i + 1, HIL.out, Nat.le_refl _, by rw [HHD.out], by go_num, by rw [HK2.out]; exact hU.out⟩
            case measure => have := HIL.out; omega
        · obtain rfl : i = L.length := by omega
          have hhd : hadL a (L.take L.length) = o1 := by rw [List.take_length]; exact HHAD.out
          rw [hhd]
          have HU3 : Hid (UT w B gx (w.heap.size + 1) (.slice (some ⟨gb, 0, none⟩) 7 cb) (.slice (some ⟨gw, 0, none⟩) 3 cw) (pathL o2) vs (setS lsG a t v l) wr) := by unfold Hid; rw [HSET.out, ← upto_all]; exact hU.out
          have HLFS := Lib.hid (HLFG.out.setS (a := a) (v := v) (t := t) HL.out)
          have HLBS : Hid (LenB (setS lsG a t v l) 800) := HLBG.out.setS
          obtain ⟨lsS, hls⟩ : ∃ x, setS lsG a t v l = x := ⟨_, rfl⟩
          rw [hls] at HU3 HLFS HLBS HDEF
          clear hls hU HSET HUA HUN HLBG HLFG HLL hhd HHAD
          go_wp2_with fail
          go_loopg [20] 3 (fun gk kv wr => ∃ (j : Nat) (vs : Nat → Value), j ≤ 3 ∧ 3 - j ≤ gk ∧ kv = .int .i64 (2 - (j : Int)) ∧ Hid (UT w B gx (w.heap.size + 1) (.slice (some ⟨gb, 0, none⟩) 7 cb) (.slice (some ⟨gw, 0, none⟩) 3 cw) (pathL o2) vs (stepK lsS o2 j) wr))
          case atStart => exact ⟨0, vs, Nat.zero_le _, Nat.le_refl _, by go_num, HU3.out⟩
          case round =>
            clear HU3 x1
            obtain ⟨j, vs, hj, hgk, rfl, hU⟩ := hrel
            by_cases hlt : j < 3
            · obtain ⟨hp1, hp7⟩ := pN_path HOL.out (k := 2 - j) (by omega)
              have HLB := Lib.hid (LenB.stepK HLBS.out HOL.out j hj)
              have HLF := Lib.hid (HLFS.out.stepK HOL.out j hj)
              have hpow : 800 * 2 ^ j ≤ 6400 := by
                have := pow_le (c := 100) (k := j) (Nat.le_refl _) hj
                omega
              have HGS : Hid (stepK lsS o2 (j + 1) = step3 (stepK lsS o2 j) (pN o2 (2 - j))) := rfl
              obtain ⟨lsJ, hlj⟩ : ∃ x, stepK lsS o2 j = x := ⟨_, rfl⟩
              rw [hlj] at hU HLB HLF HGS
              obtain ⟨q, hq⟩ : ∃ x, pN o2 (2 - j) = x := ⟨_, rfl⟩
              rw [hq] at hp1 hp7 HGS
              obtain ⟨kk, hkk⟩ : ∃ kk : Nat, kk = 2 - j := ⟨_, rfl⟩
              have hkz : (2 : Int) - (j : Int) = (kk : Int) := by omega
              have hk3 : kk < 3 := by omega
              rw [← hkk] at hp1
              rw [hkz]
              have HKK := Lib.hid (And.intro hkk hk3)
              have HP1 := Lib.hid hp1
              have HQ7 := Lib.hid hp7
              have HJL := Lib.hid hlt
              have hl0 := HLB.out 0 (by omega)
              have hl2 := HLB.out (q + 2) (by omega)
              obtain ⟨a2, c2, hv2⟩ := (hU.out.m.2.2 0 (by omega)).1.lit
              obtain ⟨M, hM⟩ : ∃ M, lsJ 0 = M := ⟨_, rfl⟩
              rw [hM] at hv2 hl0
              have HV2 := Lib.hid hv2
              have HMM := Lib.hid hM
              have hkge : (0 : Int) ≤ (kk : Int) := by omega
              have hkgd : decide ((kk : Int) ≥ 0) = true := decide_eq_true hkge
              obtain ⟨gz, hgz⟩ : ∃ gz, wr.heap.size = gz := ⟨_, rfl⟩
              have HU4 : Hid (UT w B gx (w.heap.size + 1) (.slice (some ⟨gb, 0, none⟩) 7 cb) (.slice (some ⟨gw, 0, none⟩) 3 cw) (pathL o2) (upd vs 1 (.slice (some ⟨wr.heap.size, 0, none⟩) 0 0)) (upd (upd lsJ (q + 2) (fillR q lsJ 0).1) 1 (fillR q lsJ 0).2) (wr.alloc (.cells #[] 56))) := by
                rw [fillR_zero, upd_id]; exact (hU.out.alloc _).rest0 (Gr.none0 _ _ _ _ _) (by simp [gBlock])
              clear hlj hq hkk hp1 hp7 hv2 hM hU hlt hkz
              go_wp2_with fail
              rw [hgz] at HU4
              try rw [hgz]
              generalize (wr.alloc (.cells #[] 56)) = wo at HU4 ⊢
              clear hgz
              go_loopg [21, 22] M.length (fun gg rv iv' wr => ∃ (i : Nat) (vs' : Nat → Value), i ≤ M.length ∧ M.length - i ≤ gg ∧ iv' = .int .i64 i ∧ rv = vs' 1 ∧ Hid (vs' 0 = .slice a2 M.length c2) ∧ Hid (UT w B gx (w.heap.size + 1) (.slice (some ⟨gb, 0, none⟩) 7 cb) (.slice (some ⟨gw, 0, none⟩) 3 cw) (pathL o2) vs' (upd (upd lsJ (q + 2) (fillR q lsJ i).1) 1 (fillR q lsJ i).2) wr))
              case atStart => exact ⟨0, _, Nat.zero_le _, Nat.le_refl _, rfl, (upd_same _ _ _).symm, by rw [upd_other _ _ (by omega)]; exact HV2.out, HU4.out⟩
              case round =>
                clear HU4
                obtain ⟨i, vs', hi, hgg, rfl, rfl, hV0, hU⟩ := hrel
                have x1 := hU.out.m.1.cell (i := 1) rfl
                rw [hV0.out] at x1
                by_cases hil : i < M.length
                · have hSU : fillR q lsJ (i + 1) = fillOne q (fillR q lsJ i) (bat M i) := by rw [← HMM.out]; exact fillR_succ (by rw [HMM.out]; exact hil)
                  obtain ⟨hR1, hR2, -⟩ := fillR_inv (p := q) (ls := lsJ) (i := i) (by rw [HMM.out]; omega)
                  have HSU := Lib.hid hSU
                  have HIL := Lib.hid hil
                  obtain ⟨r1, hr1⟩ : ∃ x, (fillR q lsJ i).1 = x := ⟨_, rfl⟩
                  obtain ⟨r2, hr2⟩ : ∃ x, (fillR q lsJ i).2 = x := ⟨_, rfl⟩
                  have hfr : fillR q lsJ i = (r1, r2) := by rw [← hr1, ← hr2]
                  rw [hfr] at HSU
                  rw [hr1] at hR1 hU
                  rw [hr2] at hR2 hU
                  have hr1l : r1.length ≤ 20000 := by omega
                  have hr2l : r2.length ≤ 20000 := by omega
                  have e0 : upd (upd lsJ (q + 2) r1) 1 r2 0 = M := by rw [upd_other _ _ (by omega), upd_other _ _ (by omega)]; exact HMM.out
                  have e1 : upd (upd lsJ (q + 2) r1) 1 r2 1 = r2 := upd_same _ _ _
                  have e2 : upd (upd lsJ (q + 2) r1) 1 r2 (q + 2) = r1 := by rw [upd_other _ _ (by omega), upd_same]
                  have g0 := (hU.out.m.2.2 0 (by omega)).1
                  rw [e0] at g0
                  obtain ⟨gs, cs, hve, -, -, -, -, -⟩ := gr_one g0 (by omega)
                  rw [hV0.out] at hve
                  cases hve
                  obtain ⟨y, hy⟩ : ∃ y, bat M i = y := ⟨_, rfl⟩
                  rw [hy] at HSU
                  obtain ⟨y0, y1, y2⟩ := y
                  obtain ⟨a6, c6, hv6⟩ := (hU.out.m.2.2 (q + 2) (by have := HQ7.out; omega)).1.lit
                  rw [e2] at hv6
                  have HV6 := Lib.hid hv6
                  have HE1 := Lib.hid e1
                  have HE2 := Lib.hid e2
                  have HJ : Hid (∀ w', UT w B gx (w.heap.size + 1) (.slice (some ⟨gb, 0, none⟩) 7 cb) (.slice (some ⟨gw, 0, none⟩) 3 cw) (pathL o2) vs' (upd (upd lsJ (q + 2) r1) 1 r2) w' → (Rds w' gx gb gw (.slice (some ⟨gb, 0, none⟩) 7 cb) vs' (pathL o2)) ∧ w'.cell? ⟨gs, i * 3, none⟩ = some (.int .i64 y0) ∧ w'.cell? ⟨gs, i * 3 + 1, none⟩ = some (.int .i64 y1) ∧ w'.cell? ⟨gs, i * 3 + 2, none⟩ = some (.int .i64 y2)) := fun w' h => ⟨h.rds rfl, by have := UT.blk h e0 hil hV0.out; rwa [hy] at this⟩
                  have HC0 : Hid (∀ w', UT w B gx (w.heap.size + 1) (.slice (some ⟨gb, 0, none⟩) 7 cb) (.slice (some ⟨gw, 0, none⟩) 3 cw) (pathL o2) vs' (upd (upd lsJ (q + 2) r1) 1 r2) w' → w'.cell? ⟨gx, 0, none⟩ = some (.slice (some ⟨gb, 0, none⟩) 7 cb)) := fun w' h => (HJ.out w' h).1.c0
                  have HC1 : Hid (∀ w', UT w B gx (w.heap.size + 1) (.slice (some ⟨gb, 0, none⟩) 7 cb) (.slice (some ⟨gw, 0, none⟩) 3 cw) (pathL o2) vs' (upd (upd lsJ (q + 2) r1) 1 r2) w' → w'.cell? ⟨gx, 1, none⟩ = some (.slice (some ⟨gs, 0, none⟩) M.length c2)) := fun w' h => by have := (HJ.out w' h).1.c1; rwa [hV0.out] at this
                  have HCW : Hid (∀ w', UT w B gx (w.heap.size + 1) (.slice (some ⟨gb, 0, none⟩) 7 cb) (.slice (some ⟨gw, 0, none⟩) 3 cw) (pathL o2) vs' (upd (upd lsJ (q + 2) r1) 1 r2) w' → w'.cell? ⟨gw, 0 + kk, none⟩ = some (.int .i64 (q : Int))) := fun w' h => (HJ.out w' h).1.cw kk _ HP1.out
                  have HCB : Hid (∀ w', UT w B gx (w.heap.size + 1) (.slice (some ⟨gb, 0, none⟩) 7 cb) (.slice (some ⟨gw, 0, none⟩) 3 cw) (pathL o2) vs' (upd (upd lsJ (q + 2) r1) 1 r2) w' → w'.cell? ⟨gb, q, none⟩ = some (.slice a6 r1.length c6)) := fun w' h => by have := (HJ.out w' h).1.cb q HQ7.out; rwa [hv6] at this
                  have HCL : Hid (∀ w', UT w B gx (w.heap.size + 1) (.slice (some ⟨gb, 0, none⟩) 7 cb) (.slice (some ⟨gw, 0, none⟩) 3 cw) (pathL o2) vs' (upd (upd lsJ (q + 2) r1) 1 r2) w' → w'.cell? ⟨gs, i * 3 + 2, none⟩ = some (.int .i64 y2)) := fun w' h => (HJ.out w' h).2.2.2
                  obtain ⟨ob, hob⟩ : ∃ ob, onB (q : Int) y2 = ob := ⟨_, rfl⟩
                  have HOB := Lib.hid hob
                  have HUD := Lib.hid hU.out.drew
                  have HKK3 : Hid (kk < 3) := HKK.out.2
                  have hilz : (i : Int) < (M.length : Int) := by omega
                  clear hSU hR1 hR2 hr1 hr2 hfr e0 e1 e2 g0 hy hv6 hob hU hil hi
                  by_cases hm2 : r1.length < 2
                  · have hm2z : decide ((r1.length : Int) < 2) = true := decide_eq_true (by omega)
                    have hm2d : decide (r1.length < 2) = true := decide_eq_true hm2
                    have HM2 := Lib.hid (And.intro hm2 hm2d)
                    clear hm2 hm2d
                    go_wp2_with fail
                    refine region_const (l := [(119, .pointer (some ⟨gx, 0, none⟩)), (120, .slice (some ⟨gb, 0, none⟩) 7 cb), (121, .slice (some ⟨gw, 0, none⟩) 3 cw), (122, .int .i64 kk), (123, .pointer (some ⟨gw, 0 + kk, none⟩)), (124, .int .i64 q), (125, .pointer (some ⟨gb, q, none⟩)), (126, .slice a6 r1.length c6), (127, .int .i64 r1.length), (128, .bool true), (129, .bool true), (130, .slice (some ⟨gw, 0, none⟩) 3 cw), (131, .int .i64 kk), (132, .pointer (some ⟨gw, 0 + kk, none⟩)), (133, .int .i64 q), (134, .pointer (some ⟨gx, 1, none⟩)), (135, .slice (some ⟨gs, 0, none⟩) M.length c2), (136, .int .i64 i), (137, .pointer (some ⟨gs, i * 3, none⟩)), (138, .pointer (some ⟨gs, i * 3 + 2, none⟩)), (139, .int .i64 y2), (140, .bool ob), (141, .bool ob)]) (J := fun w' => UT w B gx (w.heap.size + 1) (.slice (some ⟨gb, 0, none⟩) 7 cb) (.slice (some ⟨gw, 0, none⟩) 3 cw) (pathL o2) vs' (upd (upd lsJ (q + 2) r1) 1 r2) w') 177 rfl HUD.out (by kernel_rfl) (by kernel_rfl) (by kernel_rfl) rfl (by kernel_rfl) ⟨?_, ?_, ?_, ?_, ?_, ?_, ?_, ?_, ?_, ?_, ?_, ?_, ?_, ?_, ?_, ?_, ?_, ?_, ?_, ?_, ?_, ?_, ?_, trivial⟩ ?_
                    · exact cv_field (.inl rfl) rfl (by omega) (by kernel_rfl) rfl rfl
                    · exact cv_load (j := 0) (.inl rfl) (.inl rfl) rfl rfl rfl (by kernel_rfl) rfl HC0.out
                    · exact cv_fresh (.inl rfl) (.inl rfl) (by kernel_rfl) rfl
                    · exact cv_fresh (.inl rfl) (.inl rfl) (by kernel_rfl) rfl
                    · exact cv_indexI (j := 2) (j' := 3) (.inl rfl) rfl rfl rfl (by kernel_rfl) rfl rfl (by kernel_rfl) rfl rfl HKK3.out rfl
                    · exact cv_load (j := 4) (.inr (.inr (.inl rfl))) (.inl rfl) rfl rfl rfl (by kernel_rfl) rfl HCW.out
                    · exact cv_indexBs (j := 1) (j' := 5) (.inl rfl) rfl rfl rfl (by kernel_rfl) rfl rfl (by kernel_rfl) rfl rfl HQ7.out rfl
                    · exact cv_load (j := 6) (.inr (.inl rfl)) (.inl rfl) rfl rfl rfl (by kernel_rfl) rfl HCB.out
                    · exact cv_len (j := 7) (.inl rfl) (.inl rfl) rfl rfl rfl (by kernel_rfl) rfl rfl
                    · exact cv_lssC (j := 8) (.inl rfl) rfl rfl rfl (by kernel_rfl) rfl hm2z rfl
                    · exact cv_same (j := 9) (.inl rfl) (.inl rfl) rfl rfl (by kernel_rfl) rfl
                    · exact cv_fresh (met_some (j := 10) rfl rfl rfl (by kernel_rfl) rfl) (.inl rfl) (by kernel_rfl) rfl
                    · exact cv_fresh (met_some (j := 10) rfl rfl rfl (by kernel_rfl) rfl) (.inl rfl) (by kernel_rfl) rfl
                    · exact cv_indexI (j := 11) (j' := 12) (met_some (j := 10) rfl rfl rfl (by kernel_rfl) rfl) rfl rfl rfl (by kernel_rfl) rfl rfl (by kernel_rfl) rfl rfl HKK3.out rfl
                    · exact cv_load (j := 13) (.inr (.inr (.inl rfl))) (met_some (j := 10) rfl rfl rfl (by kernel_rfl) rfl) rfl rfl rfl (by kernel_rfl) rfl HCW.out
                    · exact cv_field (met_some (j := 10) rfl rfl rfl (by kernel_rfl) rfl) rfl (by omega) (by kernel_rfl) rfl rfl
                    · exact cv_load (j := 15) (.inr (.inl rfl)) (met_some (j := 10) rfl rfl rfl (by kernel_rfl) rfl) rfl rfl rfl (by kernel_rfl) rfl HC1.out
                    · exact cv_fresh (met_some (j := 10) rfl rfl rfl (by kernel_rfl) rfl) (.inl rfl) (by kernel_rfl) rfl
                    · exact cv_indexB (j := 16) (j' := 17) (met_some (j := 10) rfl rfl rfl (by kernel_rfl) rfl) rfl rfl rfl (by kernel_rfl) rfl rfl (by kernel_rfl) rfl rfl HIL.out rfl
                    · exact cv_fieldB (j := 18) (met_some (j := 10) rfl rfl rfl (by kernel_rfl) rfl) rfl (by omega) rfl rfl (by kernel_rfl) rfl rfl
                    · exact cv_load (j := 19) (.inr (.inr (.inl rfl))) (met_some (j := 10) rfl rfl rfl (by kernel_rfl) rfl) rfl rfl rfl (by kernel_rfl) rfl HCL.out
                    · exact cv_on (j := 14) (j' := 20) (met_some (j := 10) rfl rfl rfl (by kernel_rfl) rfl) rfl rfl rfl (by kernel_rfl) rfl rfl (by kernel_rfl) fun w' h => (l22On_any _ _ w').mono fun e w8 ⟨he, hb8⟩ => ⟨by rw [he, HOB.out]; rfl, h.mono hb8 (Nat.le_refl _)⟩
                    · exact cv_pickL (j := 10) (j' := 21) (.inl rfl) rfl rfl rfl (by kernel_rfl) rfl rfl (by kernel_rfl) rfl rfl
                    intro w7 hj7
                    simp only [putL, List.foldl_cons, List.foldl_nil]
                    go_simp
                    cases ob with
                    | false =>
                      have HU7 : Hid (UT w B gx (w.heap.size + 1) (.slice (some ⟨gb, 0, none⟩) 7 cb) (.slice (some ⟨gw, 0, none⟩) 3 cw) (pathL o2) vs' (upd (upd lsJ (q + 2) r1) 1 r2) w7) := hj7
                      obtain ⟨hd0, hd1, hd2⟩ := (HJ.out w7 hj7).2
                      have hx1 := HC1.out w7 hj7
                      have HF1 : Hid (fillR q lsJ (i + 1) = (r1, r2 ++ [(y0, y1, y2)])) := by rw [HSU.out]; unfold Hid fillOne; rw [HOB.out, Bool.and_false]; rfl
                      have HU8 := Lib.hid (HU7.out.alloc (.cells #[.int .i64 y0, .int .i64 y1, .int .i64 y2] 56))
                      have hG8 := Lib.hid (HU8.out.m.2.2 1 (by omega)).1
                      rw [HE1.out] at hG8
                      clear hj7
                      go_wp2_with (at_builtin; refine wpList_app _ rfl (.tmp 164) (.tmp 170) 27 rfl B 56 (.agg #[.int .i64 0, .int .i64 0, .int .i64 0]) 3 24 Tryd.underlying27 Tryd.infoBlk rfl (by omega) (vs' 1) r2.length (blks r2) rfl hG8.out _ 1 (blks [(y0, y1, y2)]) rfl (view_blk _ (y0, y1, y2)) (one_blks _) (by unfold maxLen; omega) (by omega) HU8.out.size ?_; intro v9 w9 g1 r9 k1; have G9 : Hid (Gr w9 B 56 3 v9 (r2 ++ [(y0, y1, y2)]).length (blks (r2 ++ [(y0, y1, y2)]))) := (by unfold Hid; rw [List.length_append, blks_append]; exact g1); have HU9 := Lib.hid (HU8.out.rest G9.out r9 k1); clear g1 r9 k1)
                      go_roundg (M.length - (i + 1))
                      case rel =>
                        refine ⟨i + 1, upd vs' 1 v9, HIL.out, Nat.le_refl _, by go_num, (upd_same _ _ _).symm, by rw [upd_other _ _ (by omega)]; exact hV0.out, ?_⟩
                        have := HU9.out
                        rw [upd_upd] at this
                        rw [HF1.out]
                        exact this
                      case measure => have := HIL.out; omega
                    | true =>
                      have HU7 : Hid (UT w B gx (w.heap.size + 1) (.slice (some ⟨gb, 0, none⟩) 7 cb) (.slice (some ⟨gw, 0, none⟩) 3 cw) (pathL o2) vs' (upd (upd lsJ (q + 2) r1) 1 r2) w7) := hj7
                      have HF1 : Hid (fillR q lsJ (i + 1) = (r1 ++ [(y0, y1, y2)], r2)) := by rw [HSU.out]; unfold Hid fillOne; rw [HOB.out, HM2.out.2]; rfl
                      have hr12 := HM2.out.1
                      have HU8 := Lib.hid (HU7.out.alloc (.cells #[.int .i64 y0, .int .i64 y1, .int .i64 y2] 56))
                      have hG8 := Lib.hid (HU8.out.drew.m.2.2 (q + 2) (by have := HQ7.out; omega)).1
                      rw [HE2.out, HV6.out] at hG8
                      obtain ⟨i9, q1, q2, q3, q4⟩ := info_parts Tryd.infoBlk
                      obtain ⟨v9, w9, hr9, g1, r9, k1⟩ := run_app (P := Tryd.prog) (w7.alloc (.cells #[.int .i64 y0, .int .i64 y1, .int .i64 y2] 56)).drew B 27 27 56 i9 (.agg #[.int .i64 0, .int .i64 0, .int .i64 0]) 3 24 Tryd.underlying27 q1 q2 q3 q4 rfl (by omega) (.slice a6 r1.length c6) r1.length (blks r1) hG8.out (.slice (some ⟨w7.heap.size, 0, none⟩) 1 1) 1 (blks [(y0, y1, y2)]) ((view_blk w7 (y0, y1, y2)).mono (Below.refl _ _).drew (Nat.le_refl _)) (one_blks _) (by unfold maxLen; omega) (by omega) HU8.out.drew.size
                      have G9 : Gr w9 B 56 3 v9 (r1 ++ [(y0, y1, y2)]).length (blks (r1 ++ [(y0, y1, y2)])) := by rw [List.length_append, blks_append]; exact g1
                      rw [← HV6.out] at r9 k1
                      have HU9 := Lib.hid (HU8.out.drew.fill HQ7.out rfl G9 r9 k1)
                      have HM9 := Lib.hid (HU8.out.drew.mid rfl (by have := HQ7.out; omega) G9 r9 k1)
                      obtain ⟨a9, c9, hv9⟩ := g1.lit
                      subst hv9
                      obtain ⟨WW, hWW⟩ : ∃ WW : Nat → World, WW = fun k' => match k' with | 0 => w7.drew | 1 => (w7.alloc (.cells #[.int .i64 y0, .int .i64 y1, .int .i64 y2] 56)).drew | _ => w9 := ⟨_, rfl⟩
                      have HWS := Lib.hid (And.intro (show WW 0 = w7.drew from congrFun hWW 0) (And.intro (show WW 1 = (w7.alloc (.cells #[.int .i64 y0, .int .i64 y1, .int .i64 y2] 56)).drew from congrFun hWW 1) (show WW 2 = w9 from congrFun hWW 2)))
                      have HR9 := Lib.hid hr9
                      have HK0 : Hid (∀ k', k' ≤ 2 → (WW k').cell? ⟨gx, 0, none⟩ = some (.slice (some ⟨gb, 0, none⟩) 7 cb)) := fun k' hk => by
                        match k', hk with
                        | 0, _ => rw [HWS.out.1]; exact HC0.out _ HU7.out.drew
                        | 1, _ => rw [HWS.out.2.1]; exact HC0.out _ HU8.out.drew
                        | 2, _ => rw [HWS.out.2.2]; exact HM9.out.c0
                      have HKW : Hid (∀ k', k' ≤ 2 → (WW k').cell? ⟨gw, 0 + kk, none⟩ = some (.int .i64 (q : Int))) := fun k' hk => by
                        match k', hk with
                        | 0, _ => rw [HWS.out.1]; exact HCW.out _ HU7.out.drew
                        | 1, _ => rw [HWS.out.2.1]; exact HCW.out _ HU8.out.drew
                        | 2, _ => rw [HWS.out.2.2]; exact HM9.out.cw kk _ HP1.out
                      have HK1 : Hid (∀ k', k' ≤ 2 → (WW k').cell? ⟨gx, 1, none⟩ = some (.slice (some ⟨gs, 0, none⟩) M.length c2)) := fun k' hk => by
                        match k', hk with
                        | 0, _ => rw [HWS.out.1]; exact HC1.out _ HU7.out.drew
                        | 1, _ => rw [HWS.out.2.1]; exact HC1.out _ HU8.out.drew
                        | 2, _ => rw [HWS.out.2.2]; have := HM9.out.c1; rwa [hV0.out] at this
                      have HKB : Hid (∀ k', k' ≤ 1 → (WW k').cell? ⟨gb, q, none⟩ = some (.slice a6 r1.length c6)) := fun k' hk => by
                        match k', hk with
                        | 0, _ => rw [HWS.out.1]; exact HCB.out _ HU7.out.drew
                        | 1, _ => rw [HWS.out.2.1]; exact HCB.out _ HU8.out.drew
                      have HKL : Hid (∀ k', k' ≤ 0 → (WW k').cell? ⟨gs, i * 3, none⟩ = some (.int .i64 y0) ∧ (WW k').cell? ⟨gs, i * 3 + 1, none⟩ = some (.int .i64 y1) ∧ (WW k').cell? ⟨gs, i * 3 + 2, none⟩ = some (.int .i64 y2)) := fun k' hk => by
                        match k', hk with
                        | 0, _ => rw [HWS.out.1]; exact (HJ.out _ HU7.out.drew).2
                      clear hWW hr9 g1 r9 k1 q1 q2 q3 q4 hj7
                      go_wp2_with fail
                      refine region_det (l := [(142, .pointer (some ⟨gx, 0, none⟩)), (143, .slice (some ⟨gb, 0, none⟩) 7 cb), (144, .slice (some ⟨gw, 0, none⟩) 3 cw), (145, .int .i64 kk), (146, .pointer (some ⟨gw, 0 + kk, none⟩)), (147, .int .i64 q), (148, .pointer (some ⟨gx, 0, none⟩)), (149, .slice (some ⟨gb, 0, none⟩) 7 cb), (150, .slice (some ⟨gw, 0, none⟩) 3 cw), (151, .int .i64 kk), (152, .pointer (some ⟨gw, 0 + kk, none⟩)), (153, .int .i64 q), (154, .pointer (some ⟨gb, q, none⟩)), (155, .slice a6 r1.length c6), (156, .pointer (some ⟨gx, 1, none⟩)), (157, .slice (some ⟨gs, 0, none⟩) M.length c2), (158, .int .i64 i), (159, .pointer (some ⟨gs, i * 3, none⟩)), (160, .agg #[.int .i64 y0, .int .i64 y1, .int .i64 y2]), (161, .slice (some ⟨w7.heap.size, 0, none⟩) 1 1), (162, .slice a9 (r1.length + 1) c9), (163, .pointer (some ⟨gb, q, none⟩))]) (acts := [19, 20]) (W := WW) (wl := w9.setCell ⟨gb, q, none⟩ (.slice a9 (r1.length + 1) c9)) 177 rfl HWS.out.1 (by kernel_rfl) (by kernel_rfl) (by kernel_rfl) (by kernel_rfl) rfl (by kernel_rfl) ⟨?_, ?_, ?_, ?_, ?_, ?_, ?_, ?_, ?_, ?_, ?_, ?_, ?_, ?_, ?_, ?_, ?_, ?_, ?_, ?_, ?_, ?_, ?_⟩ ?_
                      · exact pv_field rfl rfl (by omega) (by kernel_rfl) rfl rfl
                      · exact pv_load (j := 0) (.inl rfl) rfl rfl rfl rfl (by kernel_rfl) rfl fun k' hk => HK0.out k' (Nat.le_trans hk (Nat.le_of_eq (by kernel_rfl)))
                      · exact pv_fresh rfl (.inl rfl) (by kernel_rfl) rfl
                      · exact pv_fresh rfl (.inl rfl) (by kernel_rfl) rfl
                      · exact pv_indexI (j := 2) (j' := 3) rfl rfl rfl rfl (by kernel_rfl) rfl rfl (by kernel_rfl) rfl rfl HKK3.out rfl
                      · exact pv_load (j := 4) (.inr (.inr (.inl rfl))) rfl rfl rfl rfl (by kernel_rfl) rfl fun k' hk => HKW.out k' (Nat.le_trans hk (Nat.le_of_eq (by kernel_rfl)))
                      · exact pv_field rfl rfl (by omega) (by kernel_rfl) rfl rfl
                      · exact pv_load (j := 6) (.inl rfl) rfl rfl rfl rfl (by kernel_rfl) rfl fun k' hk => HK0.out k' (Nat.le_trans hk (Nat.le_of_eq (by kernel_rfl)))
                      · exact pv_fresh rfl (.inl rfl) (by kernel_rfl) rfl
                      · exact pv_fresh rfl (.inl rfl) (by kernel_rfl) rfl
                      · exact pv_indexI (j := 8) (j' := 9) rfl rfl rfl rfl (by kernel_rfl) rfl rfl (by kernel_rfl) rfl rfl HKK3.out rfl
                      · exact pv_load (j := 10) (.inr (.inr (.inl rfl))) rfl rfl rfl rfl (by kernel_rfl) rfl fun k' hk => HKW.out k' (Nat.le_trans hk (Nat.le_of_eq (by kernel_rfl)))
                      · exact pv_indexBs (j := 7) (j' := 11) rfl rfl rfl rfl (by kernel_rfl) rfl rfl (by kernel_rfl) rfl rfl HQ7.out rfl
                      · exact pv_load (j := 12) (.inr (.inl rfl)) rfl rfl rfl rfl (by kernel_rfl) rfl fun k' hk => HKB.out k' (Nat.le_trans hk (Nat.le_of_eq (by kernel_rfl)))
                      · exact pv_field rfl rfl (by omega) (by kernel_rfl) rfl rfl
                      · exact pv_load (j := 14) (.inr (.inl rfl)) rfl rfl rfl rfl (by kernel_rfl) rfl fun k' hk => HK1.out k' (Nat.le_trans hk (Nat.le_of_eq (by kernel_rfl)))
                      · exact pv_fresh rfl (.inl rfl) (by kernel_rfl) rfl
                      · exact pv_indexB (j := 15) (j' := 16) rfl rfl rfl rfl (by kernel_rfl) rfl rfl (by kernel_rfl) rfl rfl HIL.out rfl
                      · exact pv_loadBAt (j := 17) rfl rfl rfl rfl (by kernel_rfl) rfl (fun k' hk => HKL.out k' (Nat.le_trans hk (Nat.le_of_eq (by kernel_rfl)))) rfl
                      · exact av_lit1 (j := 18) rfl rfl rfl rfl (by kernel_rfl) rfl (by rw [HWS.out.1]; rfl) (by rw [HWS.out.1, HWS.out.2.1]; rfl)
                      · exact av_app (j := 13) (j' := 19) rfl rfl rfl rfl (by kernel_rfl) rfl rfl (by kernel_rfl) (by rw [HWS.out.2.1, HWS.out.2.2]; exact HR9.out)
                      · exact pv_indexBs (j := 1) (j' := 5) rfl rfl rfl rfl (by kernel_rfl) rfl rfl (by kernel_rfl) rfl rfl HQ7.out rfl
                      · exact lv_store (j := 21) (j' := 20) rfl rfl rfl rfl (by kernel_rfl) rfl rfl (by kernel_rfl) rfl rfl (by show (WW 2).cell? _ = _; rw [HWS.out.2.2]; exact HM9.out.cb q HQ7.out) (by show (WW 2).frozen? _ = _; rw [HWS.out.2.2]; exact HM9.out.fb q) (by show _ = (WW 2).setCell _ _; rw [HWS.out.2.2])
                      simp only [putL, List.foldl_cons, List.foldl_nil]
                      go_simp
                      go_wp2_with fail
                      go_roundg (M.length - (i + 1))
                      case rel =>
                        refine ⟨i + 1, upd vs' (q + 2) (.slice a9 (r1.length + 1) c9), HIL.out, Nat.le_refl _, by go_num, (upd_other _ _ (by omega)).symm, by rw [upd_other _ _ (by omega)]; exact hV0.out, ?_⟩
                        have := HU9.out
                        rw [upd_swap _ _ _ _ (show q + 2 ≠ 1 by omega)] at this
                        rw [HF1.out]
                        exact this
                      case measure => have := HIL.out; omega
                  · have hm2z : decide ((r1.length : Int) < 2) = false := decide_eq_false (by omega)
                    have hm2d : decide (r1.length < 2) = false := decide_eq_false hm2
                    have HM2 := Lib.hid hm2d
                    clear hm2 hm2d
                    go_wp2_with fail
                    refine region_const (l := [(119, .pointer (some ⟨gx, 0, none⟩)), (120, .slice (some ⟨gb, 0, none⟩) 7 cb), (121, .slice (some ⟨gw, 0, none⟩) 3 cw), (122, .int .i64 kk), (123, .pointer (some ⟨gw, 0 + kk, none⟩)), (124, .int .i64 q), (125, .pointer (some ⟨gb, q, none⟩)), (126, .slice a6 r1.length c6), (127, .int .i64 r1.length), (128, .bool false), (129, .bool false), (130, undef), (131, undef), (132, undef), (133, undef), (134, undef), (135, undef), (136, undef), (137, undef), (138, undef), (139, undef), (140, undef), (141, .bool false)]) (J := fun w' => UT w B gx (w.heap.size + 1) (.slice (some ⟨gb, 0, none⟩) 7 cb) (.slice (some ⟨gw, 0, none⟩) 3 cw) (pathL o2) vs' (upd (upd lsJ (q + 2) r1) 1 r2) w') 177 rfl HUD.out (by kernel_rfl) (by kernel_rfl) (by kernel_rfl) rfl (by kernel_rfl) ⟨?_, ?_, ?_, ?_, ?_, ?_, ?_, ?_, ?_, ?_, ?_, ?_, ?_, ?_, ?_, ?_, ?_, ?_, ?_, ?_, ?_, ?_, ?_, trivial⟩ ?_
                    · exact cv_field (.inl rfl) rfl (by omega) (by kernel_rfl) rfl rfl
                    · exact cv_load (j := 0) (.inl rfl) (.inl rfl) rfl rfl rfl (by kernel_rfl) rfl HC0.out
                    · exact cv_fresh (.inl rfl) (.inl rfl) (by kernel_rfl) rfl
                    · exact cv_fresh (.inl rfl) (.inl rfl) (by kernel_rfl) rfl
                    · exact cv_indexI (j := 2) (j' := 3) (.inl rfl) rfl rfl rfl (by kernel_rfl) rfl rfl (by kernel_rfl) rfl rfl HKK3.out rfl
                    · exact cv_load (j := 4) (.inr (.inr (.inl rfl))) (.inl rfl) rfl rfl rfl (by kernel_rfl) rfl HCW.out
                    · exact cv_indexBs (j := 1) (j' := 5) (.inl rfl) rfl rfl rfl (by kernel_rfl) rfl rfl (by kernel_rfl) rfl rfl HQ7.out rfl
                    · exact cv_load (j := 6) (.inr (.inl rfl)) (.inl rfl) rfl rfl rfl (by kernel_rfl) rfl HCB.out
                    · exact cv_len (j := 7) (.inl rfl) (.inl rfl) rfl rfl rfl (by kernel_rfl) rfl rfl
                    · exact cv_lssC (j := 8) (.inl rfl) rfl rfl rfl (by kernel_rfl) rfl hm2z rfl
                    · exact cv_same (j := 9) (.inl rfl) (.inl rfl) rfl rfl (by kernel_rfl) rfl
                    · exact cv_skip (j := 10) rfl rfl rfl (by kernel_rfl) rfl rfl
                    · exact cv_skip (j := 10) rfl rfl rfl (by kernel_rfl) rfl rfl
                    · exact cv_skip (j := 10) rfl rfl rfl (by kernel_rfl) rfl rfl
                    · exact cv_skip (j := 10) rfl rfl rfl (by kernel_rfl) rfl rfl
                    · exact cv_skip (j := 10) rfl rfl rfl (by kernel_rfl) rfl rfl
                    · exact cv_skip (j := 10) rfl rfl rfl (by kernel_rfl) rfl rfl
                    · exact cv_skip (j := 10) rfl rfl rfl (by kernel_rfl) rfl rfl
                    · exact cv_skip (j := 10) rfl rfl rfl (by kernel_rfl) rfl rfl
                    · exact cv_skip (j := 10) rfl rfl rfl (by kernel_rfl) rfl rfl
                    · exact cv_skip (j := 10) rfl rfl rfl (by kernel_rfl) rfl rfl
                    · exact cv_skip (j := 10) rfl rfl rfl (by kernel_rfl) rfl rfl
                    · exact cv_pickF (j := 10) (.inl rfl) rfl rfl rfl (by kernel_rfl) rfl rfl
                    intro w7 hj7
                    simp only [putL, List.foldl_cons, List.foldl_nil]
                    go_simp
                    have HU7 : Hid (UT w B gx (w.heap.size + 1) (.slice (some ⟨gb, 0, none⟩) 7 cb) (.slice (some ⟨gw, 0, none⟩) 3 cw) (pathL o2) vs' (upd (upd lsJ (q + 2) r1) 1 r2) w7) := hj7
                    obtain ⟨hd0, hd1, hd2⟩ := (HJ.out w7 hj7).2
                    have hx1 := HC1.out w7 hj7
                    have HF1 : Hid (fillR q lsJ (i + 1) = (r1, r2 ++ [(y0, y1, y2)])) := by rw [HSU.out]; unfold Hid fillOne; rw [HM2.out]; rfl
                    have HU8 := Lib.hid (HU7.out.alloc (.cells #[.int .i64 y0, .int .i64 y1, .int .i64 y2] 56))
                    have hG8 := Lib.hid (HU8.out.m.2.2 1 (by omega)).1
                    rw [HE1.out] at hG8
                    clear hj7
                    go_wp2_with (at_builtin; refine wpList_app _ rfl (.tmp 164) (.tmp 170) 27 rfl B 56 (.agg #[.int .i64 0, .int .i64 0, .int .i64 0]) 3 24 Tryd.underlying27 Tryd.infoBlk rfl (by omega) (vs' 1) r2.length (blks r2) rfl hG8.out _ 1 (blks [(y0, y1, y2)]) rfl (view_blk _ (y0, y1, y2)) (one_blks _) (by unfold maxLen; omega) (by omega) HU8.out.size ?_; intro v9 w9 g1 r9 k1; have G9 : Hid (Gr w9 B 56 3 v9 (r2 ++ [(y0, y1, y2)]).length (blks (r2 ++ [(y0, y1, y2)]))) := (by unfold Hid; rw [List.length_append, blks_append]; exact g1); have HU9 := Lib.hid (HU8.out.rest G9.out r9 k1); clear g1 r9 k1)
                    go_roundg (M.length - (i + 1))
                    case rel =>
                      refine ⟨i + 1, upd vs' 1 v9, HIL.out, Nat.le_refl _, by go_num, (upd_same _ _ _).symm, by rw [upd_other _ _ (by omega)]; exact hV0.out, ?_⟩
                      have := HU9.out
                      rw [upd_upd] at this
                      rw [HF1.out]
                      exact this
                    case measure => have := HIL.out; omega
                · obtain rfl : i = M.length := by omega
                  obtain ⟨a6, c6, hv6⟩ := (hU.out.m.2.2 1 (by omega)).1.lit
                  have z1 := hU.out.m.1.free 1
                  have HSW := Lib.hid hU.out.swap
                  have HX1 : Hid (upd (upd lsJ (q + 2) (fillR q lsJ M.length).1) 1 (fillR q lsJ M.length).2 1 = (fillR q lsJ M.length).2) := upd_same _ _ _
                  have HST : Hid (upd (upd (upd (upd lsJ (q + 2) (fillR q lsJ M.length).1) 1 (fillR q lsJ M.length).2) 0 (fillR q lsJ M.length).2) 1 [] = step3 lsJ q) := by rw [← HMM.out]; exact step3_eq lsJ q
                  have hwk : IntKind.i64.wrap ((kk : Int) - 1) = (kk : Int) - 1 := by rw [IntKind.wrap_i64]; have := HKK.out.2; omega
                  rw [hv6] at HSW ⊢
                  clear hv6 hU
                  go_wp2_with fail
                  go_roundg (3 - (j + 1))
                  case measure => have := HJL.out; omega
                  case rel =>
                    have hkz := HKK.out.1
                    have hjl := HJL.out
                    have h9 := HSW.out
                    rw [HX1.out, HST.out, ← HGS.out] at h9
                    exact ⟨j + 1, _, hjl, Nat.le_refl _, by congr 1; omega, h9⟩
            · obtain rfl : j = 3 := by omega
              rw [← HDEF.out] at hU
              obtain ⟨X, hX⟩ : ∃ X, useLs (lsOf f st) o2 a t v l = X := ⟨_, rfl⟩
              rw [hX] at hU
              have HX := Lib.hid hX
              clear hX HDEF
              obtain ⟨a7, c7, hv7⟩ := (hU.out.m.2.2 0 (by omega)).1.lit
              have HMO : Hid (MO wr B (.agg #[.slice (some ⟨gb, 0, none⟩) 7 cb, .slice a7 (X 0).length c7]) 7 X) := by
                have : MO wr B (.agg #[.slice (some ⟨gb, 0, none⟩) 7 cb, vs 0]) 7 X := ⟨_, vs, rfl, hU.out.m.2.1, hU.out.m.2.2⟩
                rwa [hv7] at this
              have x0 := hU.out.m.1.cell (i := 0) rfl
              have x1 := hU.out.m.1.cell (i := 1) rfl
              rw [hv7] at x1
              have HRES := Lib.hid hU.out.res
              have y0 := HRES.out.cell (i := 0) rfl
              have y1 := HRES.out.cell (i := 1) rfl
              have z0 := HRES.out.free 0
              have z1 := HRES.out.free 1
              have HWAY := Lib.hid hU.out.way
              have HBE := Lib.hid hU.out.below
              have HGE := Lib.hid hU.out.ge
              have hz4 : ((2 : Int) - ((3 : Nat) : Int)) = -1 := by decide
              rw [hz4]
              clear hv7 hU
              go_wp2_with fail
              have hrow := (HRES.out.set 0 (.slice (some ⟨gb, 0, none⟩) 7 cb)).set 1 (.slice a7 (X 0).length c7)
              have f0 := hrow.cell (i := 0) rfl
              have f1 := hrow.cell (i := 1) rfl
              have hg1 : wr.grownBy ((wr.setCell ⟨w.heap.size + 1, 0, none⟩ (.slice (some ⟨gb, 0, none⟩) 7 cb)).setCell ⟨w.heap.size + 1, 1, none⟩ (.slice a7 (X 0).length c7)) (some (w.heap.size + 1)) := grown_set (set_other wr ⟨w.heap.size + 1, 0, none⟩ _ rfl) _ _
              have HG1 := Lib.hid hg1
              refine bodyPost_ret (v := .tuple #[.agg #[.slice (some ⟨gb, 0, none⟩) 7 cb, .slice a7 (X 0).length c7], .int .i64 o1, .slice (some ⟨gw, 0, none⟩) 3 cw, .bool true]) (by simp [results, Tryd.results22, go_sem, f0, f1]) rfl ?_
              rw [← HPOST.out, HX.out]
              have hge := HGE.out
              exact ⟨_, _, rfl, (HMO.out.kept HG1.out hge.2.2).low hge.2.1, (HWAY.out.kept HG1.out (fun g hg he => by cases he; have := (HWAY.out.lt _ hg).1; omega)).low hge.2.1, HBE.out.grown HG1.out HBE.out.size (fun g hg => by cases hg; omega)⟩
end Go.Proofs.YtbnplohlfiefhaaDoor
