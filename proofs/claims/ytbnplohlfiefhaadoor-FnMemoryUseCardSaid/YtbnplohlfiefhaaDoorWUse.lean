/- the walk of FnMemoryUse -/
import Derived.Test.YtbnplohlfiefhaaDoorUseDraw
import Derived.Test.YtbnplohlfiefhaaDoorRunV
import Derived.Test.YtbnplohlfiefhaaDoorUseQ
import Derived.Test.YtbnplohlfiefhaaDoorName
namespace Go.Proofs.YtbnplohlfiefhaaDoor
open Go.RowKit
set_option maxRecDepth 20000 in
set_option maxHeartbeats 2000000 in
theorem walk0_FnMemoryUse (w : World) (v : Value) (bs : List Int) (h : Bts w v bs) (hR : Resv w) :
    Calls Tryd.prog 5 #[v] w fun e w' => LawOk w e w' := by
  obtain ⟨ad, cd, hv, hm⟩ := bts_lit h
  have H := Lib.hid h
  have HR := Lib.hid hR
  clear h hR
  subst hv
  by_cases hbig : 1048576 < bs.length
  · go_enter Tryd.func5, Tryd.ntmps5
    go_wp2
    go_ret
    exact ⟨rfl, Below.refl _ _⟩
  · go_enter Tryd.func5, Tryd.ntmps5
    have B0 : Hid (Below w.heap.size w w) := Lib.hid (Below.refl _ _)
    go_wp2_with fail
    refine (draw_MemoryUse _ bs w H.out).mono ?_
    rintro e w_1 ⟨a, c, a', c', n, f, st, x, t, y, l, rfl, hmi, hn, hs, hy1, hy2, hl1, hl2, hb⟩
    have HS := Lib.hid hs
    obtain ⟨m, hm0⟩ : ∃ m, st.length = m := ⟨_, rfl⟩
    rw [hm0] at hmi ⊢
    clear hn hs hm0 H hy1 hy2 hl1 hl2
    have hx : Below w_1.heap.size w_1 (w_1.alloc (.cells #[.slice a n c, .slice a' m c'] 29)) := (Below.refl _ _).alloc (Nat.le_refl _) _
    have hbb := hb.trans (hx.mono hb.size)
    have B_2 := nxt B0 hbb
    have M_3 := Lib.hid (hmi.mono hx (Nat.le_refl _))
    have ROW_4 : Hid (Row (w_1.alloc (.cells #[.slice a n c, .slice a' m c'] 29)) w_1.heap.size 29 [.slice a n c, .slice a' m c']) := Row.new w_1 29 [.slice a n c, .slice a' m c']
    obtain ⟨g_5, hg⟩ : ∃ g, w_1.heap.size = g := ⟨_, rfl⟩
    rw [hg] at ROW_4
    clear hx hb hbb hmi B0 
    go_wp2_with fail
    try rw [hg]
    generalize (w_1.alloc (.cells #[.slice a n c, .slice a' m c'] 29)) = W_6 at M_3 ROW_4 B_2  ⊢
    clear hg
    cases hk : useOk n f st (x : Int) y l with
    | false =>
      have HK := Lib.hid hk
      clear hk
      refine (impl_UseVN M_3.out HS.out HK.out).mono ?_
      rintro e w_7 ⟨a1, c1, a2, c2, a3, c3, rfl, hb⟩
      have hx : Below w_7.heap.size w_7 (w_7.alloc (.cells #[.slice a1 0 c1, .slice a2 0 c2] 29)) := (Below.refl _ _).alloc (Nat.le_refl _) _
      have hbb := hb.trans (hx.mono hb.size)
      have M_8 := Lib.hid (M_3.out.mono hbb (Nat.le_refl _))
      have ROW_9 := Lib.hid (ROW_4.out.mono hbb ROW_4.out.lt)
      have B_10 := nxt B_2 hbb
      have X_11 : Hid (Row (w_7.alloc (.cells #[.slice a1 0 c1, .slice a2 0 c2] 29)) w_7.heap.size 29 [.slice a1 0 c1, .slice a2 0 c2]) := Row.new w_7 29 [.slice a1 0 c1, .slice a2 0 c2]
      obtain ⟨g_12, hg⟩ : ∃ g, w_7.heap.size = g := ⟨_, rfl⟩
      rw [hg] at X_11
      clear hx hb hbb  M_3 ROW_4 B_2 
      have k_13 := ROW_9.out.cell (i := 0) rfl
      have k_14 := ROW_9.out.cell (i := 1) rfl
      go_wp2_with fail
      try rw [hg]
      generalize (w_7.alloc (.cells #[.slice a1 0 c1, .slice a2 0 c2] 29)) = W_15 at M_8 ROW_9 X_11 B_10 k_13 k_14 ⊢
      clear hg k_13 k_14
      refine (spec_UseVN M_8.out HS.out HK.out).mono ?_
      rintro e w_16 ⟨a4, c4, a5, c5, a6, c6, rfl, hb⟩
      have hx : Below w_16.heap.size w_16 (w_16.alloc (.cells #[.slice a4 0 c4, .slice a5 0 c5] 29)) := (Below.refl _ _).alloc (Nat.le_refl _) _
      have hbb := hb.trans (hx.mono hb.size)
      have M_17 := Lib.hid (M_8.out.mono hbb (Nat.le_refl _))
      have ROW_18 := Lib.hid (ROW_9.out.mono hbb ROW_9.out.lt)
      have X_19 := Lib.hid (X_11.out.mono hbb X_11.out.lt)
      have B_20 := nxt B_10 hbb
      have Y_21 : Hid (Row (w_16.alloc (.cells #[.slice a4 0 c4, .slice a5 0 c5] 29)) w_16.heap.size 29 [.slice a4 0 c4, .slice a5 0 c5]) := Row.new w_16 29 [.slice a4 0 c4, .slice a5 0 c5]
      obtain ⟨g_22, hg⟩ : ∃ g, w_16.heap.size = g := ⟨_, rfl⟩
      rw [hg] at Y_21
      clear hx hb hbb  M_8 ROW_9 X_11 B_10 
      have k_23 := X_19.out.cell (i := 0) rfl
      have k_24 := X_19.out.cell (i := 1) rfl
      go_wp2_with fail
      try rw [hg]
      generalize (w_16.alloc (.cells #[.slice a4 0 c4, .slice a5 0 c5] 29)) = W_25 at M_17 ROW_18 X_19 Y_21 B_20 k_23 k_24 ⊢
      clear hg k_23 k_24
      refine (sameMemory_same _ _ 0 (fun _ => []) [] _ (mem_none _ _ _ _ _) (mem_none _ _ _ _ _) (by omega)).mono ?_
      rintro e w_26 ⟨rfl, hb⟩
      have M_27 := Lib.hid (M_17.out.mono hb (Nat.le_refl _))
      have ROW_28 := Lib.hid (ROW_18.out.mono hb ROW_18.out.lt)
      have X_29 := Lib.hid (X_19.out.mono hb X_19.out.lt)
      have Y_30 := Lib.hid (Y_21.out.mono hb Y_21.out.lt)
      have B_31 := nxt B_20 hb
      clear hb  M_17 ROW_18 X_19 Y_21 B_20 
      go_wp2_with fail
      refine (sameInts_same _ _ [] _ (ints_none _ _ _) (ints_none _ _ _)).mono ?_
      rintro e w_32 ⟨rfl, hb⟩
      have M_33 := Lib.hid (M_27.out.mono hb (Nat.le_refl _))
      have ROW_34 := Lib.hid (ROW_28.out.mono hb ROW_28.out.lt)
      have X_35 := Lib.hid (X_29.out.mono hb X_29.out.lt)
      have Y_36 := Lib.hid (Y_30.out.mono hb Y_30.out.lt)
      have B_37 := nxt B_31 hb
      clear hb  M_27 ROW_28 X_29 Y_30 B_31 
      have HRA := Lib.hid (HR.out.mono B_37.out (Nat.le_refl _))
      have k_38 := X_35.out.cell (i := 0) rfl
      have k_39 := X_35.out.cell (i := 1) rfl
      go_wp2_with (go_at_call 13; refine (alive_any _ HRA.out).mono ?_; rintro e w' ⟨rfl, rfl⟩)
      go_ret
      exact ⟨rfl, B_37.out⟩
    | true =>
      obtain rfl : n = 7 := by unfold useOk at hk; rw [Bool.and_eq_true, Bool.and_eq_true, Bool.and_eq_true] at hk; exact (validB_iff.1 hk.1.1.1).seven
      have HK := Lib.hid hk
      have HSX0 := Lib.hid (use_small t hk)
      have HVX0 := Lib.hid (use_valid t hk)
      clear hk
      obtain ⟨LS, hLS⟩ : ∃ LS, useLs (lsOf f st) (blkAt (allM 7 f st) (x : Int)).2.2 (x : Int) t y l = LS := ⟨_, rfl⟩
      obtain ⟨hd, hhd⟩ : ∃ hd, (blkAt (allM 7 f st) (x : Int)).2.1 = hd := ⟨_, rfl⟩
      obtain ⟨ps, hps⟩ : ∃ ps, pathL (blkAt (allM 7 f st) (x : Int)).2.2 = ps := ⟨_, rfl⟩
      obtain ⟨s, hs⟩ : ∃ s, (LS 0).length = s := ⟨_, rfl⟩
      rw [hLS] at HSX0 HVX0
      have HLS := Lib.hid hLS
      have HHD := Lib.hid hhd
      have HPS := Lib.hid hps
      have HSL := Lib.hid hs
      clear hLS hhd hps hs
      refine (impl_UseV M_3.out HS.out HK.out).mono ?_
      rw [HLS.out, HHD.out, HPS.out]
      unfold UseVY
      rw [HSL.out]
      rintro e w_7 ⟨gb, cb, a3, c3, a1, c1, rfl, hx1, hx2, hb⟩
      have hx : Below w_7.heap.size w_7 (w_7.alloc (.cells #[.slice (some ⟨gb, 0, none⟩) 7 cb, .slice a3 s c3] 29)) := (Below.refl _ _).alloc (Nat.le_refl _) _
      have hbb := hb.trans (hx.mono hb.size)
      have M_8 := Lib.hid (M_3.out.mono hbb (Nat.le_refl _))
      have ROW_9 := Lib.hid (ROW_4.out.mono hbb ROW_4.out.lt)
      have B_10 := nxt B_2 hbb
      have MX_11 := Lib.hid (hx1.mono hx (Nat.le_refl _))
      have PX_12 := Lib.hid (hx2.mono hx (Nat.le_refl _))
      have X_13 : Hid (Row (w_7.alloc (.cells #[.slice (some ⟨gb, 0, none⟩) 7 cb, .slice a3 s c3] 29)) w_7.heap.size 29 [.slice (some ⟨gb, 0, none⟩) 7 cb, .slice a3 s c3]) := Row.new w_7 29 [.slice (some ⟨gb, 0, none⟩) 7 cb, .slice a3 s c3]
      obtain ⟨g_14, hg⟩ : ∃ g, w_7.heap.size = g := ⟨_, rfl⟩
      rw [hg] at X_13
      clear hx hb hbb hx1 hx2 M_3 ROW_4 B_2 
      have k_15 := ROW_9.out.cell (i := 0) rfl
      have k_16 := ROW_9.out.cell (i := 1) rfl
      go_wp2_with fail
      try rw [hg]
      generalize (w_7.alloc (.cells #[.slice (some ⟨gb, 0, none⟩) 7 cb, .slice a3 s c3] 29)) = W_17 at M_8 ROW_9 MX_11 PX_12 X_13 B_10 k_15 k_16 ⊢
      clear hg k_15 k_16
      refine (spec_UseV M_8.out HS.out HK.out).mono ?_
      rw [HLS.out, HHD.out, HPS.out]
      unfold UseVY
      rw [HSL.out]
      rintro e w_18 ⟨gb2, cb2, a4, c4, a5, c5, rfl, hy1, hy2, hb⟩
      have hx : Below w_18.heap.size w_18 (w_18.alloc (.cells #[.slice (some ⟨gb2, 0, none⟩) 7 cb2, .slice a4 s c4] 29)) := (Below.refl _ _).alloc (Nat.le_refl _) _
      have hbb := hb.trans (hx.mono hb.size)
      have M_19 := Lib.hid (M_8.out.mono hbb (Nat.le_refl _))
      have ROW_20 := Lib.hid (ROW_9.out.mono hbb ROW_9.out.lt)
      have MX_21 := Lib.hid (MX_11.out.mono hbb (Nat.le_refl _))
      have PX_22 := Lib.hid (PX_12.out.mono hbb (Nat.le_refl _))
      have X_23 := Lib.hid (X_13.out.mono hbb X_13.out.lt)
      have B_24 := nxt B_10 hbb
      have MY_25 := Lib.hid (hy1.mono hx (Nat.le_refl _))
      have PY_26 := Lib.hid (hy2.mono hx (Nat.le_refl _))
      have Y_27 : Hid (Row (w_18.alloc (.cells #[.slice (some ⟨gb2, 0, none⟩) 7 cb2, .slice a4 s c4] 29)) w_18.heap.size 29 [.slice (some ⟨gb2, 0, none⟩) 7 cb2, .slice a4 s c4]) := Row.new w_18 29 [.slice (some ⟨gb2, 0, none⟩) 7 cb2, .slice a4 s c4]
      obtain ⟨g_28, hg⟩ : ∃ g, w_18.heap.size = g := ⟨_, rfl⟩
      rw [hg] at Y_27
      clear hx hb hbb hy1 hy2 M_8 ROW_9 MX_11 PX_12 X_13 B_10 
      have k_29 := X_23.out.cell (i := 0) rfl
      have k_30 := X_23.out.cell (i := 1) rfl
      go_wp2_with fail
      try rw [hg]
      generalize (w_18.alloc (.cells #[.slice (some ⟨gb2, 0, none⟩) 7 cb2, .slice a4 s c4] 29)) = W_31 at M_19 ROW_20 MX_21 PX_22 X_23 MY_25 PY_26 Y_27 B_24 k_29 k_30 ⊢
      clear hg k_29 k_30
      refine (sameMemory_same _ _ 7 (fun i => LS (i + 2)) (LS 0) _ MX_21.out MY_25.out (by omega)).mono ?_
      rintro e w_32 ⟨rfl, hb⟩
      have M_33 := Lib.hid (M_19.out.mono hb (Nat.le_refl _))
      have ROW_34 := Lib.hid (ROW_20.out.mono hb ROW_20.out.lt)
      have MX_35 := Lib.hid (MX_21.out.mono hb (Nat.le_refl _))
      have PX_36 := Lib.hid (PX_22.out.mono hb (Nat.le_refl _))
      have X_37 := Lib.hid (X_23.out.mono hb X_23.out.lt)
      have MY_38 := Lib.hid (MY_25.out.mono hb (Nat.le_refl _))
      have PY_39 := Lib.hid (PY_26.out.mono hb (Nat.le_refl _))
      have Y_40 := Lib.hid (Y_27.out.mono hb Y_27.out.lt)
      have B_41 := nxt B_24 hb
      clear hb  M_19 ROW_20 MX_21 PX_22 X_23 MY_25 PY_26 Y_27 B_24 
      have hLL : (hd != hd) = false := by simp
      go_wp2_with fail
      clear hLL
      refine (sameInts_same _ _ ps _ PX_36.out PY_39.out).mono ?_
      rintro e w_42 ⟨rfl, hb⟩
      have M_43 := Lib.hid (M_33.out.mono hb (Nat.le_refl _))
      have ROW_44 := Lib.hid (ROW_34.out.mono hb ROW_34.out.lt)
      have MX_45 := Lib.hid (MX_35.out.mono hb (Nat.le_refl _))
      have PX_46 := Lib.hid (PX_36.out.mono hb (Nat.le_refl _))
      have X_47 := Lib.hid (X_37.out.mono hb X_37.out.lt)
      have MY_48 := Lib.hid (MY_38.out.mono hb (Nat.le_refl _))
      have PY_49 := Lib.hid (PY_39.out.mono hb (Nat.le_refl _))
      have Y_50 := Lib.hid (Y_40.out.mono hb Y_40.out.lt)
      have B_51 := nxt B_41 hb
      clear hb  M_33 ROW_34 MX_35 PX_36 X_37 MY_38 PY_39 Y_40 B_41 
      clear Y_50
      clear MY_48
      clear PX_46
      clear PY_49
      go_wp2
      go_loopg [16] 8 (fun gg i wr => ∃ k : Nat, k ≤ 8 ∧ 8 - k ≤ gg ∧ i = .int .i64 k ∧ Hid (Below w_42.heap.size w_42 wr))
      case atStart => exact ⟨0, by omega, Nat.le_refl _, rfl, Below.refl _ _⟩
      case round =>
        obtain ⟨k, hk, hgg, rfl, hB⟩ := hrel
        have ROW_52 := Lib.hid (ROW_44.out.mono hB.out ROW_44.out.lt)
        have M_53 := Lib.hid (M_43.out.mono hB.out (Nat.le_refl _))
        have X_54 := Lib.hid (X_47.out.mono hB.out X_47.out.lt)
        have MX_55 := Lib.hid (MX_45.out.mono hB.out (Nat.le_refl _))
        by_cases hlt : k < 8
        · have HLT := Lib.hid hlt
          obtain ⟨ho1, ho2, hne, heq⟩ := use_facts HK.out HLS.out hlt
          obtain ⟨va, hva⟩ : ∃ va, (blkAt (allM 7 f st) (k : Int)).2.1 = va := ⟨_, rfl⟩
          obtain ⟨vb, hvb⟩ : ∃ vb, (blkAt (allM 7 (fun i => LS (i + 2)) (LS 0)) (k : Int)).2.1 = vb := ⟨_, rfl⟩
          obtain ⟨lx, hlx⟩ : ∃ lx, leafV 7 (fun i => LS (i + 2)) (LS 0) (k : Int) = lx := ⟨_, rfl⟩
          obtain ⟨lm, hlm⟩ : ∃ lm, leafV 7 f st (k : Int) = lm := ⟨_, rfl⟩
          rw [hva, hvb, hlx, hlm] at hne
          rw [hva, hvb, hlx] at heq
          have HNE := Lib.hid hne
          have HEQ := Lib.hid heq
          have HO1 := Lib.hid ho1
          have HO2 := Lib.hid ho2
          have HVA := Lib.hid hva
          have HVB := Lib.hid hvb
          have HLX := Lib.hid hlx
          have HLM := Lib.hid hlm
          clear hne heq ho1 ho2 hva hvb hlx hlm
          have k_56 := ROW_52.out.cell (i := 0) rfl
          have k_57 := ROW_52.out.cell (i := 1) rfl
          go_wp2_with fail
          clear hlt k_56 k_57
          refine (impl_UseV (t := false) M_53.out HS.out HO1.out).mono ?_
          rw [HVA.out]
          rintro e w_58 ⟨gb3, cb3, a7, c7, a8, c8, rfl, hz1, hz2, hb⟩
          clear hz1 hz2
          obtain ⟨m7, hm7⟩ : ∃ m7, (useLs (lsOf f st) (blkAt (allM 7 f st) (k : Int)).2.2 (k : Int) false 0 0 0).length = m7 := ⟨_, rfl⟩
          rw [hm7]
          clear hm7
          have hx : Below w_58.heap.size w_58 (w_58.alloc (.cells #[.slice (some ⟨gb3, 0, none⟩) 7 cb3, .slice a7 m7 c7] 29)) := (Below.refl _ _).alloc (Nat.le_refl _) _
          have hbb := hb.trans (hx.mono hb.size)
          have ROW_59 := Lib.hid (ROW_52.out.mono hbb ROW_52.out.lt)
          have M_60 := Lib.hid (M_53.out.mono hbb (Nat.le_refl _))
          have X_61 := Lib.hid (X_54.out.mono hbb X_54.out.lt)
          have MX_62 := Lib.hid (MX_55.out.mono hbb (Nat.le_refl _))
          have B_63 := nxt hB hbb
          have Z1_64 : Hid (Row (w_58.alloc (.cells #[.slice (some ⟨gb3, 0, none⟩) 7 cb3, .slice a7 m7 c7] 29)) w_58.heap.size 29 [.slice (some ⟨gb3, 0, none⟩) 7 cb3, .slice a7 m7 c7]) := Row.new w_58 29 [.slice (some ⟨gb3, 0, none⟩) 7 cb3, .slice a7 m7 c7]
          obtain ⟨g_65, hg⟩ : ∃ g, w_58.heap.size = g := ⟨_, rfl⟩
          rw [hg] at Z1_64
          clear hx hb hbb  ROW_52 M_53 X_54 MX_55 hB 
          have k_66 := X_61.out.cell (i := 0) rfl
          have k_67 := X_61.out.cell (i := 1) rfl
          go_wp2_with fail
          try rw [hg]
          generalize (w_58.alloc (.cells #[.slice (some ⟨gb3, 0, none⟩) 7 cb3, .slice a7 m7 c7] 29)) = W_68 at ROW_59 M_60 X_61 MX_62 Z1_64 B_63 k_66 k_67 ⊢
          clear hg k_66 k_67
          clear Z1_64
          refine (impl_UseV (t := false) MX_62.out HSX0.out HO2.out).mono ?_
          rw [HVB.out]
          rintro e w_69 ⟨gb4, cb4, a9, c9, a10, c10, rfl, hz1, hz2, hb⟩
          clear hz1 hz2
          obtain ⟨m9, hm9⟩ : ∃ m9, (useLs (lsOf (fun i => LS (i + 2)) (LS 0)) (blkAt (allM 7 (fun i => LS (i + 2)) (LS 0)) (k : Int)).2.2 (k : Int) false 0 0 0).length = m9 := ⟨_, rfl⟩
          rw [hm9]
          clear hm9
          have hx : Below w_69.heap.size w_69 (w_69.alloc (.cells #[.slice (some ⟨gb4, 0, none⟩) 7 cb4, .slice a9 m9 c9] 29)) := (Below.refl _ _).alloc (Nat.le_refl _) _
          have hbb := hb.trans (hx.mono hb.size)
          have ROW_70 := Lib.hid (ROW_59.out.mono hbb ROW_59.out.lt)
          have M_71 := Lib.hid (M_60.out.mono hbb (Nat.le_refl _))
          have X_72 := Lib.hid (X_61.out.mono hbb X_61.out.lt)
          have MX_73 := Lib.hid (MX_62.out.mono hbb (Nat.le_refl _))
          have B_74 := nxt B_63 hbb
          have Z2_75 : Hid (Row (w_69.alloc (.cells #[.slice (some ⟨gb4, 0, none⟩) 7 cb4, .slice a9 m9 c9] 29)) w_69.heap.size 29 [.slice (some ⟨gb4, 0, none⟩) 7 cb4, .slice a9 m9 c9]) := Row.new w_69 29 [.slice (some ⟨gb4, 0, none⟩) 7 cb4, .slice a9 m9 c9]
          obtain ⟨g_76, hg⟩ : ∃ g, w_69.heap.size = g := ⟨_, rfl⟩
          rw [hg] at Z2_75
          clear hx hb hbb  ROW_59 M_60 X_61 MX_62 B_63 
          go_wp2_with fail
          try rw [hg]
          generalize (w_69.alloc (.cells #[.slice (some ⟨gb4, 0, none⟩) 7 cb4, .slice a9 m9 c9] 29)) = W_77 at ROW_70 M_71 X_72 MX_73 Z2_75 B_74  ⊢
          clear hg
          clear Z2_75
          clear ROW_70
          clear M_71
          clear X_72
          clear MX_73
          have HJ8 : Hid (∀ w', Below w_42.heap.size w_42 w' → w'.cell? ⟨g_14, 0, none⟩ = some (.slice (some ⟨gb, 0, none⟩) 7 cb) ∧ w'.cell? ⟨g_14, 1, none⟩ = some (.slice a3 s c3)) := fun w' hb => ⟨(X_47.out.mono hb X_47.out.lt).cell (i := 0) rfl, (X_47.out.mono hb X_47.out.lt).cell (i := 1) rfl⟩
          have HJ3 : Hid (∀ w', Below w_42.heap.size w_42 w' → w'.cell? ⟨g_5, 0, none⟩ = some (.slice a 7 c) ∧ w'.cell? ⟨g_5, 1, none⟩ = some (.slice a' m c')) := fun w' hb => ⟨(ROW_44.out.mono hb ROW_44.out.lt).cell (i := 0) rfl, (ROW_44.out.mono hb ROW_44.out.lt).cell (i := 1) rfl⟩
          have HCX : Hid (∀ w', Below w_42.heap.size w_42 w' → Calls Tryd.prog 15 #[.agg #[.slice (some ⟨gb, 0, none⟩) 7 cb, .slice a3 s c3], .int .i64 (k : Int)] w' fun e w'' => e = .returned (.int .i64 lx) ∧ Below w_42.heap.size w_42 w'') := fun w' hb => (impl_LeafOf _ 7 _ _ _ w' (MX_45.out.mono hb (Nat.le_refl _)) HSX0.out).mono fun e w8 ⟨he, hb8⟩ => ⟨by rw [he, HLX.out], hb.trans (hb8.mono hb.size)⟩
          have HCM : Hid (∀ w', Below w_42.heap.size w_42 w' → Calls Tryd.prog 15 #[.agg #[.slice a 7 c, .slice a' m c'], .int .i64 (k : Int)] w' fun e w'' => e = .returned (.int .i64 lm) ∧ Below w_42.heap.size w_42 w'') := fun w' hb => (impl_LeafOf _ 7 _ _ _ w' (M_43.out.mono hb (Nat.le_refl _)) HS.out).mono fun e w8 ⟨he, hb8⟩ => ⟨by rw [he, HLM.out], hb.trans (hb8.mono hb.size)⟩
          by_cases hkx : (k : Int) = (x : Int)
          · obtain ⟨h1, h2⟩ := HEQ.out hkx
            have hd0 : va = hd := by rw [← HVA.out, ← HHD.out, hkx]
            subst hd0 h2
            have HKX := Lib.hid hkx
            clear hkx HHD HNE HEQ HVA HPS
            cases t with
            | true =>
              obtain rfl : vb = y := h1
              refine region_const (l := [(116, .bool true), (117, .bool false), (118, .bool false), (119, .bool true), (120, .bool false), (121, .bool false), (122, .bool false), (123, .int .i64 (k : Int)), (124, .int .i64 (x : Int)), (125, .bool false), (126, .bool false), (127, undef), (128, undef), (129, undef), (130, undef), (131, undef), (132, undef), (133, undef), (134, undef), (135, undef), (136, undef), (137, undef), (138, undef), (139, .bool false), (140, .bool false), (141, .bool false), (142, .int .i64 (k : Int)), (143, .int .i64 (x : Int)), (144, .bool true), (145, .bool true), (146, .bool true), (147, .bool true), (148, .int .i64 vb), (149, .int .i64 vb), (150, .bool false), (151, .bool false), (152, .bool false), (153, .bool true), (154, .bool false), (155, .bool false), (156, undef), (157, undef), (158, undef), (159, .bool false), (160, .bool false), (161, .bool false), (162, .agg #[.slice (some ⟨gb, 0, none⟩) 7 cb, .slice a3 s c3]), (163, .int .i64 (k : Int)), (164, .int .i64 lx), (165, .int .i64 lx), (166, .bool false), (167, .bool false), (168, .bool false), (169, .int .i64 va), (170, .int .i64 va), (171, .bool false), (172, .bool false), (173, .bool false), (174, .bool false)]) (J := fun w' => Below w_42.heap.size w_42 w') 177 rfl B_74.out.drew (by kernel_rfl) (by kernel_rfl) (by kernel_rfl) rfl (by kernel_rfl) ⟨?_, ?_, ?_, ?_, ?_, ?_, ?_, ?_, ?_, ?_, ?_, ?_, ?_, ?_, ?_, ?_, ?_, ?_, ?_, ?_, ?_, ?_, ?_, ?_, ?_, ?_, ?_, ?_, ?_, ?_, ?_, ?_, ?_, ?_, ?_, ?_, ?_, ?_, ?_, ?_, ?_, ?_, ?_, ?_, ?_, ?_, ?_, ?_, ?_, ?_, ?_, ?_, ?_, ?_, ?_, ?_, ?_, ?_, ?_, trivial⟩ ?_
              · exact cv_fresh (.inl rfl) (.inl rfl) (by kernel_rfl) rfl
              · exact cv_not (j := 0) (.inl rfl) rfl rfl rfl (by kernel_rfl) rfl rfl
              · exact cv_same (j := 1) (.inl rfl) (.inl rfl) rfl rfl (by kernel_rfl) rfl
              · exact cv_fresh (met_some (j := 2) rfl rfl rfl (by kernel_rfl) rfl) (.inl rfl) (by kernel_rfl) rfl
              · exact cv_not (j := 3) (met_some (j := 2) rfl rfl rfl (by kernel_rfl) rfl) rfl rfl rfl (by kernel_rfl) rfl rfl
              · exact cv_pickR (j := 2) (j' := 4) (.inl rfl) rfl rfl rfl (by kernel_rfl) rfl rfl (by kernel_rfl) rfl rfl
              · exact cv_same (j := 5) (.inl rfl) (.inl rfl) rfl rfl (by kernel_rfl) rfl
              · exact cv_fresh (met_some (j := 6) rfl rfl rfl (by kernel_rfl) rfl) (.inl rfl) (by kernel_rfl) rfl
              · exact cv_fresh (met_some (j := 6) rfl rfl rfl (by kernel_rfl) rfl) (.inl rfl) (by kernel_rfl) rfl
              · exact cv_neq (j := 7) (j' := 8) (met_some (j := 6) rfl rfl rfl (by kernel_rfl) rfl) rfl rfl rfl (by kernel_rfl) rfl rfl (by kernel_rfl) rfl rfl (by rw [HKX.out]; simp) rfl
              · exact cv_same (j := 9) (met_some (j := 6) rfl rfl rfl (by kernel_rfl) rfl) (.inl rfl) rfl rfl (by kernel_rfl) rfl
              · exact cv_skip (j := 10) (b := true) rfl rfl rfl (by kernel_rfl) rfl rfl
              · exact cv_skip (j := 10) (b := true) rfl rfl rfl (by kernel_rfl) rfl rfl
              · exact cv_skip (j := 10) (b := true) rfl rfl rfl (by kernel_rfl) rfl rfl
              · exact cv_skip (j := 10) (b := true) rfl rfl rfl (by kernel_rfl) rfl rfl
              · exact cv_skipU (j := 14) rfl rfl rfl (by kernel_rfl) rfl rfl
              · exact cv_skipU (j := 14) rfl rfl rfl (by kernel_rfl) rfl rfl
              · exact cv_skipU (j := 14) rfl rfl rfl (by kernel_rfl) rfl rfl
              · exact cv_skipU (j := 14) rfl rfl rfl (by kernel_rfl) rfl rfl
              · exact cv_skipU (j := 14) rfl rfl rfl (by kernel_rfl) rfl rfl
              · exact cv_skipU (j := 14) rfl rfl rfl (by kernel_rfl) rfl rfl
              · exact cv_skipU (j := 14) rfl rfl rfl (by kernel_rfl) rfl rfl
              · exact cv_skip (j := 10) (b := true) rfl rfl rfl (by kernel_rfl) rfl rfl
              · exact cv_pickF (j := 10) (met_some (j := 6) rfl rfl rfl (by kernel_rfl) rfl) rfl rfl rfl (by kernel_rfl) rfl rfl
              · exact cv_pickR (j := 6) (j' := 23) (.inl rfl) rfl rfl rfl (by kernel_rfl) rfl rfl (by kernel_rfl) rfl rfl
              · exact cv_same (j := 24) (.inl rfl) (.inl rfl) rfl rfl (by kernel_rfl) rfl
              · exact cv_fresh (met_some (j := 25) rfl rfl rfl (by kernel_rfl) rfl) (.inl rfl) (by kernel_rfl) rfl
              · exact cv_fresh (met_some (j := 25) rfl rfl rfl (by kernel_rfl) rfl) (.inl rfl) (by kernel_rfl) rfl
              · exact cv_eql (j := 26) (j' := 27) (met_some (j := 25) rfl rfl rfl (by kernel_rfl) rfl) rfl rfl rfl (by kernel_rfl) rfl rfl (by kernel_rfl) rfl rfl (by rw [HKX.out]; simp) rfl
              · exact cv_same (j := 28) (met_some (j := 25) rfl rfl rfl (by kernel_rfl) rfl) (.inl rfl) rfl rfl (by kernel_rfl) rfl
              · exact cv_fresh (met_some (j := 29) rfl rfl rfl (by kernel_rfl) rfl) (.inl rfl) (by kernel_rfl) rfl
              · exact cv_same (j := 30) (met_some (j := 29) rfl rfl rfl (by kernel_rfl) rfl) (.inl rfl) rfl rfl (by kernel_rfl) rfl
              · exact cv_fresh (met_some (j := 31) rfl rfl rfl (by kernel_rfl) rfl) (.inl rfl) (by kernel_rfl) rfl
              · exact cv_fresh (met_some (j := 31) rfl rfl rfl (by kernel_rfl) rfl) (.inl rfl) (by kernel_rfl) rfl
              · exact cv_neq (j := 32) (j' := 33) (met_some (j := 31) rfl rfl rfl (by kernel_rfl) rfl) rfl rfl rfl (by kernel_rfl) rfl rfl (by kernel_rfl) rfl rfl (by simp) rfl
              · exact cv_pickL (j := 31) (j' := 34) (met_some (j := 29) rfl rfl rfl (by kernel_rfl) rfl) rfl rfl rfl (by kernel_rfl) rfl rfl (by kernel_rfl) rfl rfl
              · exact cv_same (j := 35) (met_some (j := 29) rfl rfl rfl (by kernel_rfl) rfl) (.inl rfl) rfl rfl (by kernel_rfl) rfl
              · exact cv_fresh (met_some (j := 36) rfl rfl rfl (by kernel_rfl) rfl) (.inl rfl) (by kernel_rfl) rfl
              · exact cv_not (j := 37) (met_some (j := 36) rfl rfl rfl (by kernel_rfl) rfl) rfl rfl rfl (by kernel_rfl) rfl rfl
              · exact cv_same (j := 38) (met_some (j := 36) rfl rfl rfl (by kernel_rfl) rfl) (.inl rfl) rfl rfl (by kernel_rfl) rfl
              · exact cv_skip (j := 39) (b := true) rfl rfl rfl (by kernel_rfl) rfl rfl
              · exact cv_skip (j := 39) (b := true) rfl rfl rfl (by kernel_rfl) rfl rfl
              · exact cv_skip (j := 39) (b := true) rfl rfl rfl (by kernel_rfl) rfl rfl
              · exact cv_pickF (j := 39) (met_some (j := 36) rfl rfl rfl (by kernel_rfl) rfl) rfl rfl rfl (by kernel_rfl) rfl rfl
              · exact cv_pickR (j := 36) (j' := 43) (met_some (j := 29) rfl rfl rfl (by kernel_rfl) rfl) rfl rfl rfl (by kernel_rfl) rfl rfl (by kernel_rfl) rfl rfl
              · exact cv_same (j := 44) (met_some (j := 29) rfl rfl rfl (by kernel_rfl) rfl) (.inl rfl) rfl rfl (by kernel_rfl) rfl
              · exact cv_loadM (met_some (j := 45) rfl rfl rfl (by kernel_rfl) rfl) rfl (by kernel_rfl) rfl HJ8.out rfl
              · exact cv_fresh (met_some (j := 45) rfl rfl rfl (by kernel_rfl) rfl) (.inl rfl) (by kernel_rfl) rfl
              · exact cv_leaf (j := 46) (j' := 47) (met_some (j := 45) rfl rfl rfl (by kernel_rfl) rfl) rfl rfl rfl (by kernel_rfl) rfl rfl (by kernel_rfl) HCX.out
              · exact cv_fresh (met_some (j := 45) rfl rfl rfl (by kernel_rfl) rfl) (.inl rfl) (by kernel_rfl) rfl
              · exact cv_neq (j := 48) (j' := 49) (met_some (j := 45) rfl rfl rfl (by kernel_rfl) rfl) rfl rfl rfl (by kernel_rfl) rfl rfl (by kernel_rfl) rfl rfl (by simp) rfl
              · exact cv_pickR (j := 45) (j' := 50) (met_some (j := 29) rfl rfl rfl (by kernel_rfl) rfl) rfl rfl rfl (by kernel_rfl) rfl rfl (by kernel_rfl) rfl rfl
              · exact cv_same (j := 51) (met_some (j := 29) rfl rfl rfl (by kernel_rfl) rfl) (.inl rfl) rfl rfl (by kernel_rfl) rfl
              · exact cv_fresh (met_some (j := 52) rfl rfl rfl (by kernel_rfl) rfl) (.inl rfl) (by kernel_rfl) rfl
              · exact cv_fresh (met_some (j := 52) rfl rfl rfl (by kernel_rfl) rfl) (.inl rfl) (by kernel_rfl) rfl
              · exact cv_neq (j := 53) (j' := 54) (met_some (j := 52) rfl rfl rfl (by kernel_rfl) rfl) rfl rfl rfl (by kernel_rfl) rfl rfl (by kernel_rfl) rfl rfl (by simp) rfl
              · exact cv_pickR (j := 52) (j' := 55) (met_some (j := 29) rfl rfl rfl (by kernel_rfl) rfl) rfl rfl rfl (by kernel_rfl) rfl rfl (by kernel_rfl) rfl rfl
              · exact cv_pickL (j := 29) (j' := 56) (met_some (j := 25) rfl rfl rfl (by kernel_rfl) rfl) rfl rfl rfl (by kernel_rfl) rfl rfl (by kernel_rfl) rfl rfl
              · exact cv_pickR (j := 25) (j' := 57) (.inl rfl) rfl rfl rfl (by kernel_rfl) rfl rfl (by kernel_rfl) rfl rfl
              intro w8 hb8
              have HB8 := Lib.hid hb8
              clear hb8
              simp only [putL, List.foldl_cons, List.foldl_nil]
              go_simp
              go_wp2_with fail
              go_roundg (8 - (k + 1))
              case rel => exact ⟨k + 1, HLT.out, Nat.le_refl _, by go_num, HB8.out⟩
              case measure => have := HLT.out; omega
            | false =>
              obtain rfl : vb = va := h1
              refine region_const (l := [(116, .bool true), (117, .bool false), (118, .bool false), (119, .bool true), (120, .bool false), (121, .bool false), (122, .bool false), (123, .int .i64 (k : Int)), (124, .int .i64 (x : Int)), (125, .bool false), (126, .bool false), (127, undef), (128, undef), (129, undef), (130, undef), (131, undef), (132, undef), (133, undef), (134, undef), (135, undef), (136, undef), (137, undef), (138, undef), (139, .bool false), (140, .bool false), (141, .bool false), (142, .int .i64 (k : Int)), (143, .int .i64 (x : Int)), (144, .bool true), (145, .bool true), (146, .bool false), (147, .bool false), (148, undef), (149, undef), (150, undef), (151, .bool false), (152, .bool false), (153, .bool false), (154, .bool true), (155, .bool true), (156, .int .i64 vb), (157, .int .i64 vb), (158, .bool false), (159, .bool false), (160, .bool false), (161, .bool false), (162, .agg #[.slice (some ⟨gb, 0, none⟩) 7 cb, .slice a3 s c3]), (163, .int .i64 (k : Int)), (164, .int .i64 lx), (165, .int .i64 lx), (166, .bool false), (167, .bool false), (168, .bool false), (169, .int .i64 vb), (170, .int .i64 vb), (171, .bool false), (172, .bool false), (173, .bool false), (174, .bool false)]) (J := fun w' => Below w_42.heap.size w_42 w') 177 rfl B_74.out.drew (by kernel_rfl) (by kernel_rfl) (by kernel_rfl) rfl (by kernel_rfl) ⟨?_, ?_, ?_, ?_, ?_, ?_, ?_, ?_, ?_, ?_, ?_, ?_, ?_, ?_, ?_, ?_, ?_, ?_, ?_, ?_, ?_, ?_, ?_, ?_, ?_, ?_, ?_, ?_, ?_, ?_, ?_, ?_, ?_, ?_, ?_, ?_, ?_, ?_, ?_, ?_, ?_, ?_, ?_, ?_, ?_, ?_, ?_, ?_, ?_, ?_, ?_, ?_, ?_, ?_, ?_, ?_, ?_, ?_, ?_, trivial⟩ ?_
              · exact cv_fresh (.inl rfl) (.inl rfl) (by kernel_rfl) rfl
              · exact cv_not (j := 0) (.inl rfl) rfl rfl rfl (by kernel_rfl) rfl rfl
              · exact cv_same (j := 1) (.inl rfl) (.inl rfl) rfl rfl (by kernel_rfl) rfl
              · exact cv_fresh (met_some (j := 2) rfl rfl rfl (by kernel_rfl) rfl) (.inl rfl) (by kernel_rfl) rfl
              · exact cv_not (j := 3) (met_some (j := 2) rfl rfl rfl (by kernel_rfl) rfl) rfl rfl rfl (by kernel_rfl) rfl rfl
              · exact cv_pickR (j := 2) (j' := 4) (.inl rfl) rfl rfl rfl (by kernel_rfl) rfl rfl (by kernel_rfl) rfl rfl
              · exact cv_same (j := 5) (.inl rfl) (.inl rfl) rfl rfl (by kernel_rfl) rfl
              · exact cv_fresh (met_some (j := 6) rfl rfl rfl (by kernel_rfl) rfl) (.inl rfl) (by kernel_rfl) rfl
              · exact cv_fresh (met_some (j := 6) rfl rfl rfl (by kernel_rfl) rfl) (.inl rfl) (by kernel_rfl) rfl
              · exact cv_neq (j := 7) (j' := 8) (met_some (j := 6) rfl rfl rfl (by kernel_rfl) rfl) rfl rfl rfl (by kernel_rfl) rfl rfl (by kernel_rfl) rfl rfl (by rw [HKX.out]; simp) rfl
              · exact cv_same (j := 9) (met_some (j := 6) rfl rfl rfl (by kernel_rfl) rfl) (.inl rfl) rfl rfl (by kernel_rfl) rfl
              · exact cv_skip (j := 10) (b := true) rfl rfl rfl (by kernel_rfl) rfl rfl
              · exact cv_skip (j := 10) (b := true) rfl rfl rfl (by kernel_rfl) rfl rfl
              · exact cv_skip (j := 10) (b := true) rfl rfl rfl (by kernel_rfl) rfl rfl
              · exact cv_skip (j := 10) (b := true) rfl rfl rfl (by kernel_rfl) rfl rfl
              · exact cv_skipU (j := 14) rfl rfl rfl (by kernel_rfl) rfl rfl
              · exact cv_skipU (j := 14) rfl rfl rfl (by kernel_rfl) rfl rfl
              · exact cv_skipU (j := 14) rfl rfl rfl (by kernel_rfl) rfl rfl
              · exact cv_skipU (j := 14) rfl rfl rfl (by kernel_rfl) rfl rfl
              · exact cv_skipU (j := 14) rfl rfl rfl (by kernel_rfl) rfl rfl
              · exact cv_skipU (j := 14) rfl rfl rfl (by kernel_rfl) rfl rfl
              · exact cv_skipU (j := 14) rfl rfl rfl (by kernel_rfl) rfl rfl
              · exact cv_skip (j := 10) (b := true) rfl rfl rfl (by kernel_rfl) rfl rfl
              · exact cv_pickF (j := 10) (met_some (j := 6) rfl rfl rfl (by kernel_rfl) rfl) rfl rfl rfl (by kernel_rfl) rfl rfl
              · exact cv_pickR (j := 6) (j' := 23) (.inl rfl) rfl rfl rfl (by kernel_rfl) rfl rfl (by kernel_rfl) rfl rfl
              · exact cv_same (j := 24) (.inl rfl) (.inl rfl) rfl rfl (by kernel_rfl) rfl
              · exact cv_fresh (met_some (j := 25) rfl rfl rfl (by kernel_rfl) rfl) (.inl rfl) (by kernel_rfl) rfl
              · exact cv_fresh (met_some (j := 25) rfl rfl rfl (by kernel_rfl) rfl) (.inl rfl) (by kernel_rfl) rfl
              · exact cv_eql (j := 26) (j' := 27) (met_some (j := 25) rfl rfl rfl (by kernel_rfl) rfl) rfl rfl rfl (by kernel_rfl) rfl rfl (by kernel_rfl) rfl rfl (by rw [HKX.out]; simp) rfl
              · exact cv_same (j := 28) (met_some (j := 25) rfl rfl rfl (by kernel_rfl) rfl) (.inl rfl) rfl rfl (by kernel_rfl) rfl
              · exact cv_fresh (met_some (j := 29) rfl rfl rfl (by kernel_rfl) rfl) (.inl rfl) (by kernel_rfl) rfl
              · exact cv_same (j := 30) (met_some (j := 29) rfl rfl rfl (by kernel_rfl) rfl) (.inl rfl) rfl rfl (by kernel_rfl) rfl
              · exact cv_skip (j := 31) (b := true) rfl rfl rfl (by kernel_rfl) rfl rfl
              · exact cv_skip (j := 31) (b := true) rfl rfl rfl (by kernel_rfl) rfl rfl
              · exact cv_skip (j := 31) (b := true) rfl rfl rfl (by kernel_rfl) rfl rfl
              · exact cv_pickF (j := 31) (met_some (j := 29) rfl rfl rfl (by kernel_rfl) rfl) rfl rfl rfl (by kernel_rfl) rfl rfl
              · exact cv_same (j := 35) (met_some (j := 29) rfl rfl rfl (by kernel_rfl) rfl) (.inl rfl) rfl rfl (by kernel_rfl) rfl
              · exact cv_fresh (met_some (j := 36) rfl rfl rfl (by kernel_rfl) rfl) (.inl rfl) (by kernel_rfl) rfl
              · exact cv_not (j := 37) (met_some (j := 36) rfl rfl rfl (by kernel_rfl) rfl) rfl rfl rfl (by kernel_rfl) rfl rfl
              · exact cv_same (j := 38) (met_some (j := 36) rfl rfl rfl (by kernel_rfl) rfl) (.inl rfl) rfl rfl (by kernel_rfl) rfl
              · exact cv_fresh (met_some (j := 39) rfl rfl rfl (by kernel_rfl) rfl) (.inl rfl) (by kernel_rfl) rfl
              · exact cv_fresh (met_some (j := 39) rfl rfl rfl (by kernel_rfl) rfl) (.inl rfl) (by kernel_rfl) rfl
              · exact cv_neq (j := 40) (j' := 41) (met_some (j := 39) rfl rfl rfl (by kernel_rfl) rfl) rfl rfl rfl (by kernel_rfl) rfl rfl (by kernel_rfl) rfl rfl (by simp) rfl
              · exact cv_pickL (j := 39) (j' := 42) (met_some (j := 36) rfl rfl rfl (by kernel_rfl) rfl) rfl rfl rfl (by kernel_rfl) rfl rfl (by kernel_rfl) rfl rfl
              · exact cv_pickR (j := 36) (j' := 43) (met_some (j := 29) rfl rfl rfl (by kernel_rfl) rfl) rfl rfl rfl (by kernel_rfl) rfl rfl (by kernel_rfl) rfl rfl
              · exact cv_same (j := 44) (met_some (j := 29) rfl rfl rfl (by kernel_rfl) rfl) (.inl rfl) rfl rfl (by kernel_rfl) rfl
              · exact cv_loadM (met_some (j := 45) rfl rfl rfl (by kernel_rfl) rfl) rfl (by kernel_rfl) rfl HJ8.out rfl
              · exact cv_fresh (met_some (j := 45) rfl rfl rfl (by kernel_rfl) rfl) (.inl rfl) (by kernel_rfl) rfl
              · exact cv_leaf (j := 46) (j' := 47) (met_some (j := 45) rfl rfl rfl (by kernel_rfl) rfl) rfl rfl rfl (by kernel_rfl) rfl rfl (by kernel_rfl) HCX.out
              · exact cv_fresh (met_some (j := 45) rfl rfl rfl (by kernel_rfl) rfl) (.inl rfl) (by kernel_rfl) rfl
              · exact cv_neq (j := 48) (j' := 49) (met_some (j := 45) rfl rfl rfl (by kernel_rfl) rfl) rfl rfl rfl (by kernel_rfl) rfl rfl (by kernel_rfl) rfl rfl (by simp) rfl
              · exact cv_pickR (j := 45) (j' := 50) (met_some (j := 29) rfl rfl rfl (by kernel_rfl) rfl) rfl rfl rfl (by kernel_rfl) rfl rfl (by kernel_rfl) rfl rfl
              · exact cv_same (j := 51) (met_some (j := 29) rfl rfl rfl (by kernel_rfl) rfl) (.inl rfl) rfl rfl (by kernel_rfl) rfl
              · exact cv_fresh (met_some (j := 52) rfl rfl rfl (by kernel_rfl) rfl) (.inl rfl) (by kernel_rfl) rfl
              · exact cv_fresh (met_some (j := 52) rfl rfl rfl (by kernel_rfl) rfl) (.inl rfl) (by kernel_rfl) rfl
              · exact cv_neq (j := 53) (j' := 54) (met_some (j := 52) rfl rfl rfl (by kernel_rfl) rfl) rfl rfl rfl (by kernel_rfl) rfl rfl (by kernel_rfl) rfl rfl (by simp) rfl
              · exact cv_pickR (j := 52) (j' := 55) (met_some (j := 29) rfl rfl rfl (by kernel_rfl) rfl) rfl rfl rfl (by kernel_rfl) rfl rfl (by kernel_rfl) rfl rfl
              · exact cv_pickL (j := 29) (j' := 56) (met_some (j := 25) rfl rfl rfl (by kernel_rfl) rfl) rfl rfl rfl (by kernel_rfl) rfl rfl (by kernel_rfl) rfl rfl
              · exact cv_pickR (j := 25) (j' := 57) (.inl rfl) rfl rfl rfl (by kernel_rfl) rfl rfl (by kernel_rfl) rfl rfl
              intro w8 hb8
              have HB8 := Lib.hid hb8
              clear hb8
              simp only [putL, List.foldl_cons, List.foldl_nil]
              go_simp
              go_wp2_with fail
              go_roundg (8 - (k + 1))
              case rel => exact ⟨k + 1, HLT.out, Nat.le_refl _, by go_num, HB8.out⟩
              case measure => have := HLT.out; omega
          · obtain ⟨h1, h2⟩ := HNE.out hkx
            subst h1 h2
            have HKX := Lib.hid hkx
            clear hkx HNE HEQ HVA HVB HPS
            refine region_const (l := [(116, .bool true), (117, .bool false), (118, .bool false), (119, .bool true), (120, .bool false), (121, .bool false), (122, .bool false), (123, .int .i64 (k : Int)), (124, .int .i64 (x : Int)), (125, .bool true), (126, .bool true), (127, .int .i64 vb), (128, .int .i64 vb), (129, .bool false), (130, .bool false), (131, .agg #[.slice (some ⟨gb, 0, none⟩) 7 cb, .slice a3 s c3]), (132, .int .i64 (k : Int)), (133, .int .i64 lx), (134, .agg #[.slice a 7 c, .slice a' m c']), (135, .int .i64 (k : Int)), (136, .int .i64 lx), (137, .bool false), (138, .bool false), (139, .bool false), (140, .bool false), (141, .bool false), (142, .int .i64 (k : Int)), (143, .int .i64 (x : Int)), (144, .bool false), (145, .bool false), (146, undef), (147, undef), (148, undef), (149, undef), (150, undef), (151, undef), (152, undef), (153, undef), (154, undef), (155, undef), (156, undef), (157, undef), (158, undef), (159, undef), (160, undef), (161, undef), (162, undef), (163, undef), (164, undef), (165, undef), (166, undef), (167, undef), (168, undef), (169, undef), (170, undef), (171, undef), (172, undef), (173, .bool false), (174, .bool false)]) (J := fun w' => Below w_42.heap.size w_42 w') 177 rfl B_74.out.drew (by kernel_rfl) (by kernel_rfl) (by kernel_rfl) rfl (by kernel_rfl) ⟨?_, ?_, ?_, ?_, ?_, ?_, ?_, ?_, ?_, ?_, ?_, ?_, ?_, ?_, ?_, ?_, ?_, ?_, ?_, ?_, ?_, ?_, ?_, ?_, ?_, ?_, ?_, ?_, ?_, ?_, ?_, ?_, ?_, ?_, ?_, ?_, ?_, ?_, ?_, ?_, ?_, ?_, ?_, ?_, ?_, ?_, ?_, ?_, ?_, ?_, ?_, ?_, ?_, ?_, ?_, ?_, ?_, ?_, ?_, trivial⟩ ?_
            · exact cv_fresh (.inl rfl) (.inl rfl) (by kernel_rfl) rfl
            · exact cv_not (j := 0) (.inl rfl) rfl rfl rfl (by kernel_rfl) rfl rfl
            · exact cv_same (j := 1) (.inl rfl) (.inl rfl) rfl rfl (by kernel_rfl) rfl
            · exact cv_fresh (met_some (j := 2) rfl rfl rfl (by kernel_rfl) rfl) (.inl rfl) (by kernel_rfl) rfl
            · exact cv_not (j := 3) (met_some (j := 2) rfl rfl rfl (by kernel_rfl) rfl) rfl rfl rfl (by kernel_rfl) rfl rfl
            · exact cv_pickR (j := 2) (j' := 4) (.inl rfl) rfl rfl rfl (by kernel_rfl) rfl rfl (by kernel_rfl) rfl rfl
            · exact cv_same (j := 5) (.inl rfl) (.inl rfl) rfl rfl (by kernel_rfl) rfl
            · exact cv_fresh (met_some (j := 6) rfl rfl rfl (by kernel_rfl) rfl) (.inl rfl) (by kernel_rfl) rfl
            · exact cv_fresh (met_some (j := 6) rfl rfl rfl (by kernel_rfl) rfl) (.inl rfl) (by kernel_rfl) rfl
            · exact cv_neq (j := 7) (j' := 8) (met_some (j := 6) rfl rfl rfl (by kernel_rfl) rfl) rfl rfl rfl (by kernel_rfl) rfl rfl (by kernel_rfl) rfl rfl (by simpa using HKX.out) rfl
            · exact cv_same (j := 9) (met_some (j := 6) rfl rfl rfl (by kernel_rfl) rfl) (.inl rfl) rfl rfl (by kernel_rfl) rfl
            · exact cv_fresh (met_some (j := 10) rfl rfl rfl (by kernel_rfl) rfl) (.inl rfl) (by kernel_rfl) rfl
            · exact cv_fresh (met_some (j := 10) rfl rfl rfl (by kernel_rfl) rfl) (.inl rfl) (by kernel_rfl) rfl
            · exact cv_neq (j := 11) (j' := 12) (met_some (j := 10) rfl rfl rfl (by kernel_rfl) rfl) rfl rfl rfl (by kernel_rfl) rfl rfl (by kernel_rfl) rfl rfl (by simp) rfl
            · exact cv_same (j := 13) (met_some (j := 10) rfl rfl rfl (by kernel_rfl) rfl) (.inl rfl) rfl rfl (by kernel_rfl) rfl
            · exact cv_loadM (met_some (j := 14) rfl rfl rfl (by kernel_rfl) rfl) rfl (by kernel_rfl) rfl HJ8.out rfl
            · exact cv_fresh (met_some (j := 14) rfl rfl rfl (by kernel_rfl) rfl) (.inl rfl) (by kernel_rfl) rfl
            · exact cv_leaf (j := 15) (j' := 16) (met_some (j := 14) rfl rfl rfl (by kernel_rfl) rfl) rfl rfl rfl (by kernel_rfl) rfl rfl (by kernel_rfl) HCX.out
            · exact cv_loadM (met_some (j := 14) rfl rfl rfl (by kernel_rfl) rfl) rfl (by kernel_rfl) rfl HJ3.out rfl
            · exact cv_fresh (met_some (j := 14) rfl rfl rfl (by kernel_rfl) rfl) (.inl rfl) (by kernel_rfl) rfl
            · exact cv_leaf (j := 18) (j' := 19) (met_some (j := 14) rfl rfl rfl (by kernel_rfl) rfl) rfl rfl rfl (by kernel_rfl) rfl rfl (by kernel_rfl) HCM.out
            · exact cv_neq (j := 17) (j' := 20) (met_some (j := 14) rfl rfl rfl (by kernel_rfl) rfl) rfl rfl rfl (by kernel_rfl) rfl rfl (by kernel_rfl) rfl rfl (by simp) rfl
            · exact cv_pickR (j := 14) (j' := 21) (met_some (j := 10) rfl rfl rfl (by kernel_rfl) rfl) rfl rfl rfl (by kernel_rfl) rfl rfl (by kernel_rfl) rfl rfl
            · exact cv_pickL (j := 10) (j' := 22) (met_some (j := 6) rfl rfl rfl (by kernel_rfl) rfl) rfl rfl rfl (by kernel_rfl) rfl rfl (by kernel_rfl) rfl rfl
            · exact cv_pickR (j := 6) (j' := 23) (.inl rfl) rfl rfl rfl (by kernel_rfl) rfl rfl (by kernel_rfl) rfl rfl
            · exact cv_same (j := 24) (.inl rfl) (.inl rfl) rfl rfl (by kernel_rfl) rfl
            · exact cv_fresh (met_some (j := 25) rfl rfl rfl (by kernel_rfl) rfl) (.inl rfl) (by kernel_rfl) rfl
            · exact cv_fresh (met_some (j := 25) rfl rfl rfl (by kernel_rfl) rfl) (.inl rfl) (by kernel_rfl) rfl
            · exact cv_eql (j := 26) (j' := 27) (met_some (j := 25) rfl rfl rfl (by kernel_rfl) rfl) rfl rfl rfl (by kernel_rfl) rfl rfl (by kernel_rfl) rfl rfl (by simpa using HKX.out) rfl
            · exact cv_same (j := 28) (met_some (j := 25) rfl rfl rfl (by kernel_rfl) rfl) (.inl rfl) rfl rfl (by kernel_rfl) rfl
            · exact cv_skip (j := 29) (b := true) rfl rfl rfl (by kernel_rfl) rfl rfl
            · exact cv_skip (j := 29) (b := true) rfl rfl rfl (by kernel_rfl) rfl rfl
            · exact cv_skipU (j := 31) rfl rfl rfl (by kernel_rfl) rfl rfl
            · exact cv_skipU (j := 31) rfl rfl rfl (by kernel_rfl) rfl rfl
            · exact cv_skipU (j := 31) rfl rfl rfl (by kernel_rfl) rfl rfl
            · exact cv_skip (j := 29) (b := true) rfl rfl rfl (by kernel_rfl) rfl rfl
            · exact cv_skip (j := 29) (b := true) rfl rfl rfl (by kernel_rfl) rfl rfl
            · exact cv_skipU (j := 36) rfl rfl rfl (by kernel_rfl) rfl rfl
            · exact cv_skipU (j := 36) rfl rfl rfl (by kernel_rfl) rfl rfl
            · exact cv_skipU (j := 36) rfl rfl rfl (by kernel_rfl) rfl rfl
            · exact cv_skipU (j := 39) rfl rfl rfl (by kernel_rfl) rfl rfl
            · exact cv_skipU (j := 39) rfl rfl rfl (by kernel_rfl) rfl rfl
            · exact cv_skipU (j := 39) rfl rfl rfl (by kernel_rfl) rfl rfl
            · exact cv_skipU (j := 36) rfl rfl rfl (by kernel_rfl) rfl rfl
            · exact cv_skip (j := 29) (b := true) rfl rfl rfl (by kernel_rfl) rfl rfl
            · exact cv_skip (j := 29) (b := true) rfl rfl rfl (by kernel_rfl) rfl rfl
            · exact cv_skipU (j := 45) rfl rfl rfl (by kernel_rfl) rfl rfl
            · exact cv_skipU (j := 45) rfl rfl rfl (by kernel_rfl) rfl rfl
            · exact cv_skipU (j := 45) rfl rfl rfl (by kernel_rfl) rfl rfl
            · exact cv_skipU (j := 45) rfl rfl rfl (by kernel_rfl) rfl rfl
            · exact cv_skipU (j := 45) rfl rfl rfl (by kernel_rfl) rfl rfl
            · exact cv_skip (j := 29) (b := true) rfl rfl rfl (by kernel_rfl) rfl rfl
            · exact cv_skip (j := 29) (b := true) rfl rfl rfl (by kernel_rfl) rfl rfl
            · exact cv_skipU (j := 52) rfl rfl rfl (by kernel_rfl) rfl rfl
            · exact cv_skipU (j := 52) rfl rfl rfl (by kernel_rfl) rfl rfl
            · exact cv_skipU (j := 52) rfl rfl rfl (by kernel_rfl) rfl rfl
            · exact cv_skip (j := 29) (b := true) rfl rfl rfl (by kernel_rfl) rfl rfl
            · exact cv_pickF (j := 29) (met_some (j := 25) rfl rfl rfl (by kernel_rfl) rfl) rfl rfl rfl (by kernel_rfl) rfl rfl
            · exact cv_pickR (j := 25) (j' := 57) (.inl rfl) rfl rfl rfl (by kernel_rfl) rfl rfl (by kernel_rfl) rfl rfl
            intro w8 hb8
            have HB8 := Lib.hid hb8
            clear hb8
            simp only [putL, List.foldl_cons, List.foldl_nil]
            go_simp
            go_wp2_with fail
            go_roundg (8 - (k + 1))
            case rel => exact ⟨k + 1, HLT.out, Nat.le_refl _, by go_num, HB8.out⟩
            case measure => have := HLT.out; omega
        · obtain rfl : k = 8 := by omega
          have k_56 := X_54.out.cell (i := 0) rfl
          have k_57 := X_54.out.cell (i := 1) rfl
          go_wp2_with fail
          refine (impl_MemoryValid _ 7 _ _ _ MX_55.out HSX0.out).mono ?_
          rw [validB_iff.2 HVX0.out]
          rintro e w6 ⟨rfl, hb⟩
          go_wp2
          go_ret
          exact ⟨rfl, B_51.out.trans ((hB.out.trans (hb.mono hB.out.size)).mono B_51.out.size)⟩
theorem walk_FnMemoryUse (w : World) (v : Value) (bs : List Int) (h : View w 1 v bs.length (bs.map (Value.int .u8)) ∧ ∀ b ∈ bs, 0 ≤ b ∧ b ≤ 255) (hR : Resv w) :
    Calls Tryd.prog 5 #[v] w fun e w' => e = .returned (.bool true) ∧ Below w.heap.size w w' := walk0_FnMemoryUse w v bs h hR
end Go.Proofs.YtbnplohlfiefhaaDoor
