/- the walk of FnMemorySame -/
import Derived.Test.YtbnplohlfiefhaaDoorRunDraw
import Derived.Test.YtbnplohlfiefhaaDoorRunV
import Derived.Test.YtbnplohlfiefhaaDoorRunQ
import Derived.Test.YtbnplohlfiefhaaDoorSameP
import Derived.Test.YtbnplohlfiefhaaDoorRegE
import Derived.Test.YtbnplohlfiefhaaDoorName
import Derived.Deep.RegionLaw
namespace Go.Proofs.YtbnplohlfiefhaaDoor
open Go.RowKit
set_option maxRecDepth 20000 in
set_option maxHeartbeats 2000000 in
theorem walk0_FnMemorySame (w : World) (v : Value) (bs : List Int) (h : Bts w v bs) (hR : Resv w) :
    Calls Tryd.prog 8 #[v] w fun e w' => LawOk w e w' := by
  obtain ⟨ad, cd, hv, hm⟩ := bts_lit h
  have H := Lib.hid h
  have HR := Lib.hid hR
  clear h hR
  subst hv
  by_cases hbig : 1048576 < bs.length
  · go_enter Tryd.func8, Tryd.ntmps8
    go_wp2
    go_ret
    exact ⟨rfl, Below.refl _ _⟩
  · go_enter Tryd.func8, Tryd.ntmps8
    have B0 : Hid (Below w.heap.size w w) := Lib.hid (Below.refl _ _)
    go_wp2_with fail
    refine (draw_MemoryRun _ bs w H.out).mono ?_
    rintro e w_1 ⟨a, c, a', c', n, f, st, u, us, rfl, hmi, hus, hul, hn, hs, hb⟩
    obtain ⟨au, cu, rfl, -, -⟩ := hus.open
    have HUL := Lib.hid hul
    have HS := Lib.hid hs
    obtain ⟨m, hm0⟩ : ∃ m, st.length = m := ⟨_, rfl⟩
    obtain ⟨nu, hnu⟩ : ∃ nu, us.length = nu := ⟨_, rfl⟩
    rw [hm0] at hmi ⊢
    rw [hnu] at hus ⊢
    have HNU := Lib.hid hnu
    have hnl : nu ≤ 41 := by omega
    clear hul hn hs hm0 hnu H
    have hx : Below w_1.heap.size w_1 (w_1.alloc (.cells #[.slice a n c, .slice a' m c'] 29)) := (Below.refl _ _).alloc (Nat.le_refl _) _
    have hbb := hb.trans (hx.mono hb.size)
    have B_2 := nxt B0 hbb
    have M_3 := Lib.hid (hmi.mono hx (Nat.le_refl _))
    have U_4 := Lib.hid (hus.mono hx (Nat.le_refl _))
    have ROW_5 : Hid (Row (w_1.alloc (.cells #[.slice a n c, .slice a' m c'] 29)) w_1.heap.size 29 [.slice a n c, .slice a' m c']) := Row.new w_1 29 [.slice a n c, .slice a' m c']
    obtain ⟨g_6, hg⟩ : ∃ g, w_1.heap.size = g := ⟨_, rfl⟩
    rw [hg] at ROW_5
    clear hx hb hbb hmi hus B0 
    go_wp2_with fail
    try rw [hg]
    generalize (w_1.alloc (.cells #[.slice a n c, .slice a' m c'] 29)) = W_7 at M_3 U_4 ROW_5 B_2  ⊢
    clear hg
    obtain ⟨r, hr⟩ : ∃ r, runL n f st us = r := ⟨_, rfl⟩
    have HRR := Lib.hid hr
    clear hr
    cases r with
    | none =>
      refine (impl_RunV M_3.out HS.out U_4.out (by have := HUL.out; omega)).mono ?_
      rw [HRR.out]
      rintro e w_8 ⟨a1, c1, a2, c2, rfl, hb⟩
      have hx : Below w_8.heap.size w_8 (w_8.alloc (.cells #[.slice none 0 0, .slice none 0 0] 29)) := (Below.refl _ _).alloc (Nat.le_refl _) _
      have hbb := hb.trans (hx.mono hb.size)
      have M_9 := Lib.hid (M_3.out.mono hbb (Nat.le_refl _))
      have U_10 := Lib.hid (U_4.out.mono hbb (Nat.le_refl _))
      have ROW_11 := Lib.hid (ROW_5.out.mono hbb ROW_5.out.lt)
      have B_12 := nxt B_2 hbb
      have X_13 : Hid (Row (w_8.alloc (.cells #[.slice none 0 0, .slice none 0 0] 29)) w_8.heap.size 29 [.slice none 0 0, .slice none 0 0]) := Row.new w_8 29 [.slice none 0 0, .slice none 0 0]
      obtain ⟨g_14, hg⟩ : ∃ g, w_8.heap.size = g := ⟨_, rfl⟩
      rw [hg] at X_13
      clear hx hb hbb  M_3 U_4 ROW_5 B_2 
      have k_15 := ROW_11.out.cell (i := 0) rfl
      have k_16 := ROW_11.out.cell (i := 1) rfl
      go_wp2_with fail
      try rw [hg]
      generalize (w_8.alloc (.cells #[.slice none 0 0, .slice none 0 0] 29)) = W_17 at M_9 U_10 ROW_11 X_13 B_12 k_15 k_16 ⊢
      clear hg k_15 k_16
      refine (spec_RunV M_9.out HS.out U_10.out (by have := HUL.out; omega)).mono ?_
      rw [HRR.out]
      rintro e w_18 ⟨a3, c3, a4, c4, rfl, hb⟩
      have hx : Below w_18.heap.size w_18 (w_18.alloc (.cells #[.slice none 0 0, .slice none 0 0] 29)) := (Below.refl _ _).alloc (Nat.le_refl _) _
      have hbb := hb.trans (hx.mono hb.size)
      have M_19 := Lib.hid (M_9.out.mono hbb (Nat.le_refl _))
      have U_20 := Lib.hid (U_10.out.mono hbb (Nat.le_refl _))
      have ROW_21 := Lib.hid (ROW_11.out.mono hbb ROW_11.out.lt)
      have X_22 := Lib.hid (X_13.out.mono hbb X_13.out.lt)
      have B_23 := nxt B_12 hbb
      have Y_24 : Hid (Row (w_18.alloc (.cells #[.slice none 0 0, .slice none 0 0] 29)) w_18.heap.size 29 [.slice none 0 0, .slice none 0 0]) := Row.new w_18 29 [.slice none 0 0, .slice none 0 0]
      obtain ⟨g_25, hg⟩ : ∃ g, w_18.heap.size = g := ⟨_, rfl⟩
      rw [hg] at Y_24
      clear hx hb hbb  M_9 U_10 ROW_11 X_13 B_12 
      have k_26 := X_22.out.cell (i := 0) rfl
      have k_27 := X_22.out.cell (i := 1) rfl
      go_wp2_with fail
      try rw [hg]
      generalize (w_18.alloc (.cells #[.slice none 0 0, .slice none 0 0] 29)) = W_28 at M_19 U_20 ROW_21 X_22 Y_24 B_23 k_26 k_27 ⊢
      clear hg k_26 k_27
      refine (sameMemory_same _ _ 0 (fun _ => []) [] _ (mem_none _ _ _ _ _) (mem_none _ _ _ _ _) (by omega)).mono ?_
      rintro e w_29 ⟨rfl, hb⟩
      have M_30 := Lib.hid (M_19.out.mono hb (Nat.le_refl _))
      have U_31 := Lib.hid (U_20.out.mono hb (Nat.le_refl _))
      have ROW_32 := Lib.hid (ROW_21.out.mono hb ROW_21.out.lt)
      have X_33 := Lib.hid (X_22.out.mono hb X_22.out.lt)
      have Y_34 := Lib.hid (Y_24.out.mono hb Y_24.out.lt)
      have B_35 := nxt B_23 hb
      clear hb  M_19 U_20 ROW_21 X_22 Y_24 B_23 
      go_wp2_with fail
      refine (sameInts_same _ _ [] _ (ints_none _ _ _) (ints_none _ _ _)).mono ?_
      rintro e w_36 ⟨rfl, hb⟩
      have M_37 := Lib.hid (M_30.out.mono hb (Nat.le_refl _))
      have U_38 := Lib.hid (U_31.out.mono hb (Nat.le_refl _))
      have ROW_39 := Lib.hid (ROW_32.out.mono hb ROW_32.out.lt)
      have X_40 := Lib.hid (X_33.out.mono hb X_33.out.lt)
      have Y_41 := Lib.hid (Y_34.out.mono hb Y_34.out.lt)
      have B_42 := nxt B_35 hb
      clear hb  M_30 U_31 ROW_32 X_33 Y_34 B_35 
      have HRA := Lib.hid (HR.out.mono B_42.out (Nat.le_refl _))
      go_wp2_with (go_at_call 13; refine (alive_any _ HRA.out).mono ?_; rintro e w' ⟨rfl, rfl⟩)
      go_ret
      exact ⟨rfl, B_42.out⟩
    | some r =>
      obtain ⟨h7, hro⟩ := run_some HRR.out
      subst h7
      obtain ⟨X, vals, ways⟩ := r
      have HRO : Hid (RunOk X) := hro
      obtain ⟨s, hs⟩ : ∃ s, (X 0).length = s := ⟨_, rfl⟩
      have HSX := Lib.hid hs
      clear hro hs
      refine (impl_RunV M_3.out HS.out U_4.out (by have := HUL.out; omega)).mono ?_
      rw [HRR.out]
      rintro e w_8 ⟨gb, cb, a3, c3, a1, c1, a2, c2, rfl, hx1, hx2, hx3, hb⟩
      clear hx2
      have hsx := HSX.out
      simp only at hsx hx1 hx3 ⊢
      rw [hsx] at hx1 ⊢
      clear hsx
      have hx : Below w_8.heap.size w_8 (w_8.alloc (.cells #[.slice (some ⟨gb, 0, none⟩) 7 cb, .slice a3 s c3] 29)) := (Below.refl _ _).alloc (Nat.le_refl _) _
      have hbb := hb.trans (hx.mono hb.size)
      have M_9 := Lib.hid (M_3.out.mono hbb (Nat.le_refl _))
      have U_10 := Lib.hid (U_4.out.mono hbb (Nat.le_refl _))
      have ROW_11 := Lib.hid (ROW_5.out.mono hbb ROW_5.out.lt)
      have B_12 := nxt B_2 hbb
      have MX_13 := Lib.hid (hx1.mono hx (Nat.le_refl _))
      have NX_14 := Lib.hid (hx3.mono hx (Nat.le_refl _))
      have X_15 : Hid (Row (w_8.alloc (.cells #[.slice (some ⟨gb, 0, none⟩) 7 cb, .slice a3 s c3] 29)) w_8.heap.size 29 [.slice (some ⟨gb, 0, none⟩) 7 cb, .slice a3 s c3]) := Row.new w_8 29 [.slice (some ⟨gb, 0, none⟩) 7 cb, .slice a3 s c3]
      obtain ⟨g_16, hg⟩ : ∃ g, w_8.heap.size = g := ⟨_, rfl⟩
      rw [hg] at X_15
      clear hx hb hbb hx1 hx3 M_3 U_4 ROW_5 B_2 
      have k_17 := ROW_11.out.cell (i := 0) rfl
      have k_18 := ROW_11.out.cell (i := 1) rfl
      go_wp2_with fail
      try rw [hg]
      generalize (w_8.alloc (.cells #[.slice (some ⟨gb, 0, none⟩) 7 cb, .slice a3 s c3] 29)) = W_19 at M_9 U_10 ROW_11 MX_13 NX_14 X_15 B_12 k_17 k_18 ⊢
      clear hg k_17 k_18
      refine (spec_RunV M_9.out HS.out U_10.out (by have := HUL.out; omega)).mono ?_
      rw [HRR.out]
      rintro e w_20 ⟨gb2, cb2, a4, c4, a5, c5, a6, c6, rfl, hy1, hy2, hy3, hb⟩
      clear hy2
      have hsx := HSX.out
      simp only at hsx hy1 hy3 ⊢
      rw [hsx] at hy1 ⊢
      clear hsx
      have hx : Below w_20.heap.size w_20 (w_20.alloc (.cells #[.slice (some ⟨gb2, 0, none⟩) 7 cb2, .slice a4 s c4] 29)) := (Below.refl _ _).alloc (Nat.le_refl _) _
      have hbb := hb.trans (hx.mono hb.size)
      have M_21 := Lib.hid (M_9.out.mono hbb (Nat.le_refl _))
      have U_22 := Lib.hid (U_10.out.mono hbb (Nat.le_refl _))
      have ROW_23 := Lib.hid (ROW_11.out.mono hbb ROW_11.out.lt)
      have MX_24 := Lib.hid (MX_13.out.mono hbb (Nat.le_refl _))
      have NX_25 := Lib.hid (NX_14.out.mono hbb (Nat.le_refl _))
      have X_26 := Lib.hid (X_15.out.mono hbb X_15.out.lt)
      have B_27 := nxt B_12 hbb
      have MY_28 := Lib.hid (hy1.mono hx (Nat.le_refl _))
      have NY_29 := Lib.hid (hy3.mono hx (Nat.le_refl _))
      have Y_30 : Hid (Row (w_20.alloc (.cells #[.slice (some ⟨gb2, 0, none⟩) 7 cb2, .slice a4 s c4] 29)) w_20.heap.size 29 [.slice (some ⟨gb2, 0, none⟩) 7 cb2, .slice a4 s c4]) := Row.new w_20 29 [.slice (some ⟨gb2, 0, none⟩) 7 cb2, .slice a4 s c4]
      obtain ⟨g_31, hg⟩ : ∃ g, w_20.heap.size = g := ⟨_, rfl⟩
      rw [hg] at Y_30
      clear hx hb hbb hy1 hy3 M_9 U_10 ROW_11 MX_13 NX_14 X_15 B_12 
      have k_32 := X_26.out.cell (i := 0) rfl
      have k_33 := X_26.out.cell (i := 1) rfl
      go_wp2_with fail
      try rw [hg]
      generalize (w_20.alloc (.cells #[.slice (some ⟨gb2, 0, none⟩) 7 cb2, .slice a4 s c4] 29)) = W_34 at M_21 U_22 ROW_23 MX_24 NX_25 X_26 MY_28 NY_29 Y_30 B_27 k_32 k_33 ⊢
      clear hg k_32 k_33
      refine (sameMemory_same _ _ 7 (fun i => X (i + 2)) (X 0) _ MX_24.out MY_28.out (by omega)).mono ?_
      rintro e w_35 ⟨rfl, hb⟩
      have M_36 := Lib.hid (M_21.out.mono hb (Nat.le_refl _))
      have U_37 := Lib.hid (U_22.out.mono hb (Nat.le_refl _))
      have ROW_38 := Lib.hid (ROW_23.out.mono hb ROW_23.out.lt)
      have MX_39 := Lib.hid (MX_24.out.mono hb (Nat.le_refl _))
      have NX_40 := Lib.hid (NX_25.out.mono hb (Nat.le_refl _))
      have X_41 := Lib.hid (X_26.out.mono hb X_26.out.lt)
      have MY_42 := Lib.hid (MY_28.out.mono hb (Nat.le_refl _))
      have NY_43 := Lib.hid (NY_29.out.mono hb (Nat.le_refl _))
      have Y_44 := Lib.hid (Y_30.out.mono hb Y_30.out.lt)
      have B_45 := nxt B_27 hb
      clear hb  M_21 U_22 ROW_23 MX_24 NX_25 X_26 MY_28 NY_29 Y_30 B_27 
      go_wp2_with fail
      refine (sameInts_same _ _ ways _ NX_40.out NY_43.out).mono ?_
      rintro e w_46 ⟨rfl, hb⟩
      have M_47 := Lib.hid (M_36.out.mono hb (Nat.le_refl _))
      have U_48 := Lib.hid (U_37.out.mono hb (Nat.le_refl _))
      have ROW_49 := Lib.hid (ROW_38.out.mono hb ROW_38.out.lt)
      have MX_50 := Lib.hid (MX_39.out.mono hb (Nat.le_refl _))
      have NX_51 := Lib.hid (NX_40.out.mono hb (Nat.le_refl _))
      have X_52 := Lib.hid (X_41.out.mono hb X_41.out.lt)
      have MY_53 := Lib.hid (MY_42.out.mono hb (Nat.le_refl _))
      have NY_54 := Lib.hid (NY_43.out.mono hb (Nat.le_refl _))
      have Y_55 := Lib.hid (Y_44.out.mono hb Y_44.out.lt)
      have B_56 := nxt B_45 hb
      clear hb  M_36 U_37 ROW_38 MX_39 NX_40 X_41 MY_42 NY_43 Y_44 B_45 
      clear Y_55
      clear MY_53
      clear NY_54
      obtain ⟨X', vs', hz1, hz2, hz3⟩ := run_reads HRR.out
      have HZ1 := Lib.hid hz1
      have HZ2 := Lib.hid hz2
      have HZ3 := Lib.hid hz3
      clear hz1 hz2 hz3
      go_wp2
      go_loopg [13, 14] nu (fun gg u i wr => ∃ k : Nat, k ≤ nu ∧ nu - k ≤ gg ∧ i = .int .i64 k ∧ Hid (Gr wr w_46.heap.size 50 4 u k (useCs ((us.take k).map readU))) ∧ Hid (Below w_46.heap.size w_46 wr))
      case atStart => exact ⟨0, by omega, by omega, rfl, Gr.none0 _ _ _ _ _, (Below.refl _ _).alloc (Nat.le_refl _) _⟩
      case round =>
        obtain ⟨k, hk, hgg, rfl, hG, hB⟩ := hrel
        obtain ⟨ao, co, hlit⟩ := hG.out.lit
        subst hlit
        by_cases hlt : k < nu
        · have HLT := Lib.hid hlt
          obtain ⟨bu, ou, rfl, d0, d1, d2, d3⟩ := (U_48.out.mono hB.out (Nat.le_refl _)).cells HNU.out hlt
          obtain ⟨x1, hx1⟩ : ∃ x, (uat us k).1 = x := ⟨_, rfl⟩
          obtain ⟨x2, hx2⟩ : ∃ x, (uat us k).2.2.2 = x := ⟨_, rfl⟩
          have HU1 : Hid (readU (uat us k) = (x1, false, 0, x2)) := by unfold Hid readU; rw [hx1, hx2]
          rw [hx1] at d0
          rw [hx2] at d3
          clear d1 d2 hx1 hx2
          have hsz : w_46.heap.size ≤ wr.heap.size := hB.out.size
          have hG' : Hid (Gr (wr.alloc (.cells #[.int .i64 x1, .bool false, .int .i64 0, .int .i64 x2] 50)).drew w_46.heap.size 50 4 (.slice ao k co) k (useCs ((us.take k).map readU))) := (hG.out.alloc _).mono (Below.refl _ _).drew (Nat.le_refl _)
          go_wp2_with fail
          go_region_law (first
            | (refine step_app _ rfl (.tmp 69) (.tmp 81) 44 rfl w_46.heap.size 50 (.agg #[.int .i64 0, .bool false, .int .i64 0, .int .i64 0]) 4 32 Tryd.underlying44 Tryd.infoUse rfl (by omega) (.slice ao k co) k (useCs ((us.take k).map readU)) rfl hG'.out _ 1 (useCs [(x1, false, 0, x2)]) rfl ((view_use wr (x1, false, 0, x2)).mono (Below.refl _ _).drew (Nat.le_refl _)) (one_useCs _) (by unfold maxLen; omega) (by omega) (by simp; omega) ?_
               intro v1 w7 g1 r1 k1
               have G1 : Hid (Gr w7 w_46.heap.size 50 4 v1 (k + 1) (useCs ((us.take (k + 1)).map readU))) := by unfold Hid; rw [← useCs_append] at g1; rw [take_uat (by have := HNU.out; omega), List.map_append]; rw [← HU1.out] at g1; exact g1
               have B1 : Hid (Below w_46.heap.size w_46 w7) := ((hB.out.alloc hB.out.size _).drew).grown r1 (by simp; have := hB.out.size; omega) (fun g hg => (hG.out.lt g hg).1)
               clear g1 r1 k1))
          all_goals
            go_wp2
            go_roundg (nu - (k + 1))
            case rel => exact ⟨k + 1, HLT.out, Nat.le_refl _, by go_num, G1.out, B1.out⟩
            case measure => have := HLT.out; omega
        · obtain rfl : k = nu := by omega
          have HGU : Hid (Uses wr (.slice ao k co) (us.map readU)) := by have := hG.out; rw [List.take_of_length_le (by rw [HNU.out]; exact Nat.le_refl _)] at this; exact gr_uses this (by rw [List.length_map]; exact HNU.out)
          have ROW_57 := Lib.hid (ROW_49.out.mono hB.out ROW_49.out.lt)
          have M_58 := Lib.hid (M_47.out.mono hB.out (Nat.le_refl _))
          have X_59 := Lib.hid (X_52.out.mono hB.out X_52.out.lt)
          have MX_60 := Lib.hid (MX_50.out.mono hB.out (Nat.le_refl _))
          have NX_61 := Lib.hid (NX_51.out.mono hB.out (Nat.le_refl _))
          have BV : Hid (Below w.heap.size w wr) := B_56.out.trans (hB.out.mono B_56.out.size)
          clear hG hB hlt hk hgg
          have k_62 := ROW_57.out.cell (i := 0) rfl
          have k_63 := ROW_57.out.cell (i := 1) rfl
          go_wp2_with fail
          clear k_62 k_63
          obtain ⟨s', hs'⟩ : ∃ s, (X' 0).length = s := ⟨_, rfl⟩
          have HSX' := Lib.hid hs'
          clear hs'
          refine (impl_RunV M_58.out HS.out HGU.out (by rw [List.length_map]; have := HUL.out; omega)).mono ?_
          rw [HZ1.out]
          rintro e w_64 ⟨gb5, cb5, a7, c7, a8, c8, a9, c9, rfl, hz1, hz2, hz3, hb⟩
          clear hz2
          have hsx := HSX'.out
          simp only at hsx hz1 hz3 ⊢
          rw [hsx] at hz1 ⊢
          clear hsx
          have hx : Below w_64.heap.size w_64 (w_64.alloc (.cells #[.slice (some ⟨gb5, 0, none⟩) 7 cb5, .slice a7 s' c7] 29)) := (Below.refl _ _).alloc (Nat.le_refl _) _
          have hbb := hb.trans (hx.mono hb.size)
          have ROW_65 := Lib.hid (ROW_57.out.mono hbb ROW_57.out.lt)
          have M_66 := Lib.hid (M_58.out.mono hbb (Nat.le_refl _))
          have X_67 := Lib.hid (X_59.out.mono hbb X_59.out.lt)
          have MX_68 := Lib.hid (MX_60.out.mono hbb (Nat.le_refl _))
          have NX_69 := Lib.hid (NX_61.out.mono hbb (Nat.le_refl _))
          have B_70 := nxt BV hbb
          have MZ_71 := Lib.hid (hz1.mono hx (Nat.le_refl _))
          have NZ_72 := Lib.hid (hz3.mono hx (Nat.le_refl _))
          have Z_73 : Hid (Row (w_64.alloc (.cells #[.slice (some ⟨gb5, 0, none⟩) 7 cb5, .slice a7 s' c7] 29)) w_64.heap.size 29 [.slice (some ⟨gb5, 0, none⟩) 7 cb5, .slice a7 s' c7]) := Row.new w_64 29 [.slice (some ⟨gb5, 0, none⟩) 7 cb5, .slice a7 s' c7]
          obtain ⟨g_74, hg⟩ : ∃ g, w_64.heap.size = g := ⟨_, rfl⟩
          rw [hg] at Z_73
          clear hx hb hbb hz1 hz3 ROW_57 M_58 X_59 MX_60 NX_61 BV 
          go_wp2_with fail
          try rw [hg]
          generalize (w_64.alloc (.cells #[.slice (some ⟨gb5, 0, none⟩) 7 cb5, .slice a7 s' c7] 29)) = W_75 at ROW_65 M_66 X_67 MX_68 NX_69 MZ_71 NZ_72 Z_73 B_70  ⊢
          clear hg
          clear ROW_65
          clear M_66
          go_loopg [19] 8 (fun gg i wr => ∃ k : Nat, k ≤ 8 ∧ 8 - k ≤ gg ∧ i = .int .i64 k ∧ Hid (Below W_75.heap.size W_75 wr))
          case atStart => exact ⟨0, by omega, Nat.le_refl _, rfl, Below.refl _ _⟩
          case round =>
            obtain ⟨j, hj, hgg, rfl, hB⟩ := hrel
            by_cases hlt : j < 8
            · have HLT := Lib.hid hlt
              obtain ⟨lx, hlx⟩ : ∃ lx, leafV 7 (fun i => X (i + 2)) (X 0) (j : Int) = lx := ⟨_, rfl⟩
              have hlz : leafV 7 (fun i => X' (i + 2)) (X' 0) (j : Int) = lx := by have := HZ3.out (j : Int); rw [this]; exact hlx
              have HLX := Lib.hid hlx
              have HLZ := Lib.hid hlz
              clear hlx hlz
              have HJX : Hid (∀ w', Below W_75.heap.size W_75 w' → w'.cell? ⟨g_16, 0, none⟩ = some (.slice (some ⟨gb, 0, none⟩) 7 cb) ∧ w'.cell? ⟨g_16, 1, none⟩ = some (.slice a3 s c3)) := fun w' hb => ⟨(X_67.out.mono hb X_67.out.lt).cell (i := 0) rfl, (X_67.out.mono hb X_67.out.lt).cell (i := 1) rfl⟩
              have HJZ : Hid (∀ w', Below W_75.heap.size W_75 w' → w'.cell? ⟨g_74, 0, none⟩ = some (.slice (some ⟨gb5, 0, none⟩) 7 cb5) ∧ w'.cell? ⟨g_74, 1, none⟩ = some (.slice a7 s' c7)) := fun w' hb => ⟨(Z_73.out.mono hb Z_73.out.lt).cell (i := 0) rfl, (Z_73.out.mono hb Z_73.out.lt).cell (i := 1) rfl⟩
              have HCX : Hid (∀ w', Below W_75.heap.size W_75 w' → Calls Tryd.prog 15 #[.agg #[.slice (some ⟨gb, 0, none⟩) 7 cb, .slice a3 s c3], .int .i64 (j : Int)] w' fun e w'' => e = .returned (.int .i64 lx) ∧ Below W_75.heap.size W_75 w'') := fun w' hb => (impl_LeafOf _ 7 _ _ _ w' (MX_68.out.mono hb (Nat.le_refl _)) (small_valid HRO.out.valid)).mono fun e w8 ⟨he, hb8⟩ => ⟨by rw [he, HLX.out], hb.trans (hb8.mono hb.size)⟩
              have HCZ : Hid (∀ w', Below W_75.heap.size W_75 w' → Calls Tryd.prog 15 #[.agg #[.slice (some ⟨gb5, 0, none⟩) 7 cb5, .slice a7 s' c7], .int .i64 (j : Int)] w' fun e w'' => e = .returned (.int .i64 lx) ∧ Below W_75.heap.size W_75 w'') := fun w' hb => (impl_LeafOf _ 7 _ _ _ w' (MZ_71.out.mono hb (Nat.le_refl _)) (small_valid HZ2.out.valid)).mono fun e w8 ⟨he, hb8⟩ => ⟨by rw [he, HLZ.out], hb.trans (hb8.mono hb.size)⟩
              go_wp2_with fail
              refine region_const (l := [(95, .agg #[.slice (some ⟨gb5, 0, none⟩) 7 cb5, .slice a7 s' c7]), (96, .int .i64 (j : Int)), (97, .int .i64 lx), (98, .agg #[.slice (some ⟨gb, 0, none⟩) 7 cb, .slice a3 s c3]), (99, .int .i64 (j : Int)), (100, .int .i64 lx), (101, .bool false)]) (J := fun w' => Below W_75.heap.size W_75 w') 108 rfl hB.out.drew (by kernel_rfl) (by kernel_rfl) (by kernel_rfl) rfl (by kernel_rfl) ⟨?_, ?_, ?_, ?_, ?_, ?_, ?_, trivial⟩ ?_
              · exact cv_loadM (.inl rfl) rfl (by kernel_rfl) rfl HJZ.out rfl
              · exact cv_fresh (.inl rfl) (.inl rfl) (by kernel_rfl) rfl
              · exact cv_leaf (j := 0) (j' := 1) (.inl rfl) rfl rfl rfl (by kernel_rfl) rfl rfl (by kernel_rfl) HCZ.out
              · exact cv_loadM (.inl rfl) rfl (by kernel_rfl) rfl HJX.out rfl
              · exact cv_fresh (.inl rfl) (.inl rfl) (by kernel_rfl) rfl
              · exact cv_leaf (j := 3) (j' := 4) (.inl rfl) rfl rfl rfl (by kernel_rfl) rfl rfl (by kernel_rfl) HCX.out
              · exact cv_neq (j := 2) (j' := 5) (.inl rfl) rfl rfl rfl (by kernel_rfl) rfl rfl (by kernel_rfl) rfl rfl (by simp) rfl
              intro w8 hb8
              have HB8 := Lib.hid hb8
              clear hb8
              simp only [putL, List.foldl_cons, List.foldl_nil]
              go_simp
              go_wp2_with fail
              go_roundg (8 - (j + 1))
              case rel => exact ⟨j + 1, HLT.out, Nat.le_refl _, by go_num, HB8.out⟩
              case measure => have := HLT.out; omega
            · obtain rfl : j = 8 := by omega
              go_wp2_with fail
              refine (sameInts_same _ _ ways _ (NZ_72.out.mono hB.out (Nat.le_refl _)) (NX_69.out.mono hB.out (Nat.le_refl _))).mono ?_
              rintro e w9 ⟨rfl, hb⟩
              go_wp2
              go_ret
              exact ⟨rfl, B_70.out.trans ((hB.out.trans (hb.mono hB.out.size)).mono B_70.out.size)⟩
theorem walk_FnMemorySame (w : World) (v : Value) (bs : List Int) (h : View w 1 v bs.length (bs.map (Value.int .u8)) ∧ ∀ b ∈ bs, 0 ≤ b ∧ b ≤ 255) (hR : Resv w) :
    Calls Tryd.prog 8 #[v] w fun e w' => e = .returned (.bool true) ∧ Below w.heap.size w w' := walk0_FnMemorySame w v bs h hR
end Go.Proofs.YtbnplohlfiefhaaDoor
