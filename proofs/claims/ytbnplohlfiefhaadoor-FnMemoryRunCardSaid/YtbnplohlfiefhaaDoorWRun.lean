/- the walk of FnMemoryRun -/
import Derived.Test.YtbnplohlfiefhaaDoorRunDraw
import Derived.Test.YtbnplohlfiefhaaDoorRunV
import Derived.Test.YtbnplohlfiefhaaDoorRunQ
import Derived.Test.YtbnplohlfiefhaaDoorName
import Derived.Deep.RegionHeld3
namespace Go.Proofs.YtbnplohlfiefhaaDoor
open Go.RowKit
set_option maxRecDepth 20000 in
set_option maxHeartbeats 2000000 in
theorem walk0_FnMemoryRun (w : World) (v : Value) (bs : List Int) (h : Bts w v bs) (hR : Resv w) :
    Calls Tryd.prog 6 #[v] w fun e w' => LawOk w e w' := by
  obtain ⟨ad, cd, hv, hm⟩ := bts_lit h
  have H := Lib.hid h
  have HR := Lib.hid hR
  clear h hR
  subst hv
  by_cases hbig : 1048576 < bs.length
  · go_enter Tryd.func6, Tryd.ntmps6
    go_wp2
    go_ret
    exact ⟨rfl, Below.refl _ _⟩
  · go_enter Tryd.func6, Tryd.ntmps6
    have B0 : Hid (Below w.heap.size w w) := Lib.hid (Below.refl _ _)
    go_wp2_with fail
    refine (draw_MemoryRun _ bs w H.out).mono ?_
    rintro e w_1 ⟨a, c, a', c', n, f, st, u, us, rfl, hmi, hus, hul, hn, hs, hb⟩
    obtain ⟨au, cu, rfl, -, -⟩ := hus.open
    have HUL := Lib.hid hul
    have HS := Lib.hid hs
    obtain ⟨m, hm0⟩ : ∃ m, st.length = m := ⟨_, rfl⟩
    obtain ⟨nu, hnu⟩ : ∃ nu, us.length = nu := ⟨_, rfl⟩
    rw [hm0] at hmi ⊢
    rw [hnu] at hus ⊢
    have HNU := Lib.hid hnu
    have hnl : nu ≤ 41 := by omega
    clear hul hn hs hm0 hnu H
    have hx : Below w_1.heap.size w_1 (w_1.alloc (.cells #[.slice a n c, .slice a' m c'] 29)) := (Below.refl _ _).alloc (Nat.le_refl _) _
    have hbb := hb.trans (hx.mono hb.size)
    have B_2 := nxt B0 hbb
    have M_3 := Lib.hid (hmi.mono hx (Nat.le_refl _))
    have U_4 := Lib.hid (hus.mono hx (Nat.le_refl _))
    have ROW_5 : Hid (Row (w_1.alloc (.cells #[.slice a n c, .slice a' m c'] 29)) w_1.heap.size 29 [.slice a n c, .slice a' m c']) := Row.new w_1 29 [.slice a n c, .slice a' m c']
    obtain ⟨g_6, hg⟩ : ∃ g, w_1.heap.size = g := ⟨_, rfl⟩
    rw [hg] at ROW_5
    clear hx hb hbb hmi hus B0 
    go_wp2_with fail
    try rw [hg]
    generalize (w_1.alloc (.cells #[.slice a n c, .slice a' m c'] 29)) = W_7 at M_3 U_4 ROW_5 B_2  ⊢
    clear hg
    obtain ⟨r, hr⟩ : ∃ r, runL n f st us = r := ⟨_, rfl⟩
    have HRR := Lib.hid hr
    clear hr
    cases r with
    | none =>
      refine (impl_RunV M_3.out HS.out U_4.out (by have := HUL.out; omega)).mono ?_
      rw [HRR.out]
      rintro e w_8 ⟨a1, c1, a2, c2, rfl, hb⟩
      have hx : Below w_8.heap.size w_8 (w_8.alloc (.cells #[.slice none 0 0, .slice none 0 0] 29)) := (Below.refl _ _).alloc (Nat.le_refl _) _
      have hbb := hb.trans (hx.mono hb.size)
      have M_9 := Lib.hid (M_3.out.mono hbb (Nat.le_refl _))
      have U_10 := Lib.hid (U_4.out.mono hbb (Nat.le_refl _))
      have ROW_11 := Lib.hid (ROW_5.out.mono hbb ROW_5.out.lt)
      have B_12 := nxt B_2 hbb
      have X_13 : Hid (Row (w_8.alloc (.cells #[.slice none 0 0, .slice none 0 0] 29)) w_8.heap.size 29 [.slice none 0 0, .slice none 0 0]) := Row.new w_8 29 [.slice none 0 0, .slice none 0 0]
      obtain ⟨g_14, hg⟩ : ∃ g, w_8.heap.size = g := ⟨_, rfl⟩
      rw [hg] at X_13
      clear hx hb hbb  M_3 U_4 ROW_5 B_2 
      have k_15 := ROW_11.out.cell (i := 0) rfl
      have k_16 := ROW_11.out.cell (i := 1) rfl
      go_wp2_with fail
      try rw [hg]
      generalize (w_8.alloc (.cells #[.slice none 0 0, .slice none 0 0] 29)) = W_17 at M_9 U_10 ROW_11 X_13 B_12 k_15 k_16 ⊢
      clear hg k_15 k_16
      refine (spec_RunV M_9.out HS.out U_10.out (by have := HUL.out; omega)).mono ?_
      rw [HRR.out]
      rintro e w_18 ⟨a3, c3, a4, c4, rfl, hb⟩
      have hx : Below w_18.heap.size w_18 (w_18.alloc (.cells #[.slice none 0 0, .slice none 0 0] 29)) := (Below.refl _ _).alloc (Nat.le_refl _) _
      have hbb := hb.trans (hx.mono hb.size)
      have M_19 := Lib.hid (M_9.out.mono hbb (Nat.le_refl _))
      have U_20 := Lib.hid (U_10.out.mono hbb (Nat.le_refl _))
      have ROW_21 := Lib.hid (ROW_11.out.mono hbb ROW_11.out.lt)
      have X_22 := Lib.hid (X_13.out.mono hbb X_13.out.lt)
      have B_23 := nxt B_12 hbb
      have Y_24 : Hid (Row (w_18.alloc (.cells #[.slice none 0 0, .slice none 0 0] 29)) w_18.heap.size 29 [.slice none 0 0, .slice none 0 0]) := Row.new w_18 29 [.slice none 0 0, .slice none 0 0]
      obtain ⟨g_25, hg⟩ : ∃ g, w_18.heap.size = g := ⟨_, rfl⟩
      rw [hg] at Y_24
      clear hx hb hbb  M_9 U_10 ROW_11 X_13 B_12 
      have k_26 := X_22.out.cell (i := 0) rfl
      have k_27 := X_22.out.cell (i := 1) rfl
      go_wp2_with fail
      try rw [hg]
      generalize (w_18.alloc (.cells #[.slice none 0 0, .slice none 0 0] 29)) = W_28 at M_19 U_20 ROW_21 X_22 Y_24 B_23 k_26 k_27 ⊢
      clear hg k_26 k_27
      refine (sameMemory_same _ _ 0 (fun _ => []) [] _ (mem_none _ _ _ _ _) (mem_none _ _ _ _ _) (by omega)).mono ?_
      rintro e w_29 ⟨rfl, hb⟩
      have M_30 := Lib.hid (M_19.out.mono hb (Nat.le_refl _))
      have U_31 := Lib.hid (U_20.out.mono hb (Nat.le_refl _))
      have ROW_32 := Lib.hid (ROW_21.out.mono hb ROW_21.out.lt)
      have X_33 := Lib.hid (X_22.out.mono hb X_22.out.lt)
      have Y_34 := Lib.hid (Y_24.out.mono hb Y_24.out.lt)
      have B_35 := nxt B_23 hb
      clear hb  M_19 U_20 ROW_21 X_22 Y_24 B_23 
      go_wp2_with fail
      refine (sameInts_same _ _ [] _ (ints_none _ _ _) (ints_none _ _ _)).mono ?_
      rintro e w_36 ⟨rfl, hb⟩
      have M_37 := Lib.hid (M_30.out.mono hb (Nat.le_refl _))
      have U_38 := Lib.hid (U_31.out.mono hb (Nat.le_refl _))
      have ROW_39 := Lib.hid (ROW_32.out.mono hb ROW_32.out.lt)
      have X_40 := Lib.hid (X_33.out.mono hb X_33.out.lt)
      have Y_41 := Lib.hid (Y_34.out.mono hb Y_34.out.lt)
      have B_42 := nxt B_35 hb
      clear hb  M_30 U_31 ROW_32 X_33 Y_34 B_35 
      go_wp2_with fail
      refine (sameInts_same _ _ [] _ (ints_none _ _ _) (ints_none _ _ _)).mono ?_
      rintro e w_43 ⟨rfl, hb⟩
      have M_44 := Lib.hid (M_37.out.mono hb (Nat.le_refl _))
      have U_45 := Lib.hid (U_38.out.mono hb (Nat.le_refl _))
      have ROW_46 := Lib.hid (ROW_39.out.mono hb ROW_39.out.lt)
      have X_47 := Lib.hid (X_40.out.mono hb X_40.out.lt)
      have Y_48 := Lib.hid (Y_41.out.mono hb Y_41.out.lt)
      have B_49 := nxt B_42 hb
      clear hb  M_37 U_38 ROW_39 X_40 Y_41 B_42 
      have HRA := Lib.hid (HR.out.mono B_49.out (Nat.le_refl _))
      go_wp2_with (go_at_call 13; refine (alive_any _ HRA.out).mono ?_; rintro e w' ⟨rfl, rfl⟩)
      go_ret
      exact ⟨rfl, B_49.out⟩
    | some r =>
      obtain ⟨h7, hul, -, -, hvl, -, hfa⟩ := run_facts HRR.out
      have HVL : Hid (r.2.1.length = nu) := by rw [← HNU.out]; exact hvl
      have HFA := Lib.hid hfa
      have hn40 : nu ≤ 40 := by have := HNU.out; omega
      clear h7 hvl hfa hul hnl
      obtain ⟨X1, v1, w1, v2, w2, hh1, hok1, hh2, hh3⟩ := run_halves HRR.out (nu / 2)
      have HH1 := Lib.hid hh1
      have HOK1 := Lib.hid hok1
      have HH2 := Lib.hid hh2
      have HH3 := Lib.hid hh3
      clear hh1 hok1 hh2 hh3
      obtain ⟨h7, hro⟩ := run_some HRR.out
      subst h7
      obtain ⟨X, vals, ways⟩ := r
      have HRO : Hid (RunOk X) := hro
      obtain ⟨s, hs⟩ : ∃ s, (X 0).length = s := ⟨_, rfl⟩
      have HSX := Lib.hid hs
      clear hro hs
      refine (impl_RunV M_3.out HS.out U_4.out (by have := HUL.out; omega)).mono ?_
      rw [HRR.out]
      rintro e w_8 ⟨gb, cb, a3, c3, a1, c1, a2, c2, rfl, hx1, hx2, hx3, hb⟩
      have hsx := HSX.out
      simp only at hsx hx1 hx2 hx3 ⊢
      rw [hsx] at hx1 ⊢
      clear hsx
      have hvl := HVL.out
      try simp only at hvl
      rw [hvl] at hx2 ⊢
      clear hvl
      have hx : Below w_8.heap.size w_8 (w_8.alloc (.cells #[.slice (some ⟨gb, 0, none⟩) 7 cb, .slice a3 s c3] 29)) := (Below.refl _ _).alloc (Nat.le_refl _) _
      have hbb := hb.trans (hx.mono hb.size)
      have M_9 := Lib.hid (M_3.out.mono hbb (Nat.le_refl _))
      have U_10 := Lib.hid (U_4.out.mono hbb (Nat.le_refl _))
      have ROW_11 := Lib.hid (ROW_5.out.mono hbb ROW_5.out.lt)
      have B_12 := nxt B_2 hbb
      have MX_13 := Lib.hid (hx1.mono hx (Nat.le_refl _))
      have VX_14 := Lib.hid (hx2.mono hx (Nat.le_refl _))
      have NX_15 := Lib.hid (hx3.mono hx (Nat.le_refl _))
      have X_16 : Hid (Row (w_8.alloc (.cells #[.slice (some ⟨gb, 0, none⟩) 7 cb, .slice a3 s c3] 29)) w_8.heap.size 29 [.slice (some ⟨gb, 0, none⟩) 7 cb, .slice a3 s c3]) := Row.new w_8 29 [.slice (some ⟨gb, 0, none⟩) 7 cb, .slice a3 s c3]
      obtain ⟨g_17, hg⟩ : ∃ g, w_8.heap.size = g := ⟨_, rfl⟩
      rw [hg] at X_16
      clear hx hb hbb hx1 hx2 hx3 M_3 U_4 ROW_5 B_2 
      have k_18 := ROW_11.out.cell (i := 0) rfl
      have k_19 := ROW_11.out.cell (i := 1) rfl
      go_wp2_with fail
      try rw [hg]
      generalize (w_8.alloc (.cells #[.slice (some ⟨gb, 0, none⟩) 7 cb, .slice a3 s c3] 29)) = W_20 at M_9 U_10 ROW_11 MX_13 VX_14 NX_15 X_16 B_12 k_18 k_19 ⊢
      clear hg k_18 k_19
      refine (spec_RunV M_9.out HS.out U_10.out (by have := HUL.out; omega)).mono ?_
      rw [HRR.out]
      rintro e w_21 ⟨gb2, cb2, a4, c4, a5, c5, a6, c6, rfl, hy1, hy2, hy3, hb⟩
      have hsx := HSX.out
      simp only at hsx hy1 hy2 hy3 ⊢
      rw [hsx] at hy1 ⊢
      clear hsx
      have hvl := HVL.out
      try simp only at hvl
      rw [hvl] at hy2 ⊢
      clear hvl
      have hx : Below w_21.heap.size w_21 (w_21.alloc (.cells #[.slice (some ⟨gb2, 0, none⟩) 7 cb2, .slice a4 s c4] 29)) := (Below.refl _ _).alloc (Nat.le_refl _) _
      have hbb := hb.trans (hx.mono hb.size)
      have M_22 := Lib.hid (M_9.out.mono hbb (Nat.le_refl _))
      have U_23 := Lib.hid (U_10.out.mono hbb (Nat.le_refl _))
      have ROW_24 := Lib.hid (ROW_11.out.mono hbb ROW_11.out.lt)
      have MX_25 := Lib.hid (MX_13.out.mono hbb (Nat.le_refl _))
      have VX_26 := Lib.hid (VX_14.out.mono hbb (Nat.le_refl _))
      have NX_27 := Lib.hid (NX_15.out.mono hbb (Nat.le_refl _))
      have X_28 := Lib.hid (X_16.out.mono hbb X_16.out.lt)
      have B_29 := nxt B_12 hbb
      have MY_30 := Lib.hid (hy1.mono hx (Nat.le_refl _))
      have VY_31 := Lib.hid (hy2.mono hx (Nat.le_refl _))
      have NY_32 := Lib.hid (hy3.mono hx (Nat.le_refl _))
      have Y_33 : Hid (Row (w_21.alloc (.cells #[.slice (some ⟨gb2, 0, none⟩) 7 cb2, .slice a4 s c4] 29)) w_21.heap.size 29 [.slice (some ⟨gb2, 0, none⟩) 7 cb2, .slice a4 s c4]) := Row.new w_21 29 [.slice (some ⟨gb2, 0, none⟩) 7 cb2, .slice a4 s c4]
      obtain ⟨g_34, hg⟩ : ∃ g, w_21.heap.size = g := ⟨_, rfl⟩
      rw [hg] at Y_33
      clear hx hb hbb hy1 hy2 hy3 M_9 U_10 ROW_11 MX_13 VX_14 NX_15 X_16 B_12 
      have k_35 := X_28.out.cell (i := 0) rfl
      have k_36 := X_28.out.cell (i := 1) rfl
      go_wp2_with fail
      try rw [hg]
      generalize (w_21.alloc (.cells #[.slice (some ⟨gb2, 0, none⟩) 7 cb2, .slice a4 s c4] 29)) = W_37 at M_22 U_23 ROW_24 MX_25 VX_26 NX_27 X_28 MY_30 VY_31 NY_32 Y_33 B_29 k_35 k_36 ⊢
      clear hg k_35 k_36
      refine (sameMemory_same _ _ 7 (fun i => X (i + 2)) (X 0) _ MX_25.out MY_30.out (by omega)).mono ?_
      rintro e w_38 ⟨rfl, hb⟩
      have M_39 := Lib.hid (M_22.out.mono hb (Nat.le_refl _))
      have U_40 := Lib.hid (U_23.out.mono hb (Nat.le_refl _))
      have ROW_41 := Lib.hid (ROW_24.out.mono hb ROW_24.out.lt)
      have MX_42 := Lib.hid (MX_25.out.mono hb (Nat.le_refl _))
      have VX_43 := Lib.hid (VX_26.out.mono hb (Nat.le_refl _))
      have NX_44 := Lib.hid (NX_27.out.mono hb (Nat.le_refl _))
      have X_45 := Lib.hid (X_28.out.mono hb X_28.out.lt)
      have MY_46 := Lib.hid (MY_30.out.mono hb (Nat.le_refl _))
      have VY_47 := Lib.hid (VY_31.out.mono hb (Nat.le_refl _))
      have NY_48 := Lib.hid (NY_32.out.mono hb (Nat.le_refl _))
      have Y_49 := Lib.hid (Y_33.out.mono hb Y_33.out.lt)
      have B_50 := nxt B_29 hb
      clear hb  M_22 U_23 ROW_24 MX_25 VX_26 NX_27 X_28 MY_30 VY_31 NY_32 Y_33 B_29 
      go_wp2_with fail
      refine (sameInts_same _ _ vals _ VX_43.out VY_47.out).mono ?_
      rintro e w_51 ⟨rfl, hb⟩
      have M_52 := Lib.hid (M_39.out.mono hb (Nat.le_refl _))
      have U_53 := Lib.hid (U_40.out.mono hb (Nat.le_refl _))
      have ROW_54 := Lib.hid (ROW_41.out.mono hb ROW_41.out.lt)
      have MX_55 := Lib.hid (MX_42.out.mono hb (Nat.le_refl _))
      have VX_56 := Lib.hid (VX_43.out.mono hb (Nat.le_refl _))
      have NX_57 := Lib.hid (NX_44.out.mono hb (Nat.le_refl _))
      have X_58 := Lib.hid (X_45.out.mono hb X_45.out.lt)
      have MY_59 := Lib.hid (MY_46.out.mono hb (Nat.le_refl _))
      have VY_60 := Lib.hid (VY_47.out.mono hb (Nat.le_refl _))
      have NY_61 := Lib.hid (NY_48.out.mono hb (Nat.le_refl _))
      have Y_62 := Lib.hid (Y_49.out.mono hb Y_49.out.lt)
      have B_63 := nxt B_50 hb
      clear hb  M_39 U_40 ROW_41 MX_42 VX_43 NX_44 X_45 MY_46 VY_47 NY_48 Y_49 B_50 
      go_wp2_with fail
      refine (sameInts_same _ _ ways _ NX_57.out NY_61.out).mono ?_
      rintro e w_64 ⟨rfl, hb⟩
      have M_65 := Lib.hid (M_52.out.mono hb (Nat.le_refl _))
      have U_66 := Lib.hid (U_53.out.mono hb (Nat.le_refl _))
      have ROW_67 := Lib.hid (ROW_54.out.mono hb ROW_54.out.lt)
      have MX_68 := Lib.hid (MX_55.out.mono hb (Nat.le_refl _))
      have VX_69 := Lib.hid (VX_56.out.mono hb (Nat.le_refl _))
      have NX_70 := Lib.hid (NX_57.out.mono hb (Nat.le_refl _))
      have X_71 := Lib.hid (X_58.out.mono hb X_58.out.lt)
      have MY_72 := Lib.hid (MY_59.out.mono hb (Nat.le_refl _))
      have VY_73 := Lib.hid (VY_60.out.mono hb (Nat.le_refl _))
      have NY_74 := Lib.hid (NY_61.out.mono hb (Nat.le_refl _))
      have Y_75 := Lib.hid (Y_62.out.mono hb Y_62.out.lt)
      have B_76 := nxt B_63 hb
      clear hb  M_52 U_53 ROW_54 MX_55 VX_56 NX_57 X_58 MY_59 VY_60 NY_61 Y_62 B_63 
      clear Y_75
      clear MY_72
      clear VY_73
      clear NY_74
      clear NX_70
      go_wp2
      go_loopg [13] nu (fun gg i wr => ∃ k : Nat, k ≤ nu ∧ nu - k ≤ gg ∧ i = .int .i64 k ∧ Hid (Below w_64.heap.size w_64 wr))
      case atStart => exact ⟨0, by omega, by omega, rfl, Below.refl _ _⟩
      case round =>
        obtain ⟨k, hk, hgg, rfl, hB⟩ := hrel
        by_cases hlt : k < nu
        · have HLT := Lib.hid hlt
          obtain ⟨hok, hval⟩ := HFA.out k (by rw [HNU.out]; exact hlt)
          obtain ⟨bu, ou, rfl, d0, -, -, -⟩ := (U_66.out.mono hB.out (Nat.le_refl _)).cells HNU.out hlt
          obtain ⟨ak, hak⟩ : ∃ x, (uat us k).1 = x := ⟨_, rfl⟩
          rw [hak] at d0 hok hval
          obtain ⟨s0, hs0⟩ : ∃ x, (blkAt (allM 7 f st) ak).2.1 = x := ⟨_, rfl⟩
          rw [hs0] at hval
          have HOK := Lib.hid hok
          have HVAL := Lib.hid hval
          have HAK := Lib.hid hak
          have ROW_77 := Lib.hid (ROW_67.out.mono hB.out ROW_67.out.lt)
          have M_78 := Lib.hid (M_65.out.mono hB.out (Nat.le_refl _))
          have hx0 := ROW_77.out.cell (i := 0) rfl
          have hx1 := ROW_77.out.cell (i := 1) rfl
          have HKP : Hid (∀ W', Below wr.heap.size wr W' → (W'.cell? ⟨g_6, 0, none⟩ = some (.slice a 7 c) ∧ W'.cell? ⟨g_6, 1, none⟩ = some (.slice a' m c') ∧ W'.cell? ⟨bu, ou + k * 4, none⟩ = some (.int .i64 ak))) := fun W' hb => ⟨cell_keep hx0 hb, cell_keep hx1 hb, cell_keep d0 hb⟩
          have HC : Hid (∀ W', Below wr.heap.size wr W' → Calls Tryd.prog 14 #[.agg #[.slice a 7 c, .slice a' m c'], .int .i64 ak, .bool false, .int .i64 0, .int .i64 0] W' (UseVY (useLs (lsOf f st) (blkAt (allM 7 f st) ak).2.2 ak false 0 0) s0 (pathL (blkAt (allM 7 f st) ak).2.2) W')) := fun W' hb => by rw [← hs0]; exact impl_UseV (t := false) (M_78.out.mono hb (Nat.le_refl _)) HS.out hok
          obtain ⟨US, hUS⟩ : ∃ US, useLs (lsOf f st) (blkAt (allM 7 f st) ak).2.2 ak false 0 0 = US := ⟨_, rfl⟩
          obtain ⟨PS, hPS⟩ : ∃ PS, pathL (blkAt (allM 7 f st) ak).2.2 = PS := ⟨_, rfl⟩
          obtain ⟨sl, hsl⟩ : ∃ sl, (US 0).length = sl := ⟨_, rfl⟩
          rw [hUS, hPS] at HC
          have HSL := Lib.hid hsl
          have hd1 : decide (k < nu) = true := decide_eq_true hlt
          have hd2 := hd1
          clear hs0 hok hval hak hUS hPS hsl hk
          go_wp2_with fail
          clear hx0 hx1 d0
          have HBA : Hid (Below wr.heap.size wr wr.drew) := (Below.refl _ _).drew
          have HBB : Hid (Below wr.heap.size wr (wr.alloc (.cells #[.slice none 0 0, .slice none 0 0] 29)).drew) := ((Below.refl _ _).alloc (Nat.le_refl _) _).drew
          have HZB : Hid ((wr.alloc (.cells #[.slice none 0 0, .slice none 0 0] 29)).drew.heap.size = wr.heap.size + 1) := by show (wr.alloc _).heap.size = _; simp
          have HRP : Hid (Row (wr.alloc (.cells #[.slice none 0 0, .slice none 0 0] 29)).drew wr.heap.size 29 [.slice none 0 0, .slice none 0 0]) := Row.new wr 29 [.slice none 0 0, .slice none 0 0]
          go_region_held3 (fun w' => w'.cell? ⟨g_6, 0, none⟩ = some (.slice a 7 c) ∧ w'.cell? ⟨g_6, 1, none⟩ = some (.slice a' m c') ∧ w'.cell? ⟨bu, ou + k * 4, none⟩ = some (.int .i64 ak)) ((first | exact HKP.out _ HB7.out | exact HKP.out _ (Below.refl _ _) | exact HKP.out _ ((Below.refl _ _).drew) | exact HKP.out _ ((Below.refl _ _).alloc (Nat.le_refl _) _) | exact HKP.out _ (((Below.refl _ _).alloc (Nat.le_refl _) _).drew) | exact HKP.out _ (((Below.refl _ _).drew).alloc (Nat.le_refl _) _) | exact HKP.out _ ((((Below.refl _ _).drew).alloc (Nat.le_refl _) _).drew) | exact HKP.out _ HBW.out | exact HKP.out _ (HBW.out.drew) | exact HKP.out _ (HBW.out.alloc HBW.out.size _) | exact HKP.out _ ((HBW.out.alloc HBW.out.size _).setCell HBW.out.size _) | exact HKP.out _ (((HBW.out.alloc HBW.out.size _).setCell HBW.out.size _).setCell HBW.out.size _) | exact HKP.out _ (HBW.out.setCell (Nat.le_refl _) _) | exact HKP.out _ ((HBW.out.setCell (Nat.le_refl _) _).setCell (Nat.le_refl _) _))) (first
            | (go_at_call 14
               with_reducible refine (HC.out _ HBA.out).mono ?_
               unfold UseVY
               rw [HSL.out]
               rintro e w67 ⟨gb3, cb3, a7, c7, a8, c8, rfl, -, -, hb⟩
               have HBW := Lib.hid ((Below.refl wr.heap.size wr).drew.trans hb)
               obtain ⟨W7, hW7⟩ : ∃ W7, w67.alloc (.cells #[.slice (some ⟨gb3, 0, none⟩) 7 cb3, .slice a7 sl c7] 29) = W7 := ⟨_, rfl⟩
               obtain ⟨gq, hgq⟩ : ∃ gq, w67.heap.size = gq := ⟨_, rfl⟩
               have Hgq := Lib.hid hgq
               clear hgq
               have HB7 := Lib.hid (HBW.out.alloc HBW.out.size (.cells #[.slice (some ⟨gb3, 0, none⟩) 7 cb3, .slice a7 sl c7] 29))
               have HQ7 : Hid (Row (w67.alloc (.cells #[.slice (some ⟨gb3, 0, none⟩) 7 cb3, .slice a7 sl c7] 29)) w67.heap.size 29 [.slice (some ⟨gb3, 0, none⟩) 7 cb3, .slice a7 sl c7]) := Row.new w67 29 [.slice (some ⟨gb3, 0, none⟩) 7 cb3, .slice a7 sl c7]
               rw [hW7] at HB7 HQ7
               rw [Hgq.out] at HQ7
               clear hb)
            | (go_at_call 14
               with_reducible refine (HC.out _ HBB.out).mono ?_
               unfold UseVY
               rw [HSL.out]
               rintro e w67 ⟨gb3, cb3, a7, c7, a8, c8, rfl, -, -, hb⟩
               have HBW := Lib.hid ((((Below.refl wr.heap.size wr).alloc (Nat.le_refl _) (.cells #[.slice none 0 0, .slice none 0 0] 29)).drew).trans (hb.mono (by have := HZB.out; omega)))
               obtain ⟨W7, hW7⟩ : ∃ W7, (w67.setCell ⟨wr.heap.size, 0, none⟩ (.slice (some ⟨gb3, 0, none⟩) 7 cb3)).setCell ⟨wr.heap.size, 1, none⟩ (.slice a7 sl c7) = W7 := ⟨_, rfl⟩
               obtain ⟨gq, hgq⟩ : ∃ gq, wr.heap.size = gq := ⟨_, rfl⟩
               have Hgq := Lib.hid hgq
               clear hgq
               have hrp := HRP.out.mono hb HRP.out.lt
               have hrp1 := hrp.set 0 (.slice (some ⟨gb3, 0, none⟩) 7 cb3)
               have p0 := hrp.cell (i := 0) rfl
               have p1 := hrp.cell (i := 1) rfl
               have z0 := hrp.free 0
               have z1 := hrp.free 1
               have HB7 := Lib.hid ((HBW.out.setCell (p := ⟨wr.heap.size, 0, none⟩) (Nat.le_refl _) (.slice (some ⟨gb3, 0, none⟩) 7 cb3)).setCell (p := ⟨wr.heap.size, 1, none⟩) (Nat.le_refl _) (.slice a7 sl c7))
               have HQ7 : Hid (Row ((w67.setCell ⟨wr.heap.size, 0, none⟩ (.slice (some ⟨gb3, 0, none⟩) 7 cb3)).setCell ⟨wr.heap.size, 1, none⟩ (.slice a7 sl c7)) wr.heap.size 29 [.slice (some ⟨gb3, 0, none⟩) 7 cb3, .slice a7 sl c7]) := hrp1.set 1 (.slice a7 sl c7)
               rw [hW7] at HB7 HQ7
               rw [Hgq.out] at HQ7
               clear hb hrp hrp1))
          all_goals
            try clear p0 p1 z0 z1
            go_simp
            try rw [hW7]
            try rw [Hgq.out]
            clear hW7 Hgq HBA HBB HZB HRP HBW HKP HC HQ7 hd1 hd2
            have HB8 : Hid (Below w_64.heap.size w_64 W7) := hB.out.trans (HB7.out.mono hB.out.size)
            clear HB7
            go_wp2_with fail
            go_loopg [15, 18] k (fun gg u i wj => ∃ j : Nat, j ≤ k ∧ k - j ≤ gg ∧ i = .int .i64 j ∧ u = .int .i64 ((us.take j).foldl (leftU ak) s0) ∧ Hid (Below w_64.heap.size w_64 wj))
            case atStart => exact ⟨0, by omega, by omega, rfl, rfl, HB8.out⟩
            case round =>
              obtain ⟨j, hj, hgj, rfl, rfl, hBj⟩ := hrel
              obtain ⟨sj, hsj⟩ : ∃ x, (us.take j).foldl (leftU ak) s0 = x := ⟨_, rfl⟩
              rw [hsj]
              by_cases hjk : j < k
              · have HJK := Lib.hid hjk
                have hjn : j < nu := by have := HLT.out; omega
                have hls := left_succ (us := us) (j := j) (by rw [HNU.out]; exact hjn) ak s0
                rw [hsj] at hls
                obtain ⟨bu2, ou2, he2, d0, d1, d2, -⟩ := (U_66.out.mono hBj.out (Nat.le_refl _)).cells HNU.out hjn
                cases he2
                obtain ⟨bu2, ou2, he2, e0, -, -, -⟩ := (U_66.out.mono hBj.out (Nat.le_refl _)).cells HNU.out HLT.out
                cases he2
                rw [HAK.out] at e0
                obtain ⟨⟨xa, xt, xv, xl⟩, hx⟩ : ∃ x, uat us j = x := ⟨_, rfl⟩
                rw [hx] at d0 d1 d2 hls
                have hls : (us.take (j + 1)).foldl (leftU ak) s0 = if xa == ak && xt then xv else sj := hls
                simp only at d0 d1 d2
                have HLSQ := Lib.hid hls
                have hd3 : (j : Int) < (k : Int) := by omega
                have hd4 : (k : Int) < (nu : Int) := by have := HLT.out; omega
                have hd5 : (j : Int) < (nu : Int) := by omega
                clear hx hls hsj hjk
                by_cases hc : xa = ak
                · have hce : (xa == ak) = true := by simpa using hc
                  cases xt
                  · go_wp2_with fail
                    go_quiet (fail)
                    go_wp2
                    go_roundg (k - (j + 1))
                    case rel => exact ⟨j + 1, HJK.out, Nat.le_refl _, by go_num, by rw [HLSQ.out, hce]; rfl, by first | exact hBj.out | exact hBj.out.drew | exact below_drewN hBj.out _⟩
                    case measure => have := HJK.out; omega
                  · go_wp2_with fail
                    go_quiet (fail)
                    go_wp2
                    go_roundg (k - (j + 1))
                    case rel => exact ⟨j + 1, HJK.out, Nat.le_refl _, by go_num, by rw [HLSQ.out, hce]; rfl, by first | exact hBj.out | exact hBj.out.drew | exact below_drewN hBj.out _⟩
                    case measure => have := HJK.out; omega
                · have hce : (xa == ak) = false := by simpa using hc
                  go_wp2_with fail
                  go_quiet (fail)
                  go_wp2
                  go_roundg (k - (j + 1))
                  case rel => exact ⟨j + 1, HJK.out, Nat.le_refl _, by go_num, by rw [HLSQ.out, hce]; rfl, by first | exact hBj.out | exact hBj.out.drew | exact below_drewN hBj.out _⟩
                  case measure => have := HJK.out; omega
              · obtain rfl : j = k := by omega
                obtain ⟨bv, ov, he2, e0⟩ := (VX_69.out.mono hBj.out (Nat.le_refl _)).cellAt HVL.out HLT.out
                cases he2
                have hv0 : vals[j]?.getD 0 = sj := HVAL.out.trans hsj
                rw [hv0] at e0
                have hne : (sj != sj) = false := by simp
                have hd4 : (j : Int) < (nu : Int) := by have := HLT.out; omega
                clear hv0 hsj
                go_wp2
                go_roundg (nu - (j + 1))
                case rel => exact ⟨j + 1, HLT.out, Nat.le_refl _, by go_num, hBj.out⟩
                case measure => have := HLT.out; omega
        · obtain rfl : k = nu := by omega
          clear HFA hk hgg hlt
          obtain ⟨h2, hh2⟩ : ∃ h2, k / 2 = h2 := ⟨_, rfl⟩
          rw [hh2] at HH1 HH2
          have hq : (k : Int) / 2 = (h2 : Int) := by omega
          have hh2k : h2 ≤ k := by omega
          have ROW_77 := Lib.hid (ROW_67.out.mono hB.out ROW_67.out.lt)
          have M_78 := Lib.hid (M_65.out.mono hB.out (Nat.le_refl _))
          have U_79 := Lib.hid (U_66.out.mono hB.out (Nat.le_refl _))
          have X_80 := Lib.hid (X_71.out.mono hB.out X_71.out.lt)
          have MX_81 := Lib.hid (MX_68.out.mono hB.out (Nat.le_refl _))
          have VX_82 := Lib.hid (VX_69.out.mono hB.out (Nat.le_refl _))
          have hcap := U_79.out.cap
          have hcap2 : h2 ≤ cu := by omega
          have HV1 : Hid (v1.length = h2 ∧ v2.length = k - h2) := by
            obtain ⟨-, -, -, -, e1, -⟩ := run_facts HH1.out
            obtain ⟨-, -, -, -, e2, -⟩ := run_facts HH2.out
            simp only at e1 e2
            rw [List.length_take, HNU.out] at e1
            rw [List.length_drop, HNU.out] at e2
            exact ⟨by omega, e2⟩
          obtain ⟨s1, hs1⟩ : ∃ s, (X1 0).length = s := ⟨_, rfl⟩
          obtain ⟨n1, hn1⟩ : ∃ n, w1.length = n := ⟨_, rfl⟩
          obtain ⟨n2, hn2⟩ : ∃ n, w2.length = n := ⟨_, rfl⟩
          have HC : Hid (∀ W', Below wr.heap.size wr W' → Calls Tryd.prog 24 #[.agg #[.slice a 7 c, .slice a' m c'], .slice au h2 cu] W' (RunX X1 v1 w1 s1 h2 n1 W')) := fun W' hb => impl_RunX (M_78.out.mono hb (Nat.le_refl _)) HS.out (uses_take (U_79.out.mono hb (Nat.le_refl _)) (by have := HNU.out; omega)) (by rw [List.length_take]; have := HNU.out; omega) HH1.out hs1 HV1.out.1 hn1
          have hx0 := ROW_77.out.cell (i := 0) rfl
          have hx1 := ROW_77.out.cell (i := 1) rfl
          have HKP : Hid (∀ W', Below wr.heap.size wr W' → (W'.cell? ⟨g_6, 0, none⟩ = some (.slice a 7 c) ∧ W'.cell? ⟨g_6, 1, none⟩ = some (.slice a' m c'))) := fun W' hb => ⟨cell_keep hx0 hb, cell_keep hx1 hb⟩
          have HS1 := Lib.hid hs1
          have HN2 := Lib.hid hn2
          have HHQ := Lib.hid hq
          clear hs1 hn1 hn2 hh2 hq
          have hz0 : 0 ≤ (h2 : Int) := by omega
          have hz1 : (h2 : Int) ≤ (k : Int) := by omega
          have hz2 : (h2 : Int) ≤ (cu : Int) := by omega
          go_wp2_with fail
          try rw [HHQ.out]
          clear hx0 hx1
          have HBA : Hid (Below wr.heap.size wr wr.drew) := (Below.refl _ _).drew
          have HBB : Hid (Below wr.heap.size wr (wr.alloc (.cells #[.slice none 0 0, .slice none 0 0] 29)).drew) := ((Below.refl _ _).alloc (Nat.le_refl _) _).drew
          have HZB : Hid ((wr.alloc (.cells #[.slice none 0 0, .slice none 0 0] 29)).drew.heap.size = wr.heap.size + 1) := by show (wr.alloc _).heap.size = _; simp
          have HRP : Hid (Row (wr.alloc (.cells #[.slice none 0 0, .slice none 0 0] 29)).drew wr.heap.size 29 [.slice none 0 0, .slice none 0 0]) := Row.new wr 29 [.slice none 0 0, .slice none 0 0]
          go_region_held3 (fun w' => w'.cell? ⟨g_6, 0, none⟩ = some (.slice a 7 c) ∧ w'.cell? ⟨g_6, 1, none⟩ = some (.slice a' m c')) ((first | exact HKP.out _ HBP.out | exact HKP.out _ (Below.refl _ _) | exact HKP.out _ ((Below.refl _ _).drew) | exact HKP.out _ ((Below.refl _ _).alloc (Nat.le_refl _) _) | exact HKP.out _ (((Below.refl _ _).alloc (Nat.le_refl _) _).drew) | exact HKP.out _ (((Below.refl _ _).drew).alloc (Nat.le_refl _) _) | exact HKP.out _ ((((Below.refl _ _).drew).alloc (Nat.le_refl _) _).drew) | exact HKP.out _ HBW.out | exact HKP.out _ (HBW.out.drew) | exact HKP.out _ (HBW.out.alloc HBW.out.size _) | exact HKP.out _ ((HBW.out.alloc HBW.out.size _).setCell HBW.out.size _) | exact HKP.out _ (((HBW.out.alloc HBW.out.size _).setCell HBW.out.size _).setCell HBW.out.size _) | exact HKP.out _ (HBW.out.setCell (Nat.le_refl _) _) | exact HKP.out _ ((HBW.out.setCell (Nat.le_refl _) _).setCell (Nat.le_refl _) _))) (first
            | (go_at_call 24
               with_reducible refine (HC.out _ HBA.out).mono ?_
               rintro e w6P ⟨gb3, cb3, a7, c7, a8, c8, a9, c9, rfl, hmo, hgr, hb⟩
               have HBW := Lib.hid ((Below.refl wr.heap.size wr).drew.trans hb)
               obtain ⟨WP, hWP⟩ : ∃ WP, w6P.alloc (.cells #[.slice (some ⟨gb3, 0, none⟩) 7 cb3, .slice a7 s1 c7] 29) = WP := ⟨_, rfl⟩
               obtain ⟨ga, hga⟩ : ∃ ga, w6P.heap.size = ga := ⟨_, rfl⟩
               have Hga := Lib.hid hga
               clear hga
               have HBP := Lib.hid (HBW.out.alloc HBW.out.size (.cells #[.slice (some ⟨gb3, 0, none⟩) 7 cb3, .slice a7 s1 c7] 29))
               have HQP : Hid (Row (w6P.alloc (.cells #[.slice (some ⟨gb3, 0, none⟩) 7 cb3, .slice a7 s1 c7] 29)) w6P.heap.size 29 [.slice (some ⟨gb3, 0, none⟩) 7 cb3, .slice a7 s1 c7]) := Row.new w6P 29 [.slice (some ⟨gb3, 0, none⟩) 7 cb3, .slice a7 s1 c7]
               have HMP := Lib.hid ((hmo.mono ((Below.refl w6P.heap.size w6P).alloc (Nat.le_refl _) (.cells #[.slice (some ⟨gb3, 0, none⟩) 7 cb3, .slice a7 s1 c7] 29)) (Nat.le_refl _)).view)
               have HVP := Lib.hid (Gr.ints (hgr.alloc (.cells #[.slice (some ⟨gb3, 0, none⟩) 7 cb3, .slice a7 s1 c7] 29)) rfl)
               rw [hWP] at HBP HQP HMP HVP
               rw [Hga.out] at HQP
               clear hb hmo hgr)
            | (go_at_call 24
               with_reducible refine (HC.out _ HBB.out).mono ?_
               rintro e w6P ⟨gb3, cb3, a7, c7, a8, c8, a9, c9, rfl, hmo, hgr, hb⟩
               have HBW := Lib.hid ((((Below.refl wr.heap.size wr).alloc (Nat.le_refl _) (.cells #[.slice none 0 0, .slice none 0 0] 29)).drew).trans (hb.mono (by have := HZB.out; omega)))
               obtain ⟨WP, hWP⟩ : ∃ WP, (w6P.setCell ⟨wr.heap.size, 0, none⟩ (.slice (some ⟨gb3, 0, none⟩) 7 cb3)).setCell ⟨wr.heap.size, 1, none⟩ (.slice a7 s1 c7) = WP := ⟨_, rfl⟩
               obtain ⟨ga, hga⟩ : ∃ ga, wr.heap.size = ga := ⟨_, rfl⟩
               have Hga := Lib.hid hga
               clear hga
               have hrp := HRP.out.mono hb HRP.out.lt
               have hrp1 := hrp.set 0 (.slice (some ⟨gb3, 0, none⟩) 7 cb3)
               have p0 := hrp.cell (i := 0) rfl
               have p1 := hrp.cell (i := 1) rfl
               have z0 := hrp.free 0
               have z1 := hrp.free 1
               have HBP := Lib.hid ((HBW.out.setCell (p := ⟨wr.heap.size, 0, none⟩) (Nat.le_refl _) (.slice (some ⟨gb3, 0, none⟩) 7 cb3)).setCell (p := ⟨wr.heap.size, 1, none⟩) (Nat.le_refl _) (.slice a7 s1 c7))
               have HQP : Hid (Row ((w6P.setCell ⟨wr.heap.size, 0, none⟩ (.slice (some ⟨gb3, 0, none⟩) 7 cb3)).setCell ⟨wr.heap.size, 1, none⟩ (.slice a7 s1 c7)) wr.heap.size 29 [.slice (some ⟨gb3, 0, none⟩) 7 cb3, .slice a7 s1 c7]) := hrp1.set 1 (.slice a7 s1 c7)
               have HMP := Lib.hid (((hmo.box (k := 0) (u := .slice (some ⟨gb3, 0, none⟩) 7 cb3) hrp).box (k := 1) (u := .slice a7 s1 c7) hrp1).view)
               have HVP := Lib.hid (Gr.ints (hgr.kept (grown_set (set_other w6P ⟨wr.heap.size, 0, none⟩ (.slice (some ⟨gb3, 0, none⟩) 7 cb3) rfl) 1 (.slice a7 s1 c7)) (fun g hg he => by cases he; exact row_ne hgr hrp (by decide) _ hg rfl)) rfl)
               rw [hWP] at HBP HQP HMP HVP
               rw [Hga.out] at HQP
               clear hb hrp hrp1 hmo hgr))
          all_goals
            try clear p0 p1 z0 z1
            go_simp
            try rw [hWP]
            try rw [Hga.out]
            clear hWP Hga HBA HBB HZB HRP HBW HKP HC 
            have U_83 := Lib.hid (U_79.out.mono HBP.out (Nat.le_refl _))
            have X_84 := Lib.hid (X_80.out.mono HBP.out X_80.out.lt)
            have MX_85 := Lib.hid (MX_81.out.mono HBP.out (Nat.le_refl _))
            have VX_86 := Lib.hid (VX_82.out.mono HBP.out (Nat.le_refl _))
            have HB8 : Hid (Below w_64.heap.size w_64 WP) := hB.out.trans (HBP.out.mono hB.out.size)
            clear HBP hB
            have hx0 := HQP.out.cell (i := 0) rfl
            have hx1 := HQP.out.cell (i := 1) rfl
            obtain ⟨ax, hax⟩ : ∃ ax, (if cu = h2 then au else Option.map (fun x => x.add (h2 * 4)) au) = ax := ⟨_, rfl⟩
            have hsl : ∀ W' : World, (Instr.slice 44 (.slice au k cu) (some (.int .i64 (h2 : Int))) none none).run Tryd.prog W' = .ok (.slice ax (k - h2) (cu - h2)) W' := fun W' => by rw [← hax, run_slice_l W' _ _ _ _ Tryd.underlying44 _ _ hz0 hz1]; simp [go_sem]
            have HC : Hid (∀ W', Below WP.heap.size WP W' → Calls Tryd.prog 24 #[.agg #[.slice (some ⟨gb3, 0, none⟩) 7 cb3, .slice a7 s1 c7], .slice ax (k - h2) (cu - h2)] W' (RunX X v2 w2 s (k - h2) n2 W')) := fun W' hb => impl_RunX (by have := HMP.out.mono hb (Nat.le_refl _); exact this) (small_valid HOK1.out.valid) (by rw [← hax]; exact uses_drop (U_83.out.mono hb (Nat.le_refl _)) HNU.out hh2k) (by rw [List.length_drop]; have := HNU.out; omega) HH2.out HSX.out HV1.out.2 HN2.out
            have HKP : Hid (∀ W', Below WP.heap.size WP W' → (W'.cell? ⟨ga, 0, none⟩ = some (.slice (some ⟨gb3, 0, none⟩) 7 cb3) ∧ W'.cell? ⟨ga, 1, none⟩ = some (.slice a7 s1 c7))) := fun W' hb => ⟨cell_keep hx0 hb, cell_keep hx1 hb⟩
            clear hax
            go_wp2_with fail
            clear hx0 hx1
            have HBA : Hid (Below WP.heap.size WP WP.drew) := (Below.refl _ _).drew
            have HBB : Hid (Below WP.heap.size WP (WP.alloc (.cells #[.slice none 0 0, .slice none 0 0] 29)).drew) := ((Below.refl _ _).alloc (Nat.le_refl _) _).drew
            have HZB : Hid ((WP.alloc (.cells #[.slice none 0 0, .slice none 0 0] 29)).drew.heap.size = WP.heap.size + 1) := by show (WP.alloc _).heap.size = _; simp
            have HRP : Hid (Row (WP.alloc (.cells #[.slice none 0 0, .slice none 0 0] 29)).drew WP.heap.size 29 [.slice none 0 0, .slice none 0 0]) := Row.new WP 29 [.slice none 0 0, .slice none 0 0]
            go_region_held3 (fun w' => w'.cell? ⟨ga, 0, none⟩ = some (.slice (some ⟨gb3, 0, none⟩) 7 cb3) ∧ w'.cell? ⟨ga, 1, none⟩ = some (.slice a7 s1 c7)) ((first | exact HKP.out _ HBQ.out | exact HKP.out _ (Below.refl _ _) | exact HKP.out _ ((Below.refl _ _).drew) | exact HKP.out _ ((Below.refl _ _).alloc (Nat.le_refl _) _) | exact HKP.out _ (((Below.refl _ _).alloc (Nat.le_refl _) _).drew) | exact HKP.out _ (((Below.refl _ _).drew).alloc (Nat.le_refl _) _) | exact HKP.out _ ((((Below.refl _ _).drew).alloc (Nat.le_refl _) _).drew) | exact HKP.out _ HBW.out | exact HKP.out _ (HBW.out.drew) | exact HKP.out _ (HBW.out.alloc HBW.out.size _) | exact HKP.out _ ((HBW.out.alloc HBW.out.size _).setCell HBW.out.size _) | exact HKP.out _ (((HBW.out.alloc HBW.out.size _).setCell HBW.out.size _).setCell HBW.out.size _) | exact HKP.out _ (HBW.out.setCell (Nat.le_refl _) _) | exact HKP.out _ ((HBW.out.setCell (Nat.le_refl _) _).setCell (Nat.le_refl _) _))) (first
              | (go_at_call 24
                 with_reducible refine (HC.out _ HBA.out).mono ?_
                 rintro e w6Q ⟨gb4, cb4, a17, c17, a18, c18, a19, c19, rfl, hmo, hgr, hb⟩
                 have HBW := Lib.hid ((Below.refl WP.heap.size WP).drew.trans hb)
                 obtain ⟨WQ, hWQ⟩ : ∃ WQ, w6Q.alloc (.cells #[.slice (some ⟨gb4, 0, none⟩) 7 cb4, .slice a17 s c17] 29) = WQ := ⟨_, rfl⟩
                 obtain ⟨gbx, hgbx⟩ : ∃ gbx, w6Q.heap.size = gbx := ⟨_, rfl⟩
                 have Hgbx := Lib.hid hgbx
                 clear hgbx
                 have HBQ := Lib.hid (HBW.out.alloc HBW.out.size (.cells #[.slice (some ⟨gb4, 0, none⟩) 7 cb4, .slice a17 s c17] 29))
                 have HQQ : Hid (Row (w6Q.alloc (.cells #[.slice (some ⟨gb4, 0, none⟩) 7 cb4, .slice a17 s c17] 29)) w6Q.heap.size 29 [.slice (some ⟨gb4, 0, none⟩) 7 cb4, .slice a17 s c17]) := Row.new w6Q 29 [.slice (some ⟨gb4, 0, none⟩) 7 cb4, .slice a17 s c17]
                 have HMQ := Lib.hid ((hmo.mono ((Below.refl w6Q.heap.size w6Q).alloc (Nat.le_refl _) (.cells #[.slice (some ⟨gb4, 0, none⟩) 7 cb4, .slice a17 s c17] 29)) (Nat.le_refl _)).view)
                 have HVQ := Lib.hid (Gr.ints (hgr.alloc (.cells #[.slice (some ⟨gb4, 0, none⟩) 7 cb4, .slice a17 s c17] 29)) rfl)
                 rw [hWQ] at HBQ HQQ HMQ HVQ
                 rw [Hgbx.out] at HQQ
                 clear hb hmo hgr)
              | (go_at_call 24
                 with_reducible refine (HC.out _ HBB.out).mono ?_
                 rintro e w6Q ⟨gb4, cb4, a17, c17, a18, c18, a19, c19, rfl, hmo, hgr, hb⟩
                 have HBW := Lib.hid ((((Below.refl WP.heap.size WP).alloc (Nat.le_refl _) (.cells #[.slice none 0 0, .slice none 0 0] 29)).drew).trans (hb.mono (by have := HZB.out; omega)))
                 obtain ⟨WQ, hWQ⟩ : ∃ WQ, (w6Q.setCell ⟨WP.heap.size, 0, none⟩ (.slice (some ⟨gb4, 0, none⟩) 7 cb4)).setCell ⟨WP.heap.size, 1, none⟩ (.slice a17 s c17) = WQ := ⟨_, rfl⟩
                 obtain ⟨gbx, hgbx⟩ : ∃ gbx, WP.heap.size = gbx := ⟨_, rfl⟩
                 have Hgbx := Lib.hid hgbx
                 clear hgbx
                 have hrp := HRP.out.mono hb HRP.out.lt
                 have hrp1 := hrp.set 0 (.slice (some ⟨gb4, 0, none⟩) 7 cb4)
                 have p0 := hrp.cell (i := 0) rfl
                 have p1 := hrp.cell (i := 1) rfl
                 have z0 := hrp.free 0
                 have z1 := hrp.free 1
                 have HBQ := Lib.hid ((HBW.out.setCell (p := ⟨WP.heap.size, 0, none⟩) (Nat.le_refl _) (.slice (some ⟨gb4, 0, none⟩) 7 cb4)).setCell (p := ⟨WP.heap.size, 1, none⟩) (Nat.le_refl _) (.slice a17 s c17))
                 have HQQ : Hid (Row ((w6Q.setCell ⟨WP.heap.size, 0, none⟩ (.slice (some ⟨gb4, 0, none⟩) 7 cb4)).setCell ⟨WP.heap.size, 1, none⟩ (.slice a17 s c17)) WP.heap.size 29 [.slice (some ⟨gb4, 0, none⟩) 7 cb4, .slice a17 s c17]) := hrp1.set 1 (.slice a17 s c17)
                 have HMQ := Lib.hid (((hmo.box (k := 0) (u := .slice (some ⟨gb4, 0, none⟩) 7 cb4) hrp).box (k := 1) (u := .slice a17 s c17) hrp1).view)
                 have HVQ := Lib.hid (Gr.ints (hgr.kept (grown_set (set_other w6Q ⟨WP.heap.size, 0, none⟩ (.slice (some ⟨gb4, 0, none⟩) 7 cb4) rfl) 1 (.slice a17 s c17)) (fun g hg he => by cases he; exact row_ne hgr hrp (by decide) _ hg rfl)) rfl)
                 rw [hWQ] at HBQ HQQ HMQ HVQ
                 rw [Hgbx.out] at HQQ
                 clear hb hrp hrp1 hmo hgr))
            all_goals
              try clear p0 p1 z0 z1
              go_simp
              try rw [hWQ]
              try rw [Hgbx.out]
              clear hWQ Hgbx HBA HBB HZB HRP HBW HKP HC 
              have X_87 := Lib.hid (X_84.out.mono HBQ.out X_84.out.lt)
              have MX_88 := Lib.hid (MX_85.out.mono HBQ.out (Nat.le_refl _))
              have VX_89 := Lib.hid (VX_86.out.mono HBQ.out (Nat.le_refl _))
              have VA_90 := Lib.hid (HVP.out.mono HBQ.out (Nat.le_refl _))
              have HB9 : Hid (Below w_64.heap.size w_64 WQ) := HB8.out.trans (HBQ.out.mono HB8.out.size)
              clear HBQ HB8 HVP HMP HQP
              have HVB1 := HVQ
              clear HVQ
              have y0 := HQQ.out.cell (i := 0) rfl
              have y1 := HQQ.out.cell (i := 1) rfl
              have y2 := X_87.out.cell (i := 0) rfl
              have y3 := X_87.out.cell (i := 1) rfl
              go_wp2_with fail
              clear y0 y1 y2 y3
              refine (sameMemory_same _ _ 7 (fun i => X (i + 2)) (X 0) _ HMQ.out MX_88.out (by omega)).mono ?_
              rintro e WC ⟨rfl, hb⟩
              have X_91 := Lib.hid (X_87.out.mono hb X_87.out.lt)
              have MX_92 := Lib.hid (MX_88.out.mono hb (Nat.le_refl _))
              have VX_93 := Lib.hid (VX_89.out.mono hb (Nat.le_refl _))
              have VA_94 := Lib.hid (VA_90.out.mono hb (Nat.le_refl _))
              have QB_95 := Lib.hid (HQQ.out.mono hb HQQ.out.lt)
              have MB_96 := Lib.hid (HMQ.out.mono hb (Nat.le_refl _))
              have VB_97 := Lib.hid (HVB1.out.mono hb (Nat.le_refl _))
              have B_98 := nxt HB9 hb
              clear hb  X_87 MX_88 VX_89 VA_90 HQQ HMQ HVB1 HB9 
              clear X_91
              clear MX_92
              clear QB_95
              clear MB_96
              have HVA2 : Hid (View WC 1 (.slice a8 h2 c8) h2 (ints v1)) := by have := VA_94.out; unfold Ints at this; rw [HV1.out.1] at this; exact this
              have HVB2 : Hid (View WC 1 (.slice a18 (k - h2) c18) (k - h2) (ints v2)) := by have := VB_97.out; unfold Ints at this; rw [HV1.out.2] at this; exact this
              have hkk : h2 + (k - h2) ≤ 100 := by omega
              have HKK := Lib.hid hkk
              clear hkk
              go_wp2_with (first
                | (at_builtin; refine wpList_appg _ (by rfl) (.tmp 177) (.tmp 178) 23 rfl WC.heap.size 3 (.int .i64 0) 1 8 Tryd.underlying23 Tryd.infoInt rfl (by omega) (.slice (some ⟨WC.heap.size, 0, none⟩) 0 0) 0 [] rfl (Gr.none0 _ _ _ _ _) (.slice a8 h2 c8) h2 (ints v1) rfl (HVA2.out.mono ((Below.refl WC.heap.size WC).alloc (Nat.le_refl _) _) (Nat.le_refl _)) (one_ints _) (by have := HKK.out; unfold maxLen; omega) (by have := HKK.out; omega) (by rw [World.size_alloc]; omega) ?_; intro v5 w10 g5 r5 k5; have G5 : Hid (Gr w10 WC.heap.size 3 1 v5 h2 (ints v1)) := (by have := g5; rw [Nat.zero_add, List.nil_append] at this; exact this); have B10 : Hid (Below WC.heap.size WC w10) := (((Below.refl WC.heap.size WC).alloc (Nat.le_refl _) _).grown r5 (by rw [World.size_alloc]; omega) (fun g hg => by simp [gBlock] at hg)); obtain ⟨p5, q5, e5⟩ := G5.out.lit; subst e5; clear g5 r5 k5)
                | (at_builtin; refine wpList_appg _ (by rfl) (.tmp 179) (.tmp 180) 23 rfl WC.heap.size 3 (.int .i64 0) 1 8 Tryd.underlying23 Tryd.infoInt rfl (by omega) (.slice p5 h2 q5) h2 (ints v1) rfl G5.out (.slice a18 (k - h2) c18) (k - h2) (ints v2) rfl (HVB2.out.mono B10.out (Nat.le_refl _)) (one_ints _) (by have := HKK.out; unfold maxLen; omega) (by have := HKK.out; omega) B10.out.size ?_; intro v6 w11 g6 r6 k6; have G6 : Hid (Ints w11 v6 (v1 ++ v2)) := Gr.ints (B := WC.heap.size) (n := h2 + (k - h2)) (by rw [show ints (v1 ++ v2) = ints v1 ++ ints v2 from List.map_append]; exact g6) (by rw [List.length_append, HV1.out.1, HV1.out.2]); have B11 : Hid (Below WC.heap.size WC w11) := (B10.out.grown r6 B10.out.size (fun g hg => (G5.out.lt g hg).1)); clear g6 r6 k6)
                | (go_at_call 19; refine (sameInts_same _ _ vals _ (by rw [← HH3.out]; exact G6.out) (VX_93.out.mono B11.out (Nat.le_refl _))).mono ?_; rintro e w12 ⟨rfl, hb12⟩; have B12 : Hid (Below WC.heap.size WC w12) := B11.out.trans (hb12.mono B11.out.size); clear hb12))
              go_ret
              exact ⟨rfl, B_76.out.trans ((B_98.out.trans (B12.out.mono B_98.out.size)).mono B_76.out.size)⟩
theorem walk_FnMemoryRun (w : World) (v : Value) (bs : List Int) (h : View w 1 v bs.length (bs.map (Value.int .u8)) ∧ ∀ b ∈ bs, 0 ≤ b ∧ b ≤ 255) (hR : Resv w) :
    Calls Tryd.prog 6 #[v] w fun e w' => e = .returned (.bool true) ∧ Below w.heap.size w w' := walk0_FnMemoryRun w v bs h hR
end Go.Proofs.YtbnplohlfiefhaaDoor
