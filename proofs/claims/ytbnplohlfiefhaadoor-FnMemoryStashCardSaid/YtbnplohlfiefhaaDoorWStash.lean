/- the walk of FnMemoryStash -/
import Derived.Test.YtbnplohlfiefhaaDoorRunDraw
import Derived.Test.YtbnplohlfiefhaaDoorRunV
import Derived.Test.YtbnplohlfiefhaaDoorStashP
import Derived.Test.YtbnplohlfiefhaaDoorName

namespace Go.Proofs.YtbnplohlfiefhaaDoor
open Go.RowKit
set_option maxRecDepth 20000 in
set_option maxHeartbeats 2000000 in
theorem walk0_FnMemoryStash (w : World) (v : Value) (bs : List Int) (h : Bts w v bs) (hR : Resv w) :
    Calls Tryd.prog 7 #[v] w fun e w' => LawOk w e w' := by
  obtain ⟨ad, cd, hv, hm⟩ := bts_lit h
  have H := Lib.hid h
  have HR := Lib.hid hR
  clear h hR
  subst hv
  by_cases hbig : 1048576 < bs.length
  · go_enter Tryd.func7, Tryd.ntmps7
    go_wp2
    go_ret
    exact ⟨rfl, Below.refl _ _⟩
  · go_enter Tryd.func7, Tryd.ntmps7
    have B0 : Hid (Below w.heap.size w w) := Lib.hid (Below.refl _ _)
    go_wp2_with fail
    refine (draw_MemoryRun _ bs w H.out).mono ?_
    rintro e w_1 ⟨a, c, a', c', n, f, st, u, us, rfl, hmi, hus, hul, hn, hs, hb⟩
    obtain ⟨au, cu, rfl, -, -⟩ := hus.open
    have HUL := Lib.hid hul
    have HS := Lib.hid hs
    obtain ⟨m, hm0⟩ : ∃ m, st.length = m := ⟨_, rfl⟩
    rw [hm0] at hmi ⊢
    clear hul hn hs hm0 H
    have hx : Below w_1.heap.size w_1 (w_1.alloc (.cells #[.slice a n c, .slice a' m c'] 29)) := (Below.refl _ _).alloc (Nat.le_refl _) _
    have hbb := hb.trans (hx.mono hb.size)
    have B_2 := nxt B0 hbb
    have M_3 := Lib.hid (hmi.mono hx (Nat.le_refl _))
    have U_4 := Lib.hid (hus.mono hx (Nat.le_refl _))
    have ROW_5 : Hid (Row (w_1.alloc (.cells #[.slice a n c, .slice a' m c'] 29)) w_1.heap.size 29 [.slice a n c, .slice a' m c']) := Row.new w_1 29 [.slice a n c, .slice a' m c']
    obtain ⟨g_6, hg⟩ : ∃ g, w_1.heap.size = g := ⟨_, rfl⟩
    rw [hg] at ROW_5
    clear hx hb hbb hmi hus B0 
    go_wp2_with fail
    try rw [hg]
    generalize (w_1.alloc (.cells #[.slice a n c, .slice a' m c'] 29)) = W_7 at M_3 U_4 ROW_5 B_2  ⊢
    clear hg
    obtain ⟨r, hr⟩ : ∃ r, runL n f st us = r := ⟨_, rfl⟩
    have HRR := Lib.hid hr
    clear hr
    cases r with
    | none =>
      refine (impl_RunV M_3.out HS.out U_4.out (by have := HUL.out; omega)).mono ?_
      rw [HRR.out]
      rintro e w_8 ⟨a1, c1, a2, c2, rfl, hb⟩
      have hx : Below w_8.heap.size w_8 (w_8.alloc (.cells #[.slice none 0 0, .slice none 0 0] 29)) := (Below.refl _ _).alloc (Nat.le_refl _) _
      have hbb := hb.trans (hx.mono hb.size)
      have M_9 := Lib.hid (M_3.out.mono hbb (Nat.le_refl _))
      have U_10 := Lib.hid (U_4.out.mono hbb (Nat.le_refl _))
      have ROW_11 := Lib.hid (ROW_5.out.mono hbb ROW_5.out.lt)
      have B_12 := nxt B_2 hbb
      have X_13 : Hid (Row (w_8.alloc (.cells #[.slice none 0 0, .slice none 0 0] 29)) w_8.heap.size 29 [.slice none 0 0, .slice none 0 0]) := Row.new w_8 29 [.slice none 0 0, .slice none 0 0]
      obtain ⟨g_14, hg⟩ : ∃ g, w_8.heap.size = g := ⟨_, rfl⟩
      rw [hg] at X_13
      clear hx hb hbb  M_3 U_4 ROW_5 B_2 
      have k_15 := ROW_11.out.cell (i := 0) rfl
      have k_16 := ROW_11.out.cell (i := 1) rfl
      go_wp2_with fail
      try rw [hg]
      generalize (w_8.alloc (.cells #[.slice none 0 0, .slice none 0 0] 29)) = W_17 at M_9 U_10 ROW_11 X_13 B_12 k_15 k_16 ⊢
      clear hg k_15 k_16
      refine (spec_RunV M_9.out HS.out U_10.out (by have := HUL.out; omega)).mono ?_
      rw [HRR.out]
      rintro e w_18 ⟨a3, c3, a4, c4, rfl, hb⟩
      have hx : Below w_18.heap.size w_18 (w_18.alloc (.cells #[.slice none 0 0, .slice none 0 0] 29)) := (Below.refl _ _).alloc (Nat.le_refl _) _
      have hbb := hb.trans (hx.mono hb.size)
      have M_19 := Lib.hid (M_9.out.mono hbb (Nat.le_refl _))
      have U_20 := Lib.hid (U_10.out.mono hbb (Nat.le_refl _))
      have ROW_21 := Lib.hid (ROW_11.out.mono hbb ROW_11.out.lt)
      have X_22 := Lib.hid (X_13.out.mono hbb X_13.out.lt)
      have B_23 := nxt B_12 hbb
      have Y_24 : Hid (Row (w_18.alloc (.cells #[.slice none 0 0, .slice none 0 0] 29)) w_18.heap.size 29 [.slice none 0 0, .slice none 0 0]) := Row.new w_18 29 [.slice none 0 0, .slice none 0 0]
      obtain ⟨g_25, hg⟩ : ∃ g, w_18.heap.size = g := ⟨_, rfl⟩
      rw [hg] at Y_24
      clear hx hb hbb  M_9 U_10 ROW_11 X_13 B_12 
      have k_26 := X_22.out.cell (i := 0) rfl
      have k_27 := X_22.out.cell (i := 1) rfl
      go_wp2_with fail
      try rw [hg]
      generalize (w_18.alloc (.cells #[.slice none 0 0, .slice none 0 0] 29)) = W_28 at M_19 U_20 ROW_21 X_22 Y_24 B_23 k_26 k_27 ⊢
      clear hg k_26 k_27
      refine (sameMemory_same _ _ 0 (fun _ => []) [] _ (mem_none _ _ _ _ _) (mem_none _ _ _ _ _) (by omega)).mono ?_
      rintro e w_29 ⟨rfl, hb⟩
      have M_30 := Lib.hid (M_19.out.mono hb (Nat.le_refl _))
      have U_31 := Lib.hid (U_20.out.mono hb (Nat.le_refl _))
      have ROW_32 := Lib.hid (ROW_21.out.mono hb ROW_21.out.lt)
      have X_33 := Lib.hid (X_22.out.mono hb X_22.out.lt)
      have Y_34 := Lib.hid (Y_24.out.mono hb Y_24.out.lt)
      have B_35 := nxt B_23 hb
      clear hb  M_19 U_20 ROW_21 X_22 Y_24 B_23 
      go_wp2_with fail
      refine (sameInts_same _ _ [] _ (ints_none _ _ _) (ints_none _ _ _)).mono ?_
      rintro e w_36 ⟨rfl, hb⟩
      have M_37 := Lib.hid (M_30.out.mono hb (Nat.le_refl _))
      have U_38 := Lib.hid (U_31.out.mono hb (Nat.le_refl _))
      have ROW_39 := Lib.hid (ROW_32.out.mono hb ROW_32.out.lt)
      have X_40 := Lib.hid (X_33.out.mono hb X_33.out.lt)
      have Y_41 := Lib.hid (Y_34.out.mono hb Y_34.out.lt)
      have B_42 := nxt B_35 hb
      clear hb  M_30 U_31 ROW_32 X_33 Y_34 B_35 
      have HRA := Lib.hid (HR.out.mono B_42.out (Nat.le_refl _))
      go_wp2_with (go_at_call 13; refine (alive_any _ HRA.out).mono ?_; rintro e w' ⟨rfl, rfl⟩)
      go_ret
      exact ⟨rfl, B_42.out⟩
    | some r =>
      obtain ⟨h7, hro⟩ := run_some HRR.out
      subst h7
      obtain ⟨X, vals, ways⟩ := r
      have HRO : Hid (RunOk X) := hro
      obtain ⟨s, hs⟩ : ∃ s, (X 0).length = s := ⟨_, rfl⟩
      have HSX := Lib.hid hs
      clear hro hs
      refine (impl_RunV M_3.out HS.out U_4.out (by have := HUL.out; omega)).mono ?_
      rw [HRR.out]
      rintro e w_8 ⟨gb, cb, a3, c3, a1, c1, a2, c2, rfl, hx1, hx2, hx3, hb⟩
      clear hx3
      have hsx := HSX.out
      simp only at hsx hx1 hx2 ⊢
      rw [hsx] at hx1 ⊢
      clear hsx
      have hx : Below w_8.heap.size w_8 (w_8.alloc (.cells #[.slice (some ⟨gb, 0, none⟩) 7 cb, .slice a3 s c3] 29)) := (Below.refl _ _).alloc (Nat.le_refl _) _
      have hbb := hb.trans (hx.mono hb.size)
      have M_9 := Lib.hid (M_3.out.mono hbb (Nat.le_refl _))
      have U_10 := Lib.hid (U_4.out.mono hbb (Nat.le_refl _))
      have ROW_11 := Lib.hid (ROW_5.out.mono hbb ROW_5.out.lt)
      have B_12 := nxt B_2 hbb
      have MX_13 := Lib.hid (hx1.mono hx (Nat.le_refl _))
      have VX_14 := Lib.hid (hx2.mono hx (Nat.le_refl _))
      have X_15 : Hid (Row (w_8.alloc (.cells #[.slice (some ⟨gb, 0, none⟩) 7 cb, .slice a3 s c3] 29)) w_8.heap.size 29 [.slice (some ⟨gb, 0, none⟩) 7 cb, .slice a3 s c3]) := Row.new w_8 29 [.slice (some ⟨gb, 0, none⟩) 7 cb, .slice a3 s c3]
      obtain ⟨g_16, hg⟩ : ∃ g, w_8.heap.size = g := ⟨_, rfl⟩
      rw [hg] at X_15
      clear hx hb hbb hx1 hx2 M_3 U_4 ROW_5 B_2 
      have k_17 := ROW_11.out.cell (i := 0) rfl
      have k_18 := ROW_11.out.cell (i := 1) rfl
      go_wp2_with fail
      try rw [hg]
      generalize (w_8.alloc (.cells #[.slice (some ⟨gb, 0, none⟩) 7 cb, .slice a3 s c3] 29)) = W_19 at M_9 U_10 ROW_11 MX_13 VX_14 X_15 B_12 k_17 k_18 ⊢
      clear hg k_17 k_18
      refine (spec_RunV M_9.out HS.out U_10.out (by have := HUL.out; omega)).mono ?_
      rw [HRR.out]
      rintro e w_20 ⟨gb2, cb2, a4, c4, a5, c5, a6, c6, rfl, hy1, hy2, hy3, hb⟩
      clear hy3
      have hsx := HSX.out
      simp only at hsx hy1 hy2 ⊢
      rw [hsx] at hy1 ⊢
      clear hsx
      have hx : Below w_20.heap.size w_20 (w_20.alloc (.cells #[.slice (some ⟨gb2, 0, none⟩) 7 cb2, .slice a4 s c4] 29)) := (Below.refl _ _).alloc (Nat.le_refl _) _
      have hbb := hb.trans (hx.mono hb.size)
      have M_21 := Lib.hid (M_9.out.mono hbb (Nat.le_refl _))
      have U_22 := Lib.hid (U_10.out.mono hbb (Nat.le_refl _))
      have ROW_23 := Lib.hid (ROW_11.out.mono hbb ROW_11.out.lt)
      have MX_24 := Lib.hid (MX_13.out.mono hbb (Nat.le_refl _))
      have VX_25 := Lib.hid (VX_14.out.mono hbb (Nat.le_refl _))
      have X_26 := Lib.hid (X_15.out.mono hbb X_15.out.lt)
      have B_27 := nxt B_12 hbb
      have MY_28 := Lib.hid (hy1.mono hx (Nat.le_refl _))
      have VY_29 := Lib.hid (hy2.mono hx (Nat.le_refl _))
      have Y_30 : Hid (Row (w_20.alloc (.cells #[.slice (some ⟨gb2, 0, none⟩) 7 cb2, .slice a4 s c4] 29)) w_20.heap.size 29 [.slice (some ⟨gb2, 0, none⟩) 7 cb2, .slice a4 s c4]) := Row.new w_20 29 [.slice (some ⟨gb2, 0, none⟩) 7 cb2, .slice a4 s c4]
      obtain ⟨g_31, hg⟩ : ∃ g, w_20.heap.size = g := ⟨_, rfl⟩
      rw [hg] at Y_30
      clear hx hb hbb hy1 hy2 M_9 U_10 ROW_11 MX_13 VX_14 X_15 B_12 
      have k_32 := X_26.out.cell (i := 0) rfl
      have k_33 := X_26.out.cell (i := 1) rfl
      go_wp2_with fail
      try rw [hg]
      generalize (w_20.alloc (.cells #[.slice (some ⟨gb2, 0, none⟩) 7 cb2, .slice a4 s c4] 29)) = W_34 at M_21 U_22 ROW_23 MX_24 VX_25 X_26 MY_28 VY_29 Y_30 B_27 k_32 k_33 ⊢
      clear hg k_32 k_33
      refine (sameMemory_same _ _ 7 (fun i => X (i + 2)) (X 0) _ MX_24.out MY_28.out (by omega)).mono ?_
      rintro e w_35 ⟨rfl, hb⟩
      have M_36 := Lib.hid (M_21.out.mono hb (Nat.le_refl _))
      have U_37 := Lib.hid (U_22.out.mono hb (Nat.le_refl _))
      have ROW_38 := Lib.hid (ROW_23.out.mono hb ROW_23.out.lt)
      have MX_39 := Lib.hid (MX_24.out.mono hb (Nat.le_refl _))
      have VX_40 := Lib.hid (VX_25.out.mono hb (Nat.le_refl _))
      have X_41 := Lib.hid (X_26.out.mono hb X_26.out.lt)
      have MY_42 := Lib.hid (MY_28.out.mono hb (Nat.le_refl _))
      have VY_43 := Lib.hid (VY_29.out.mono hb (Nat.le_refl _))
      have Y_44 := Lib.hid (Y_30.out.mono hb Y_30.out.lt)
      have B_45 := nxt B_27 hb
      clear hb  M_21 U_22 ROW_23 MX_24 VX_25 X_26 MY_28 VY_29 Y_30 B_27 
      go_wp2_with fail
      refine (sameInts_same _ _ vals _ VX_40.out VY_43.out).mono ?_
      rintro e w_46 ⟨rfl, hb⟩
      have M_47 := Lib.hid (M_36.out.mono hb (Nat.le_refl _))
      have U_48 := Lib.hid (U_37.out.mono hb (Nat.le_refl _))
      have ROW_49 := Lib.hid (ROW_38.out.mono hb ROW_38.out.lt)
      have MX_50 := Lib.hid (MX_39.out.mono hb (Nat.le_refl _))
      have VX_51 := Lib.hid (VX_40.out.mono hb (Nat.le_refl _))
      have X_52 := Lib.hid (X_41.out.mono hb X_41.out.lt)
      have MY_53 := Lib.hid (MY_42.out.mono hb (Nat.le_refl _))
      have VY_54 := Lib.hid (VY_43.out.mono hb (Nat.le_refl _))
      have Y_55 := Lib.hid (Y_44.out.mono hb Y_44.out.lt)
      have B_56 := nxt B_45 hb
      clear hb  M_36 U_37 ROW_38 MX_39 VX_40 X_41 MY_42 VY_43 Y_44 B_45 
      have k_57 := X_52.out.cell (i := 0) rfl
      have k_58 := X_52.out.cell (i := 1) rfl
      clear Y_55
      clear MY_53
      clear VY_54
      clear VX_51
      clear ROW_49
      clear M_47
      clear U_48
      have hm7 := many_all HRO.out
      have hs8 : s ≤ 8 := by rw [← HSX.out]; exact many_le HRO.out 0 (by omega)
      have hd8 : decide ((s : Int) ≤ 8) = true := decide_eq_true (by omega)
      have HM7 := Lib.hid hm7
      clear hm7
      go_wp2
      go_loop [13, 14] (fun u i => ∃ k : Nat, k ≤ 7 ∧ i = .int .i64 k ∧ u = .int .i64 (many X k : Nat)) (fun u i => 7 - (intOf i).toNat)
      case atStart => exact ⟨0, by omega, rfl, by rw [many, HSX.out]⟩
      case round =>
        obtain ⟨k, hk, rfl, rfl⟩ := hrel
        by_cases hlt : k < 7
        · have hml := many_le HRO.out (k + 1) hlt
          obtain ⟨ab, cb3, hcb⟩ := MX_50.out.bucket hlt
          have hsu : many X (k + 1) = many X k + (X (k + 2)).length := rfl
          obtain ⟨lk, hlk⟩ : ∃ lk, (X (k + 2)).length = lk := ⟨_, rfl⟩
          obtain ⟨mk, hmk⟩ : ∃ mk, many X k = mk := ⟨_, rfl⟩
          rw [hlk] at hcb
          rw [hmk, hlk] at hsu
          rw [hmk]
          have hb1 : mk ≤ 8 := by omega
          have hb2 : lk ≤ 8 := by omega
          have HSU := Lib.hid hsu
          clear hlk hmk hsu hml
          go_wp2
          go_round
          case rel => exact ⟨k + 1, hlt, by go_num, by rw [HSU.out]; go_num⟩
          case measure => simp [intOf]; omega
        · obtain rfl : k = 7 := by omega
          rw [HM7.out]
          go_wp2_with fail
          refine (impl_MemoryValid _ 7 _ _ _ MX_50.out (small_valid HRO.out.valid)).mono ?_
          rw [validB_iff.2 HRO.out.valid]
          rintro e w9 ⟨rfl, hb⟩
          have HX9 := Lib.hid (X_52.out.mono hb X_52.out.lt)
          have B9 := nxt B_56 hb
          clear hb k_57 k_58
          have y0 := HX9.out.cell (i := 0) rfl
          have y1 := HX9.out.cell (i := 1) rfl
          go_wp2
          go_ret
          exact ⟨rfl, B9.out⟩
theorem walk_FnMemoryStash (w : World) (v : Value) (bs : List Int) (h : View w 1 v bs.length (bs.map (Value.int .u8)) ∧ ∀ b ∈ bs, 0 ≤ b ∧ b ≤ 255) (hR : Resv w) :
    Calls Tryd.prog 7 #[v] w fun e w' => e = .returned (.bool true) ∧ Below w.heap.size w w' := walk0_FnMemoryStash w v bs h hR
end Go.Proofs.YtbnplohlfiefhaaDoor
