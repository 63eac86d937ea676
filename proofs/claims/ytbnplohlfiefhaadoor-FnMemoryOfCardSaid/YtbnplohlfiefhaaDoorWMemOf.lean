/- the walk of FnMemoryOf -/
import Derived.Test.YtbnplohlfiefhaaDoorMemoT
import Derived.Test.YtbnplohlfiefhaaDoorRegC
import Derived.Test.YtbnplohlfiefhaaDoorMemODraw
import Derived.Test.YtbnplohlfiefhaaDoorName
namespace Go.Proofs.YtbnplohlfiefhaaDoor
open Go.RowKit
theorem memOk_valid {xs ys : List Int} (h : memOk xs ys = true) : xs.length = 8 ∧ ys.length = 8 ∧ validB 7 (fun _ => []) (memB xs ys 8) = true := by
  unfold memOk at h
  rw [Bool.and_eq_true, Bool.and_eq_true, decide_eq_true_eq, decide_eq_true_eq] at h
  exact ⟨h.1.1, h.1.2, h.2⟩
theorem memB_at {xs ys : List Int} (h : memOk xs ys = true) {k : Nat} (hk : k < 8) : blkAt (allM 7 (fun _ => []) (memB xs ys 8)) (k : Int) = ((k : Int), xs[k]?.getD 0, ys[k]?.getD 0) :=
  blkAt_of (validB_iff.1 (memOk_valid h).2.2).nodup (allM_mem.2 (.inl (List.mem_map.2 ⟨k, List.mem_range.2 hk, rfl⟩))) rfl
theorem inB_in {k : Nat} (hk : k < 8) : inB (k : Int) 0 7 = true := by rw [inB_iff]; omega
set_option maxRecDepth 20000 in
set_option maxHeartbeats 2000000 in
theorem walk0_FnMemoryOf (w : World) (v : Value) (bs : List Int) (h : Bts w v bs) (hR : Resv w) :
    Calls Tryd.prog 3 #[v] w fun e w' => LawOk w e w' := by
  obtain ⟨ad, c, hv, hm⟩ := bts_lit h
  have H := Lib.hid h
  have HR := Lib.hid hR
  clear h hR
  subst hv
  by_cases hbig : 1048576 < bs.length
  · go_enter Tryd.func3, Tryd.ntmps3
    go_wp2
    go_ret
    exact ⟨rfl, Below.refl _ _⟩
  · go_enter Tryd.func3, Tryd.ntmps3
    go_wp2_with fail
    refine (draw_MemoryOf _ bs w H.out).mono ?_
    rintro e w1 ⟨u, v2, xs, ys, rfl, hX, hY, hxl, hyl, hb⟩
    have B1 := nxt (Lib.hid (Below.refl _ _)) hb
    have HX1 := Lib.hid hX
    have HY1 := Lib.hid hY
    have HXL := Lib.hid hxl
    have HYL := Lib.hid hyl
    obtain ⟨au, cu, hu, _, _⟩ := hX.open
    obtain ⟨av, cv, hv, _, _⟩ := hY.open
    subst hu hv
    clear hX hY hxl hyl hb H
    go_wp2_with fail
    refine (impl_MemoryOf _ _ xs ys w1 HX1.out HY1.out).mono ?_
    rintro e w2 ⟨mv, rfl, hmo, hb⟩
    obtain ⟨bv, vs, rfl, hbv, hfam⟩ := hmo
    obtain ⟨a1, c1, hv1⟩ := hbv.lit
    obtain ⟨a0, c0, hv0⟩ := (hfam 0 (by omega)).1.lit
    obtain ⟨N, hN⟩ : ∃ N, (if memOk xs ys then (7 : Nat) else 0) = N := ⟨_, rfl⟩
    obtain ⟨LS, hLS⟩ : ∃ LS, (if memOk xs ys then memLs xs ys 8 else fun _ => []) = LS := ⟨_, rfl⟩
    have HMI : Hid (MemIn w2 (.agg #[.slice a1 N c1, .slice a0 (LS 0).length c0]) N (fun i => LS (i + 2)) (LS 0)) := by
      have := (show MO w2 w1.heap.size (.agg #[bv, vs 0]) _ _ from ⟨bv, vs, rfl, hbv, hfam⟩).view
      rw [hv1, hv0, hN, hLS] at this
      exact this
    rw [hv1, hv0, hN, hLS]
    have HN := Lib.hid hN
    have HLS := Lib.hid hLS
    have B2 := nxt B1 hb
    have HX2 := Lib.hid (HX1.out.mono hb (Nat.le_refl _))
    have HY2 := Lib.hid (HY1.out.mono hb (Nat.le_refl _))
    clear hb hbv hfam hv1 hv0 B1 HX1 HY1 hN hLS
    have hn16 : N ≤ 16 := by rw [← HN.out]; split <;> omega
    have HN16 := Lib.hid hn16
    have hba : Below w2.heap.size w2 (w2.alloc (.cells #[.slice a1 N c1, .slice a0 (LS 0).length c0] 29)) := (Below.refl _ _).alloc (Nat.le_refl _) _
    have HROW : Hid (Row (w2.alloc (.cells #[.slice a1 N c1, .slice a0 (LS 0).length c0] 29)) w2.heap.size 29 [.slice a1 N c1, .slice a0 (LS 0).length c0]) := Row.new w2 29 [.slice a1 N c1, .slice a0 (LS 0).length c0]
    have HX3 := Lib.hid (HX2.out.mono hba (Nat.le_refl _))
    have HY3 := Lib.hid (HY2.out.mono hba (Nat.le_refl _))
    have HM3 := Lib.hid (HMI.out.mono hba (Nat.le_refl _))
    have B3 := nxt B2 hba
    have hgx : ∃ gx, w2.heap.size = gx := ⟨_, rfl⟩
    go_wp2_with fail
    obtain ⟨gx, hgx⟩ := hgx
    rw [hgx] at HROW ⊢
    generalize (w2.alloc (.cells #[.slice a1 N c1, .slice a0 (LS 0).length c0] 29)) = W at HROW HX3 HY3 HM3 B3 ⊢
    have k0 := HROW.out.cell (i := 0) rfl
    have k1 := HROW.out.cell (i := 1) rfl
    clear hgx HMI HX2 HY2 hba B2 hn16
    go_region_law (first
      | (go_simp
         go_at_call 12
         refine (spec_MemoryOf _ _ xs ys _ (HX3.out.mono (Below.refl W.heap.size W).drew (Nat.le_refl _)) (HY3.out.mono (Below.refl W.heap.size W).drew (Nat.le_refl _)) (by have := HXL.out; omega)).mono ?_
         rw [HN.out, HLS.out]
         rintro e w4 ⟨mv, rfl, hmo, hb⟩
         have hb4 : Below W.heap.size W w4 := (Below.refl W.heap.size W).drew.trans hb
         obtain ⟨bv, vs, rfl, hbv, hfam⟩ := hmo
         obtain ⟨a2, c2, hv2⟩ := hbv.lit
         obtain ⟨a3, c3, hv3⟩ := (hfam 0 (by omega)).1.lit
         have HV4 : Hid (MemIn w4 (.agg #[.slice a2 N c2, .slice a3 (LS 0).length c3]) N (fun i => LS (i + 2)) (LS 0)) := by
           have := (show MO w4 W.heap.size (.agg #[bv, vs 0]) _ _ from ⟨bv, vs, rfl, hbv, hfam⟩).view
           rw [hv2, hv3] at this
           exact this
         rw [hv2, hv3]
         have HROW4 := Lib.hid (HROW.out.mono hb4 HROW.out.lt)
         have HX4 := Lib.hid (HX3.out.mono hb4 (Nat.le_refl _))
         have HY4 := Lib.hid (HY3.out.mono hb4 (Nat.le_refl _))
         have HM4 := Lib.hid (HM3.out.mono hb4 (Nat.le_refl _))
         have B4 := nxt B3 hb4
         have q0 := HROW4.out.cell (i := 0) rfl
         have q1 := HROW4.out.cell (i := 1) rfl
         clear hb hb4 hbv hfam hv2 hv3)
      | (go_simp
         go_at_call 11
         refine (sameMemory_same _ _ N _ _ _ HM4.out HV4.out HN16.out).mono ?_
         rintro e w5 ⟨rfl, hb5⟩))
    all_goals
      have HROW5 := Lib.hid (HROW4.out.mono hb5 HROW4.out.lt)
      have HX5 := Lib.hid (HX4.out.mono hb5 (Nat.le_refl _))
      have HY5 := Lib.hid (HY4.out.mono hb5 (Nat.le_refl _))
      have HM5 := Lib.hid (HM4.out.mono hb5 (Nat.le_refl _))
      have B5 := nxt B4 hb5
      clear hb5 k0 k1 q0 q1 HROW4 HX4 HY4 HM4 HV4 B4 HROW HX3 HY3 HM3 B3
      have k0 := HROW5.out.cell (i := 0) rfl
      have k1 := HROW5.out.cell (i := 1) rfl
      cases hok : memOk xs ys with
      | false =>
        obtain rfl : N = 0 := by rw [← HN.out, hok]; rfl
        have hl0 : (LS 0).length = 0 := by rw [← HLS.out, hok]; rfl
        rw [hl0] at k1
        have HR5 := Lib.hid (HR.out.mono B5.out (Nat.le_refl _))
        clear hl0 hok
        go_wp2_with (go_at_call 13; refine (alive_any _ HR5.out).mono ?_; rintro e w' ⟨rfl, rfl⟩)
        go_ret
        exact ⟨rfl, B5.out⟩
      | true =>
        obtain ⟨hx8, hy8, hval⟩ := memOk_valid hok
        have HOK := Lib.hid hok
        obtain rfl : N = 7 := by rw [← HN.out, hok]; rfl
        have hls : LS = memLs xs ys 8 := by rw [← HLS.out, hok]; rfl
        have hl0 : LS 0 = memB xs ys 8 := by rw [hls]; exact upd_same _ _ _
        have hli : (fun i => LS (i + 2)) = fun _ => [] := by rw [hls]; funext i; exact upd_other _ _ (by omega)
        have HM6 := HM5.out
        rw [hl0, hli, memB_len] at HM6
        have HM6 := Lib.hid HM6
        rw [hl0, memB_len] at k1
        have HROW6 := HROW5.out
        rw [hl0, memB_len] at HROW6
        have HROW6 := Lib.hid HROW6
        have HSM := Lib.hid (memLs_small xs ys (k := 8) (by omega))
        have HVAL := Lib.hid hval
        obtain ⟨ST, hst⟩ : ∃ ST, memB xs ys 8 = ST := ⟨_, rfl⟩
        have HAT : Hid (∀ k : Nat, k < 8 → blkAt (allM 7 (fun _ => []) ST) (k : Int) = ((k : Int), xs[k]?.getD 0, ys[k]?.getD 0)) := fun k hk => by rw [← hst]; exact memB_at hok hk
        rw [hst] at HM6 HSM HVAL
        obtain ⟨ax, cx2, hu, _, hopx⟩ := HX5.out.open
        cases hu
        obtain ⟨ay, cy2, hu, _, hopy⟩ := HY5.out.open
        cases hu
        have HOPX := Lib.hid hopx
        have HOPY := Lib.hid hopy
        have HL8 := Lib.hid (And.intro hx8 hy8)
        clear hval hok hls hl0 hli hst hopx hopy HX5 HY5 HM5 HN HLS HN16 HROW5 HXL HYL
        rw [hx8, hy8]
        clear hx8 hy8
        go_wp2
        clear k0 k1
        go_loopg [6] 8 (fun gg i wr => ∃ k : Nat, k ≤ 8 ∧ 8 - k ≤ gg ∧ i = .int .i64 k ∧ Hid (Below w5.heap.size w5 wr))
        case atStart => exact ⟨0, by omega, Nat.le_refl _, rfl, Below.refl _ _⟩
        case round =>
          obtain ⟨k, hk, hgg, rfl, hB⟩ := hrel
          have HRO := Lib.hid (HROW6.out.mono hB.out HROW6.out.lt)
          have HM := Lib.hid (HM6.out.mono hB.out (Nat.le_refl _))
          have k0 := HRO.out.cell (i := 0) rfl
          have k1 := HRO.out.cell (i := 1) rfl
          by_cases hlt : k < 8
          · have HLT := Lib.hid hlt
            obtain ⟨b, off, rfl, hcell⟩ := HOPX.out k (by rw [HL8.out.1]; exact hlt)
            obtain ⟨b2, off2, rfl, hcell2⟩ := HOPY.out k (by rw [HL8.out.2]; exact hlt)
            have cx1 := hcell k (by rw [HL8.out.1]; exact hlt)
            have cy1 := hcell2 k (by rw [HL8.out.2]; exact hlt)
            unfold iv at cx1 cy1
            have hat := HAT.out k hlt
            obtain ⟨x, hx⟩ : ∃ x, xs[k]?.getD 0 = x := ⟨_, rfl⟩
            obtain ⟨y, hy⟩ : ∃ y, ys[k]?.getD 0 = y := ⟨_, rfl⟩
            rw [hx, hy] at hat
            rw [hx] at cx1
            rw [hy] at cy1
            have HA := Lib.hid hat
            have CX := Lib.hid cx1
            have CY := Lib.hid cy1
            have HUO : Hid (useOk 7 (fun _ => []) ST (k : Int) 0 1 = true) := by unfold Hid useOk; rw [HVAL.out, inB_in hlt]; rfl
            have HLV : Hid (leafV 7 (fun _ => []) ST (k : Int) = y) := by unfold Hid leafV; rw [HVAL.out, inB_in hlt, hat]; rfl
            clear hcell hcell2 hx hy hat cx1 cy1
            go_wp2_with fail
            refine (impl_Use (t := false) HM.out HSM.out HUO.out).mono ?_
            rw [HA.out]
            rintro e w6 ⟨mv, pv, rfl, hmo, hpv, hb⟩
            obtain ⟨bv, vs, rfl, hbv, hfam⟩ := hmo
            obtain ⟨a4, c4, hv4⟩ := hbv.lit
            obtain ⟨a6, c6, hv6⟩ := (hfam 0 (by omega)).1.lit
            rw [hv4, hv6]
            have hB6 : Below w5.heap.size w5 w6 := hB.out.trans (hb.mono hB.out.size)
            have HB6 := Lib.hid hB6
            clear hbv hfam hv4 hv6 hpv hb k0 k1 HRO HM hB
            obtain ⟨m6, hm6⟩ : ∃ m, (useLs (lsOf (fun _ => []) ST) ((k : Int), x, y).2.2 (k : Int) false 0 1 0).length = m := ⟨_, rfl⟩
            have hB7 : Below w5.heap.size w5 (w6.alloc (.cells #[.slice a4 7 c4, .slice a6 m6 c6] 29)) := hB6.alloc hB6.size _
            rw [hm6]
            clear hB6 hm6
            go_wp2
            generalize (w6.alloc (.cells #[.slice a4 7 c4, .slice a6 m6 c6] 29)) = W7 at hB7 ⊢
            have HB7 := Lib.hid hB7
            have HRO := Lib.hid (HROW6.out.mono hB7 HROW6.out.lt)
            have HJ0 : Hid (∀ w', Below w5.heap.size w5 w' → w'.cell? ⟨gx, 0, none⟩ = some (.slice a1 7 c1) ∧ w'.cell? ⟨gx, 1, none⟩ = some (.slice a0 8 c0)) := fun w' hb => ⟨(HROW6.out.mono hb HROW6.out.lt).cell (i := 0) rfl, (HROW6.out.mono hb HROW6.out.lt).cell (i := 1) rfl⟩
            have HJX : Hid (∀ w', Below w5.heap.size w5 w' → w'.cell? ⟨b, off + k, none⟩ = some (.int .i64 x)) := fun w' hb => (hb.cell (p := ⟨b, off + k, none⟩) (World.block_lt_of_cell? w5 _ CX.out)).trans CX.out
            have HJY : Hid (∀ w', Below w5.heap.size w5 w' → w'.cell? ⟨b2, off2 + k, none⟩ = some (.int .i64 y)) := fun w' hb => (hb.cell (p := ⟨b2, off2 + k, none⟩) (World.block_lt_of_cell? w5 _ CY.out)).trans CY.out
            clear hB7 hlt HRO
            refine region_const (l := [(59, .bool true), (60, .bool false), (61, .bool false), (62, .int .i64 x), (63, .slice (some ⟨b, off, none⟩) 8 cu), (64, .int .i64 k), (65, .pointer (some ⟨b, off + k, none⟩)), (66, .int .i64 x), (67, .bool false), (68, .bool false), (69, .bool false), (70, .agg #[.slice a1 7 c1, .slice a0 8 c0]), (71, .int .i64 k), (72, .int .i64 y), (73, .slice (some ⟨b2, off2, none⟩) 8 cv), (74, .int .i64 k), (75, .pointer (some ⟨b2, off2 + k, none⟩)), (76, .int .i64 y), (77, .bool false), (78, .bool false)]) (J := fun w' => Below w5.heap.size w5 w') 81 rfl HB7.out.drew (by kernel_rfl) (by kernel_rfl) (by kernel_rfl) rfl (by kernel_rfl) ⟨?_, ?_, ?_, ?_, ?_, ?_, ?_, ?_, ?_, ?_, ?_, ?_, ?_, ?_, ?_, ?_, ?_, ?_, ?_, ?_, trivial⟩ ?_
            · exact cv_fresh (.inl rfl) (.inl rfl) (by kernel_rfl) rfl
            · exact cv_not (j := 0) (.inl rfl) rfl rfl rfl (by kernel_rfl) rfl rfl
            · exact cv_same (j := 1) (.inl rfl) (.inl rfl) rfl rfl (by kernel_rfl) rfl
            · exact cv_fresh (met_some (j := 2) rfl rfl rfl (by kernel_rfl) rfl) (.inl rfl) (by kernel_rfl) rfl
            · exact cv_fresh (met_some (j := 2) rfl rfl rfl (by kernel_rfl) rfl) (.inl rfl) (by kernel_rfl) rfl
            · exact cv_fresh (met_some (j := 2) rfl rfl rfl (by kernel_rfl) rfl) (.inl rfl) (by kernel_rfl) rfl
            · exact cv_indexI (j := 4) (j' := 5) (met_some (j := 2) rfl rfl rfl (by kernel_rfl) rfl) rfl rfl rfl (by kernel_rfl) rfl rfl (by kernel_rfl) rfl rfl HLT.out rfl
            · exact cv_load (j := 6) (.inr (.inr (.inl rfl))) (met_some (j := 2) rfl rfl rfl (by kernel_rfl) rfl) rfl rfl rfl (by kernel_rfl) rfl HJX.out
            · exact cv_neq (j := 3) (j' := 7) (met_some (j := 2) rfl rfl rfl (by kernel_rfl) rfl) rfl rfl rfl (by kernel_rfl) rfl rfl (by kernel_rfl) rfl rfl (by simp) rfl
            · exact cv_pickR (j := 2) (j' := 8) (.inl rfl) rfl rfl rfl (by kernel_rfl) rfl rfl (by kernel_rfl) rfl rfl
            · exact cv_same (j := 9) (.inl rfl) (.inl rfl) rfl rfl (by kernel_rfl) rfl
            · exact cv_loadM (met_some (j := 10) rfl rfl rfl (by kernel_rfl) rfl) rfl (by kernel_rfl) rfl HJ0.out rfl
            · exact cv_fresh (met_some (j := 10) rfl rfl rfl (by kernel_rfl) rfl) (.inl rfl) (by kernel_rfl) rfl
            · exact cv_leaf (j := 11) (j' := 12) (met_some (j := 10) rfl rfl rfl (by kernel_rfl) rfl) rfl rfl rfl (by kernel_rfl) rfl rfl (by kernel_rfl) fun w' hb => (impl_LeafOf _ 7 _ _ _ w' (HM6.out.mono hb (Nat.le_refl _)) HSM.out).mono fun e w8 ⟨he, hb8⟩ => ⟨by rw [he, HLV.out]; rfl, hb.trans (hb8.mono hb.size)⟩
            · exact cv_fresh (met_some (j := 10) rfl rfl rfl (by kernel_rfl) rfl) (.inl rfl) (by kernel_rfl) rfl
            · exact cv_fresh (met_some (j := 10) rfl rfl rfl (by kernel_rfl) rfl) (.inl rfl) (by kernel_rfl) rfl
            · exact cv_indexI (j := 14) (j' := 15) (met_some (j := 10) rfl rfl rfl (by kernel_rfl) rfl) rfl rfl rfl (by kernel_rfl) rfl rfl (by kernel_rfl) rfl rfl HLT.out rfl
            · exact cv_load (j := 16) (.inr (.inr (.inl rfl))) (met_some (j := 10) rfl rfl rfl (by kernel_rfl) rfl) rfl rfl rfl (by kernel_rfl) rfl HJY.out
            · exact cv_neq (j := 13) (j' := 17) (met_some (j := 10) rfl rfl rfl (by kernel_rfl) rfl) rfl rfl rfl (by kernel_rfl) rfl rfl (by kernel_rfl) rfl rfl (by simp) rfl
            · exact cv_pickR (j := 10) (j' := 18) (.inl rfl) rfl rfl rfl (by kernel_rfl) rfl rfl (by kernel_rfl) rfl rfl
            intro w8 hb8
            have HB8 := Lib.hid hb8
            clear hb8
            simp only [putL, List.foldl_cons, List.foldl_nil]
            go_simp
            go_wp2_with fail
            go_roundg (8 - (k + 1))
            case rel => exact ⟨k + 1, HLT.out, Nat.le_refl _, by go_num, HB8.out⟩
            case measure => have := HLT.out; omega
          · obtain rfl : k = 8 := by omega
            go_wp2_with fail
            refine (impl_MemoryValid _ 7 _ _ _ HM.out HSM.out).mono ?_
            rw [HVAL.out]
            rintro e w6 ⟨rfl, hb⟩
            go_wp2
            go_ret
            exact ⟨rfl, B5.out.trans ((hB.out.trans (hb.mono hB.out.size)).mono B5.out.size)⟩
theorem walk_FnMemoryOf (w : World) (v : Value) (bs : List Int) (h : View w 1 v bs.length (bs.map (Value.int .u8)) ∧ ∀ b ∈ bs, 0 ≤ b ∧ b ≤ 255) (hR : Resv w) :
    Calls Tryd.prog 3 #[v] w fun e w' => e = .returned (.bool true) ∧ Below w.heap.size w w' := walk0_FnMemoryOf w v bs h hR
end Go.Proofs.YtbnplohlfiefhaaDoor
