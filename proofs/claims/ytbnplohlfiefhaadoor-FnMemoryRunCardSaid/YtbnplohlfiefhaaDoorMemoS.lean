/- contract of the reference's MemoryValid -/
import Derived.Test.YtbnplohlfiefhaaDoorMemoP
import Derived.StillTailTactics
namespace Go.Proofs.YtbnplohlfiefhaaDoor
open Go.RowKit
/-- how often an address is among the first k blocks -/
def cntF (L : List (Int × Int × Int)) (k : Nat) (a : Nat) : Value := .int .i64 (((adrs (L.take k)).count (a : Int) : Nat) : Int)
theorem cnt_step {L : List (Int × Int × Int)} {k a c : Nat} (hk : k < L.length) (ha : (bat L k).1 = (a : Int)) (hc : (adrs (L.take k)).count (a : Int) = c) : (tab 8 (cntF L k)).set a (.int .i64 ((c : Int) + 1)) = tab 8 (cntF L (k + 1)) := by
  rw [tab_set]
  refine tab_congr fun i _ => ?_
  unfold cntF
  rw [adrs_take hk, List.count_append, ha]
  by_cases e : i = a
  · subst e; rw [if_pos rfl, hc]; simp
  · rw [if_neg e, List.count_singleton, if_neg (by simp; omega)]; simp
theorem cnt_zero (L : List (Int × Int × Int)) : tab 8 (fun _ => Value.int .i64 0) = tab 8 (cntF L 0) := tab_congr fun i _ => by simp [cntF, adrs]
theorem valid_counts {n f st} : ValidM n f st ↔ n = 7 ∧ (∀ b ∈ allM n f st, blkOk b = true) ∧ (∀ k : Nat, k < 8 → (adrs (allM n f st)).count (k : Int) = 1) ∧ ∀ i, i < n → (f i).length ≤ 2 ∧ ∀ b ∈ f i, onB i b.2.2 = true := by
  have hr : (∀ b ∈ allM n f st, blkOk b = true) → ∀ x ∈ adrs (allM n f st), 0 ≤ x ∧ x ≤ 7 := fun h x hx => by
    obtain ⟨b, hb, rfl⟩ := List.mem_map.1 hx
    exact (blkOk_iff.1 (h b hb)).1
  constructor
  · intro h
    exact ⟨h.seven, h.ok, (once_iff _ (hr h.ok)).2 ⟨h.nodup, by rw [adrs_length]; exact h.eight⟩, h.fits⟩
  · rintro ⟨h1, h2, h3, h4⟩
    have := (once_iff _ (hr h2)).1 h3
    exact ⟨h1, h2, this.1, by rw [← adrs_length]; exact this.2, h4⟩
theorem bat_of_mem {L : List (Int × Int × Int)} {b : Int × Int × Int} (h : b ∈ L) : ∃ i, i < L.length ∧ bat L i = b := by
  obtain ⟨i, hi, rfl⟩ := List.getElem_of_mem h
  exact ⟨i, hi, by unfold bat; rw [List.getElem?_eq_getElem hi]; rfl⟩
set_option maxRecDepth 20000 in
set_option maxHeartbeats 2000000 in
theorem spec_MemoryValid (v : Value) (n : Nat) (f : Nat → List (Int × Int × Int)) (st : List (Int × Int × Int)) (w : World) (h : MemIn w v n f st) (hs : Small n f st) :
    Calls Tryd.prog 30 #[v] w fun e w' => e = .returned (.bool (validB n f st)) ∧ Below w.heap.size w w' := by
  obtain ⟨i0, hi, hz0, hz1, hz2⟩ := info_parts Tryd.infoInt
  obtain ⟨bs, sv, rfl, h1, h2⟩ := h
  obtain ⟨ad, c, rfl, hmx, hop⟩ := h1.open
  obtain ⟨ads, cs2, hsv, _, _⟩ := h2.open
  subst hsv
  unfold maxLen at hmx
  have HSM := Lib.hid hs
  have HOP := Lib.hid hop
  have H2 := Lib.hid h2
  have hn16 := hs.1
  have hst := hs.2.1
  clear h1 h2 hs hop
  have HB1 : Hid (Below w.heap.size w (w.alloc (.cells #[.slice ad n c, .slice ads st.length cs2] 29))) := (Below.refl _ _).alloc (Nat.le_refl _) _
  have HR1 : Hid (Row (w.alloc (.cells #[.slice ad n c, .slice ads st.length cs2] 29)) w.heap.size 29 [.slice ad n c, .slice ads st.length cs2]) := Row.new w 29 [.slice ad n c, .slice ads st.length cs2]
  go_enter Tryd.func30, Tryd.ntmps30
  go_wp2_with (at_make; refine wpList_make_full _ rfl _ _ 23 rfl (w.heap.size + 1) 3 i0 (.int .i64 0) 1 Tryd.underlying23 hi hz0 hz1 _ _ _ _ 8 rfl rfl rfl rfl ?b2 ?b3 ?b4 ?_)
  case b2 => rw [hz2]; omega
  case b3 => unfold maxLen; omega
  case b4 => simp
  · intro w2 hown hgrow
    have hrow := (row_of_own hown).1
    have hgB := (row_of_own hown).2
    rw [made_tab] at hrow
    have HROW := Lib.hid hrow
    have HB2 : Hid (Below w.heap.size w w2) := HB1.out.grown hgrow HB1.out.size (by simp)
    have HR2 : Hid (Row w2 w.heap.size 29 [.slice ad n c, .slice ads st.length cs2]) := HR1.out.grown hgrow (by simp)
    have hw2 : w.heap.size + 1 < w2.heap.size := hrow.lt
    clear hown hgrow hrow hgB HR1 HB1 hz0 hz1 hz2 hi
    have k0 := HR2.out.cell (i := 0) rfl
    have k1 := (HR2.out.alloc (.cells #[] 56)).cell (i := 1) rfl
    go_wp2_with (at_builtin; refine wpList_app _ rfl (.tmp 11) (.tmp 13) 27 rfl w2.heap.size 56 (.agg #[.int .i64 0, .int .i64 0, .int .i64 0]) 3 24 Tryd.underlying27 Tryd.infoBlk rfl (by omega) (.slice (some ⟨w2.heap.size, 0, none⟩) 0 0) 0 [] rfl (Gr.none0 _ _ _ _ _) _ st.length (blks st) rfl ((H2.out.mono HB2.out (Nat.le_refl _)).mono ((Below.refl w2.heap.size w2).alloc (Nat.le_refl _) _) (Nat.le_refl _)) (one_blks _) (by unfold maxLen; omega) (by omega) (by simp) ?_; intro v1 w3 g1 r1 k1'; have G1 : Hid (Gr w3 w2.heap.size 56 3 v1 st.length (blks st)) := (by simpa [Hid] using g1); have B3 : Hid (Below w2.heap.size w2 w3) := ((Below.refl _ _).alloc (Nat.le_refl _) _).grown r1 (by simp) (fun g hg => by simp [gBlock] at hg); have HR3 : Hid (Row w3 w.heap.size 29 [.slice ad n c, .slice ads st.length cs2]) := HR2.out.mono B3.out (by omega); clear g1 r1 k1')
    clear k0 k1
    have hszA := B3.out.size
    go_loopw [4, 5] (fun u i wr => ∃ k : Nat, k ≤ n ∧ i = .int .i64 k ∧ Hid (∀ i, i < k → (f i).length ≤ 2 ∧ ∀ b ∈ f i, onB i b.2.2 = true) ∧ Hid (Gr wr w2.heap.size 56 3 u (allM k f st).length (blks (allM k f st))) ∧ Hid (Below w2.heap.size w2 wr)) (fun _ i _ => n - (intOf i).toNat)
    case atStart => exact ⟨0, Nat.zero_le _, rfl, (fun i hi => by omega), by rw [allM_zero]; exact G1.out, B3.out⟩
    case round =>
      obtain ⟨k, hk, rfl, hF, hG, hB⟩ := hrel
      have hsz := hB.out.size
      have HRr : Hid (Row wr w.heap.size 29 [.slice ad n c, .slice ads st.length cs2]) := HR2.out.mono hB.out (by omega)
      have k0 := HRr.out.cell (i := 0) rfl
      have hBt : Hid (Below w.heap.size w wr) := HB2.out.trans (hB.out.mono (by omega))
      by_cases hlt : k < n
      · obtain ⟨b, off, rfl, hcell⟩ := HOP.out k hlt
        obtain ⟨a3, c3, hc3, hv3⟩ := hcell k hlt
        have hbw := World.block_lt_of_cell? w _ hc3
        have HG3 : Hid (∀ W, Below w.heap.size w W → W.cell? ⟨b, off + k, none⟩ = some (.slice a3 (f k).length c3)) := fun W hW => (hW.cell (p := ⟨b, off + k, none⟩) hbw).trans hc3
        have V3 := Lib.hid hv3
        have hfl := HSM.out.2.2 k hlt
        have HBF : Hid ((∃ b ∈ f k, onB (k : Int) b.2.2 = false) → validB n f st = false) := fun ⟨b, hb1, hb2⟩ => validB_not fun q => by
          have := (q.fits k hlt).2 b hb1
          rw [this] at hb2; cases hb2
        have HLF : Hid (¬ (f k).length ≤ 2 → validB n f st = false) := fun hb => validB_not fun q => hb (q.fits k hlt).1
        obtain ⟨m, hm⟩ : ∃ m, (f k).length = m := ⟨_, rfl⟩
        rw [hm] at HG3 hfl HLF V3
        have HMM := Lib.hid hm
        have g3 := HG3.out wr hBt.out
        clear hcell hc3 hv3 hm hbw
        go_wp2
        have hszo := hB.out.size
        generalize wr = wo at hBt hG hB HRr hszo ⊢
        clear k0 g3 hsz
        go_loopw [6] (fun i wr => ∃ j : Nat, j ≤ m ∧ i = .int .i64 j ∧ Hid (∀ b ∈ (f k).take j, onB (k : Int) b.2.2 = true) ∧ Hid (Below wo.heap.size wo wr)) (fun i _ => m - (intOf i).toNat)
        case atStart => exact ⟨0, Nat.zero_le _, rfl, (fun b hb => by simp at hb), Below.refl _ _⟩
        case round =>
          obtain ⟨j, hj, rfl, hN, hBi⟩ := hrel
          have hBti : Hid (Below w.heap.size w wr) := hBt.out.trans (hBi.out.mono hBt.out.size)
          have k0 := (HRr.out.mono hBi.out HRr.out.lt).cell (i := 0) rfl
          have g3 := HG3.out wr hBti.out
          have hszi := hBi.out.size
          by_cases hjl : j < m
          · obtain ⟨_, _, hve, _, hop5⟩ := V3.out.open
            rw [HMM.out] at hve hop5
            cases hve
            obtain ⟨b5, off5, rfl, hcell5⟩ := hop5 j hjl
            obtain ⟨_, _, c2⟩ := hcell5 j hjl
            have c2 := (hBti.out.cell (p := ⟨b5, off5 + j * 3 + 2, none⟩) (World.block_lt_of_cell? w _ c2)).trans c2
            have HTK := Lib.hid (take_bat (L := f k) (k := j) (by rw [HMM.out]; exact hjl))
            have HMEM := Lib.hid (bat_mem (L := f k) (k := j) (by rw [HMM.out]; exact hjl))
            obtain ⟨x, hx⟩ : ∃ x, bat (f k) j = x := ⟨_, rfl⟩
            rw [hx] at c2 HTK HMEM
            obtain ⟨y0, y1, y2⟩ := x
            clear hx hcell5 hop5
            cases hon : onB (k : Int) y2 with
            | false =>
              have HON := Lib.hid hon
              have HFF : Hid (validB n f st = false) := HBF.out ⟨_, HMEM.out, hon⟩
              clear hon
              go_wp2_with (go_at_call 46; refine (l22On_any _ _ _).mono ?_; rw [HON.out]; rintro e w' ⟨rfl, hb⟩; have HBZ : Hid (Below w.heap.size w w') := hBti.out.trans (hb.mono hBti.out.size); clear hb)
              go_ret
              exact ⟨ret_bool HFF.out.symm, HBZ.out⟩
            | true =>
              have HON := Lib.hid hon
              clear hon
              go_wp2_with (go_at_call 46; refine (l22On_any _ _ _).mono ?_; rw [HON.out]; rintro e w' ⟨rfl, hb⟩; have HBZ : Hid (Below wo.heap.size wo w') := hBi.out.trans (hb.mono hszi); clear hb)
              go_roundw
              case rel => exact ⟨j + 1, hjl, by go_num, (fun b hb => by rw [HTK.out] at hb; rcases List.mem_append.1 hb with h | h; exact hN.out b h; simp at h; rw [h]; exact HON.out), HBZ.out⟩
              case measure => simp [intOf]; omega
          · obtain rfl : j = m := by omega
            have HALL : Hid (∀ b ∈ f k, onB (k : Int) b.2.2 = true) := by have := hN.out; rwa [← HMM.out, List.take_length] at this
            by_cases hm2 : j ≤ 2
            · have e2 : decide ((j : Int) > 2) = false := by simp; omega
              have e3 : decide ((2 : Int) < j) = false := by simp; omega
              have HA : Hid (blks (allM k f st) ++ blks (f k) = blks (allM (k + 1) f st)) := by rw [allM_succ, blks_append]; rfl
              have HL : Hid ((allM k f st).length + j = (allM (k + 1) f st).length) := by rw [allM_succ, List.length_append, HMM.out]; rfl
              have hl1 := allM_len HSM.out k hk
              have hGi : Hid (Gr wr w2.heap.size 56 3 u4 (allM k f st).length (blks (allM k f st))) := hG.out.mono hBi.out (Nat.le_refl _)
              have V4 : Hid (View wr 3 (.slice a3 j c3) j (blks (f k))) := by
                have := (V3.out.mono hBti.out (Nat.le_refl _))
                unfold Blks at this; rw [HMM.out] at this; exact this
              have HBq : Hid (Below w2.heap.size w2 wr) := hB.out.trans (hBi.out.mono hszo)
              have hszq := HBq.out.size
              have HM2 := Lib.hid hm2
              clear hm2
              go_wp2_with (at_builtin; refine wpList_app _ rfl (.tmp 51) (.tmp 56) 27 rfl w2.heap.size 56 (.agg #[.int .i64 0, .int .i64 0, .int .i64 0]) 3 24 Tryd.underlying27 Tryd.infoBlk rfl (by omega) u4 _ (blks (allM k f st)) rfl hGi.out _ j (blks (f k)) rfl V4.out (one_blks _) (by unfold maxLen; omega) (by omega) hszq ?_; intro v2 w9 g2 r2 k2; have G2 := Lib.hid g2; have R2 := Lib.hid r2; clear g2 r2 k2)
              go_roundw
              case rel =>
                refine ⟨k + 1, hlt, by go_num, fun i hi => ?_, by have := G2.out; rw [HA.out, HL.out] at this; exact this, HBq.out.grown R2.out hszq (fun g hg => (hGi.out.lt g hg).1)⟩
                by_cases e : i = k
                · subst e; exact ⟨by rw [HMM.out]; exact HM2.out, HALL.out⟩
                · exact hF.out i (by omega)
              case measure => simp [intOf]; omega
            · have e2 : (2 : Int) < j := by omega
              have HFF : Hid (validB n f st = false) := HLF.out hm2
              clear hm2
              go_wp2
              go_ret
              exact ⟨ret_bool HFF.out.symm, hBti.out⟩
      · obtain rfl : k = n := by omega
        obtain ⟨L, hL⟩ : ∃ L, allM k f st = L := ⟨_, rfl⟩
        have hLl := allM_len HSM.out k (Nat.le_refl _)
        rw [hL] at hG hLl
        have HLL := Lib.hid hL
        obtain ⟨ad5, c5, hu⟩ := hG.out.lit
        subst hu
        have HRW : Hid (Row wr (w.heap.size + 1) 3 (tab 8 (cntF L 0))) := by rw [← cnt_zero L]; exact HROW.out.mono hB.out hw2
        clear hL
        go_wp2
        clear k0
        generalize wr = wo at hBt hG hB HRr HRW hsz ⊢
        go_loopw [7] (fun i wr => ∃ j : Nat, j ≤ L.length ∧ i = .int .i64 j ∧ Hid (∀ b ∈ L.take j, blkOk b = true) ∧ Hid (Row wr (w.heap.size + 1) 3 (tab 8 (cntF L j))) ∧ Hid (wo.grownBy wr (some (w.heap.size + 1)))) (fun i _ => L.length - (intOf i).toNat)
        case atStart => exact ⟨0, Nat.zero_le _, rfl, (fun b hb => by simp at hb), HRW.out, grown_refl _ _⟩
        case round =>
          obtain ⟨j, hj, rfl, hO, hC, hW⟩ := hrel
          have hBw : Hid (Below w.heap.size w wr) := hBt.out.grown hW.out hBt.out.size (fun g hg => by cases hg; omega)
          by_cases hjl : j < L.length
          · have hGk : Hid (Gr wr w2.heap.size 56 3 (.slice ad5 L.length c5) L.length (blks L)) := hG.out.kept hW.out (fun g hg e => by have := (hG.out.lt g hg).1; cases e; omega)
            obtain ⟨_, _, hve, _, hop5⟩ := (show Blks wr _ L from hGk.out.view).open
            cases hve
            obtain ⟨b5, off5, rfl, hcell5⟩ := hop5 j hjl
            obtain ⟨c0, c1, c2⟩ := hcell5 j hjl
            have HTK := Lib.hid (take_bat hjl)
            have HMEM := Lib.hid (bat_mem hjl)
            have HSTEP : Hid (∀ a c : Nat, (bat L j).1 = (a : Int) → (adrs (L.take j)).count (a : Int) = c → (tab 8 (cntF L j)).set a (.int .i64 ((c : Int) + 1)) = tab 8 (cntF L (j + 1))) := fun a c h1 h2 => cnt_step hjl h1 h2
            obtain ⟨x, hx⟩ : ∃ x, bat L j = x := ⟨_, rfl⟩
            rw [hx] at c0 c1 c2 HTK HMEM HSTEP
            obtain ⟨y0, y1, y2⟩ := x
            have HBAD : Hid (blkOk (y0, y1, y2) = false → validB k f st = false) := fun hb => validB_not fun q => by
              have := q.ok _ (by rw [HLL.out]; exact HMEM.out)
              rw [hb] at this; cases this
            have hszr : w.heap.size + 1 < wr.heap.size := hC.out.lt
            obtain ⟨wb, hwb⟩ : ∃ wb, wb = wr.alloc (.cells #[.int .i64 y0, .int .i64 y1, .int .i64 y2] 56) := ⟨_, rfl⟩
            have HWB := Lib.hid hwb
            have HCB : Hid (Row wb (w.heap.size + 1) 3 (tab 8 (cntF L j))) := by rw [hwb]; exact hC.out.alloc _
            have HGB : Hid (wo.grownBy wb (some (w.heap.size + 1))) := by rw [hwb]; exact grown_trans hW.out (World.grownBy_alloc wr _ _)
            have HBB : Hid (Below w.heap.size w wb) := hBt.out.grown HGB.out hBt.out.size (fun g hg => by cases hg; omega)
            have HRB : Hid (Row wb wr.heap.size 56 [.int .i64 y0, .int .i64 y1, .int .i64 y2]) := by rw [hwb]; exact Row.new wr 56 [.int .i64 y0, .int .i64 y1, .int .i64 y2]
            clear hwb hx hcell5 hop5
            cases hb1 : inB y0 0 7 with
            | false =>
              have HF : Hid (validB k f st = false) := HBAD.out (by unfold blkOk; rw [hb1]; rfl)
              have H1 := Lib.hid hb1
              clear hb1
              go_wp2_with (go_at_call 43; refine (l1In_any _ _ _ _).mono ?_; rw [H1.out]; rintro e w' ⟨rfl, rfl⟩)
              go_ret
              rw [← HWB.out]
              exact ⟨ret_bool HF.out.symm, HBB.out⟩
            | true =>
              have H1 := Lib.hid hb1
              cases hb2 : inB y1 (-100000) 100000 with
              | false =>
                have HF : Hid (validB k f st = false) := HBAD.out (by unfold blkOk; rw [hb1, hb2]; rfl)
                have H2' := Lib.hid hb2
                clear hb1 hb2
                go_wp2_with fail
                refine (l1In_any _ _ _ _).mono ?_
                rw [H1.out]
                rintro e w' ⟨rfl, rfl⟩
                go_wp2_with fail
                refine (l1In_any _ _ _ _).mono ?_
                rw [H2'.out]
                rintro e w' ⟨rfl, rfl⟩
                go_wp2
                go_ret
                rw [← HWB.out]
                exact ⟨ret_bool HF.out.symm, HBB.out⟩
              | true =>
                have H2' := Lib.hid hb2
                cases hb3 : inB y2 0 3 with
                | false =>
                  have HF : Hid (validB k f st = false) := HBAD.out (by unfold blkOk; rw [hb1, hb2, hb3]; rfl)
                  have H3 := Lib.hid hb3
                  clear hb1 hb2 hb3
                  go_wp2_with fail
                  refine (l1In_any _ _ _ _).mono ?_
                  rw [H1.out]
                  rintro e w' ⟨rfl, rfl⟩
                  go_wp2_with fail
                  refine (l1In_any _ _ _ _).mono ?_
                  rw [H2'.out]
                  rintro e w' ⟨rfl, rfl⟩
                  go_wp2_with fail
                  refine (l1In_any _ _ _ _).mono ?_
                  rw [H3.out]
                  rintro e w' ⟨rfl, rfl⟩
                  go_wp2
                  go_ret
                  rw [← HWB.out]
                  exact ⟨ret_bool HF.out.symm, HBB.out⟩
                | true =>
                  have H3 := Lib.hid hb3
                  have HOK : Hid (blkOk (y0, y1, y2) = true) := by unfold Hid blkOk; rw [hb1, hb2, hb3]; rfl
                  have hy := inB_iff.1 hb1
                  obtain ⟨a, rfl⟩ := Int.eq_ofNat_of_zero_le hy.1
                  have ha8 : a < 8 := by omega
                  obtain ⟨cc, hcc⟩ : ∃ cc, (adrs (L.take j)).count (a : Int) = cc := ⟨_, rfl⟩
                  have hccl : cc ≤ 2000 := by
                    rw [← hcc]
                    have := List.count_le_length (a := (a : Int)) (l := adrs (L.take j))
                    rw [adrs_length, List.length_take] at this; omega
                  have HST := Lib.hid (HSTEP.out a cc rfl hcc)
                  have s0 := HCB.out.cell (tab_get (cntF L j) ha8)
                  unfold cntF at s0
                  rw [hcc] at s0
                  have f0 := HCB.out.free a
                  have r0 := HRB.out.cell (i := 0) rfl
                  have az : (a : Int) < 8 := by omega
                  have hwc : IntKind.i64.wrap ((cc : Int) + 1) = (cc : Int) + 1 := by rw [IntKind.wrap_i64]; omega
                  have hS0 := Lib.hid s0
                  have hF0 := Lib.hid f0
                  have hR0 := Lib.hid r0
                  clear hb1 hb2 hb3 hcc hy s0 f0 r0 HSTEP
                  go_wp2_with fail
                  refine (l1In_any _ _ _ _).mono ?_
                  rw [H1.out]
                  rintro e w' ⟨rfl, rfl⟩
                  go_wp2_with fail
                  refine (l1In_any _ _ _ _).mono ?_
                  rw [H2'.out]
                  rintro e w' ⟨rfl, rfl⟩
                  go_wp2_with fail
                  refine (l1In_any _ _ _ _).mono ?_
                  rw [H3.out]
                  rintro e w' ⟨rfl, rfl⟩
                  go_wp2_with fail
                  rw [← HWB.out]
                  have s0 := hS0.out
                  have f0 := hF0.out
                  have r0 := hR0.out
                  go_still_tail 10, (by kernel_rfl)
                  go_wp2
                  go_roundw
                  case rel =>
                    refine ⟨j + 1, hjl, by go_num, fun b hb => ?_, ?_, ?_⟩
                    · rw [HTK.out] at hb
                      rcases List.mem_append.1 hb with h | h
                      · exact hO.out b h
                      · simp at h; rw [h]; exact HOK.out
                    · rw [← HST.out]; exact HCB.out.set _ _
                    · have := grown_set HGB.out a (.int .i64 ((cc : Int) + 1))
                      exact ⟨this.os, this.tape, this.output, this.size, this.block⟩
                  case measure => simp [intOf]; omega
          · obtain rfl : j = L.length := by omega
            have HO2 : Hid (∀ b ∈ L, blkOk b = true) := by have := hO.out; rwa [List.take_length] at this
            have HC2 : Hid (Row wr (w.heap.size + 1) 3 (tab 8 (fun a => .int .i64 (((adrs L).count (a : Int) : Nat) : Int)))) := by
              have := hC.out
              unfold cntF at this
              rwa [List.take_length] at this
            have hRW : Hid (Row wr w.heap.size 29 [.slice ad k c, .slice ads st.length cs2]) := HRr.out.grown hW.out (fun e => by have := Option.some.inj e; omega)
            clear hO hC
            go_wp2
            go_loop [9] (fun i => ∃ q : Nat, q ≤ 8 ∧ i = .int .i64 q ∧ Hid (∀ i : Nat, i < q → (adrs L).count (i : Int) = 1)) (fun i => 8 - (intOf i).toNat)
            case atStart => exact ⟨0, Nat.zero_le _, rfl, fun i hi => by omega⟩
            case round =>
              obtain ⟨q, hq, rfl, hQ⟩ := hrel
              by_cases hq8 : q < 8
              · have s0 := HC2.out.cell (tab_get (fun a : Nat => Value.int .i64 (((adrs L).count (a : Int) : Nat) : Int)) hq8)
                have hq8z : (q : Int) < 8 := by omega
                obtain ⟨cc, hcc⟩ : ∃ cc, (adrs L).count (q : Int) = cc := ⟨_, rfl⟩
                rw [hcc] at s0
                have HCC := Lib.hid hcc
                clear hcc
                by_cases h1 : cc = 1
                · have e1 : ((cc : Int) != 1) = false := by simp; omega
                  have HQ2 : Hid (∀ i : Nat, i < q + 1 → (adrs L).count (i : Int) = 1) := fun i hi => by
                    by_cases e : i = q
                    · subst e; rw [HCC.out, h1]
                    · exact hQ.out i (by omega)
                  clear h1
                  go_wp2
                  go_round
                  case rel => exact ⟨q + 1, hq8, by go_num, HQ2.out⟩
                  case measure => simp [intOf]; omega
                · have e1 : ((cc : Int) != 1) = true := by simp; omega
                  have HFF : Hid (validB k f st = false) := validB_not fun q' => h1 (by
                    have := (valid_counts.1 q').2.2.1 q hq8
                    rw [HLL.out, HCC.out] at this; exact this)
                  clear h1
                  go_wp2
                  go_ret
                  exact ⟨ret_bool HFF.out.symm, hBw.out⟩
              · obtain rfl : q = 8 := by omega
                have k0 := hRW.out.cell (i := 0) rfl
                have HV : Hid (validB k f st = decide ((k : Int) = 7)) := by
                  show _ = _
                  by_cases e7 : k = 7
                  · rw [decide_eq_true (by omega)]
                    exact validB_of (valid_counts.2 ⟨e7, by rw [HLL.out]; exact HO2.out, by rw [HLL.out]; exact hQ.out, hF.out⟩)
                  · rw [decide_eq_false (by omega)]
                    exact validB_not fun q => e7 q.seven
                go_wp2
                go_ret
                exact ⟨ret_bool (by rw [HV.out]; simp [BEq.beq]), hBw.out⟩
end Go.Proofs.YtbnplohlfiefhaaDoor
