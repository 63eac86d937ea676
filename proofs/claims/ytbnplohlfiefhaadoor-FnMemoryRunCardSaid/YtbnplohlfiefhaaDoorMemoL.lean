/- contracts of LeafOf, both -/
import Derived.Test.YtbnplohlfiefhaaDoorMemoJ
import Derived.Test.YtbnplohlfiefhaaDoorMemoS
namespace Go.Proofs.YtbnplohlfiefhaaDoor
open Go.RowKit
def blkAt (L : List (Int × Int × Int)) (x : Int) : Int × Int × Int := (L.find? (fun b => b.1 == x)).getD (0, 0, 0)
theorem blkAt_of {L : List (Int × Int × Int)} (hn : (adrs L).Nodup) {b : Int × Int × Int} (hb : b ∈ L) {x : Int} (e : b.1 = x) : blkAt L x = b := by
  unfold blkAt
  cases hf : L.find? (fun b => b.1 == x) with
  | none =>
    have := List.find?_eq_none.1 hf b hb
    simp [e] at this
  | some c =>
    have h1 := List.mem_of_find?_eq_some hf
    have h2 := List.find?_some hf
    have h3 : c.1 = x := by simpa using h2
    exact nodup_inj hn h1 hb (h3.trans e.symm)
theorem valid_at {n f st} (h : ValidM n f st) {x : Int} (hx : inB x 0 7 = true) : ∃ b ∈ allM n f st, b.1 = x := by
  obtain ⟨h1, h2, h3, _⟩ := valid_counts.1 h
  rw [inB_iff] at hx
  obtain ⟨k, rfl⟩ := Int.eq_ofNat_of_zero_le hx.1
  have := h3 k (by omega)
  have hm : (k : Int) ∈ adrs (allM n f st) := List.count_pos_iff.1 (by omega)
  obtain ⟨b, hb, e⟩ := List.mem_map.1 hm
  exact ⟨b, hb, e⟩
theorem field_leaf (a b c : Int) (w : World) : (Instr.field 56 (.agg #[.int .i64 a, .int .i64 b, .int .i64 c]) 2).run Tryd.prog w = .ok (.int .i64 c) w := by
  first | kernel_rfl | rfl | (simp [go_sem, Tryd.underlying56])
def leafV (n : Nat) (f : Nat → List (Int × Int × Int)) (st : List (Int × Int × Int)) (x : Int) : Int := if validB n f st && inB x 0 7 then (blkAt (allM n f st) x).2.2 else -1
set_option maxHeartbeats 1000000 in
theorem impl_LeafOf (v : Value) (n : Nat) (f : Nat → List (Int × Int × Int)) (st : List (Int × Int × Int)) (x : Int) (w : World) (h : MemIn w v n f st) (hs : Small n f st) :
    Calls Tryd.prog 15 #[v, .int .i64 x] w fun e w' => e = .returned (.int .i64 (leafV n f st x)) ∧ Below w.heap.size w w' := by
  have HM := Lib.hid h
  obtain ⟨bs, sv, rfl, h1, h2⟩ := h
  have HSM := Lib.hid hs
  clear h1 h2 hs
  obtain ⟨w1, hw1⟩ : ∃ w1, w1 = w.alloc (.cells #[bs, sv] 29) := ⟨_, rfl⟩
  have HW1 := Lib.hid hw1
  have HB1 : Hid (Below w.heap.size w w1) := by rw [hw1]; exact (Below.refl _ _).alloc (Nat.le_refl _) _
  have HR1 : Hid (Row w1 w.heap.size 29 [bs, sv]) := by rw [hw1]; exact Row.new w 29 [bs, sv]
  clear hw1
  cases hv : validB n f st with
  | false =>
    have HV := Lib.hid hv
    have HF : Hid (leafV n f st x = -1) := by unfold Hid leafV; rw [hv]; rfl
    clear hv
    go_enter Tryd.func15, Tryd.ntmps15
    go_wp2_with fail
    rw [← HW1.out]
    refine (impl_MemoryValid _ n f st w1 (HM.out.mono HB1.out (Nat.le_refl _)) HSM.out).mono ?_
    rw [HV.out]
    rintro e w2 ⟨rfl, hb⟩
    have HB2 : Hid (Below w.heap.size w w2) := HB1.out.trans (hb.mono HB1.out.size)
    clear hb
    go_wp2
    go_ret
    exact ⟨ret_int HF.out.symm, HB2.out⟩
  | true =>
    have HV := Lib.hid hv
    cases hx : inB x 0 7 with
    | false =>
      have HX := Lib.hid hx
      have HF : Hid (leafV n f st x = -1) := by unfold Hid leafV; rw [hv, hx]; rfl
      clear hv hx
      go_enter Tryd.func15, Tryd.ntmps15
      go_wp2_with fail
      rw [← HW1.out]
      refine (impl_MemoryValid _ n f st w1 (HM.out.mono HB1.out (Nat.le_refl _)) HSM.out).mono ?_
      rw [HV.out]
      rintro e w2 ⟨rfl, hb⟩
      have HB2 : Hid (Below w.heap.size w w2) := HB1.out.trans (hb.mono HB1.out.size)
      clear hb
      go_wp2_with (go_at_call 32; refine (isAddress_any _ _).mono ?_; rw [HX.out]; rintro e w' ⟨rfl, rfl⟩)
      go_ret
      exact ⟨ret_int HF.out.symm, HB2.out⟩
    | true =>
      have HX := Lib.hid hx
      have hval := validB_iff.1 hv
      have HEX := Lib.hid (valid_at hval hx)
      have HF : Hid (∀ b ∈ allM n f st, b.1 = x → leafV n f st x = b.2.2) := fun b hb e => by unfold leafV; rw [hv, hx, blkAt_of hval.nodup hb e]; rfl
      clear hv hx hval
      go_enter Tryd.func15, Tryd.ntmps15
      go_wp2_with fail
      rw [← HW1.out]
      refine (impl_MemoryValid _ n f st w1 (HM.out.mono HB1.out (Nat.le_refl _)) HSM.out).mono ?_
      rw [HV.out]
      rintro e w2 ⟨rfl, hb⟩
      have HB2 : Hid (Below w.heap.size w w2) := HB1.out.trans (hb.mono HB1.out.size)
      have HR2 := Lib.hid (HR1.out.mono hb HR1.out.lt)
      have k0 := HR2.out.cell (i := 0) rfl
      have k1 := HR2.out.cell (i := 1) rfl
      clear hb
      go_wp2_with (go_at_call 32; refine (isAddress_any _ _).mono ?_; rw [HX.out]; rintro e w' ⟨rfl, rfl⟩)
      refine (block_any _ n f st x w2 (HM.out.mono HB2.out (Nat.le_refl _)) HSM.out HEX.out).mono ?_
      rintro e w3 ⟨b, hb1, hb2, rfl, hb⟩
      have HF2 := Lib.hid (HF.out b hb1 hb2)
      have HB3 : Hid (Below w.heap.size w w3) := HB2.out.trans (hb.mono HB2.out.size)
      obtain ⟨y0, y1, y2⟩ := b
      unfold blkV
      clear hb hb1 hb2 k0 k1
      have hfl := field_leaf y0 y1 y2 w3
      go_wp2
      go_ret
      exact ⟨ret_int HF2.out.symm, HB3.out⟩
set_option maxRecDepth 20000 in
set_option maxHeartbeats 2000000 in
theorem spec_LeafOf (v : Value) (n : Nat) (f : Nat → List (Int × Int × Int)) (st : List (Int × Int × Int)) (x : Int) (w : World) (h : MemIn w v n f st) (hs : Small n f st) :
    Calls Tryd.prog 18 #[v, .int .i64 x] w fun e w' => e = .returned (.int .i64 (leafV n f st x)) ∧ Below w.heap.size w w' := by
  have HM := Lib.hid h
  obtain ⟨bs, sv, rfl, h1, h2⟩ := h
  obtain ⟨ad, c, rfl, hmx, hop⟩ := h1.open
  obtain ⟨ads, cs2, hsv, _, _⟩ := h2.open
  subst hsv
  unfold maxLen at hmx
  have HSM := Lib.hid hs
  have HOP := Lib.hid hop
  have H2 := Lib.hid h2
  have hn16 := hs.1
  have hst := hs.2.1
  clear h1 h2 hs hop
  obtain ⟨w1, hw1⟩ : ∃ w1, w1 = w.alloc (.cells #[.slice ad n c, .slice ads st.length cs2] 29) := ⟨_, rfl⟩
  have HW1 := Lib.hid hw1
  have HB1 : Hid (Below w.heap.size w w1) := by rw [hw1]; exact (Below.refl _ _).alloc (Nat.le_refl _) _
  have HR1 : Hid (Row w1 w.heap.size 29 [.slice ad n c, .slice ads st.length cs2]) := by rw [hw1]; exact Row.new w 29 [.slice ad n c, .slice ads st.length cs2]
  clear hw1
  cases hv : validB n f st with
  | false =>
    have HV := Lib.hid hv
    have HF : Hid (leafV n f st x = -1) := by unfold Hid leafV; rw [hv]; rfl
    clear hv
    go_enter Tryd.func18, Tryd.ntmps18
    go_wp2_with fail
    rw [← HW1.out]
    refine (spec_MemoryValid _ n f st w1 (HM.out.mono HB1.out (Nat.le_refl _)) HSM.out).mono ?_
    rw [HV.out]
    rintro e w2 ⟨rfl, hb⟩
    have HB2 : Hid (Below w.heap.size w w2) := HB1.out.trans (hb.mono HB1.out.size)
    clear hb
    go_wp2
    go_ret
    exact ⟨ret_int HF.out.symm, HB2.out⟩
  | true =>
    have HV := Lib.hid hv
    have hval := validB_iff.1 hv
    have HVAL := Lib.hid hval
    clear hv hval
    go_enter Tryd.func18, Tryd.ntmps18
    go_wp2_with fail
    rw [← HW1.out]
    refine (spec_MemoryValid _ n f st w1 (HM.out.mono HB1.out (Nat.le_refl _)) HSM.out).mono ?_
    rw [HV.out]
    rintro e w2 ⟨rfl, hb⟩
    have HB2 : Hid (Below w.heap.size w w2) := HB1.out.trans (hb.mono HB1.out.size)
    have HR2 := Lib.hid (HR1.out.mono hb HR1.out.lt)
    have hw2 : w.heap.size < w2.heap.size := HR2.out.lt
    clear hb HR1 HB1
    have k1 := (HR2.out.alloc (.cells #[] 56)).cell (i := 1) rfl
    go_wp2_with (at_builtin; refine wpList_app _ rfl (.tmp 11) (.tmp 13) 27 rfl w2.heap.size 56 (.agg #[.int .i64 0, .int .i64 0, .int .i64 0]) 3 24 Tryd.underlying27 Tryd.infoBlk rfl (by omega) (.slice (some ⟨w2.heap.size, 0, none⟩) 0 0) 0 [] rfl (Gr.none0 _ _ _ _ _) _ st.length (blks st) rfl ((H2.out.mono HB2.out (Nat.le_refl _)).mono ((Below.refl w2.heap.size w2).alloc (Nat.le_refl _) _) (Nat.le_refl _)) (one_blks _) (by unfold maxLen; omega) (by omega) (by simp) ?_; intro v1 w3 g1 r1 k1'; have G1 : Hid (Gr w3 w2.heap.size 56 3 v1 st.length (blks st)) := (by simpa [Hid] using g1); have B3 : Hid (Below w2.heap.size w2 w3) := ((Below.refl _ _).alloc (Nat.le_refl _) _).grown r1 (by simp) (fun g hg => by simp [gBlock] at hg); clear g1 r1 k1')
    clear k1
    go_loopw [5, 6] (fun u i wr => ∃ k : Nat, k ≤ n ∧ i = .int .i64 k ∧ Hid (Gr wr w2.heap.size 56 3 u (allM k f st).length (blks (allM k f st))) ∧ Hid (Below w2.heap.size w2 wr)) (fun _ i _ => n - (intOf i).toNat)
    case atStart => exact ⟨0, Nat.zero_le _, rfl, by rw [allM_zero]; exact G1.out, B3.out⟩
    case round =>
      obtain ⟨k, hk, rfl, hG, hB⟩ := hrel
      have hsz := hB.out.size
      have HRr : Hid (Row wr w.heap.size 29 [.slice ad n c, .slice ads st.length cs2]) := HR2.out.mono hB.out hw2
      have k0 := HRr.out.cell (i := 0) rfl
      have hBt : Hid (Below w.heap.size w wr) := HB2.out.trans (hB.out.mono (by omega))
      by_cases hlt : k < n
      · obtain ⟨b, off, rfl, hcell⟩ := HOP.out k hlt
        obtain ⟨a3, c3, hc3, hv3⟩ := hcell k hlt
        have g3 : wr.cell? ⟨b, off + k, none⟩ = some (.slice a3 (f k).length c3) := (hBt.out.cell (p := ⟨b, off + k, none⟩) (World.block_lt_of_cell? w _ hc3)).trans hc3
        have V3 := Lib.hid (hv3.mono hBt.out (Nat.le_refl _))
        have HA : Hid (blks (allM k f st) ++ blks (f k) = blks (allM (k + 1) f st)) := by rw [allM_succ, blks_append]; rfl
        have HL : Hid ((allM k f st).length + (f k).length = (allM (k + 1) f st).length) := by rw [allM_succ, List.length_append]; rfl
        have hl1 := allM_len HSM.out k hk
        have hl2 := HSM.out.2.2 k hlt
        obtain ⟨m, hm⟩ : ∃ m, (f k).length = m := ⟨_, rfl⟩
        rw [hm] at g3 hl2 V3 HL
        have HMM := Lib.hid hm
        have V4 : Hid (View wr 3 (.slice a3 m c3) m (blks (f k))) := by have := V3.out; unfold Blks at this; rw [HMM.out] at this; exact this
        clear hcell hc3 hv3 hm V3
        go_wp2_with (at_builtin; refine wpList_app _ rfl (.tmp 22) (.tmp 27) 27 rfl w2.heap.size 56 (.agg #[.int .i64 0, .int .i64 0, .int .i64 0]) 3 24 Tryd.underlying27 Tryd.infoBlk rfl (by omega) u5 _ (blks (allM k f st)) rfl hG.out _ m (blks (f k)) rfl V4.out (one_blks _) (by unfold maxLen; omega) (by omega) hsz ?_; intro v2 w9 g2 r2 k2; have G2 := Lib.hid g2; have R2 := Lib.hid r2; clear g2 r2 k2)
        go_roundw
        case rel => exact ⟨k + 1, hlt, by go_num, by have := G2.out; rw [HA.out, HL.out] at this; exact this, hB.out.grown R2.out hsz (fun g hg => (hG.out.lt g hg).1)⟩
        case measure => simp [intOf]; omega
      · obtain rfl : k = n := by omega
        obtain ⟨L, hL⟩ : ∃ L, allM k f st = L := ⟨_, rfl⟩
        rw [hL] at hG
        have HLL := Lib.hid hL
        have hl8 : L.length = 8 := by rw [← hL]; exact HVAL.out.eight
        obtain ⟨ad5, c5, hu⟩ := hG.out.lit
        subst hu
        have HVW : Hid (Blks wr (.slice ad5 L.length c5) L) := hG.out.view
        have HL8 := Lib.hid hl8
        have hl8' : L.length ≤ 8 := by omega
        clear hL hl8
        go_wp2
        clear k0
        go_loop [7] (fun i => ∃ j : Nat, j ≤ L.length ∧ i = .int .i64 j ∧ Hid (∀ b ∈ L.take j, b.1 ≠ x)) (fun i => L.length - (intOf i).toNat)
        case atStart => exact ⟨0, Nat.zero_le _, rfl, fun b hb => by simp at hb⟩
        case round =>
          obtain ⟨j, hj, rfl, hN⟩ := hrel
          by_cases hjl : j < L.length
          · obtain ⟨_, _, hve, _, hop5⟩ := HVW.out.open
            cases hve
            obtain ⟨b5, off5, rfl, hcell5⟩ := hop5 j hjl
            obtain ⟨c0, _, c2⟩ := hcell5 j hjl
            have HTK := Lib.hid (take_bat hjl)
            have HMEM := Lib.hid (bat_mem hjl)
            obtain ⟨y, hy⟩ : ∃ x, bat L j = x := ⟨_, rfl⟩
            rw [hy] at c0 c2 HTK HMEM
            obtain ⟨y0, y1, y2⟩ := y
            clear hy hcell5 hop5
            by_cases he : y0 = x
            · have e1 : (y0 == x) = true := by simp [he]
              have HX : Hid (inB x 0 7 = true) := by
                have := HVAL.out.ok _ (by rw [HLL.out]; exact HMEM.out)
                rw [← he]
                unfold blkOk at this
                rw [Bool.and_eq_true, Bool.and_eq_true] at this
                exact this.1.1
              have HF : Hid (leafV k f st x = y2) := by
                unfold Hid leafV
                rw [HV.out, HX.out, HLL.out, blkAt_of (by rw [← HLL.out]; exact HVAL.out.nodup) HMEM.out he]; rfl
              clear he
              go_wp2
              go_ret
              exact ⟨ret_int HF.out.symm, hBt.out⟩
            · have e1 : (y0 == x) = false := by simpa using he
              have HNE := Lib.hid he
              clear he
              go_wp2
              go_round
              case rel => exact ⟨j + 1, hjl, by go_num, (fun b hb => by rw [HTK.out] at hb; rcases List.mem_append.1 hb with h | h; exact hN.out b h; simp at h; rw [h]; exact HNE.out)⟩
              case measure => simp [intOf]; omega
          · obtain rfl : j = L.length := by omega
            have HF : Hid (leafV k f st x = -1) := by
              unfold Hid leafV
              cases hx : inB x 0 7
              · simp
              · obtain ⟨b, hb, e⟩ := valid_at HVAL.out hx
                rw [HLL.out] at hb
                exact (hN.out b (by rw [List.take_length]; exact hb) e).elim
            go_wp2
            go_ret
            exact ⟨ret_int HF.out.symm, hBt.out⟩
end Go.Proofs.YtbnplohlfiefhaaDoor
