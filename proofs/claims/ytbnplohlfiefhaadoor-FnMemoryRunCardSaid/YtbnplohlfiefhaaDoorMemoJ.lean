/- contract of the program's MemoryValid -/
import Derived.Test.YtbnplohlfiefhaaDoorMemoI
namespace Go.Proofs.YtbnplohlfiefhaaDoor
open Go.RowKit
theorem small_valid {n : Nat} {f : Nat → List (Int × Int × Int)} {st : List (Int × Int × Int)} (h : ValidM n f st) : Small n f st := by
  refine ⟨by rw [h.seven]; omega, ?_, fun i hi => by have := (h.fits i hi).1; omega⟩
  have := h.eight
  unfold allM at this
  rw [List.length_append] at this; omega
theorem hid_eq {α : Type} {a b : α} (h : Hid (a = b)) : a = b := h
set_option maxRecDepth 20000 in
set_option maxHeartbeats 2000000 in
theorem impl_MemoryValid (v : Value) (n : Nat) (f : Nat → List (Int × Int × Int)) (st : List (Int × Int × Int)) (w : World) (h : MemIn w v n f st) (hs : Small n f st) :
    Calls Tryd.prog 16 #[v] w fun e w' => e = .returned (.bool (validB n f st)) ∧ Below w.heap.size w w' := by
  have hmm := @run_makeMap Tryd.prog
  have HM := Lib.hid h
  obtain ⟨bs, sv, rfl, h1, h2⟩ := h
  obtain ⟨ad, c, rfl, hmx, hop⟩ := h1.open
  obtain ⟨ads, cs2, hsv, _, _⟩ := h2.open
  subst hsv
  unfold maxLen at hmx
  have HSM := Lib.hid hs
  have HOP := Lib.hid hop
  have hn16 := hs.1
  clear h1 h2 hs hop
  obtain ⟨w1, hw1⟩ : ∃ w1, w1 = w.alloc (.cells #[.slice ad n c, .slice ads st.length cs2] 29) := ⟨_, rfl⟩
  have HW1 := Lib.hid hw1
  have HB1 : Hid (Below w.heap.size w w1) := by rw [hw1]; exact (Below.refl _ _).alloc (Nat.le_refl _) _
  have HR1 : Hid (Row w1 w.heap.size 29 [.slice ad n c, .slice ads st.length cs2]) := by rw [hw1]; exact Row.new w 29 [.slice ad n c, .slice ads st.length cs2]
  have HZ1 : Hid (w1.heap.size = w.heap.size + 1) := by rw [hw1]; simp [Hid]
  clear hw1
  by_cases h7 : n = 7
  case neg =>
    have HF : Hid (validB n f st = false) := validB_not fun q => h7 q.seven
    have e1 : ((n : Int) != 7) = true := by simp; omega
    clear h7
    have k0 : (w.alloc (.cells #[.slice ad n c, .slice ads st.length cs2] 29)).cell? ⟨w.heap.size, 0, none⟩ = some (.slice ad n c) := by rw [← HW1.out]; exact HR1.out.cell rfl
    go_enter Tryd.func16, Tryd.ntmps16
    go_wp2
    go_ret
    exact ⟨ret_bool HF.out.symm, by rw [← HW1.out]; exact HB1.out⟩
  case pos =>
    have e1 : ((n : Int) != 7) = false := by rw [h7]; rfl
    have H7 := Lib.hid h7
    have hn7 : n ≤ 7 := by omega
    have k0 : (w.alloc (.cells #[.slice ad n c, .slice ads st.length cs2] 29)).cell? ⟨w.heap.size, 0, none⟩ = some (.slice ad n c) := by rw [← HW1.out]; exact HR1.out.cell rfl
    clear h7
    go_enter Tryd.func16, Tryd.ntmps16
    go_wp2_with fail
    have hB2 : Below w.heap.size w ((w.alloc (.cells #[.slice ad n c, .slice ads st.length cs2] 29)).alloc (.map #[] 0)) := ((Below.refl _ _).alloc (Nat.le_refl _) _).alloc (by simp) _
    have hSe : Seen ((w.alloc (.cells #[.slice ad n c, .slice ads st.length cs2] 29)).alloc (.map #[] 0)) (w.heap.size + 1) [] := by
      have := Seen.made (w.alloc (.cells #[.slice ad n c, .slice ads st.length cs2] 29))
      rwa [World.size_alloc] at this
    have hK0 : ((w.alloc (.cells #[.slice ad n c, .slice ads st.length cs2] 29)).alloc (.map #[] 0)).cell? ⟨w.heap.size, 0, none⟩ = some (.slice ad n c) := ((Row.new w 29 [.slice ad n c, .slice ads st.length cs2]).alloc _).cell rfl
    clear k0
    generalize ((w.alloc (.cells #[.slice ad n c, .slice ads st.length cs2] 29)).alloc (.map #[] 0)) = w2 at hB2 hSe hK0 ⊢
    obtain ⟨bm, hbm⟩ : ∃ bm, w.heap.size + 1 = bm := ⟨_, rfl⟩
    rw [hbm] at hSe ⊢
    have HBM := Lib.hid hbm
    have hbm2 := hSe.lt
    clear hbm HR1 HB1 HW1 HZ1
    refine (all_any _ n f st w2 (HM.out.mono hB2 (Nat.le_refl _)) HSM.out).mono ?_
    rintro e w3 ⟨u, rfl, hg, hb⟩
    obtain ⟨L, hL⟩ : ∃ L, allM n f st = L := ⟨_, rfl⟩
    have hLl := allM_len HSM.out n (Nat.le_refl _)
    rw [hL] at hg hLl
    have HLL := Lib.hid hL
    have HG := Lib.hid hg
    have HB3 : Hid (Below w.heap.size w w3) := hB2.trans (hb.mono hB2.size)
    have HS3 : Hid (Seen w3 bm []) := hSe.kept (row := none) ⟨hb.os, hb.tape, hb.output, hb.size, fun k hk _ => hb.block k hk⟩ (by simp)
    have HK3 : Hid (w3.cell? ⟨w.heap.size, 0, none⟩ = some (.slice ad n c)) := (hb.cell (p := ⟨w.heap.size, 0, none⟩) (World.block_lt_of_cell? w2 _ hK0)).trans hK0
    have hbm3 : bm < w3.heap.size := HS3.out.lt
    have hwbm : w.heap.size < bm := by have := HBM.out; omega
    obtain ⟨ad5, c5, hu⟩ := hg.lit
    subst hu
    have HWZ : Hid (w2.heap.size ≤ w3.heap.size) := hb.size
    clear hg hb hL hB2 hSe hK0
    go_wp2
    go_loopw [16] (fun i wr => ∃ k : Nat, k ≤ L.length ∧ i = .int .i64 k ∧ Hid (∀ b ∈ L.take k, blkOk b = true) ∧ Hid ((adrs (L.take k)).Nodup) ∧ Hid (Seen wr bm (adrs (L.take k))) ∧ Hid (w3.grownBy wr (some bm))) (fun i _ => L.length - (intOf i).toNat)
    case atStart => exact ⟨0, Nat.zero_le _, rfl, (fun b hb => by simp at hb), (by simp [adrs, Hid]), (by simpa [adrs, Hid] using HS3.out), grown_refl _ _⟩
    case round =>
      obtain ⟨k, hk, rfl, hO, hN, hS, hW⟩ := hrel
      have hBw : Hid (Below w.heap.size w wr) := HB3.out.grown hW.out HB3.out.size (fun g hg => by cases hg; omega)
      by_cases hlt : k < L.length
      · have hGk : Hid (Gr wr w2.heap.size 56 3 (.slice ad5 L.length c5) L.length (blks L)) := HG.out.kept hW.out (fun g hg e => by have := (HG.out.lt g hg).1; cases e; omega)
        obtain ⟨_, _, hve, _, hop5⟩ := (show Blks wr _ L from hGk.out.view).open
        cases hve
        obtain ⟨b5, off5, rfl, hcell5⟩ := hop5 k hlt
        obtain ⟨c0, c1, c2⟩ := hcell5 k hlt
        have HTK := Lib.hid (take_bat hlt)
        have HAK := Lib.hid (adrs_take hlt)
        have HMEM := Lib.hid (bat_mem hlt)
        obtain ⟨x, hx⟩ : ∃ x, bat L k = x := ⟨_, rfl⟩
        rw [hx] at c0 c1 c2 HTK HAK HMEM
        obtain ⟨y0, y1, y2⟩ := x
        have HBAD : Hid (blkOk (y0, y1, y2) = false → validB n f st = false) := fun hb => validB_not fun q => by
          have := q.ok _ (by rw [HLL.out]; exact HMEM.out)
          rw [hb] at this; cases this
        have HDUP : Hid ((adrs (L.take k)).contains y0 = true → validB n f st = false) := fun hb => validB_not fun q => by
          have := q.nodup
          rw [HLL.out] at this
          have := nodup_cut this (k + 1)
          rw [HAK.out, nodup_snoc, hb] at this
          cases this.2
        obtain ⟨A, hA⟩ : ∃ A, adrs (L.take k) = A := ⟨_, rfl⟩
        rw [hA] at hN hS HAK HDUP
        have hAl : A.length ≤ 2000 := by rw [← hA, adrs_length, List.length_take]; omega
        have HAA := Lib.hid hA
        clear hA hx hcell5 hop5
        have hszr : bm < wr.heap.size := hS.out.lt
        obtain ⟨wb, hwb⟩ : ∃ wb, wb = wr.alloc (.cells #[.int .i64 y0, .int .i64 y1, .int .i64 y2] 56) := ⟨_, rfl⟩
        have HWB := Lib.hid hwb
        have HSB : Hid (Seen wb bm A) := by rw [hwb]; exact hS.out.kept (World.grownBy_alloc wr _ none) (by simp)
        have HGB : Hid (w3.grownBy wb (some bm)) := by rw [hwb]; exact grown_trans hW.out (World.grownBy_alloc wr _ _)
        have HBB : Hid (Below w.heap.size w wb) := HB3.out.grown HGB.out HB3.out.size (fun g hg => by cases hg; omega)
        have HRB : Hid (Row wb wr.heap.size 56 [.int .i64 y0, .int .i64 y1, .int .i64 y2]) := by rw [hwb]; exact Row.new wr 56 [.int .i64 y0, .int .i64 y1, .int .i64 y2]
        clear hwb
        cases hb1 : inB y0 0 7 with
        | false =>
          have HF : Hid (validB n f st = false) := HBAD.out (by unfold blkOk; rw [hb1]; rfl)
          have H1 := Lib.hid hb1
          clear hb1
          go_wp2_with (go_at_call 32; refine (isAddress_any _ _).mono ?_; rw [H1.out]; rintro e w' ⟨rfl, rfl⟩)
          go_ret
          rw [← HWB.out]
          exact ⟨ret_bool HF.out.symm, HBB.out⟩
        | true =>
          have hy := inB_iff.1 hb1
          have hlook := HSB.out.look (x := y0) (by omega)
          rw [HWB.out] at hlook
          have H1 := Lib.hid hb1
          cases hcn : A.contains y0 with
          | true =>
            have HF : Hid (validB n f st = false) := HDUP.out hcn
            rw [hcn] at hlook
            clear hb1 hcn
            go_wp2_with (go_at_call 32; refine (isAddress_any _ _).mono ?_; rw [H1.out]; rintro e w' ⟨rfl, rfl⟩)
            go_ret
            rw [← HWB.out]
            exact ⟨ret_bool HF.out.symm, HBB.out⟩
          | false =>
            rw [hcn] at hlook
            have HCN := Lib.hid hcn
            cases hb2 : inB y1 (-100000) 100000 with
            | false =>
              have HF : Hid (validB n f st = false) := HBAD.out (by unfold blkOk; rw [hb1, hb2]; rfl)
              have H2 := Lib.hid hb2
              clear hb1 hcn hb2
              go_wp2_with (first
                | (go_at_call 32; refine (isAddress_any _ _).mono ?_; rw [H1.out]; rintro e w' ⟨rfl, rfl⟩)
                | (go_at_call 33; refine (isValue_any _ _).mono ?_; rw [H2.out]; rintro e w' ⟨rfl, rfl⟩))
              go_ret
              rw [← HWB.out]
              exact ⟨ret_bool HF.out.symm, HBB.out⟩
            | true =>
              have H2 := Lib.hid hb2
              cases hb3 : inB y2 0 3 with
              | false =>
                have HF : Hid (validB n f st = false) := HBAD.out (by unfold blkOk; rw [hb1, hb2, hb3]; rfl)
                have H3 := Lib.hid hb3
                clear hb1 hcn hb2 hb3
                go_wp2_with (first
                  | (go_at_call 32; refine (isAddress_any _ _).mono ?_; rw [H1.out]; rintro e w' ⟨rfl, rfl⟩)
                  | (go_at_call 33; refine (isValue_any _ _).mono ?_; rw [H2.out]; rintro e w' ⟨rfl, rfl⟩)
                  | (go_at_call 34; refine (isLeaf_any _ _).mono ?_; rw [H3.out]; rintro e w' ⟨rfl, rfl⟩))
                go_ret
                rw [← HWB.out]
                exact ⟨ret_bool HF.out.symm, HBB.out⟩
              | true =>
                have H3 := Lib.hid hb3
                have HOK : Hid (blkOk (y0, y1, y2) = true) := by unfold Hid blkOk; rw [hb1, hb2, hb3]; rfl
                obtain ⟨w6, hput, hs6, hg6⟩ := HSB.out.put (x := y0) (by omega) hcn (by unfold maxLen; omega)
                have HS6 := Lib.hid hs6
                have HG6 := Lib.hid hg6
                rw [HWB.out] at hput
                clear hb1 hcn hb2 hb3 hs6 hg6
                go_wp2_with (first
                  | (go_at_call 32; refine (isAddress_any _ _).mono ?_; rw [H1.out]; rintro e w' ⟨rfl, rfl⟩)
                  | (go_at_call 33; refine (isValue_any _ _).mono ?_; rw [H2.out]; rintro e w' ⟨rfl, rfl⟩)
                  | (go_at_call 34; refine (isLeaf_any _ _).mono ?_; rw [H3.out]; rintro e w' ⟨rfl, rfl⟩))
                go_roundw
                case rel =>
                  refine ⟨k + 1, hlt, by go_num, fun b hb => ?_, ?_, ?_, grown_trans HGB.out HG6.out⟩
                  · rw [HTK.out] at hb
                    rcases List.mem_append.1 hb with h | h
                    · exact hO.out b h
                    · simp at h; rw [h]; exact HOK.out
                  · show (adrs _).Nodup
                    rw [HAK.out]; exact nodup_snoc.2 ⟨hN.out, HCN.out⟩
                  · rw [HAK.out]; exact HS6.out
                case measure => simp [intOf]; omega
      · obtain rfl : k = L.length := by omega
        have hk0 : wr.cell? ⟨w.heap.size, 0, none⟩ = some (.slice ad n c) := hW.out.cell HK3.out (fun e => by have := Option.some.inj e; simp at this; omega)
        have HO2 : Hid (∀ b ∈ L, blkOk b = true) := by have := hO.out; rwa [List.take_length] at this
        have HN2 : Hid ((adrs L).Nodup) := by have := hN.out; rwa [List.take_length] at this
        have HS2 : Hid (Seen wr bm (adrs L)) := by have := hS.out; rwa [List.take_length] at this
        have hszr : bm < wr.heap.size := HS2.out.lt
        clear hO hN hS
        go_wp2
        generalize wr = wo at hBw HS2 hszr ⊢
        go_loopw [49] (fun i wr => ∃ k : Nat, k ≤ n ∧ i = .int .i64 k ∧ Hid (∀ i, i < k → (f i).length ≤ 2 ∧ ∀ b ∈ f i, onB i b.2.2 = true) ∧ Hid (Below wo.heap.size wo wr)) (fun i _ => n - (intOf i).toNat)
        case atStart => exact ⟨0, Nat.zero_le _, rfl, fun i hi => by omega, Below.refl _ _⟩
        case round =>
          obtain ⟨k, hk, rfl, hF, hB⟩ := hrel
          have hBt : Hid (Below w.heap.size w wr) := hBw.out.trans (hB.out.mono hBw.out.size)
          by_cases hlt : k < n
          · obtain ⟨b, off, rfl, hcell⟩ := HOP.out k hlt
            obtain ⟨a3, c3, hc3, hv3⟩ := hcell k hlt
            have g3 : wr.cell? ⟨b, off + k, none⟩ = some (.slice a3 (f k).length c3) := (hBt.out.cell (p := ⟨b, off + k, none⟩) (World.block_lt_of_cell? w _ hc3)).trans hc3
            have V3 := Lib.hid (hv3.mono hBt.out (Nat.le_refl _))
            have hfl := HSM.out.2.2 k hlt
            have HBF : Hid (((f k).any fun b => !onB (k : Int) b.2.2) = true → validB n f st = false) := fun hb => validB_not fun q => by
              obtain ⟨b, hb1, hb2⟩ := List.any_eq_true.1 hb
              have := (q.fits k hlt).2 b hb1
              rw [this] at hb2; cases hb2
            have HLF : Hid (¬ (f k).length ≤ 2 → validB n f st = false) := fun hb => validB_not fun q => hb (q.fits k hlt).1
            have HOKL : Hid (∀ b ∈ f k, inB b.2.2 0 3 = true) := fun b hb => by
              have := HO2.out b (by rw [← HLL.out]; exact allM_mem.2 (.inr ⟨k, hlt, hb⟩))
              unfold blkOk at this
              rw [Bool.and_eq_true] at this; exact this.2
            obtain ⟨m, hm⟩ : ∃ m, (f k).length = m := ⟨_, rfl⟩
            rw [hm] at g3 hfl V3 HLF
            have HMM := Lib.hid hm
            have hsz := hB.out.size
            clear hcell hc3 hv3 hm
            by_cases hm2 : m ≤ 2
            · have e2 : decide ((m : Int) > 2) = false := by simp; omega
              have e3 : decide ((2 : Int) < m) = false := by simp; omega
              obtain ⟨wb, hwb⟩ : ∃ wb, wb = wr.alloc (.cells #[.int .i64 (k : Int)] 3) := ⟨_, rfl⟩
              have HWB := Lib.hid hwb
              have HRB : Hid (Row wb wr.heap.size 3 [.int .i64 (k : Int)]) := by rw [hwb]; exact Row.new wr 3 [.int .i64 (k : Int)]
              have HB1 : Hid (Below wo.heap.size wo wb) := by rw [hwb]; exact hB.out.alloc hsz _
              have HVB : Hid (Blks wb (.slice a3 m c3) (f k)) := V3.out.mono (by rw [hwb]; exact (Below.refl wr.heap.size wr).alloc (Nat.le_refl _) _) (Nat.le_refl _)
              have HCL : Hid (ClosP 41 (.pointer (some ⟨wr.heap.size, 0, none⟩)) wb (f k) (fun b => !onB (k : Int) b.2.2)) := fun W hW b hb => validC_any b k _ W ((HRB.out.mono hW HRB.out.lt).cell (i := 0) rfl) (HOKL.out b hb)
              clear hwb
              cases hany : (f k).any fun b => !onB (k : Int) b.2.2 with
              | true =>
                have HFF : Hid (validB n f st = false) := HBF.out hany
                have HAN := Lib.hid hany
                clear hany
                go_wp2_with fail
                rw [← HWB.out]
                refine (containsFunc_any _ _ (fun b => !onB (k : Int) b.2.2) _ (f k) wb (.inl rfl) HVB.out HCL.out (by rw [HMM.out]; omega)).mono ?_
                rw [HAN.out]
                rintro e w' ⟨rfl, hb⟩
                have HBZ : Hid (Below w.heap.size w w') := hBw.out.trans ((HB1.out.trans (hb.mono HB1.out.size)).mono hBw.out.size)
                clear hb
                go_wp2
                go_ret
                exact ⟨ret_bool HFF.out.symm, HBZ.out⟩
              | false =>
                have HFT : Hid (∀ b ∈ f k, onB (k : Int) b.2.2 = true) := fun b hb => by
                  have := (List.any_eq_false.1 hany) b hb
                  simpa using this
                have HAN := Lib.hid hany
                clear hany
                go_wp2_with fail
                rw [← HWB.out]
                refine (containsFunc_any _ _ (fun b => !onB (k : Int) b.2.2) _ (f k) wb (.inl rfl) HVB.out HCL.out (by rw [HMM.out]; omega)).mono ?_
                rw [HAN.out]
                rintro e w' ⟨rfl, hb⟩
                have HBZ : Hid (Below wo.heap.size wo w') := HB1.out.trans (hb.mono HB1.out.size)
                clear hb
                go_wp2
                go_roundw
                case rel =>
                  refine ⟨k + 1, hlt, by go_num, fun i hi => ?_, HBZ.out⟩
                  by_cases e : i = k
                  · subst e; exact ⟨by rw [HMM.out]; exact hm2, HFT.out⟩
                  · exact hF.out i (by omega)
                case measure => simp [intOf]; omega
            · have e2 : (2 : Int) < m := by omega
              have e2' : decide ((m : Int) > 2) = true := by simp; omega
              have HFF : Hid (validB n f st = false) := HLF.out hm2
              have HBZ : Hid (Below w.heap.size w (wr.alloc (.cells #[.int .i64 (k : Int)] 3))) := hBt.out.alloc hBt.out.size _
              clear hm2
              go_wp2
              go_ret
              exact ⟨ret_bool HFF.out.symm, HBZ.out⟩
          · obtain rfl : k = n := by omega
            have hse : Seen wr bm (adrs L) := HS2.out.kept (row := none) ⟨hB.out.os, hB.out.tape, hB.out.output, hB.out.size, fun k hk _ => hB.out.block k hk⟩ (by simp)
            have hlen := hse.len 3
            rw [adrs_length] at hlen
            have HV : Hid (validB k f st = decide ((L.length : Int) = 8)) := by
              show _ = _
              by_cases e8 : L.length = 8
              · rw [decide_eq_true (by omega)]
                exact validB_of ⟨H7.out, by rw [HLL.out]; exact HO2.out, by rw [HLL.out]; exact HN2.out, by rw [HLL.out]; exact e8, hF.out⟩
              · rw [decide_eq_false (by omega)]
                exact validB_not fun q => e8 (by rw [← HLL.out]; exact q.eight)
            clear hse
            go_wp2
            go_ret
            exact ⟨ret_bool (by rw [HV.out]; simp [BEq.beq]), hBt.out⟩
end Go.Proofs.YtbnplohlfiefhaaDoor
