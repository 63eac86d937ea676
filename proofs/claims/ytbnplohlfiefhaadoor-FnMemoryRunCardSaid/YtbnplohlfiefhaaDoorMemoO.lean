/- MemoryOf: contract of the program's -/
import Derived.Test.YtbnplohlfiefhaaDoorUseP
namespace Go.Proofs.YtbnplohlfiefhaaDoor
open Go.RowKit
def memB (xs ys : List Int) (k : Nat) : List (Int × Int × Int) := tab k fun i => ((i : Int), xs[i]?.getD 0, ys[i]?.getD 0)
@[simp] theorem memB_len (xs ys : List Int) (k : Nat) : (memB xs ys k).length = k := by simp [memB]
theorem memB_succ (xs ys : List Int) (k : Nat) : memB xs ys (k + 1) = memB xs ys k ++ [((k : Int), xs[k]?.getD 0, ys[k]?.getD 0)] := by simp [memB, tab, List.range_succ]
def memOk (xs ys : List Int) : Bool := decide (xs.length = 8) && decide (ys.length = 8) && validB 7 (fun _ => []) (memB xs ys 8)
def memLs (xs ys : List Int) (k : Nat) : Nat → List (Int × Int × Int) := upd (fun _ => []) 0 (memB xs ys k)
theorem memLs_eq (xs ys : List Int) (k : Nat) : memLs xs ys k = lsOf (fun _ => []) (memB xs ys k) := by
  funext i
  unfold memLs lsOf upd
  by_cases e : i = 0
  · rw [if_pos e, if_pos e]
  · rw [if_neg e, if_neg e]; split <;> rfl
theorem memLs_small (xs ys : List Int) {k : Nat} (h : k ≤ 100) : Small 7 (fun _ => []) (memB xs ys k) := ⟨by omega, by simp; omega, fun i _ => by simp⟩
/-- seven lists without blocks -/
theorem mb_start {w : World} {B gx gb : Nat} (h : Row w gb 27 (tab 7 fun _ => .slice none 0 0)) (hx : Row w gx 29 [.slice (some ⟨gb, 0, none⟩) 7 7, .slice none 0 0]) (hB : B ≤ gb) (xs ys : List Int) : MB w B gx 7 (.slice (some ⟨gb, 0, none⟩) 7 7) (fun _ => .slice none 0 0) (memLs xs ys 0) :=
  ⟨hx, Gr.of_made h rfl (by unfold maxLen; omega) hB, fun i _ => ⟨by
    have : memLs xs ys 0 i = [] := by unfold memLs upd memB; split <;> rfl
    rw [this]; exact Gr.nil _ _ _ _, fun _ _ _ g hg => by simp [gBlock] at hg⟩⟩
theorem Tryd.mk7 (w : World) : (Instr.makeSlice 26 (.int .i64 7) (.int .i64 7)).run Tryd.prog w = .ok (.slice (some ⟨w.heap.size, 0, none⟩) 7 7) (w.alloc (.cells #[.slice none 0 0, .slice none 0 0, .slice none 0 0, .slice none 0 0, .slice none 0 0, .slice none 0 0, .slice none 0 0] 27)) := by kernel_rfl
set_option maxRecDepth 20000 in
set_option maxHeartbeats 2000000 in
theorem impl_MemoryOf (xv yv : Value) (xs ys : List Int) (w : World) (hx : Ints w xv xs) (hy : Ints w yv ys) :
    Calls Tryd.prog 10 #[xv, yv] w (MemoPost (if memOk xs ys then 7 else 0) (if memOk xs ys then memLs xs ys 8 else fun _ => []) w) := by
  obtain ⟨ax, cx, rfl, hmx, hopx⟩ := hx.open
  obtain ⟨ay, cy, rfl, hmy, hopy⟩ := hy.open
  have HOPX := Lib.hid hopx
  have HOPY := Lib.hid hopy
  clear hx hy hopx hopy
  have HZ : Hid (∀ w2, Below w.heap.size w w2 → MemoPost 0 (fun _ => []) w (.returned (.agg #[.slice none 0 0, .slice none 0 0])) w2) := fun w2 hb => ⟨_, rfl, MO.zero _ _, hb⟩
  have HB1 : Hid (Below w.heap.size w (w.alloc (.cells #[.slice none 0 0, .slice none 0 0] 29))) := (Below.refl _ _).alloc (Nat.le_refl _) _
  have HR1 : Hid (Row (w.alloc (.cells #[.slice none 0 0, .slice none 0 0] 29)) w.heap.size 29 [.slice none 0 0, .slice none 0 0]) := Row.new w 29 [.slice none 0 0, .slice none 0 0]
  obtain ⟨N, hN⟩ : ∃ N, (if memOk xs ys then (7 : Nat) else 0) = N := ⟨_, rfl⟩
  obtain ⟨LS, hLS⟩ : ∃ LS, (if memOk xs ys then memLs xs ys 8 else fun _ => []) = LS := ⟨_, rfl⟩
  rw [hN, hLS]
  have HN := Lib.hid hN
  have HLS := Lib.hid hLS
  clear hN hLS
  by_cases hxl : xs.length = 8
  · by_cases hyl : ys.length = 8
    · have HXL := Lib.hid hxl
      have HYL := Lib.hid hyl
      have HOK : Hid (memOk xs ys = validB 7 (fun _ => []) (memB xs ys 8)) := by unfold Hid memOk; rw [hxl, hyl]; simp
      rw [hxl, hyl]
      clear hxl hyl hmx hmy
      have hmk := Tryd.mk7 (w.alloc (.cells #[.slice none 0 0, .slice none 0 0] 29))
      obtain ⟨W2, hW2⟩ : ∃ W2, W2 = ((w.alloc (.cells #[.slice none 0 0, .slice none 0 0] 29)).alloc (.cells #[.slice none 0 0, .slice none 0 0, .slice none 0 0, .slice none 0 0, .slice none 0 0, .slice none 0 0, .slice none 0 0] 27)).alloc (.cells #[.slice (some ⟨w.heap.size + 1, 0, none⟩) 7 7, .slice none 0 0] 29) := ⟨_, rfl⟩
      have HW2 := Lib.hid hW2
      have HB2 : Hid (Below w.heap.size w W2) := by rw [hW2]; exact (HB1.out.alloc HB1.out.size _).alloc (by simp; omega) _
      have HR2 : Hid (Row W2 w.heap.size 29 [.slice none 0 0, .slice none 0 0]) := by rw [hW2]; exact (HR1.out.alloc _).alloc _
      have HM2 : Hid (MB W2 (w.heap.size + 1) (w.heap.size + 1 + 1) 7 (.slice (some ⟨w.heap.size + 1, 0, none⟩) 7 7) (fun _ => .slice none 0 0) (memLs xs ys 0)) := by
        rw [hW2]
        refine mb_start ?_ ?_ (Nat.le_refl _) xs ys
        · have := (Row.new (w.alloc (.cells #[.slice none 0 0, .slice none 0 0] 29)) 27 [.slice none 0 0, .slice none 0 0, .slice none 0 0, .slice none 0 0, .slice none 0 0, .slice none 0 0, .slice none 0 0]).alloc (.cells #[.slice (some ⟨w.heap.size + 1, 0, none⟩) 7 7, .slice none 0 0] 29)
          rw [World.size_alloc] at this
          exact this
        · have := Row.new ((w.alloc (.cells #[.slice none 0 0, .slice none 0 0] 29)).alloc (.cells #[.slice none 0 0, .slice none 0 0, .slice none 0 0, .slice none 0 0, .slice none 0 0, .slice none 0 0, .slice none 0 0] 27)) 29 [.slice (some ⟨w.heap.size + 1, 0, none⟩) 7 7, .slice none 0 0]
          rw [World.size_alloc, World.size_alloc] at this
          exact this
      clear hW2
      go_enter Tryd.func10, Tryd.ntmps10
      go_wp2
      clear hmk
      rw [← HW2.out]
      go_loopw [21] (fun i wr => ∃ (k : Nat) (vs : Nat → Value), k ≤ 8 ∧ i = .int .i64 k ∧ Hid (MB wr (w.heap.size + 1) (w.heap.size + 1 + 1) 7 (.slice (some ⟨w.heap.size + 1, 0, none⟩) 7 7) vs (memLs xs ys k)) ∧ Hid (Below w.heap.size w wr) ∧ Hid (Row wr w.heap.size 29 [.slice none 0 0, .slice none 0 0])) (fun i _ => 8 - (intOf i).toNat)
      case atStart => exact ⟨0, _, Nat.zero_le _, rfl, HM2.out, HB2.out, HR2.out⟩
      case round =>
        clear HW2 HB2 HR2 HM2
        obtain ⟨k, vs, hk, rfl, hM, hB, hR⟩ := hrel
        by_cases hlt : k < 8
        · obtain ⟨b, off, rfl, hcell⟩ := HOPX.out k (by rw [HXL.out]; exact hlt)
          obtain ⟨b2, off2, rfl, hcell2⟩ := HOPY.out k (by rw [HYL.out]; exact hlt)
          have cx1 := hcell k (by rw [HXL.out]; exact hlt)
          have cy1 := hcell2 k (by rw [HYL.out]; exact hlt)
          unfold iv at cx1 cy1
          have HSUC := Lib.hid (memB_succ xs ys k)
          obtain ⟨x, hx⟩ : ∃ x, xs[k]?.getD 0 = x := ⟨_, rfl⟩
          obtain ⟨y, hy⟩ : ∃ y, ys[k]?.getD 0 = y := ⟨_, rfl⟩
          rw [hx] at cx1 HSUC
          rw [hy] at cy1 HSUC
          have cx2 := (hB.out.cell (p := ⟨b, off + k, none⟩) (World.block_lt_of_cell? w _ cx1)).trans cx1
          have cy2 := (hB.out.cell (p := ⟨b2, off2 + k, none⟩) (World.block_lt_of_cell? w _ cy1)).trans cy1
          clear hcell hcell2 hx hy cx1 cy1
          have x1 := hM.out.1.cell (i := 1) rfl
          obtain ⟨a1, c1, hv1⟩ := (hM.out.2.2 0 (by omega)).1.lit
          have hl1 : (memLs xs ys k 0).length = k := by unfold memLs; rw [upd_same]; simp
          rw [hl1] at hv1
          rw [hv1] at x1
          have HV1 := Lib.hid hv1
          have HMA : Hid (MB (wr.alloc (.cells #[.int .i64 k, .int .i64 x, .int .i64 y] 56)) (w.heap.size + 1) (w.heap.size + 1 + 1) 7 (.slice (some ⟨w.heap.size + 1, 0, none⟩) 7 7) vs (memLs xs ys k)) := hM.out.alloc _
          have cy3 := (hB.out.alloc hB.out.size (.cells #[.int .i64 k, .int .i64 x, .int .i64 y] 56))
          have x1a := HMA.out.1.cell (i := 1) rfl
          rw [hv1] at x1a
          have hG := Lib.hid (HMA.out.drew.2.2 0 (by omega)).1
          have hG' : Hid (Gr (wr.alloc (.cells #[.int .i64 k, .int .i64 x, .int .i64 y] 56)).drew (w.heap.size + 1) 56 3 (.slice a1 k c1) k (blks (memB xs ys k))) := by
            have := hG.out
            rw [hv1, hl1] at this
            unfold memLs at this
            rwa [upd_same] at this
          have hszB : w.heap.size + 1 ≤ wr.heap.size := Nat.lt_of_lt_of_le (Nat.lt_succ_self _) hR.out.lt
          clear hv1 hl1 hG cy3
          go_wp2_with fail
          go_region_law (first
            | (refine step_app _ rfl (.tmp 27) (.tmp 35) 27 rfl (w.heap.size + 1) 56 (.agg #[.int .i64 0, .int .i64 0, .int .i64 0]) 3 24 Tryd.underlying27 Tryd.infoBlk rfl (by omega) (.slice a1 k c1) k (blks (memB xs ys k)) rfl hG'.out _ 1 (blks [((k : Int), x, y)]) rfl ((view_blk wr ((k : Int), x, y)).mono (Below.refl _ _).drew (Nat.le_refl _)) (one_blks _) (by unfold maxLen; omega) (by omega) (by simp; omega) ?_
               intro v1 w7 g1 r1 k1
               have G1 : Hid (Gr w7 (w.heap.size + 1) 56 3 v1 (memB xs ys (k + 1)).length (blks (memB xs ys (k + 1)))) := by unfold Hid; rw [HSUC.out, List.length_append, blks_append, memB_len]; exact g1
               have hap := HMA.out.drew.app (j := 0) (by omega) G1.out (by rw [HV1.out]; exact r1) (by rw [HV1.out]; exact k1)
               have HN : Hid (MB (w7.setCell ⟨w.heap.size + 1 + 1, 1, none⟩ v1) (w.heap.size + 1) (w.heap.size + 1 + 1) 7 (.slice (some ⟨w.heap.size + 1, 0, none⟩) 7 7) (upd vs 0 v1) (upd (memLs xs ys k) 0 (memB xs ys (k + 1)))) := MB.stash hap.1 hap.2.1 hap.2.2
               have HAP := Lib.hid hap.1
               have hb7 : Below w.heap.size w w7 := (((hB.out.alloc hB.out.size _).drew).grown r1 (by simp; have := hB.out.size; omega) (fun g hg => by have := ((HMA.out.drew.2.2 0 (by omega)).1.lt g (by rw [HV1.out]; exact hg)).1; omega))
               have HB7 : Hid (Below w.heap.size w (w7.setCell ⟨w.heap.size + 1 + 1, 1, none⟩ v1)) := hb7.setCell (p := ⟨w.heap.size + 1 + 1, 1, none⟩) (by show w.heap.size ≤ w.heap.size + 1 + 1; omega) _
               have hR7a : Row w7 w.heap.size 29 [.slice none 0 0, .slice none 0 0] := Row.grown (w := (wr.alloc (.cells #[.int .i64 k, .int .i64 x, .int .i64 y] 56)).drew) (hR.out.alloc _) r1 (fun e => by have := ((HMA.out.drew.2.2 0 (by omega)).1.lt _ (by rw [HV1.out]; exact e)).1; omega)
               have HR7 : Hid (Row (w7.setCell ⟨w.heap.size + 1 + 1, 1, none⟩ v1) w.heap.size 29 [.slice none 0 0, .slice none 0 0]) := hR7a.grown (set_other w7 ⟨w.heap.size + 1 + 1, 1, none⟩ v1 rfl) (fun e => by have h9 : w.heap.size + 1 + 1 = w.heap.size := Option.some.inj e; omega)
               obtain ⟨a7, c7, hv7⟩ := g1.lit
               subst hv7
               have s1 := HAP.out.cell (i := 1) rfl
               have sf := HAP.out.free 1
               clear g1 r1 k1 hap hb7 hR7a))
          all_goals
            go_wp2
            go_roundw
            case rel => exact ⟨k + 1, _, hlt, by go_num, by have := HN.out; unfold memLs at this; rw [upd_upd] at this; exact this, HB7.out, HR7.out⟩
            case measure => simp [intOf]; omega
        · obtain rfl : k = 8 := by omega
          have HML := Lib.hid (memLs_small xs ys (k := 8) (by omega))
          have hml0 : memLs xs ys 8 0 = memB xs ys 8 := upd_same _ _ _
          have hmli : (fun i => memLs xs ys 8 (i + 2)) = fun _ => [] := by funext i; exact upd_other _ _ (by omega)
          obtain ⟨a1, c1, hv1⟩ := (hM.out.2.2 0 (by omega)).1.lit
          rw [hml0, memB_len] at hv1
          have HMI : Hid (MemIn wr (.agg #[.slice (some ⟨w.heap.size + 1, 0, none⟩) 7 7, .slice a1 8 c1]) 7 (fun _ => []) (memB xs ys 8)) := by
            have := hM.out.memIn
            rwa [hv1, hml0, hmli] at this
          have HMO : Hid (MO wr (w.heap.size + 1) (.agg #[.slice (some ⟨w.heap.size + 1, 0, none⟩) 7 7, .slice a1 8 c1]) 7 (memLs xs ys 8)) := by
            have : MO wr (w.heap.size + 1) (.agg #[.slice (some ⟨w.heap.size + 1, 0, none⟩) 7 7, vs 0]) 7 (memLs xs ys 8) := ⟨_, vs, rfl, hM.out.2.1, hM.out.2.2⟩
            rwa [hv1] at this
          have HRX : Hid (Row wr (w.heap.size + 1 + 1) 29 [.slice (some ⟨w.heap.size + 1, 0, none⟩) 7 7, .slice a1 8 c1]) := by
            have := hM.out.1
            rwa [hv1] at this
          have x0 := HRX.out.cell (i := 0) rfl
          have x1 := HRX.out.cell (i := 1) rfl
          clear hml0 hmli hv1 hM
          go_wp2_with fail
          clear x0 x1
          refine (impl_MemoryValid _ 7 _ _ wr HMI.out HML.out).mono ?_
          cases hvd : validB 7 (fun _ => []) (memB xs ys 8) with
          | false =>
            have HVD := Lib.hid (HOK.out.trans hvd)
            rintro e w2 ⟨rfl, hb⟩
            have HR2 := Lib.hid (hR.out.mono hb hR.out.lt)
            have HB2 := Lib.hid (hB.out.trans (hb.mono hB.out.size))
            clear hb hvd
            have y0 := HR2.out.cell (i := 0) rfl
            have y1 := HR2.out.cell (i := 1) rfl
            have z0 := HR2.out.free 0
            have z1 := HR2.out.free 1
            go_wp2
            have hrow := (HR2.out.set 0 (.slice none 0 0)).set 1 (.slice none 0 0)
            have f0 := hrow.cell (i := 0) rfl
            have f1 := hrow.cell (i := 1) rfl
            refine bodyPost_ret (v := .agg #[.slice none 0 0, .slice none 0 0]) (by simp [results, Tryd.results10, go_sem, f0, f1]) rfl ?_
            rw [← HN.out, ← HLS.out, HVD.out]
            exact HZ.out _ ((HB2.out.setCell (p := ⟨w.heap.size, 0, none⟩) (Nat.le_refl _) _).setCell (p := ⟨w.heap.size, 1, none⟩) (Nat.le_refl _) _)
          | true =>
            have HVD := Lib.hid (HOK.out.trans hvd)
            rintro e w2 ⟨rfl, hb⟩
            have HR2 := Lib.hid (hR.out.mono hb hR.out.lt)
            have HRX2 := Lib.hid (HRX.out.mono hb HRX.out.lt)
            have HB2 := Lib.hid (hB.out.trans (hb.mono hB.out.size))
            have HMO2 := Lib.hid (HMO.out.mono hb (Nat.le_refl _))
            clear hb hvd
            have x0 := HRX2.out.cell (i := 0) rfl
            have x1 := HRX2.out.cell (i := 1) rfl
            have y0 := HR2.out.cell (i := 0) rfl
            have y1 := HR2.out.cell (i := 1) rfl
            have z0 := HR2.out.free 0
            have z1 := HR2.out.free 1
            go_wp2
            have hrow := (HR2.out.set 0 (.slice (some ⟨w.heap.size + 1, 0, none⟩) 7 7)).set 1 (.slice a1 8 c1)
            have f0 := hrow.cell (i := 0) rfl
            have f1 := hrow.cell (i := 1) rfl
            have hg1 : w2.grownBy ((w2.setCell ⟨w.heap.size, 0, none⟩ (.slice (some ⟨w.heap.size + 1, 0, none⟩) 7 7)).setCell ⟨w.heap.size, 1, none⟩ (.slice a1 8 c1)) (some w.heap.size) := grown_set (set_other w2 ⟨w.heap.size, 0, none⟩ _ rfl) _ _
            refine bodyPost_ret (v := .agg #[.slice (some ⟨w.heap.size + 1, 0, none⟩) 7 7, .slice a1 8 c1]) (by simp [results, Tryd.results10, go_sem, f0, f1]) rfl ?_
            rw [← HN.out, ← HLS.out, HVD.out]
            exact ⟨_, rfl, (HMO2.out.kept hg1 (Nat.lt_succ_self _)).low (Nat.le_succ _), ((HB2.out.setCell (p := ⟨w.heap.size, 0, none⟩) (Nat.le_refl _) _).setCell (p := ⟨w.heap.size, 1, none⟩) (Nat.le_refl _) _)⟩
    · have hok : memOk xs ys = false := by unfold memOk; simp [hyl]
      have hd : ((ys.length : Int) != 8) = true := by simp; omega
      have HVD := Lib.hid hok
      rw [hxl]
      clear hok hyl hxl hmx hmy
      have y0 := HR1.out.cell (i := 0) rfl
      have y1 := HR1.out.cell (i := 1) rfl
      have z0 := HR1.out.free 0
      have z1 := HR1.out.free 1
      go_enter Tryd.func10, Tryd.ntmps10
      go_wp2
      refine bodyPost_ret (v := .agg #[.slice none 0 0, .slice none 0 0]) (by simp [results, Tryd.results10, go_sem, y0, y1]) rfl ?_
      rw [← HN.out, ← HLS.out, HVD.out]
      exact HZ.out _ HB1.out
  · have hok : memOk xs ys = false := by unfold memOk; simp [hxl]
    have hd : ((xs.length : Int) != 8) = true := by simp; omega
    have HVD := Lib.hid hok
    clear hok hxl hmx hmy
    have y0 := HR1.out.cell (i := 0) rfl
    have y1 := HR1.out.cell (i := 1) rfl
    have z0 := HR1.out.free 0
    have z1 := HR1.out.free 1
    go_enter Tryd.func10, Tryd.ntmps10
    go_wp2
    refine bodyPost_ret (v := .agg #[.slice none 0 0, .slice none 0 0]) (by simp [results, Tryd.results10, go_sem, y0, y1]) rfl ?_
    rw [← HN.out, ← HLS.out, HVD.out]
    exact HZ.out _ HB1.out
end Go.Proofs.YtbnplohlfiefhaaDoor
