/- MemoryOf: contract of the specification's; MemoryUse of the program, both answers -/
import Derived.Test.YtbnplohlfiefhaaDoorMemoO
import Derived.Test.YtbnplohlfiefhaaDoorRegM
import Derived.Test.YtbnplohlfiefhaaDoorUseY
namespace Go.Proofs.YtbnplohlfiefhaaDoor
open Go.RowKit
theorem memLs_zero (xs ys : List Int) (i : Nat) : memLs xs ys 0 i = [] := by unfold memLs upd memB; split <;> rfl
theorem view_one3 (w : World) (o : Obj) (u : Value) (t : TypeId) : View ((w.alloc o).alloc (.cells #[u] t)) 1 (.slice (some ⟨w.heap.size + 1, 0, none⟩) 1 1) 1 [u] := by
  have := view_one (w.alloc o) u t
  rwa [World.size_alloc] at this
set_option maxRecDepth 20000 in
set_option maxHeartbeats 2000000 in
theorem spec_MemoryOf (xv yv : Value) (xs ys : List Int) (w : World) (hx : Ints w xv xs) (hy : Ints w yv ys) (hlx : xs.length ≤ 100) :
    Calls Tryd.prog 12 #[xv, yv] w (MemoPost (if memOk xs ys then 7 else 0) (if memOk xs ys then memLs xs ys 8 else fun _ => []) w) := by
  obtain ⟨ax, cx, rfl, hmx, hopx⟩ := hx.open
  obtain ⟨ay, cy, rfl, hmy, hopy⟩ := hy.open
  have HOPX := Lib.hid hopx
  have HOPY := Lib.hid hopy
  have HLX := Lib.hid hlx
  clear hx hy hopx hopy hmx hmy hlx
  have HZ : Hid (∀ w2, Below w.heap.size w w2 → MemoPost 0 (fun _ => []) w (.returned (.agg #[.slice none 0 0, .slice none 0 0])) w2) := fun w2 hb => ⟨_, rfl, MO.zero _ _, hb⟩
  obtain ⟨N, hN⟩ : ∃ N, (if memOk xs ys then (7 : Nat) else 0) = N := ⟨_, rfl⟩
  obtain ⟨LS, hLS⟩ : ∃ LS, (if memOk xs ys then memLs xs ys 8 else fun _ => []) = LS := ⟨_, rfl⟩
  rw [hN, hLS]
  have HN := Lib.hid hN
  have HLS := Lib.hid hLS
  clear hN hLS
  obtain ⟨w1, hw1⟩ : ∃ w1, w1 = (w.alloc (.cells #[.slice none 0 0, .slice none 0 0] 29)).alloc (.cells #[.slice none 0 0, .slice none 0 0] 29) := ⟨_, rfl⟩
  have HW1 := Lib.hid hw1
  have HB1 : Hid (Below w.heap.size w w1) := by rw [hw1]; exact ((Below.refl _ _).alloc (Nat.le_refl _) _).alloc (by simp) _
  have HR0 : Hid (Row w1 w.heap.size 29 [.slice none 0 0, .slice none 0 0]) := by rw [hw1]; exact (Row.new w 29 [.slice none 0 0, .slice none 0 0]).alloc _
  have HRX : Hid (Row w1 (w.heap.size + 1) 29 [.slice none 0 0, .slice none 0 0]) := by
    have := Row.new (w.alloc (.cells #[.slice none 0 0, .slice none 0 0] 29)) 29 [.slice none 0 0, .slice none 0 0]
    rw [World.size_alloc] at this
    rw [hw1]; exact this
  have HZ1 : Hid (w1.heap.size = w.heap.size + 1 + 1) := by rw [hw1]; simp [Hid]
  clear hw1
  go_enter Tryd.func12, Tryd.ntmps12
  go_wp2
  rw [← HW1.out]
  clear HW1
  obtain ⟨gx, hgx⟩ : ∃ gx, w.heap.size + 1 = gx := ⟨_, rfl⟩
  obtain ⟨g0, hg0⟩ : ∃ g0, w.heap.size = g0 := ⟨_, rfl⟩
  rw [hgx] at HRX HZ1 ⊢
  rw [hg0] at HR0 HB1 hgx ⊢
  have HG0 := Lib.hid hg0
  have HGX := Lib.hid hgx
  clear hgx hg0
  go_loopw [6] (fun i wr => ∃ (k : Nat) (bv : Value) (vs : Nat → Value), k ≤ 7 ∧ i = .int .i64 k ∧ Hid (MB wr w1.heap.size gx k bv vs (memLs xs ys 0)) ∧ Hid (Below gx w1 wr)) (fun i _ => 7 - (intOf i).toNat)
  case atStart =>
    exact ⟨0, .slice none 0 0, fun _ => .slice none 0 0, Nat.zero_le _, rfl, ⟨HRX.out, Gr.nil _ _ _ _, fun i hi => ⟨by rw [memLs_zero]; exact Gr.nil _ _ _ _, fun _ _ _ g hg => by simp [gBlock] at hg⟩⟩, Below.refl _ _⟩
  case round =>
    obtain ⟨k, bv, vs, hk, rfl, hM, hB⟩ := hrel
    obtain ⟨abv, cbv, hbv⟩ := hM.out.2.1.lit
    subst hbv
    by_cases hlt : k < 7
    · have hM1 : Hid (MB (wr.alloc (.cells #[] 56)) w1.heap.size gx k (.slice abv k cbv) vs (memLs xs ys 0)) := hM.out.alloc _
      have hsz := hB.out.size
      have hx0 := hM.out.1.cell (i := 0) rfl
      go_wp2_with (at_builtin; refine wpList_app _ rfl (.tmp 14) (.tmp 16) 26 rfl w1.heap.size 27 (.slice none 0 0) 1 24 Tryd.underlying26 Tryd.infoBlks rfl (by omega) (.slice abv k cbv) k (tab k fun i => vs (i + 2)) rfl (hM1.out.2.1.alloc _) _ 1 [.slice (some ⟨wr.heap.size, 0, none⟩) 0 0] rfl (view_one3 _ _ _ _) (by simp [Value.oneCell']) (by unfold maxLen; omega) (by omega) (by simp; omega) ?_; intro v4 w4 g1 r1 k1; have G4 := Lib.hid g1; have R4 := Lib.hid r1; have HGK : Hid (∀ g, gBlock (.slice abv k cbv) = some g → g ≠ gx) := (row_ne hM1.out.2.1 hM1.out.1 (by decide)); have RX : Hid (Row w4 gx 29 [.slice abv k cbv, vs 0]) := ((hM1.out.1.alloc _).grown r1 (fun e => HGK.out _ e rfl)); obtain ⟨a4, c4, hv4⟩ := G4.out.lit; subst hv4; have kx5 := RX.out.cell (i := 0) rfl; have fx5 := RX.out.free 0; clear g1 r1 k1 hx0)
      go_roundw
      case rel =>
        have hgs : gx ≤ w1.heap.size := by rw [HZ1.out]; omega
        have hb4 : Below gx w1 w4 := ((hB.out.alloc (by omega) _).alloc (by simp; omega) _).grown R4.out (by simp; omega) (fun g hg => Nat.le_trans hgs (hM1.out.2.1.lt g hg).1)
        exact ⟨k + 1, _, _, hlt, by go_num, MB.push hM1.out (v2 := .slice (some ⟨wr.heap.size, 0, none⟩) 0 0) (by rw [memLs_zero]; exact Gr.none0 _ _ _ _ _) (fun g hg => by simp [gBlock] at hg) _ G4.out R4.out, hb4.setCell (p := ⟨gx, 0, none⟩) (Nat.le_refl _) _⟩
      case measure => simp [intOf]; omega
    · obtain rfl : k = 7 := by omega
      have HM7 := Lib.hid hM.out
      have HB7 := Lib.hid hB.out
      clear hM hB HRX
      go_wp2
      go_loopg [7] xs.length (fun gg i wr => ∃ (k : Nat) (vs : Nat → Value), k ≤ xs.length ∧ k ≤ ys.length ∧ xs.length - k ≤ gg ∧ i = .int .i64 k ∧ Hid (MB wr w1.heap.size gx 7 (.slice abv 7 cbv) vs (memLs xs ys k)) ∧ Hid (Below gx w1 wr))
      case atStart => exact ⟨0, vs, Nat.zero_le _, Nat.zero_le _, Nat.le_refl _, rfl, HM7.out, HB7.out⟩
      case round =>
        clear HM7 HB7
        obtain ⟨k, vs, hkx, hky, hgg, rfl, hM, hB⟩ := hrel
        have hgs : gx ≤ w1.heap.size := by rw [HZ1.out]; omega
        have hg0 : g0 < gx := by have := HG0.out; have := HGX.out; omega
        have hwg : w.heap.size = g0 := HG0.out
        have HBW : Hid (Below g0 w wr) := HB1.out.trans (hB.out.mono (by omega))
        by_cases hlt : k < xs.length ∧ k < ys.length
        · obtain ⟨h1, h2⟩ := hlt
          obtain ⟨b, off, rfl, hcell⟩ := HOPX.out k h1
          obtain ⟨b2, off2, rfl, hcell2⟩ := HOPY.out k h2
          have cx1 := hcell k h1
          have cy1 := hcell2 k h2
          unfold iv at cx1 cy1
          have HSUC := Lib.hid (memB_succ xs ys k)
          obtain ⟨x, hx⟩ : ∃ x, xs[k]?.getD 0 = x := ⟨_, rfl⟩
          obtain ⟨y, hy⟩ : ∃ y, ys[k]?.getD 0 = y := ⟨_, rfl⟩
          rw [hx] at cx1 HSUC
          rw [hy] at cy1 HSUC
          have cx2 := (HBW.out.cell (p := ⟨b, off + k, none⟩) (by have := World.block_lt_of_cell? w _ cx1; omega)).trans cx1
          have cy2 := (HBW.out.cell (p := ⟨b2, off2 + k, none⟩) (by have := World.block_lt_of_cell? w _ cy1; omega)).trans cy1
          have hcx : ∀ w', Below g0 w w' → w'.cell? ⟨b, off + k, none⟩ = some (.int .i64 x) := fun w' hb => (hb.cell (p := ⟨b, off + k, none⟩) (by have := World.block_lt_of_cell? w _ cx1; omega)).trans cx1
          have hcy : ∀ w', Below g0 w w' → w'.cell? ⟨b2, off2 + k, none⟩ = some (.int .i64 y) := fun w' hb => (hb.cell (p := ⟨b2, off2 + k, none⟩) (by have := World.block_lt_of_cell? w _ cy1; omega)).trans cy1
          clear hcell hcell2 hx hy cx1 cy1
          have x1 := hM.out.1.cell (i := 1) rfl
          obtain ⟨a1, c1, hv1⟩ := (hM.out.2.2 0 (by omega)).1.lit
          have hl1 : (memLs xs ys k 0).length = k := by unfold memLs; rw [upd_same]; simp
          rw [hl1] at hv1
          rw [hv1] at x1
          have HV1 := Lib.hid hv1
          have HMA : Hid (MB (wr.alloc (.cells #[.int .i64 k, .int .i64 x, .int .i64 y] 56)) w1.heap.size gx 7 (.slice abv 7 cbv) vs (memLs xs ys k)) := hM.out.alloc _
          have x1a := HMA.out.1.cell (i := 1) rfl
          rw [hv1] at x1a
          have hG := Lib.hid (HMA.out.drew.2.2 0 (by omega)).1
          have hG' : Hid (Gr (wr.alloc (.cells #[.int .i64 k, .int .i64 x, .int .i64 y] 56)).drew w1.heap.size 56 3 (.slice a1 k c1) k (blks (memB xs ys k))) := by
            have := hG.out
            rw [hv1, hl1] at this
            unfold memLs at this
            rwa [upd_same] at this
          have hszB : w1.heap.size ≤ wr.heap.size := hB.out.size
          have hk100 : k ≤ 100 := Nat.le_trans hkx HLX.out
          clear hv1 hl1 hG
          obtain ⟨i9, q1, q2, q3, q4⟩ := info_parts Tryd.infoBlk
          obtain ⟨v9, w9, hr9, g1, r9, k1⟩ := run_app (P := Tryd.prog) (wr.alloc (.cells #[.int .i64 k, .int .i64 x, .int .i64 y] 56)).drew w1.heap.size 27 27 56 i9 (.agg #[.int .i64 0, .int .i64 0, .int .i64 0]) 3 24 Tryd.underlying27 q1 q2 q3 q4 rfl (by omega) (.slice a1 k c1) k (blks (memB xs ys k)) hG'.out (.slice (some ⟨wr.heap.size, 0, none⟩) 1 1) 1 (blks [((k : Int), x, y)]) ((view_blk wr ((k : Int), x, y)).mono (Below.refl _ _).drew (Nat.le_refl _)) (one_blks _) (by unfold maxLen; omega) (by omega) (by simp; omega)
          have G1 : Hid (Gr w9 w1.heap.size 56 3 v9 (memB xs ys (k + 1)).length (blks (memB xs ys (k + 1)))) := by unfold Hid; rw [HSUC.out, List.length_append, blks_append, memB_len]; exact g1
          have hap := HMA.out.drew.app (j := 0) (by omega) G1.out (by rw [HV1.out]; exact r9) (by rw [HV1.out]; exact k1)
          have HN' : Hid (MB (w9.setCell ⟨gx, 1, none⟩ v9) w1.heap.size gx 7 (.slice abv 7 cbv) (upd vs 0 v9) (upd (memLs xs ys k) 0 (memB xs ys (k + 1)))) := MB.stash hap.1 hap.2.1 hap.2.2
          have hb7 : Below gx w1 w9 := (((hB.out.alloc (by omega) _).drew).grown r9 (by simp; omega) (fun g hg => by have := ((HMA.out.drew.2.2 0 (by omega)).1.lt g (by rw [HV1.out]; exact hg)).1; omega))
          have HB7 : Hid (Below gx w1 (w9.setCell ⟨gx, 1, none⟩ v9)) := hb7.setCell (p := ⟨gx, 1, none⟩) (Nat.le_refl _) _
          obtain ⟨a7, c7, hv7⟩ := g1.lit
          subst hv7
          have s1 := hap.1.cell (i := 1) rfl
          have sf := hap.1.free 1
          obtain ⟨WW, hWW⟩ : ∃ WW : Nat → World, WW = fun k' => match k' with | 0 => wr.drew | 1 => (wr.alloc (.cells #[.int .i64 k, .int .i64 x, .int .i64 y] 56)).drew | _ => w9 := ⟨_, rfl⟩
          have hW0 : WW 0 = wr.drew := congrFun hWW 0
          have hW1 : WW 1 = (wr.alloc (.cells #[.int .i64 k, .int .i64 x, .int .i64 y] 56)).drew := congrFun hWW 1
          have hW2 : WW 2 = w9 := congrFun hWW 2
          have HX1 : Hid (∀ k', k' ≤ 1 → (WW k').cell? ⟨gx, 1, none⟩ = some (.slice a1 k c1)) := fun k' hk => by
            match k', hk with
            | 0, _ => rw [hW0]; exact x1
            | 1, _ => rw [hW1]; exact x1a
          have HXB : Hid (∀ k', k' ≤ 2 → Below g0 w (WW k')) := fun k' hk => by
            match k', hk with
            | 0, _ => rw [hW0]; exact HBW.out.drew
            | 1, _ => rw [hW1]; exact (HBW.out.alloc (by omega) _).drew
            | 2, _ => rw [hW2]; exact HB1.out.trans (hb7.mono (by omega))
          have HWS := Lib.hid (And.intro hW0 (And.intro hW1 hW2))
          have HR9 := Lib.hid hr9
          have HT := Lib.hid (And.intro s1 sf)
          have HCX := Lib.hid hcx
          have HCY := Lib.hid hcy
          have H12 := Lib.hid (And.intro h1 h2)
          have hd1 : decide (k < xs.length) = true := decide_eq_true h1
          have hd2 : decide (k < ys.length) = true := decide_eq_true h2
          have hd1z : decide ((k : Int) < (xs.length : Int)) = true := decide_eq_true (by omega)
          have hd2z : decide ((k : Int) < (ys.length : Int)) = true := decide_eq_true (by omega)
          clear hWW hW0 hW1 hW2 hr9 s1 sf hcx hcy hap g1 r9 k1 q1 q2 q3 q4 hb7 x1 x1a cx2 cy2 h1 h2
          go_wp2_with fail
          refine region_det (l := [(31, .pointer (some ⟨gx, 1, none⟩)), (32, .slice a1 k c1), (33, .int .i64 k), (34, .slice (some ⟨b, off, none⟩) xs.length cx), (35, .int .i64 k), (36, .pointer (some ⟨b, off + k, none⟩)), (37, .int .i64 x), (38, .slice (some ⟨b2, off2, none⟩) ys.length cy), (39, .int .i64 k), (40, .pointer (some ⟨b2, off2 + k, none⟩)), (41, .int .i64 y), (42, .agg #[.int .i64 k, .int .i64 x, .int .i64 y]), (43, .slice (some ⟨wr.heap.size, 0, none⟩) 1 1), (44, .slice a7 (k + 1) c7), (45, .pointer (some ⟨gx, 1, none⟩))]) (acts := [12, 13]) (W := WW) (wl := w9.setCell ⟨gx, 1, none⟩ (.slice a7 (k + 1) c7)) 61 rfl HWS.out.1 (by kernel_rfl) (by kernel_rfl) (by kernel_rfl) (by kernel_rfl) rfl (by kernel_rfl) ⟨?_, ?_, ?_, ?_, ?_, ?_, ?_, ?_, ?_, ?_, ?_, ?_, ?_, ?_, ?_, ?_⟩ ?_
          · exact pv_field rfl rfl (by omega) (by kernel_rfl) rfl rfl
          · exact pv_load (j := 0) (.inr (.inl rfl)) rfl rfl rfl rfl (by kernel_rfl) rfl fun k' hk => HX1.out k' (Nat.le_trans hk (Nat.le_of_eq (by kernel_rfl)))
          · exact pv_fresh rfl (.inl rfl) (by kernel_rfl) rfl
          · exact pv_fresh rfl (.inl rfl) (by kernel_rfl) rfl
          · exact pv_fresh rfl (.inl rfl) (by kernel_rfl) rfl
          · exact pv_indexI (j := 3) (j' := 4) rfl rfl rfl rfl (by kernel_rfl) rfl rfl (by kernel_rfl) rfl rfl H12.out.1 rfl
          · exact pv_load (j := 5) (.inr (.inr (.inl rfl))) rfl rfl rfl rfl (by kernel_rfl) rfl fun k' hk => HCX.out _ (HXB.out k' (Nat.le_trans hk (Nat.le_of_eq (by kernel_rfl))))
          · exact pv_fresh rfl (.inl rfl) (by kernel_rfl) rfl
          · exact pv_fresh rfl (.inl rfl) (by kernel_rfl) rfl
          · exact pv_indexI (j := 7) (j' := 8) rfl rfl rfl rfl (by kernel_rfl) rfl rfl (by kernel_rfl) rfl rfl H12.out.2 rfl
          · exact pv_load (j := 9) (.inr (.inr (.inl rfl))) rfl rfl rfl rfl (by kernel_rfl) rfl fun k' hk => HCY.out _ (HXB.out k' (Nat.le_trans hk (Nat.le_of_eq (by kernel_rfl))))
          · exact pv_build (j := 2) (j' := 6) (j2 := 10) rfl rfl rfl rfl (by kernel_rfl) rfl rfl (by kernel_rfl) rfl rfl (by kernel_rfl) rfl rfl rfl rfl
          · exact av_lit1 (j := 11) rfl rfl rfl rfl (by kernel_rfl) rfl (by rw [HWS.out.1]; rfl) (by rw [HWS.out.1, HWS.out.2.1]; rfl)
          · exact av_app (j := 1) (j' := 12) rfl rfl rfl rfl (by kernel_rfl) rfl rfl (by kernel_rfl) (by rw [HWS.out.2.1, HWS.out.2.2]; exact HR9.out)
          · exact pv_field rfl rfl (by omega) (by kernel_rfl) rfl rfl
          · exact lv_store (j := 14) (j' := 13) rfl rfl rfl rfl (by kernel_rfl) rfl rfl (by kernel_rfl) rfl rfl (by show (WW 2).cell? _ = _; rw [HWS.out.2.2]; exact HT.out.1) (by show (WW 2).frozen? _ = _; rw [HWS.out.2.2]; exact HT.out.2) (by show _ = (WW 2).setCell _ _; rw [HWS.out.2.2])
          simp only [putL, List.foldl_cons, List.foldl_nil]
          go_wp2
          go_roundg (xs.length - (k + 1))
          case rel => exact ⟨k + 1, _, H12.out.1, H12.out.2, Nat.le_refl _, by go_num, by have := HN'.out; unfold memLs at this; rw [upd_upd] at this; exact this, HB7.out⟩
          case measure => have := H12.out.1; omega
        · have HR : Hid (Row wr g0 29 [.slice none 0 0, .slice none 0 0]) := HR0.out.mono hB.out hg0
          have hgW : Below g0 w wr := HBW.out
          by_cases hboth : xs.length = 8 ∧ ys.length = 8
          · obtain ⟨hxl, hyl⟩ := hboth
            obtain rfl : k = 8 := by omega
            have HML := Lib.hid (memLs_small xs ys (k := 8) (by omega))
            have HOK : Hid (memOk xs ys = validB 7 (fun _ => []) (memB xs ys 8)) := by unfold Hid memOk; rw [hxl, hyl]; simp
            have hml0 : memLs xs ys 8 0 = memB xs ys 8 := upd_same _ _ _
            have hmli : (fun i => memLs xs ys 8 (i + 2)) = fun _ => [] := by funext i; exact upd_other _ _ (by omega)
            obtain ⟨a1, c1, hv1⟩ := (hM.out.2.2 0 (by omega)).1.lit
            rw [hml0, memB_len] at hv1
            have HMI : Hid (MemIn wr (.agg #[.slice abv 7 cbv, .slice a1 8 c1]) 7 (fun _ => []) (memB xs ys 8)) := by
              have := hM.out.memIn
              rwa [hv1, hml0, hmli] at this
            have HMO : Hid (MO wr w1.heap.size (.agg #[.slice abv 7 cbv, .slice a1 8 c1]) 7 (memLs xs ys 8)) := by
              have : MO wr w1.heap.size (.agg #[.slice abv 7 cbv, vs 0]) 7 (memLs xs ys 8) := ⟨_, vs, rfl, hM.out.2.1, hM.out.2.2⟩
              rwa [hv1] at this
            have HRX : Hid (Row wr gx 29 [.slice abv 7 cbv, .slice a1 8 c1]) := by
              have := hM.out.1
              rwa [hv1] at this
            have x0 := HRX.out.cell (i := 0) rfl
            have x1 := HRX.out.cell (i := 1) rfl
            have HG9 := Lib.hid (And.intro hgs hg0)
            rw [hxl, hyl]
            clear hml0 hmli hv1 hM hxl hyl hkx hky hgg hgs hg0 hlt
            go_wp2_with fail
            clear x0 x1
            refine (spec_MemoryValid _ 7 _ _ wr HMI.out HML.out).mono ?_
            cases hvd : validB 7 (fun _ => []) (memB xs ys 8) with
            | false =>
              have HVD := Lib.hid (HOK.out.trans hvd)
              rintro e w2 ⟨rfl, hb⟩
              have HR2 := Lib.hid (HR.out.mono hb HR.out.lt)
              have HB2 : Hid (Below g0 w w2) := HBW.out.trans (hb.mono (by have := HBW.out.size; have := HG0.out; omega))
              clear hb hvd
              have y0 := HR2.out.cell (i := 0) rfl
              have y1 := HR2.out.cell (i := 1) rfl
              have z0 := HR2.out.free 0
              have z1 := HR2.out.free 1
              go_wp2
              have hrow := (HR2.out.set 0 (.slice none 0 0)).set 1 (.slice none 0 0)
              have f0 := hrow.cell (i := 0) rfl
              have f1 := hrow.cell (i := 1) rfl
              refine bodyPost_ret (v := .agg #[.slice none 0 0, .slice none 0 0]) (by simp [results, Tryd.results12, go_sem, f0, f1]) rfl ?_
              rw [← HN.out, ← HLS.out, HVD.out]
              refine HZ.out _ ?_
              rw [HG0.out]
              exact (HB2.out.setCell (p := ⟨g0, 0, none⟩) (Nat.le_refl _) _).setCell (p := ⟨g0, 1, none⟩) (Nat.le_refl _) _
            | true =>
              have HVD := Lib.hid (HOK.out.trans hvd)
              rintro e w2 ⟨rfl, hb⟩
              have HR2 := Lib.hid (HR.out.mono hb HR.out.lt)
              have HRX2 := Lib.hid (HRX.out.mono hb HRX.out.lt)
              have HB2 : Hid (Below g0 w w2) := HBW.out.trans (hb.mono (by have := HBW.out.size; have := HG0.out; omega))
              have HMO2 := Lib.hid (HMO.out.mono hb (Nat.le_refl _))
              clear hb hvd
              have x0 := HRX2.out.cell (i := 0) rfl
              have x1 := HRX2.out.cell (i := 1) rfl
              have y0 := HR2.out.cell (i := 0) rfl
              have y1 := HR2.out.cell (i := 1) rfl
              have z0 := HR2.out.free 0
              have z1 := HR2.out.free 1
              go_wp2
              have hrow := (HR2.out.set 0 (.slice abv 7 cbv)).set 1 (.slice a1 8 c1)
              have f0 := hrow.cell (i := 0) rfl
              have f1 := hrow.cell (i := 1) rfl
              have hg1 : w2.grownBy ((w2.setCell ⟨g0, 0, none⟩ (.slice abv 7 cbv)).setCell ⟨g0, 1, none⟩ (.slice a1 8 c1)) (some g0) := grown_set (set_other w2 ⟨g0, 0, none⟩ _ rfl) _ _
              refine bodyPost_ret (v := .agg #[.slice abv 7 cbv, .slice a1 8 c1]) (by simp [results, Tryd.results12, go_sem, f0, f1]) rfl ?_
              rw [← HN.out, ← HLS.out, HVD.out]
              obtain ⟨p1, p2⟩ := HG9.out
              refine ⟨_, rfl, (HMO2.out.kept hg1 (by omega)).low (by have := HG0.out; omega), ?_⟩
              rw [HG0.out]
              exact (HB2.out.setCell (p := ⟨g0, 0, none⟩) (Nat.le_refl _) _).setCell (p := ⟨g0, 1, none⟩) (Nat.le_refl _) _
          · have HVD : Hid (memOk xs ys = false) := by
              unfold Hid memOk
              by_cases h8 : xs.length = 8
              · simp [h8, show ¬ ys.length = 8 from fun e => hboth ⟨h8, e⟩]
              · simp [h8]
            have hex : (decide ((k : Int) < (xs.length : Int)) = false ∧ decide (k < xs.length) = false) ∨ ((decide ((k : Int) < (xs.length : Int)) = true ∧ decide (k < xs.length) = true) ∧ decide ((k : Int) < (ys.length : Int)) = false ∧ decide (k < ys.length) = false) := by
              by_cases h5 : k < xs.length
              · right; exact ⟨⟨decide_eq_true (by omega), decide_eq_true h5⟩, decide_eq_false (by omega), decide_eq_false (by omega)⟩
              · left; exact ⟨decide_eq_false (by omega), decide_eq_false h5⟩
            have hc : ((xs.length : Int) != 8) = true ∨ ((xs.length : Int) != 8) = false ∧ ((ys.length : Int) != 8) = true := by
              by_cases h8 : xs.length = 8
              · right; simp; omega
              · left; simp; omega
            have y0 := HR.out.cell (i := 0) rfl
            have y1 := HR.out.cell (i := 1) rfl
            have z0 := HR.out.free 0
            have z1 := HR.out.free 1
            clear hboth hlt hkx hky hgg hM
            rcases hex with ⟨h1, h1z⟩ | ⟨⟨h1, h1z⟩, h2, h2z⟩ <;> rcases hc with h3 | ⟨h3, h4⟩
            all_goals
              go_wp2
              have hrow := (HR.out.set 0 (.slice none 0 0)).set 1 (.slice none 0 0)
              have f0 := hrow.cell (i := 0) rfl
              have f1 := hrow.cell (i := 1) rfl
              refine bodyPost_ret (v := .agg #[.slice none 0 0, .slice none 0 0]) (by simp [results, Tryd.results12, go_sem, f0, f1]) rfl ?_
              rw [← HN.out, ← HLS.out, HVD.out]
              refine HZ.out _ ?_
              rw [HG0.out]
              exact (hgW.setCell (p := ⟨g0, 0, none⟩) (Nat.le_refl _) _).setCell (p := ⟨g0, 1, none⟩) (Nat.le_refl _) _
theorem impl_Use {mv : Value} {f : Nat → List (Int × Int × Int)} {st : List (Int × Int × Int)} {a : Int} {t : Bool} {v l : Int} {w : World} (h : MemIn w mv 7 f st) (hs : Small 7 f st) (hk : useOk 7 f st a v l = true) :
    Calls Tryd.prog 14 #[mv, .int .i64 a, .bool t, .int .i64 v, .int .i64 l] w (UsePost true 7 (useLs (lsOf f st) (blkAt (allM 7 f st) a).2.2 a t v l) (blkAt (allM 7 f st) a).2.1 (pathL (blkAt (allM 7 f st) a).2.2) w) :=
  impl_Use_yes mv f st a t v l w h hs hk (use_small t hk)
end Go.Proofs.YtbnplohlfiefhaaDoor
