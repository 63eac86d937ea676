/- contract of the reference's copy of a memory -/
import Derived.Test.YtbnplohlfiefhaaDoorMemoC
namespace Go.Proofs.YtbnplohlfiefhaaDoor
open Go.RowKit
set_option maxRecDepth 20000 in
set_option maxHeartbeats 2000000 in
theorem copy_any (v : Value) (f : Nat → List (Int × Int × Int)) (st : List (Int × Int × Int)) (w : World) (h : MemIn w v 7 f st) (hs : Small 7 f st) :
    Calls Tryd.prog 45 #[v] w (MemoPost 7 (lsOf f st) w) := by
  obtain ⟨bs, sv, rfl, h1, h2⟩ := h
  obtain ⟨ad, c, rfl, hmx, hop⟩ := h1.open
  obtain ⟨ads, cs2, hsv, _, _⟩ := h2.open
  subst hsv
  have HSM := Lib.hid hs
  have HOP := Lib.hid hop
  have H2 := Lib.hid h2
  have hst := hs.2.1
  clear h1 h2 hs hop
  obtain ⟨w1, hw1⟩ : ∃ w1, w1 = (w.alloc (.cells #[.slice ad 7 c, .slice ads st.length cs2] 29)).alloc (.cells #[.slice none 0 0, .slice none 0 0] 29) := ⟨_, rfl⟩
  have HW1 := Lib.hid hw1
  have HB1 : Hid (Below w.heap.size w w1) := by rw [hw1]; exact ((Below.refl _ _).alloc (Nat.le_refl _) _).alloc (by simp) _
  have HR1 : Hid (Row w1 w.heap.size 29 [.slice ad 7 c, .slice ads st.length cs2]) := by rw [hw1]; exact (Row.new w 29 [.slice ad 7 c, .slice ads st.length cs2]).alloc _
  have HR2 : Hid (Row w1 (w.heap.size + 1) 29 [.slice none 0 0, .slice none 0 0]) := by
    have := Row.new (w.alloc (.cells #[.slice ad 7 c, .slice ads st.length cs2] 29)) 29 [.slice none 0 0, .slice none 0 0]
    rw [World.size_alloc] at this
    rw [hw1]; exact this
  have HZ1 : Hid (w1.heap.size = w.heap.size + 1 + 1) := by rw [hw1]; simp [Hid]
  have k1 : ((w.alloc (.cells #[.slice ad 7 c, .slice ads st.length cs2] 29)).alloc (.cells #[.slice none 0 0, .slice none 0 0] 29)).cell? ⟨w.heap.size, 1, none⟩ = some (.slice ads st.length cs2) := by rw [← hw1]; exact HR1.out.cell rfl
  clear hw1
  go_enter Tryd.func45, Tryd.ntmps45
  have k1b : (((w.alloc (.cells #[.slice ad 7 c, .slice ads st.length cs2] 29)).alloc (.cells #[.slice none 0 0, .slice none 0 0] 29)).alloc (.cells #[] 56)).cell? ⟨w.heap.size, 1, none⟩ = some (.slice ads st.length cs2) := by rw [← HW1.out]; exact (HR1.out.alloc _).cell rfl
  clear k1
  go_wp2_with (at_builtin; rw [← HW1.out]; refine wpList_app _ rfl (.tmp 5) (.tmp 7) 27 rfl w1.heap.size 56 (.agg #[.int .i64 0, .int .i64 0, .int .i64 0]) 3 24 Tryd.underlying27 Tryd.infoBlk rfl (by omega) (.slice (some ⟨_, 0, none⟩) 0 0) 0 [] rfl (Gr.none0 _ _ _ _ _) _ st.length (blks st) rfl ((H2.out.mono HB1.out (Nat.le_refl _)).mono ((Below.refl w1.heap.size w1).alloc (Nat.le_refl _) _) (Nat.le_refl _)) (one_blks _) (by unfold maxLen; omega) (by omega) (by simp) ?_; intro v1 w2 g1 r1 k1'; have G1 : Hid (Gr w2 w1.heap.size 56 3 v1 st.length (blks st)) := (by simpa [Hid] using g1); have B2 : Hid (Below w1.heap.size w1 w2) := ((Below.refl _ _).alloc (Nat.le_refl _) _).grown r1 (by simp) (fun g hg => by simp [gBlock] at hg); obtain ⟨a1, c1, hv1⟩ := G1.out.lit; subst hv1; have k0' : (w2.alloc (.cells #[.slice none 0 0, .slice a1 st.length c1] 29)).cell? ⟨w.heap.size, 0, none⟩ = some (.slice ad 7 c) := ((HR1.out.mono B2.out HR1.out.lt).alloc _).cell rfl; clear g1 r1 k1')
  have HRX : Hid (Row (w2.alloc (.cells #[.slice none 0 0, .slice a1 st.length c1] 29)) w2.heap.size 29 [.slice none 0 0, .slice a1 st.length c1]) := Row.new w2 29 [.slice none 0 0, .slice a1 st.length c1]
  have HBX : Hid (Below w1.heap.size w1 (w2.alloc (.cells #[.slice none 0 0, .slice a1 st.length c1] 29))) := B2.out.alloc B2.out.size _
  have HGX : Hid (Gr (w2.alloc (.cells #[.slice none 0 0, .slice a1 st.length c1] 29)) w1.heap.size 56 3 (.slice a1 st.length c1) st.length (blks st)) := G1.out.alloc _
  have hz2 := B2.out.size
  clear k1b G1 B2 HW1
  generalize (w2.alloc (.cells #[.slice none 0 0, .slice a1 st.length c1] 29)) = W3 at HRX HBX HGX ⊢
  have HR1' : Hid (Row W3 w.heap.size 29 [.slice ad 7 c, .slice ads st.length cs2]) := HR1.out.mono HBX.out HR1.out.lt
  have HR2' : Hid (Row W3 (w.heap.size + 1) 29 [.slice none 0 0, .slice none 0 0]) := HR2.out.mono HBX.out HR2.out.lt
  have hgx1 : w1.heap.size ≤ w2.heap.size := hz2
  obtain ⟨gx, hgx⟩ : ∃ gx, w2.heap.size = gx := ⟨_, rfl⟩
  rw [hgx] at HRX hgx1 ⊢
  clear hgx hz2
  clear k0'
  go_loopw [4] (fun i wr => ∃ (k : Nat) (bv : Value) (vs : Nat → Value), k ≤ 7 ∧ i = .int .i64 k ∧ Hid (MB wr w1.heap.size gx k bv vs (lsOf f st)) ∧ Hid (Below w1.heap.size w1 wr)) (fun i _ => 7 - (intOf i).toNat)
  case atStart =>
    refine ⟨0, .slice none 0 0, fun i => if i = 0 then .slice a1 st.length c1 else .slice none 0 0, Nat.zero_le _, rfl, ⟨HRX.out, Gr.nil _ _ _ _, fun i hi => ?_⟩, HBX.out⟩
    by_cases e : i = 0
    · subst e
      refine ⟨HGX.out, fun j hj hji g hg hg2 => ?_⟩
      have hg2' : gBlock (if j = 0 then .slice a1 st.length c1 else .slice none 0 0) = some g := hg2
      rw [if_neg hji] at hg2'; simp [gBlock] at hg2'
    · obtain rfl : i = 1 := by omega
      exact ⟨Gr.nil _ _ _ _, fun j hj hji g hg => by simp [gBlock] at hg⟩
  case round =>
    obtain ⟨k, bv, vs, hk, rfl, hM, hB⟩ := hrel
    have hBt : Hid (Below w.heap.size w wr) := HB1.out.trans (hB.out.mono HB1.out.size)
    have hsz := hB.out.size
    obtain ⟨abv, cbv, hbv⟩ := hM.out.2.1.lit
    subst hbv
    have HRr : Hid (Row wr w.heap.size 29 [.slice ad 7 c, .slice ads st.length cs2]) := HR1.out.mono hB.out HR1.out.lt
    have km := HRr.out.cell (i := 0) rfl
    by_cases hlt : k < 7
    · obtain ⟨b, off, rfl, hcell⟩ := HOP.out k hlt
      obtain ⟨a3, c3, hc3, hv3⟩ := hcell k hlt
      have g3 : wr.cell? ⟨b, off + k, none⟩ = some (.slice a3 (f k).length c3) := (hBt.out.cell (p := ⟨b, off + k, none⟩) (World.block_lt_of_cell? w _ hc3)).trans hc3
      have V3 := Lib.hid (hv3.mono hBt.out (Nat.le_refl _))
      have hfl := HSM.out.2.2 k hlt
      have hkx := hM.out.1.cell (i := 0) rfl
      have HKX := Lib.hid hkx
      have km2 := (HRr.out.alloc (.cells #[] 56)).cell (i := 0) rfl
      have hkx2 := (hM.out.1.alloc (.cells #[] 56)).cell (i := 0) rfl
      have g32 : (wr.alloc (.cells #[] 56)).cell? ⟨b, off + k, none⟩ = some (.slice a3 (f k).length c3) := (((Below.refl wr.heap.size wr).alloc (Nat.le_refl _) (.cells #[] 56)).cell (p := ⟨b, off + k, none⟩) (World.block_lt_of_cell? wr _ g3)).trans g3
      have hgxl : gx < wr.heap.size := hM.out.1.lt
      obtain ⟨m, hm⟩ : ∃ m, (f k).length = m := ⟨_, rfl⟩
      rw [hm] at g3 g32 hfl V3
      have HMM := Lib.hid hm
      have V4 : Hid (View wr 3 (.slice a3 m c3) m (blks (f k))) := by have := V3.out; unfold Blks at this; rw [HMM.out] at this; exact this
      clear hcell hc3 hv3 hm V3
      go_wp2_with fail
      go_region_law (first
        | (refine step_app _ rfl (.tmp 19) (.tmp 24) 27 rfl w1.heap.size 56 (.agg #[.int .i64 0, .int .i64 0, .int .i64 0]) 3 24 Tryd.underlying27 Tryd.infoBlk rfl (by omega) (.slice (some ⟨_, 0, none⟩) 0 0) 0 [] rfl (Gr.none0 _ _ _ _ _) _ m (blks (f k)) rfl (V4.out.mono ((Below.refl wr.heap.size wr).alloc (Nat.le_refl _) _).drew (Nat.le_refl _)) (one_blks _) (by unfold maxLen; omega) (by omega) (by simp; omega) ?_
           intro v2 w3 g1 r1 k1
           have G2 : Hid (Gr w3 w1.heap.size 56 3 v2 m (blks (f k))) := by simpa [Hid] using g1
           have K2 : Hid (gBlock v2 = none ∨ gBlock v2 = some (wr.heap.size + 1)) := by simpa [Hid, gBlock] using k1
           have B3' : Hid (Below wr.heap.size wr w3) := ((Below.refl wr.heap.size wr).alloc (Nat.le_refl _) (.cells #[] 56)).drew.trans (gr_of_none (show (wr.alloc (.cells #[] 56)).drew.grownBy w3 none from r1) (by simp))
           have M3 : Hid (MB w3 w1.heap.size gx k (.slice abv k cbv) vs (lsOf f st)) := hM.out.mono B3'.out (Nat.le_refl _)
           have kx3 := M3.out.1.cell (i := 0) rfl
           obtain ⟨a2, c2, hv2⟩ := G2.out.lit
           subst hv2
           have kx4 := (M3.out.1.alloc (.cells #[.slice a2 m c2] 27)).cell (i := 0) rfl
           clear g1 r1 k1)
        | (refine step_app _ rfl (.tmp 18) (.tmp 26) 26 rfl w1.heap.size 27 (.slice none 0 0) 1 24 Tryd.underlying26 Tryd.infoBlks rfl (by omega) (.slice abv k cbv) k (tab k fun i => vs (i + 2)) rfl (M3.out.2.1.alloc _) _ 1 [.slice a2 m c2] rfl (view_one _ _ _) (by simp [Value.oneCell']) (by unfold maxLen; omega) (by omega) (by have := B3'.out.size; simp; omega) ?_
           intro v4 w4 g1 r1 k1
           have G4 := Lib.hid g1
           have R4 := Lib.hid r1
           have HGK : Hid (∀ g, gBlock (.slice abv k cbv) = some g → g ≠ gx) := row_ne M3.out.2.1 M3.out.1 (by decide)
           have RX : Hid (Row w4 gx 29 [.slice abv k cbv, vs 0]) := (M3.out.1.alloc _).grown r1 (fun e => HGK.out _ e rfl)
           obtain ⟨a4, c4, hv4⟩ := G4.out.lit
           subst hv4
           have kx5 := RX.out.cell (i := 0) rfl
           have fx5 := RX.out.free 0
           have F4 : Hid (Fam w4 w1.heap.size (k + 2) vs (lsOf f st)) := (M3.out.2.2.kept (World.grownBy_alloc w3 _ none) (fun _ _ _ _ h => by cases h)).kept r1 (fun i hi g hg hg2 => gBlock_type M3.out.2.1 (M3.out.2.2 i hi).1 (by decide) g hg2 hg)
           clear g1 r1 k1))
      all_goals
        go_wp2
        go_roundw
        case rel =>
          have hG2 : Gr w3 w1.heap.size 56 3 (.slice a2 m c2) (lsOf f st (k + 2)).length (blks (lsOf f st (k + 2))) := by rw [lsOf_bucket, HMM.out]; exact G2.out
          refine ⟨k + 1, _, _, hlt, by go_num, M3.out.push hG2 (fun g hg i hi => ?_) _ G4.out R4.out, ?_⟩
          · rcases K2.out with e | e
            · rw [e] at hg; cases hg
            · rw [e] at hg; cases hg
              intro q
              have := ((hM.out.2.2 i hi).1.lt _ q).2
              omega
          · have hb3 : Below w1.heap.size w1 w3 := hB.out.trans (B3'.out.mono hsz)
            have hb4 := (hb3.alloc hb3.size (.cells #[.slice a2 m c2] 27)).grown R4.out (Nat.le_trans hb3.size (by simp)) (fun g hg => (M3.out.2.1.lt g hg).1)
            exact hb4.setCell (p := ⟨gx, 0, none⟩) hgx1 _
        case measure => simp [intOf]; omega
    · obtain rfl : k = 7 := by omega
      obtain ⟨a0, c0, hv0⟩ := (hM.out.2.2 0 (by omega)).1.lit
      have x0 := hM.out.1.cell (i := 0) rfl
      have x1 := hM.out.1.cell (i := 1) rfl
      rw [hv0] at x1
      have HRZ : Hid (Row wr (w.heap.size + 1) 29 [.slice none 0 0, .slice none 0 0]) := HR2.out.mono hB.out HR2.out.lt
      have y0 := HRZ.out.cell (i := 0) rfl
      have y1 := HRZ.out.cell (i := 1) rfl
      have z0 := HRZ.out.free 0
      have z1 := HRZ.out.free 1
      have hlw := HZ1.out
      go_wp2
      have hrow := (HRZ.out.set 0 (.slice abv 7 cbv)).set 1 (.slice a0 (lsOf f st 0).length c0)
      have f0 := hrow.cell (i := 0) rfl
      have f1 := hrow.cell (i := 1) rfl
      refine bodyPost_ret (v := .agg #[.slice abv 7 cbv, .slice a0 (lsOf f st 0).length c0]) (by simp [results, Tryd.results45, go_sem, f0, f1]) rfl ?_
      have hg1 : wr.grownBy ((wr.setCell ⟨w.heap.size + 1, 0, none⟩ (.slice abv 7 cbv)).setCell ⟨w.heap.size + 1, 1, none⟩ (.slice a0 (lsOf f st 0).length c0)) (some (w.heap.size + 1)) := grown_set (set_other wr ⟨w.heap.size + 1, 0, none⟩ _ rfl) _ _
      refine ⟨_, rfl, ?_, hBt.out.grown hg1 hBt.out.size (fun g hg => by cases hg; omega)⟩
      refine MO.low (B := w1.heap.size) ⟨_, vs, by rw [hv0], hM.out.2.1.kept hg1 (fun g hg he => by cases he; have := (hM.out.2.1.lt _ hg).1; omega), hM.out.2.2.kept hg1 (fun i hi g hg he => by cases he; have := ((hM.out.2.2 i hi).1.lt _ hg).1; omega)⟩ HB1.out.size
end Go.Proofs.YtbnplohlfiefhaaDoor
