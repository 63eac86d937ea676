/- contract of the reference's ShuffleOrder -/
import Derived.Test.YtficoknejnilmaaDoorShufI
import Derived.Deep.RegionLaw
namespace Go.Proofs.YtficoknejnilmaaDoor
open Go.RowKit
theorem viewTake {w : World} {ab : Option Addr} {k cb a : Nat} {cs : List Value} (h : View w 1 (.slice ab k cb) k cs) (ha : a ≤ k) : View w 1 (.slice ab a cb) a (cs.take a) := by
  obtain ⟨h1, h2, h3⟩ := h
  refine ⟨by rw [List.length_take]; omega, by omega, ?_⟩
  by_cases h0 : a = 0
  · subst h0; exact .inl ⟨rfl, _, _, rfl⟩
  · rcases h3 with ⟨h3, _⟩ | ⟨h3, b, off, c, hv, hc, hcell⟩
    · omega
    · cases hv
      refine .inr ⟨by omega, b, off, cb, rfl, by omega, fun i u hu => hcell i u ?_⟩
      rw [List.getElem?_take] at hu
      split at hu
      · exact hu
      · cases hu
/-- a part of a slice from a place on -/
theorem viewDrop {w : World} {ab : Option Addr} {k cb a : Nat} {cs : List Value} (h : View w 1 (.slice ab k cb) k cs) (ha : a ≤ k) : View w 1 (.slice (if cb = a then ab else Option.map (fun x => x.add a) ab) (k - a) (cb - a)) (k - a) (cs.drop a) := by
  obtain ⟨q1, q2, q3⟩ := h
  refine ⟨by rw [List.length_drop]; omega, by omega, ?_⟩
  by_cases h0 : k = a
  · subst h0; exact .inl ⟨by omega, _, _, by rw [Nat.sub_self]⟩
  · rcases q3 with ⟨q3, _⟩ | ⟨q3, b, off, c, hv, hc, hcell⟩
    · omega
    · cases hv
      refine .inr ⟨by omega, b, off + a, cb - a, ?_, by omega, fun i u hu => ?_⟩
      · rw [if_neg (by omega)]
        by_cases e : a = 0
        · subst e; simp [Addr.add]
        · simp [Addr.add, e]
      · rw [List.getElem?_drop] at hu
        have := hcell _ u hu
        rwa [show off + (a + i) = off + a + i by omega] at this
theorem view_one2 (w : World) (o : Obj) (u : Value) (t : TypeId) : View ((w.alloc o).alloc (.cells #[u] t)) 1 (.slice (some ⟨w.heap.size + 1, 0, none⟩) 1 1) 1 [u] := by
  have := view_one (w.alloc o) u t
  rwa [show (w.alloc o).heap.size = w.heap.size + 1 by simp] at this
set_option maxRecDepth 20000 in
set_option maxHeartbeats 1000000 in
theorem spec_ShuffleOrder (v : Value) (T : List Int) (w : World) (h : Ints w v T) : Calls Tryd.prog 10 #[v] w (IntsPost (ordV T) w) := by
  obtain ⟨ad, c, rfl, hmax, hop⟩ := h.open
  unfold maxLen at hmax
  have HT := Lib.hid h
  have HOP := Lib.hid hop
  clear hop h
  have hb0 := (Below.refl w.heap.size w).alloc (Nat.le_refl _) (.cells #[] 3)
  have HB0 := Lib.hid hb0
  clear hb0
  obtain ⟨n, hn⟩ : ∃ n, T.length = n := ⟨_, rfl⟩
  have HN := Lib.hid hn
  rw [hn] at HT hmax HOP ⊢
  by_cases hbig : 32 < n
  · have HF : Hid (IntsPost (ordV T) w (.returned (.slice (some ⟨w.heap.size, 0, none⟩) 0 0)) (w.alloc (.cells #[] 3))) := by
      unfold ordV; rw [if_neg (by omega)]; exact ⟨_, rfl, Gr.none0 _ _ _ _ _, HB0.out⟩
    have h1 : decide (0 < n) = true := by simp; omega
    have h2 : decide (n ≤ 32) = false := by simp; omega
    have h3 : decide ((n : Int) ≤ 32) = false := by simp; omega
    clear hn
    go_enter Tryd.func10, Tryd.ntmps10
    go_wp2
    go_loopw [3, 4] (fun u i wr => u = .slice (some ⟨w.heap.size, 0, none⟩) 0 0 ∧ i = .int .i64 0 ∧ wr = w.alloc (.cells #[] 3)) (fun _ _ _ => 0)
    case atStart => exact ⟨rfl, rfl, rfl⟩
    case round =>
      obtain ⟨rfl, rfl, rfl⟩ := hrel
      go_wp2
      go_ret
      exact HF.out
  · have HF : Hid (∀ u w', Gr w' w.heap.size 3 1 u n (ints (natsI (ordI (tg T) n))) → Below w.heap.size w w' → IntsPost (ordV T) w (.returned u) w') := fun u w' hg hb => by
      unfold ordV; rw [if_pos (by omega), hn]; exact ⟨u, rfl, by rw [natsI_length, ordI_length]; exact hg, hb⟩
    have h3 : decide ((n : Int) ≤ 32) = true := by simp; omega
    have hn32 : n ≤ 32 := by omega
    clear hn hbig
    go_enter Tryd.func10, Tryd.ntmps10
    go_wp2
    go_loopw [3, 4] (fun u i wr => ∃ k : Nat, k ≤ n ∧ i = .int .i64 k ∧ Hid (Gr wr w.heap.size 3 1 u k (ints (natsI (ordI (tg T) k)))) ∧ Hid (Below w.heap.size w wr)) (fun _ i _ => n - (intOf i).toNat)
    case atStart => exact ⟨0, Nat.zero_le _, rfl, Gr.none0 _ _ _ _ _, HB0.out⟩
    case round =>
      obtain ⟨k, hk, rfl, hG, hB⟩ := hrel
      by_cases hlt : k < n
      · obtain ⟨b, off, rfl, hcell⟩ := HOP.out k hlt
        have HCL := Lib.hid hcell
        clear hcell
        obtain ⟨ad2, c2, hu⟩ := hG.out.lit
        subst hu
        obtain ⟨xs, hxs⟩ : ∃ xs, ordI (tg T) k = xs := ⟨_, rfl⟩
        have hxl : xs.length = k := by rw [← hxs]; exact ordI_length _ _
        have hxm : ∀ i, i < k → xs.getD i 0 < k := fun i hi => by
          have : xs.getD i 0 ∈ xs := by rw [List.getD_eq_getElem?_getD, List.getElem?_eq_getElem (by omega), Option.getD_some]; exact List.getElem_mem _
          rw [← hxs] at this ⊢
          exact ordI_mem.1 this
        have HIN : Hid (ordI (tg T) (k + 1) = insI (tg T) k xs) := by
          unfold Hid ordI
          rw [ordB, ← hxs, Nat.zero_add]; rfl
        rw [hxs] at hG
        have HXS := Lib.hid hxl
        have HXM := Lib.hid hxm
        clear hxs hxl hxm
        go_wp2
        generalize wr = wo at hG hB ⊢
        go_loopw [5] (fun va wr => ∃ a : Nat, va = .int .i64 a ∧ a ≤ k ∧ (∃ q, wr = wo.drewN q) ∧ Hid (posI (tg T) k xs a = posI (tg T) k xs k)) (fun va _ => (intOf va).toNat)
        case atStart => exact ⟨k, rfl, Nat.le_refl _, ⟨0, rfl⟩, rfl⟩
        case round =>
          obtain ⟨a, rfl, hak, ⟨q, rfl⟩, HP⟩ := hrel
          have hG2 : Hid (Gr (wo.drewN q) w.heap.size 3 1 (.slice ad2 k c2) k (ints (natsI xs))) := hG.out.mono (below_drewN (Below.refl _ _) q) (Nat.le_refl _)
          have hB2 : Hid (Below w.heap.size w (wo.drewN q)) := below_drewN hB.out q
          have hds : ∀ q', (wo.drewN q).drewN q' = wo.drewN (q + q') := fun q' => World.drewN_drewN _ _ _
          have HDS := Lib.hid hds
          clear hds
          generalize wo.drewN q = wq at hG2 hB2 HDS ⊢
          have hsz := hB2.out.size
          have hkc : (k : Int) < n := by omega
          have ck : wq.cell? ⟨b, off + k, none⟩ = some (.int .i64 (tg T k)) := by
            have h := HCL.out k hlt
            exact (hB2.out.cell (p := ⟨b, off + k, none⟩) (World.block_lt_of_cell? w _ h)).trans h
          by_cases ha : 0 < a
          · obtain ⟨g, c3, hv, hgb, hnc, hcm, hfr, hcl, _⟩ := hG2.out.at (show 0 < k by omega)
            cases hv
            obtain ⟨a0, rfl⟩ : ∃ a0, a = a0 + 1 := ⟨a - 1, by omega⟩
            obtain ⟨y, hy⟩ : ∃ y, xs.getD a0 0 = y := ⟨_, rfl⟩
            have hyk : y < k := by rw [← hy]; exact HXM.out a0 (by omega)
            have cu : wq.cell? ⟨g, a0, none⟩ = some (.int .i64 (y : Int)) := hcl a0 _ (by
              have := nats_get (xs := xs) (i := a0) (by rw [HXS.out]; omega) []
              rwa [List.append_nil, hy, nats_natsI] at this)
            have cy : wq.cell? ⟨b, off + y, none⟩ = some (.int .i64 (tg T y)) := by
              have h := HCL.out y (by omega)
              exact (hB2.out.cell (p := ⟨b, off + y, none⟩) (World.block_lt_of_cell? w _ h)).trans h
            obtain ⟨tk, htk⟩ : ∃ z, tg T k = z := ⟨_, rfl⟩
            obtain ⟨ty, hty⟩ : ∃ z, tg T y = z := ⟨_, rfl⟩
            have HY := Lib.hid hy
            have HTK := Lib.hid htk
            have HTY := Lib.hid hty
            rw [htk] at ck
            rw [hty] at cy
            obtain ⟨a1, ha1⟩ : ∃ a1, a1 = a0 + 1 := ⟨_, rfl⟩
            have ea : ((a0 + 1 : Nat) : Int) = (a1 : Int) := by omega
            have e1 : IntKind.i64.wrap ((a1 : Int) - 1) = (a0 : Int) := by rw [IntKind.wrap_i64]; omega
            have haz : (0 : Int) < (a1 : Int) := by omega
            have haz2 : 0 < a1 := by omega
            have haz3 : decide (0 < a1) = true := by simp; omega
            have z1 : (a0 : Int) < k := by omega
            have z2 : (y : Int) < n := by omega
            have A1 := Lib.hid ha1
            have hak1 : a0 + 1 ≤ k := hak
            rw [ea]
            clear hfr hcl hy htk hty ha1 ea hgb ha hak
            by_cases hlv : tk < ty
            · have HL : Hid (posI (tg T) k xs a0 = posI (tg T) k xs k) := by
                rw [← HP.out]; unfold Hid; rw [posI, if_pos (by rw [HTK.out, HY.out, HTY.out]; exact hlv)]
              have hlv2 : (ty > tk) := hlv
              clear ck
              have ck : wq.cell? ⟨b, off + k, none⟩ = some (.int .i64 tk) := by rw [← HTK.out]; have h := HCL.out k hlt; exact (hB2.out.cell (p := ⟨b, off + k, none⟩) (World.block_lt_of_cell? w _ h)).trans h
              go_wp2_with fail
              go_quiet (fail)
              go_wp2
              go_roundw
              case rel => exact ⟨a0, by go_num, by omega, ⟨_, HDS.out _⟩, HL.out⟩
              case measure => have := A1.out; simp [intOf]; omega
            · have HL : Hid (posI (tg T) k xs k = a1) := by
                rw [← HP.out]; unfold Hid; rw [posI, if_neg (by rw [HTK.out, HY.out, HTY.out]; exact hlv), A1.out]
              have hlv2 : decide (ty > tk) = false := by simpa using hlv
              have hlv3 : decide (tk < ty) = false := by simpa using hlv
              have ha1k : a1 ≤ k := by have := A1.out; omega
              go_wp2_with fail
              go_quiet (fail)
              go_wp2_with fail
              have hG3 : Hid (Gr (wq.drewN nq) w.heap.size 3 1 (.slice (some ⟨g, 0, none⟩) k c2) k (ints (natsI xs))) := hG2.out.mono (below_drewN (Below.refl _ _) _) (Nat.le_refl _)
              have hB3 : Hid (Below w.heap.size w (wq.drewN nq)) := below_drewN hB2.out _
              clear cu cy ck e1 haz haz2 haz3 z1 z2 hlv hlv2 hlv3 hak1 hyk A1 HP hG2 hB2 HY HTY HTK
              generalize wq.drewN nq = w2 at hG3 hB3 ⊢
              generalize (some ⟨g, 0, none⟩ : Option Addr) = ad2 at hG3 ⊢
              generalize a1 = a at HL ha1k ⊢
              have hkc2 : k ≤ c2 := by
                by_cases h0 : k = 0
                · omega
                · obtain ⟨_, _, hv, _, h, _⟩ := hG3.out.at (show 0 < k by omega)
                  cases hv; exact h
              have hak2 : (a : Int) ≤ k := by omega
              have hac2 : (a : Int) ≤ c2 := by omega
              have hac3 : a ≤ c2 := by omega
              have V1 : Hid (View w2 1 (.slice ad2 a c2) a (ints (natsI (xs.take a)))) := by
                have := viewTake hG3.out.view ha1k
                unfold Hid
                rwa [show ints (natsI (xs.take a)) = (ints (natsI xs)).take a by simp [ints, natsI, List.map_take]]
              have V2 : Hid (View w2 1 (.slice (if c2 = a then ad2 else Option.map (fun x => x.add a) ad2) (k - a) (c2 - a)) (k - a) (ints (natsI (xs.drop a)))) := by
                have := viewDrop hG3.out.view ha1k
                unfold Hid
                rwa [show ints (natsI (xs.drop a)) = (ints (natsI xs)).drop a by simp [ints, natsI, List.map_drop]]
              have hsz2 := hB3.out.size
              have hk32 : k ≤ 32 := by omega
              have HX1 : Hid (ints (natsI (xs.take a)) ++ [.int .i64 (k : Int)] ++ ints (natsI (xs.drop a)) = ints (natsI (insI (tg T) k xs)) ∧ a + 1 + (k - a) = k + 1) := by
                refine ⟨?_, by omega⟩
                unfold insI
                rw [HXS.out, HL.out]
                simp [ints, natsI]
              go_region_law (first
                | (refine step_app _ rfl (.tmp 39) (.tmp 42) 23 rfl w2.heap.size 3 (.int .i64 0) 1 8 Tryd.underlying23 Tryd.infoInt rfl (by omega) (.slice (some ⟨_, 0, none⟩) 0 0) 0 [] rfl (Gr.none0 _ _ _ _ _) _ a (ints (natsI (xs.take a))) rfl (V1.out.mono (by repeat (first | exact Below.refl _ _ | refine Below.drew ?_ | refine Below.alloc ?_ (by simp <;> omega) _)) (Nat.le_refl _)) (one_ints _) (by unfold maxLen; omega) (by omega) (by simp <;> omega) ?_
                   intro v3 w3 g1 r1 k1
                   have G1 : Hid (Gr w3 w2.heap.size 3 1 v3 a (ints (natsI (xs.take a)))) := by simpa [Hid] using g1
                   have B3 : Hid (Below w2.heap.size w2 w3) := (show Below w2.heap.size w2 _ by repeat (first | exact Below.refl _ _ | refine Below.drew ?_ | refine Below.alloc ?_ (by simp <;> omega) _)).grown r1 (by simp <;> omega) (fun g hg => by simp [gBlock] at hg)
                   have LA : Hid (∀ x : Nat, View _ 1 (.slice (some ⟨x, 0, none⟩) 1 1) 1 [.int .i64 (k : Int)] → View w3 1 (.slice (some ⟨x, 0, none⟩) 1 1) 1 [.int .i64 (k : Int)]) := fun x h => h.mono ((Below.refl _ _).grown r1 (Nat.le_refl _) (fun g hg => by simp [gBlock] at hg)) (Nat.le_refl _)
                   clear g1 r1 k1)
                | (refine step_app _ rfl (.tmp 43) (.tmp 45) 23 rfl w2.heap.size 3 (.int .i64 0) 1 8 Tryd.underlying23 Tryd.infoInt rfl (by omega) v3 a (ints (natsI (xs.take a))) rfl (by first | exact G1.out | exact G1.out.alloc _) _ 1 [.int .i64 (k : Int)] rfl (by first | exact view_one _ _ _ | exact LA.out _ ((view_one2 w2 _ _ _).mono (Below.refl _ _).drew (Nat.le_refl _)) | exact LA.out _ ((view_one w2 _ _).mono (((Below.refl _ _).alloc (Nat.le_refl _) _).drew) (Nat.le_refl _))) (by simp [Value.oneCell']) (by unfold maxLen; omega) (by omega) (by have := B3.out.size; simp <;> omega) ?_
                   intro v4 w4 g1 r1 k1
                   have G2 := Lib.hid g1
                   have B4 : Hid (Below w2.heap.size w2 w4) := Below.grown (by first | exact B3.out | exact B3.out.alloc B3.out.size _) r1 (by have := B3.out.size; simp <;> omega) (fun g hg => (G1.out.lt g hg).1)
                   clear g1 r1 k1)
                | (refine step_app _ rfl (.tmp 46) (.tmp 49) 23 rfl w2.heap.size 3 (.int .i64 0) 1 8 Tryd.underlying23 Tryd.infoInt rfl (by omega) v4 (a + 1) (ints (natsI (xs.take a)) ++ [.int .i64 (k : Int)]) rfl G2.out _ (k - a) (ints (natsI (xs.drop a))) rfl (V2.out.mono B4.out (Nat.le_refl _)) (one_ints _) (by unfold maxLen; omega) (by omega) (by have := B4.out.size; omega) ?_
                   intro v5 w5 g1 r1 k1
                   have G3 := Lib.hid g1
                   have B5 : Hid (Below w2.heap.size w2 w5) := B4.out.grown r1 B4.out.size (fun g hg => (G2.out.lt g hg).1)
                   clear g1 r1 k1))
              all_goals
                go_wp2
                go_roundw
                case rel =>
                  refine ⟨k + 1, hlt, by go_num, ?_, hB3.out.trans (B5.out.mono hsz2)⟩
                  have := G3.out
                  rw [HX1.out.1, HX1.out.2] at this
                  rw [HIN.out]
                  exact this.low hsz2
                case measure => simp [intOf]; omega
          · have HL : Hid (posI (tg T) k xs k = a) := by rw [← HP.out]; unfold Hid; rw [show a = 0 by omega]; rfl
            have ha1k : a ≤ k := hak
            have hz1 : decide (0 < a) = false := by simp; omega
            have hz2 : decide ((a : Int) > 0) = false := by simp; omega
            have hz3 : ¬ (0 : Int) < (a : Int) := by omega
            go_wp2_with fail
            go_quiet (fail)
            go_wp2_with fail
            have hG3 : Hid (Gr (wq.drewN nq) w.heap.size 3 1 (.slice ad2 k c2) k (ints (natsI xs))) := hG2.out.mono (below_drewN (Below.refl _ _) _) (Nat.le_refl _)
            have hB3 : Hid (Below w.heap.size w (wq.drewN nq)) := below_drewN hB2.out _
            clear ck ha HP hG2 hB2 hak hz1 hz2 hz3
            generalize wq.drewN nq = w2 at hG3 hB3 ⊢
            have hkc2 : k ≤ c2 := by
              by_cases h0 : k = 0
              · omega
              · obtain ⟨_, _, hv, _, h, _⟩ := hG3.out.at (show 0 < k by omega)
                cases hv; exact h
            have hak2 : (a : Int) ≤ k := by omega
            have hac2 : (a : Int) ≤ c2 := by omega
            have hac3 : a ≤ c2 := by omega
            have V1 : Hid (View w2 1 (.slice ad2 a c2) a (ints (natsI (xs.take a)))) := by
              have := viewTake hG3.out.view ha1k
              unfold Hid
              rwa [show ints (natsI (xs.take a)) = (ints (natsI xs)).take a by simp [ints, natsI, List.map_take]]
            have V2 : Hid (View w2 1 (.slice (if c2 = a then ad2 else Option.map (fun x => x.add a) ad2) (k - a) (c2 - a)) (k - a) (ints (natsI (xs.drop a)))) := by
              have := viewDrop hG3.out.view ha1k
              unfold Hid
              rwa [show ints (natsI (xs.drop a)) = (ints (natsI xs)).drop a by simp [ints, natsI, List.map_drop]]
            have hsz2 := hB3.out.size
            have hk32 : k ≤ 32 := by omega
            have HX1 : Hid (ints (natsI (xs.take a)) ++ [.int .i64 (k : Int)] ++ ints (natsI (xs.drop a)) = ints (natsI (insI (tg T) k xs)) ∧ a + 1 + (k - a) = k + 1) := by
              refine ⟨?_, by omega⟩
              unfold insI
              rw [HXS.out, HL.out]
              simp [ints, natsI]
            go_region_law (first
              | (refine step_app _ rfl (.tmp 39) (.tmp 42) 23 rfl w2.heap.size 3 (.int .i64 0) 1 8 Tryd.underlying23 Tryd.infoInt rfl (by omega) (.slice (some ⟨_, 0, none⟩) 0 0) 0 [] rfl (Gr.none0 _ _ _ _ _) _ a (ints (natsI (xs.take a))) rfl (V1.out.mono (by repeat (first | exact Below.refl _ _ | refine Below.drew ?_ | refine Below.alloc ?_ (by simp <;> omega) _)) (Nat.le_refl _)) (one_ints _) (by unfold maxLen; omega) (by omega) (by simp <;> omega) ?_
                 intro v3 w3 g1 r1 k1
                 have G1 : Hid (Gr w3 w2.heap.size 3 1 v3 a (ints (natsI (xs.take a)))) := by simpa [Hid] using g1
                 have B3 : Hid (Below w2.heap.size w2 w3) := (show Below w2.heap.size w2 _ by repeat (first | exact Below.refl _ _ | refine Below.drew ?_ | refine Below.alloc ?_ (by simp <;> omega) _)).grown r1 (by simp <;> omega) (fun g hg => by simp [gBlock] at hg)
                 have LA : Hid (∀ x : Nat, View _ 1 (.slice (some ⟨x, 0, none⟩) 1 1) 1 [.int .i64 (k : Int)] → View w3 1 (.slice (some ⟨x, 0, none⟩) 1 1) 1 [.int .i64 (k : Int)]) := fun x h => h.mono ((Below.refl _ _).grown r1 (Nat.le_refl _) (fun g hg => by simp [gBlock] at hg)) (Nat.le_refl _)
                 clear g1 r1 k1)
              | (refine step_app _ rfl (.tmp 43) (.tmp 45) 23 rfl w2.heap.size 3 (.int .i64 0) 1 8 Tryd.underlying23 Tryd.infoInt rfl (by omega) v3 a (ints (natsI (xs.take a))) rfl (by first | exact G1.out | exact G1.out.alloc _) _ 1 [.int .i64 (k : Int)] rfl (by first | exact view_one _ _ _ | exact LA.out _ ((view_one2 w2 _ _ _).mono (Below.refl _ _).drew (Nat.le_refl _)) | exact LA.out _ ((view_one w2 _ _).mono (((Below.refl _ _).alloc (Nat.le_refl _) _).drew) (Nat.le_refl _))) (by simp [Value.oneCell']) (by unfold maxLen; omega) (by omega) (by have := B3.out.size; simp <;> omega) ?_
                 intro v4 w4 g1 r1 k1
                 have G2 := Lib.hid g1
                 have B4 : Hid (Below w2.heap.size w2 w4) := Below.grown (by first | exact B3.out | exact B3.out.alloc B3.out.size _) r1 (by have := B3.out.size; simp <;> omega) (fun g hg => (G1.out.lt g hg).1)
                 clear g1 r1 k1)
              | (refine step_app _ rfl (.tmp 46) (.tmp 49) 23 rfl w2.heap.size 3 (.int .i64 0) 1 8 Tryd.underlying23 Tryd.infoInt rfl (by omega) v4 (a + 1) (ints (natsI (xs.take a)) ++ [.int .i64 (k : Int)]) rfl G2.out _ (k - a) (ints (natsI (xs.drop a))) rfl (V2.out.mono B4.out (Nat.le_refl _)) (one_ints _) (by unfold maxLen; omega) (by omega) (by have := B4.out.size; omega) ?_
                 intro v5 w5 g1 r1 k1
                 have G3 := Lib.hid g1
                 have B5 : Hid (Below w2.heap.size w2 w5) := B4.out.grown r1 B4.out.size (fun g hg => (G2.out.lt g hg).1)
                 clear g1 r1 k1))
            all_goals
              go_wp2
              go_roundw
              case rel =>
                refine ⟨k + 1, hlt, by go_num, ?_, hB3.out.trans (B5.out.mono hsz2)⟩
                have := G3.out
                rw [HX1.out.1, HX1.out.2] at this
                rw [HIN.out]
                exact this.low hsz2
              case measure => simp [intOf]; omega
      · obtain rfl : k = n := by omega
        go_wp2
        go_ret
        exact HF.out _ _ hG.out hB.out
theorem impl_ShuffleOrder_own (v : Value) (T : List Int) (w : World) (h : Ints w v T) (_ : T.length ≤ 1048576) : Calls Tryd.prog 8 #[v] w fun e w' => ∃ v b, e = .returned v ∧ OwnI w' b v (ordV T) ∧ From w.heap.size b ∧ Below w.heap.size w w' :=
  (impl_ShuffleOrder v T w h).mono fun _ _ h => ints_own h
theorem spec_ShuffleOrder_own (v : Value) (T : List Int) (w : World) (h : Ints w v T) (_ : T.length ≤ 1048576) : Calls Tryd.prog 10 #[v] w fun e w' => ∃ v b, e = .returned v ∧ OwnI w' b v (ordV T) ∧ From w.heap.size b ∧ Below w.heap.size w w' :=
  (spec_ShuffleOrder v T w h).mono fun _ _ h => ints_own h
end Go.Proofs.YtficoknejnilmaaDoor
