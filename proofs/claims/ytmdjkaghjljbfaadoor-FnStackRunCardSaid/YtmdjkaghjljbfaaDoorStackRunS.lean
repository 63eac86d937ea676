/- StackRun: the reference, and both in the form of the exact law -/
import Derived.Test.YtmdjkaghjljbfaaDoorStackRun
namespace Go.Proofs.YtmdjkaghjljbfaaDoor
open Go.RowKit
set_option maxHeartbeats 4000000 in
theorem spec_StackRun (v : Value) (xs : List Int) (w : World) (h : Ints w v xs) : Calls Tryd.prog 22 #[v] w (RunPost xs w) := by
  obtain ⟨i0, hi, hz0, hz1, hz2⟩ := info_parts Tryd.infoInt
  obtain ⟨ad, c, hv, hmax, _⟩ := h.open
  subst hv
  unfold maxLen at hmax
  have H := Lib.hid h
  clear h
  go_enter Tryd.func22, Tryd.ntmps22
  go_wp2_with (at_make; refine wpList_make_full _ rfl _ _ 23 rfl w.heap.size 3 i0 (.int .i64 0) 1 Tryd.underlying23 hi hz0 hz1 _ _ _ _ 8 rfl rfl rfl rfl ?b2 ?b3 ?b4 ?_)
  case b2 => rw [hz2]; omega
  case b3 => unfold maxLen; omega
  case b4 => simp
  intro w3 hown hgrow
  have hrow := (row_of_own hown).1
  rw [made_tab, zeros_ints8] at hrow
  try simp only [World.size_alloc] at hrow
  have HU3 : Hid (Gr w3 w.heap.size 3 1 (.slice (some ⟨w.heap.size + 1, 0, none⟩) 8 8) 8 (ints (tab 8 (fun _ => (0 : Int))))) := Gr.of_made hrow (by rw [ints_length, tab_length]) (by unfold maxLen; omega) (by omega)
  have B3 : Hid (Below w.heap.size w w3) := ((Below.refl _ _).alloc (Nat.le_refl _) _).grown hgrow (by simp) (by simp)
  have z3 : w.heap.size < w3.heap.size := by have := hrow.lt; omega
  clear hown hgrow hrow
  go_wp2
  go_loopw [4, 6] (fun x i wr => ∃ (k : Nat) (cs : List Int) (m : Int) (out : List Int) (u : Value), k ≤ xs.length ∧ i = .int .i64 k ∧ Hid (RInv xs w.heap.size w3.heap.size k x wr cs m out u) ∧ Hid (Below w.heap.size w wr) ∧ Hid (k = 0 ∨ xs.length ≤ 40)) (fun _ i _ => xs.length - (intOf i).toNat)
  case atStart =>
    refine ⟨0, tab 8 (fun _ => (0 : Int)), 0, [], _, Nat.zero_le _, rfl, ⟨rfl, Nat.le_refl _, ?_, Gr.none0 _ _ _ _ _, (fun g _ hx => by simp [gBlock] at hx), (fun g hg => by have := HU3.out.lt g hg; omega), (fun g hg => by simp [gBlock] at hg), Row.new w3 25 [.slice (some ⟨w.heap.size + 1, 0, none⟩) 8 8, .int .i64 0]⟩, B3.out.alloc (by omega) _, .inl rfl⟩
    rw [tab_length]
    exact HU3.out.alloc _
  case round =>
    obtain ⟨k, cs, m, out, u, hk, rfl, hI, hB, hkl⟩ := hrel
    by_cases hlt : k < xs.length
    · obtain ⟨_, _, hv5, _, hop⟩ := (H.out.mono hB.out (Nat.le_refl _)).open
      cases hv5
      obtain ⟨b, off, rfl, hcell⟩ := hop k hlt
      have hc1 := hcell k hlt
      obtain ⟨y, hy⟩ : ∃ y, xs[k]?.getD 0 = y := ⟨_, rfl⟩
      have hx : iv xs k = .int .i64 y := by rw [iv, hy]
      rw [hx] at hc1
      have HY := Lib.hid hy
      have ho : out.length ≤ k := hI.out.2.1
      have k0 : wr.cell? ⟨w3.heap.size, 0, none⟩ = some u := hI.out.2.2.2.2.2.2.2.cell rfl
      have k1 : wr.cell? ⟨w3.heap.size, 1, none⟩ = some (.int .i64 m) := hI.out.2.2.2.2.2.2.2.cell rfl
      have zr : w.heap.size ≤ wr.heap.size := hB.out.size
      clear hop hcell hx hy
      by_cases hl : xs.length ≤ 40
      case neg =>
        have hl' : decide ((40 : Int) < (xs.length : Int)) = true := by simp; omega
        have HN : Hid (runR xs = none) := by unfold Hid runR; rw [if_neg hl]
        clear hl
        go_wp2
        go_ret2
        exact run_no HN.out _ (Gr.none0 _ _ _ _ _) (hB.out.alloc zr _)
      have hl' : decide ((40 : Int) < (xs.length : Int)) = false := by simp; omega
      cases hin : inB y (-2) 100000
      · have e0 : ¬ (-2 ≤ y ∧ y ≤ 100000) := fun hh => by rw [inB_true hh.1 hh.2] at hin; cases hin
        have HN : Hid (runR xs = none) := by
          refine run_stop (k := k + 1) ((runK_next hI.out.1 HY.out).trans ?_) hlt
          rw [stp_push (by omega) (by omega), pushOk_in]
          · rfl
          · cases e : inB y 0 100000
            · rfl
            · have := inB_iff.1 e; omega
        have HI := Lib.hid hin
        clear hin e0
        go_wp2_with (go_at_call 27; refine (l1In_any _ _ _ _).mono ?_; rw [HI.out]; rintro e w' ⟨rfl, rfl⟩)
        go_ret2
        exact run_no HN.out _ (Gr.none0 _ _ _ _ _) (hB.out.alloc zr _)
      have hy01 := inB_iff.1 hin
      have HI := Lib.hid hin
      clear hin
      by_cases e2 : y = -2
      · subst e2
        go_wp2_with (go_at_call 27; refine (l1In_any _ _ _ _).mono ?_; rw [HI.out]; rintro e w' ⟨rfl, rfl⟩)
        go_roundw
        case rel => exact ⟨k + 1, cs, m, out, u, hlt, by go_num, hI.out.skip HY.out, hB, .inr hl⟩
        case measure => simp [intOf]; omega
      by_cases e1 : y = -1
      · subst e1
        clear e2
        obtain ⟨ok, hok⟩ : ∃ ok, popOk cs m true = ok := ⟨_, rfl⟩
        obtain ⟨M, hM⟩ : ∃ M, popM cs m true = M := ⟨_, rfl⟩
        obtain ⟨V, hV⟩ : ∃ V, popV cs m true = V := ⟨_, rfl⟩
        have HOK := Lib.hid hok
        have HM := Lib.hid hM
        have HV := Lib.hid hV
        clear hok hM hV
        go_wp2_with (go_at_call 27; refine (l1In_any _ _ _ _).mono ?_; rw [HI.out]; rintro e w' ⟨rfl, rfl⟩)
        refine (spec_PopStack _ cs m true _ (Gr.ints hI.out.2.2.1 rfl)).mono ?_
        rw [HOK.out, HM.out, HV.out]
        rintro e w1 ⟨u', x', rfl, hu', -, -, hb⟩
        obtain ⟨au, cu, hue⟩ := hu'.lit
        subst hue
        have hR1 := hI.out.2.2.2.2.2.2.2.mono hb hI.out.2.2.2.2.2.2.2.lt
        have f0 := hR1.free 0
        have f1 := hR1.free 1
        have kb0 : w1.cell? ⟨w3.heap.size, 0, none⟩ = some u := hR1.cell rfl
        have kb1 : w1.cell? ⟨w3.heap.size, 1, none⟩ = some (.int .i64 m) := hR1.cell rfl
        have HBW := Lib.hid hb
        have HU' := Lib.hid hu'
        have z1 : wr.heap.size ≤ w1.heap.size := hb.size
        have zl : w3.heap.size < w1.heap.size := hR1.lt
        have ne1 : ¬ w1.heap.size = w3.heap.size := by omega
        have zs : ((w1.setCell ⟨w3.heap.size, 0, none⟩ (.slice au (popC cs m true).length cu)).setCell ⟨w3.heap.size, 1, none⟩ (.int .i64 M)).heap.size = w1.heap.size := by simp [World.setCell]
        have HXA : Hid (Gr (((w1.setCell ⟨w3.heap.size, 0, none⟩ (.slice au (popC cs m true).length cu)).setCell ⟨w3.heap.size, 1, none⟩ (.int .i64 M)).alloc (.cells #[(.slice au (popC cs m true).length cu), .int .i64 M] 25)) w.heap.size 3 1 u4 out.length (ints out)) := (hI.out.put hb zr hu' M).2.1.alloc _
        have HVW : Hid (View ((((w1.setCell ⟨w3.heap.size, 0, none⟩ (.slice au (popC cs m true).length cu)).setCell ⟨w3.heap.size, 1, none⟩ (.int .i64 M)).alloc (.cells #[(.slice au (popC cs m true).length cu), .int .i64 M] 25)).alloc (.cells #[.int .i64 V] 3)) 1 (.slice (some ⟨w1.heap.size + 1, 0, none⟩) 1 1) 1 [.int .i64 V]) := by
          have := view_one (((w1.setCell ⟨w3.heap.size, 0, none⟩ (.slice au (popC cs m true).length cu)).setCell ⟨w3.heap.size, 1, none⟩ (.int .i64 M)).alloc (.cells #[(.slice au (popC cs m true).length cu), .int .i64 M] 25)) (.int .i64 V) 3
          rw [World.size_alloc, zs] at this
          exact this
        clear hb hu' hR1 k0 k1 hc1
        cases ok
        · go_wp2
          go_ret2
          refine run_no (run_stop (k := k + 1) ((runK_next hI.out.1 HY.out).trans (by rw [stp_pop, HOK.out]; rfl)) hlt) _ (Gr.none0 _ _ _ _ _) ?_
          exact ((hB.out.trans (HBW.out.mono zr)).alloc (by omega) _).alloc (by simp; omega) _
        · go_wp2_with (at_builtin; refine wpList_app _ rfl (.tmp 70) (.tmp 72) 23 rfl w.heap.size 3 (.int .i64 0) 1 8 Tryd.underlying23 Tryd.infoInt rfl (by omega) u4 out.length (ints out) rfl (HXA.out.alloc _) _ 1 [.int .i64 V] rfl HVW.out (by simp [Value.oneCell']) (by unfold maxLen; omega) (by omega) (by rw [World.size_alloc, World.size_alloc, zs]; omega) ?_; intro v4 w4 g4 r4 k4; have G4 := Lib.hid g4; have R4 := Lib.hid r4; have K4 := Lib.hid k4; clear g4 r4 k4)
          go_roundw
          case rel =>
            refine ⟨k + 1, popC cs m true, popM cs m true, out ++ [popV cs m true], (.slice au (popC cs m true).length cu), hlt, by go_num, ?_, ?_, .inr hl⟩
            · exact hI.out.pop HY.out HOK.out (by rw [HM.out]; exact (hI.out.put HBW.out zr HU'.out M).alloc _) (by rw [HV.out]; exact G4.out) R4.out K4.out
            · exact (((((hB.out.trans (HBW.out.mono zr)).setCell (p := ⟨w3.heap.size, 0, none⟩) (by show w.heap.size ≤ w3.heap.size; omega) _).setCell (p := ⟨w3.heap.size, 1, none⟩) (by show w.heap.size ≤ w3.heap.size; omega) _).alloc (by rw [zs]; omega) _).alloc (by rw [World.size_alloc, zs]; omega) _).grown R4.out (by simp [zs]; omega) (fun g hg => (HXA.out.lt g hg).1)
          case measure => simp [intOf]; omega
      · obtain ⟨ok, hok⟩ : ∃ ok, pushOk cs m y true = ok := ⟨_, rfl⟩
        obtain ⟨M, hM⟩ : ∃ M, pushM cs m y true = M := ⟨_, rfl⟩
        have HOK := Lib.hid hok
        have HM := Lib.hid hM
        have h0 : 0 ≤ y := by omega
        have h1 : (y == -1) = false := by simpa using e1
        have E1 := Lib.hid e1
        have E2 := Lib.hid e2
        clear hok hM e1 e2
        go_wp2_with (go_at_call 27; refine (l1In_any _ _ _ _).mono ?_; rw [HI.out]; rintro e w' ⟨rfl, rfl⟩)
        obtain ⟨_, _, hv6, _, hop0⟩ := H.out.open
        cases hv6
        obtain ⟨b', off', he6, hcell0⟩ := hop0 k hlt
        cases he6
        have hbw : b < w.heap.size := World.block_lt_of_cell? w _ (hcell0 k hlt)
        clear hop0 hcell0
        have KHW : Hid (wr.cell? ⟨w3.heap.size, 0, none⟩ = some u ∧ wr.cell? ⟨w3.heap.size, 1, none⟩ = some (.int .i64 m) ∧ wr.cell? ⟨b, off + k, none⟩ = some (.int .i64 y)) := ⟨k0, k1, hc1⟩
        have zq : w3.heap.size < wr.heap.size := hI.out.2.2.2.2.2.2.2.lt
        go_region_held3 (fun w' => w'.cell? ⟨w3.heap.size, 0, none⟩ = some u ∧ w'.cell? ⟨w3.heap.size, 1, none⟩ = some (.int .i64 m) ∧ w'.cell? ⟨b, off + k, none⟩ = some (.int .i64 y)) ((first | exact ⟨cell_keep KHW.out.1 (Below.refl _ _), cell_keep KHW.out.2.1 (Below.refl _ _), cell_keep KHW.out.2.2 (Below.refl _ _)⟩ | exact ⟨cell_keep KHW.out.1 ((Below.refl _ _).drew), cell_keep KHW.out.2.1 ((Below.refl _ _).drew), cell_keep KHW.out.2.2 ((Below.refl _ _).drew)⟩ | exact ⟨cell_keep KHW.out.1 ((Below.refl _ _).alloc (Nat.le_refl _) _), cell_keep KHW.out.2.1 ((Below.refl _ _).alloc (Nat.le_refl _) _), cell_keep KHW.out.2.2 ((Below.refl _ _).alloc (Nat.le_refl _) _)⟩ | exact ⟨cell_keep KHW.out.1 (((Below.refl _ _).alloc (Nat.le_refl _) _).drew), cell_keep KHW.out.2.1 (((Below.refl _ _).alloc (Nat.le_refl _) _).drew), cell_keep KHW.out.2.2 (((Below.refl _ _).alloc (Nat.le_refl _) _).drew)⟩ | exact ⟨cell_keep KHW.out.1 (((Below.refl _ _).drew).alloc (Nat.le_refl _) _), cell_keep KHW.out.2.1 (((Below.refl _ _).drew).alloc (Nat.le_refl _) _), cell_keep KHW.out.2.2 (((Below.refl _ _).drew).alloc (Nat.le_refl _) _)⟩ | exact ⟨cell_keep KHW.out.1 ((((Below.refl _ _).drew).alloc (Nat.le_refl _) _).drew), cell_keep KHW.out.2.1 ((((Below.refl _ _).drew).alloc (Nat.le_refl _) _).drew), cell_keep KHW.out.2.2 ((((Below.refl _ _).drew).alloc (Nat.le_refl _) _).drew)⟩ | exact ⟨cell_keep KHW.out.1 HBW.out, cell_keep KHW.out.2.1 HBW.out, cell_keep KHW.out.2.2 HBW.out⟩ | exact ⟨cell_keep KHW.out.1 (HBW.out.drew), cell_keep KHW.out.2.1 (HBW.out.drew), cell_keep KHW.out.2.2 (HBW.out.drew)⟩ | exact ⟨cell_keep KHW.out.1 (HBW.out.alloc HBW.out.size _), cell_keep KHW.out.2.1 (HBW.out.alloc HBW.out.size _), cell_keep KHW.out.2.2 (HBW.out.alloc HBW.out.size _)⟩ | exact ⟨cell_keep KHW.out.1 ((HBW.out.alloc HBW.out.size _).setCell HBW.out.size _), cell_keep KHW.out.2.1 ((HBW.out.alloc HBW.out.size _).setCell HBW.out.size _), cell_keep KHW.out.2.2 ((HBW.out.alloc HBW.out.size _).setCell HBW.out.size _)⟩ | exact ⟨cell_keep KHW.out.1 (((HBW.out.alloc HBW.out.size _).setCell HBW.out.size _).setCell HBW.out.size _), cell_keep KHW.out.2.1 (((HBW.out.alloc HBW.out.size _).setCell HBW.out.size _).setCell HBW.out.size _), cell_keep KHW.out.2.2 (((HBW.out.alloc HBW.out.size _).setCell HBW.out.size _).setCell HBW.out.size _)⟩ | exact ⟨cell_keep KHW.out.1 (HBW.out.setCell (Nat.le_refl _) _), cell_keep KHW.out.2.1 (HBW.out.setCell (Nat.le_refl _) _), cell_keep KHW.out.2.2 (HBW.out.setCell (Nat.le_refl _) _)⟩ | exact ⟨cell_keep KHW.out.1 ((HBW.out.setCell (Nat.le_refl _) _).setCell (Nat.le_refl _) _), cell_keep KHW.out.2.1 ((HBW.out.setCell (Nat.le_refl _) _).setCell (Nat.le_refl _) _), cell_keep KHW.out.2.2 ((HBW.out.setCell (Nat.le_refl _) _).setCell (Nat.le_refl _) _)⟩)) (first | (go_at_call 14; refine (spec_PushStack _ cs m y true wr.drew ?_).mono ?_; (exact Gr.ints hI.out.2.2.1 rfl); rw [HOK.out, HM.out]; rintro e w1 ⟨u', x', rfl, hu', -, -, hb⟩; obtain ⟨au, cu, hue⟩ := hu'.lit; subst hue; have HBW := Lib.hid ((Below.refl wr.heap.size wr).drew.trans hb); have hu' := hu'.low (B' := wr.heap.size) (Nat.le_refl _); have hR1 := hI.out.2.2.2.2.2.2.2.mono HBW.out hI.out.2.2.2.2.2.2.2.lt; have f0 := hR1.free 0; have f1 := hR1.free 1; have kb0 : w1.cell? ⟨w3.heap.size, 0, none⟩ = some u := hR1.cell rfl; have kb1 : w1.cell? ⟨w3.heap.size, 1, none⟩ = some (.int .i64 m) := hR1.cell rfl; have HU' := Lib.hid hu'; have zl : w3.heap.size < w1.heap.size := hR1.lt; have ne1 : ¬ w1.heap.size = w3.heap.size := (by omega); have kc : w1.cell? ⟨b, off + k, none⟩ = some (.int .i64 y) := cell_keep KHW.out.2.2 HBW.out; have nb0 : ¬ w3.heap.size = b := (by omega); have nb1 : ¬ b = w3.heap.size := (by omega); have nb2 : ¬ w1.heap.size = b := (by omega); have nb3 : ¬ wr.heap.size = b := (by omega); have nb4 : ¬ b = wr.heap.size := (by omega); clear hb hu' hR1) | (go_at_call 14; refine (spec_PushStack _ cs m y true (wr.alloc (.cells #[.slice none 0 0, .int .i64 0] 25)).drew ?_).mono ?_; (exact Gr.ints (hI.out.2.2.1.alloc _) rfl); rw [HOK.out, HM.out]; rintro e w1 ⟨u', x', rfl, hu', -, -, hb⟩; obtain ⟨au, cu, hue⟩ := hu'.lit; subst hue; have hbA : Below wr.heap.size wr (wr.alloc (.cells #[.slice none 0 0, .int .i64 0] 25)).drew := ((Below.refl _ _).alloc (Nat.le_refl _) _).drew; have HBW := Lib.hid (hbA.trans (hb.mono hbA.size)); have hRq : Row w1 wr.heap.size 25 [.slice none 0 0, .int .i64 0] := ((Row.new wr 25 [.slice none 0 0, .int .i64 0]).drew.mono hb (Row.new wr 25 [.slice none 0 0, .int .i64 0]).lt); have fq0 := hRq.free 0; have fq1 := hRq.free 1; have kq0 : w1.cell? ⟨wr.heap.size, 0, none⟩ = some (.slice none 0 0) := hRq.cell rfl; have kq1 : w1.cell? ⟨wr.heap.size, 1, none⟩ = some (.int .i64 0) := hRq.cell rfl; have hu' : Gr w1 (wr.heap.size + 1) 3 1 _ _ _ := hu'.low (B' := wr.heap.size + 1) (by show wr.heap.size + 1 ≤ (wr.alloc (.cells #[.slice none 0 0, .int .i64 0] 25)).heap.size; simp); have neq : ¬ wr.heap.size = w3.heap.size := (by omega); have neq2 : ¬ w3.heap.size = wr.heap.size := (by omega); have hR1 := hI.out.2.2.2.2.2.2.2.mono HBW.out hI.out.2.2.2.2.2.2.2.lt; have f0 := hR1.free 0; have f1 := hR1.free 1; have kb0 : w1.cell? ⟨w3.heap.size, 0, none⟩ = some u := hR1.cell rfl; have kb1 : w1.cell? ⟨w3.heap.size, 1, none⟩ = some (.int .i64 m) := hR1.cell rfl; have HU' := Lib.hid hu'; have zl : w3.heap.size < w1.heap.size := hR1.lt; have ne1 : ¬ w1.heap.size = w3.heap.size := (by omega); have kc : w1.cell? ⟨b, off + k, none⟩ = some (.int .i64 y) := cell_keep KHW.out.2.2 HBW.out; have nb0 : ¬ w3.heap.size = b := (by omega); have nb1 : ¬ b = w3.heap.size := (by omega); have nb2 : ¬ w1.heap.size = b := (by omega); have nb3 : ¬ wr.heap.size = b := (by omega); have nb4 : ¬ b = wr.heap.size := (by omega); clear hb hu' hR1 hRq hbA))
        · cases ok
          · go_wp2
            go_ret2
            refine run_no (run_stop (k := k + 1) ((runK_next hI.out.1 HY.out).trans (by rw [stp_push E2.out E1.out, HOK.out]; rfl)) hlt) _ (Gr.none0 _ _ _ _ _) ?_
            have z1 := HBW.out.size
            exact ((hB.out.trans (HBW.out.mono zr)).alloc (by omega) _).alloc (by simp; omega) _
          · have z1 := HBW.out.size
            have kcA : (((w1.setCell ⟨w3.heap.size, 0, none⟩ (.slice au (pushC cs m y true).length cu)).setCell ⟨w3.heap.size, 1, none⟩ (.int .i64 M)).alloc (.cells #[(.slice au (pushC cs m y true).length cu), .int .i64 M] 25)).cell? ⟨b, off + k, none⟩ = some (.int .i64 y) := (((((Below.refl w.heap.size w1).setCell (p := ⟨w3.heap.size, 0, none⟩) (by show w.heap.size ≤ w3.heap.size; omega) _).setCell (p := ⟨w3.heap.size, 1, none⟩) (by show w.heap.size ≤ w3.heap.size; omega) _).alloc (by simp [World.setCell]; omega) _).cell (p := ⟨b, off + k, none⟩) hbw).trans kc
            go_wp2
            go_roundw
            case rel =>
              have z1 := HBW.out.size
              have zs : ((w1.setCell ⟨w3.heap.size, 0, none⟩ (.slice au (pushC cs m y true).length cu)).setCell ⟨w3.heap.size, 1, none⟩ (.int .i64 M)).heap.size = w1.heap.size := by simp [World.setCell]
              refine ⟨k + 1, pushC cs m y true, pushM cs m y true, out, (.slice au (pushC cs m y true).length cu), hlt, by go_num, ?_, ?_, .inr hl⟩
              · exact hI.out.push HY.out E2.out E1.out HOK.out (by rw [HM.out]; exact (hI.out.put HBW.out zr HU'.out M).alloc _)
              · exact ((((hB.out.trans (HBW.out.mono zr)).setCell (p := ⟨w3.heap.size, 0, none⟩) (by show w.heap.size ≤ w3.heap.size; omega) _).setCell (p := ⟨w3.heap.size, 1, none⟩) (by show w.heap.size ≤ w3.heap.size; omega) _).alloc (by rw [zs]; omega) _)
            case measure => simp [intOf]; omega
        · cases ok
          · go_wp2
            go_ret2
            refine run_no (run_stop (k := k + 1) ((runK_next hI.out.1 HY.out).trans (by rw [stp_push E2.out E1.out, HOK.out]; rfl)) hlt) _ (Gr.none0 _ _ _ _ _) ?_
            have z1 := HBW.out.size
            exact (((hB.out.trans (HBW.out.mono zr)).setCell (p := ⟨wr.heap.size, 0, none⟩) zr _).setCell (p := ⟨wr.heap.size, 1, none⟩) zr _).alloc (by simp [World.setCell]; omega) _
          · go_wp2
            go_roundw
            case rel =>
              have HBX := (HBW.out.setCell (p := ⟨wr.heap.size, 0, none⟩) (Nat.le_refl _) (.slice au (pushC cs m y true).length cu)).setCell (p := ⟨wr.heap.size, 1, none⟩) (Nat.le_refl _) (.int .i64 M)
              have HUX := ((HU'.out.setOther wr.heap.size 0 (.slice au (pushC cs m y true).length cu) (fun y hy => by have := (HU'.out.lt y hy).1; omega)).setOther wr.heap.size 1 (.int .i64 M) (fun y hy => by have := (HU'.out.lt y hy).1; omega)).low (B' := wr.heap.size) (Nat.le_succ _)
              refine ⟨k + 1, pushC cs m y true, pushM cs m y true, out, (.slice au (pushC cs m y true).length cu), hlt, by go_num, ?_, ?_, .inr hl⟩
              · exact hI.out.push HY.out E2.out E1.out HOK.out (by rw [HM.out]; exact hI.out.put HBX zr HUX M)
              · exact ((hB.out.trans (HBX.mono zr)).setCell (p := ⟨w3.heap.size, 0, none⟩) (by show w.heap.size ≤ w3.heap.size; omega) _).setCell (p := ⟨w3.heap.size, 1, none⟩) (by show w.heap.size ≤ w3.heap.size; omega) _
            case measure => simp [intOf]; omega
    · obtain rfl : k = xs.length := by omega
      have hl : xs.length ≤ 40 := by rcases hkl.out with e | e <;> omega
      go_wp2
      go_ret2
      exact run_yes hI.out.1 hl _ hI.out.2.2.2.1 hB.out
theorem impl_StackRun_own (v : Value) (xs : List Int) (w : World) (h : Ints w v xs) (_ : xs.length ≤ 1048576) : Calls Tryd.prog 21 #[v] w fun e w' => ∃ v' b, e = .returned (.tuple #[v', .bool (runOk xs)]) ∧ OwnI w' b v' (runV xs) ∧ From w.heap.size b ∧ Below w.heap.size w w' :=
  (impl_StackRun v xs w h).mono fun _ _ ⟨u, he, hu, hb⟩ => by
    obtain ⟨b, h1, h2, _⟩ := hu.own
    exact ⟨u, b, he, h1, h2, hb⟩
theorem spec_StackRun_own (v : Value) (xs : List Int) (w : World) (h : Ints w v xs) (_ : xs.length ≤ 1048576) : Calls Tryd.prog 22 #[v] w fun e w' => ∃ v' b, e = .returned (.tuple #[v', .bool (runOk xs)]) ∧ OwnI w' b v' (runV xs) ∧ From w.heap.size b ∧ Below w.heap.size w w' :=
  (spec_StackRun v xs w h).mono fun _ _ ⟨u, he, hu, hb⟩ => by
    obtain ⟨b, h1, h2, _⟩ := hu.own
    exact ⟨u, b, he, h1, h2, hb⟩
end Go.Proofs.YtmdjkaghjljbfaaDoor
