/- contracts of the program's send -/
import Derived.Test.YtnmkficfbnnakaaDoorSend
import Derived.Test.YtnmkficfbnnakaaDoorClone
import Derived.Deep.RegionLaw
namespace Go.Proofs.YtnmkficfbnnakaaDoor
open Go.RowKit
/-- the function f sends n values through m switches as g says -/
def Sends (F n m : Nat) (g : List Bool → List Int → List Int) : Prop := ∀ (vs vl : Value) (s : List Bool) (l : List Int) (w : World), Bools w vs s → Ints w vl l → s.length = m → l.length = n → Calls Tryd.prog F #[vs, vl] w (IntsPost (g s l) w)
theorem bools_at {w : World} {b off m lo c cap : Nat} {s : List Bool} (h : ∀ i, i < m → w.cell? ⟨b, off + i, none⟩ = some (.bool (bI s i))) (hl : s.length = m) (h1 : lo + c ≤ m) (h2 : c ≤ cap) (h3 : c ≤ maxLen) (h0 : 0 < c) : Bools w (.slice (some ⟨b, off + lo, none⟩) c cap) ((s.drop lo).take c) := by
  have e : ((s.drop lo).take c).length = c := by rw [List.length_take, List.length_drop]; omega
  refine ⟨by simp, by rw [e]; exact h3, .inr ⟨by omega, b, off + lo, cap, by rw [e], by omega, fun i u hu => ?_⟩⟩
  have hi : i < c := by have := (List.getElem?_eq_some_iff.1 hu).1; simp at this; omega
  have := h (lo + i) (by omega)
  rw [show off + lo + i = off + (lo + i) by omega, this]
  have e2 : (bools ((s.drop lo).take c))[i]? = some (.bool (bI s (lo + i))) := by
    rw [bools_get (by omega)]
    unfold bv bI
    rw [List.getElem?_take_of_lt hi, List.getElem?_drop]
  rw [e2] at hu
  exact hu
theorem tab_snocI (n : Nat) (f : Nat → Int) : tab n f ++ [f n] = tab (n + 1) f := by simp [tab, List.range_succ]
theorem grown_drw {w w' : World} {b : Option Nat} (h : w.drew.grownBy w' b) : w.grownBy w' b := ⟨h.os, h.tape, h.output, h.size, h.block⟩
theorem send_1 : Sends 21 1 0 (fun _ l => l) := by
  intro vs vl s l w hs hl h1 h2
  have HL := Lib.hid hl
  have H2 := Lib.hid h2
  obtain ⟨ad, c, hvl, _, _⟩ := hl.open
  rw [h2] at hvl
  subst hvl
  clear hs hl h1 h2
  go_enter Tryd.func21, Tryd.ntmps21
  go_wp2_with (go_at_call 30; refine (clone_any _ l w HL.out (by rw [H2.out]; omega)).mono ?_; rintro e w' ⟨u, rfl, hg, hb⟩; have HG := Lib.hid hg; have HB := Lib.hid hb; clear hg hb)
  go_ret
  exact ⟨_, rfl, HG.out, HB.out⟩
set_option maxRecDepth 20000 in
theorem send_2 : Sends 21 2 1 swap1 := by
  intro vs vl s l w hs hl h1 h2
  have HL := Lib.hid hl
  have H2 := Lib.hid h2
  obtain ⟨ad, c, hvl, _, hop⟩ := hl.open
  obtain ⟨ad2, c2, hvs, _, hop2⟩ := hs.open
  rw [h2] at hvl
  rw [h1] at hvs
  subst hvl hvs
  obtain ⟨b, off, rfl, hcell⟩ := hop 0 (by omega)
  obtain ⟨b2, off2, rfl, hcell2⟩ := hop2 0 (by omega)
  have k0 := hcell 0 (by omega)
  have k1 := hcell 1 (by omega)
  have ks := hcell2 0 (by omega)
  rw [iv_iI, Nat.add_zero] at k0
  rw [iv_iI] at k1
  rw [bv_bI, Nat.add_zero] at ks
  obtain ⟨x, hx⟩ : ∃ x, iI l 0 = x := ⟨_, rfl⟩
  obtain ⟨y, hy⟩ : ∃ y, iI l 1 = y := ⟨_, rfl⟩
  obtain ⟨t, ht⟩ : ∃ t, bI s 0 = t := ⟨_, rfl⟩
  rw [hx] at k0
  rw [hy] at k1
  rw [ht] at ks
  have HS : Hid (swap1 s l = if t then [y, x] else l) := by unfold Hid swap1; rw [hx, hy, ht]
  clear hs hl h1 h2 hop hop2 hcell hcell2 hx hy ht
  cases t
  · go_enter Tryd.func21, Tryd.ntmps21
    go_wp2_with (go_at_call 30; refine (clone_any _ l w HL.out (by rw [H2.out]; omega)).mono ?_; rintro e w' ⟨u, rfl, hg, hb⟩; have HG := Lib.hid hg; have HB := Lib.hid hb; clear hg hb)
    go_ret
    rw [HS.out]
    exact ⟨_, rfl, HG.out, HB.out⟩
  · have HF : Hid (∀ w0 : World, Below w.heap.size w w0 → IntsPost (swap1 s l) w (.returned (.slice (some ⟨w0.heap.size, 0, none⟩) 2 2)) (w0.alloc (.cells #[.int .i64 y, .int .i64 x] 3))) := fun w0 hb => by
      rw [HS.out]
      exact ⟨_, rfl, Gr.of_made (Row.new w0 3 (ints [y, x])) rfl (by unfold maxLen; omega) hb.size, hb.alloc hb.size _⟩
    go_enter Tryd.func21, Tryd.ntmps21
    go_wp2
    go_still_tail 6, (by kernel_rfl)
    go_wp2
    go_ret
    exact HF.out _ (Below.refl _ _).drew
set_option maxHeartbeats 20000000 in
set_option maxRecDepth 20000 in
theorem send_step (h c : Nat) (hh : (h = 2 ∧ c = 1) ∨ (h = 4 ∧ c = 6)) (g : List Bool → List Int → List Int) (hg : ∀ s l, l.length = h → (g s l).length = h) (IH : Sends 21 h c g) : Sends 21 (2 * h) (2 * h + 2 * c) (stepV h c g) := by
  intro vs vl s l w hs hl h1 h2
  have HSW : Hid (wideB (h : Int) = true ∧ swc (h : Int) = (c : Int)) := by rcases hh with ⟨rfl, rfl⟩ | ⟨rfl, rfl⟩ <;> exact ⟨rfl, rfl⟩
  have hh1 : 2 ≤ h ∧ h ≤ 4 ∧ c ≤ 6 ∧ 1 ≤ c := by omega
  obtain ⟨q1, q2, q3, q4⟩ := hh1
  have HIH := Lib.hid IH
  have HLEN := Lib.hid hg
  clear hh IH hg
  obtain ⟨n, hn⟩ : ∃ n, n = 2 * h := ⟨_, rfl⟩
  obtain ⟨m, hm⟩ : ∃ m, m = 2 * h + 2 * c := ⟨_, rfl⟩
  rw [← hn] at h2
  rw [← hm] at h1
  have hn1 : n ≤ 2 * h := by omega
  have hn2 : 2 * h ≤ n := by omega
  have hm1 : m ≤ 2 * h + 2 * c := by omega
  have hm2 : 2 * h + 2 * c ≤ m := by omega
  have HN := Lib.hid hn
  clear hn hm
  have HL := Lib.hid hl
  have HS := Lib.hid hs
  have H1 := Lib.hid h1
  have H2 := Lib.hid h2
  obtain ⟨ad, cl, hvl, _, hop⟩ := hl.open
  obtain ⟨ad2, cs, hvs, _, hop2⟩ := hs.open
  rw [h2] at hvl
  rw [h1] at hvs
  subst hvl hvs
  have hmc : m ≤ cs := by
    rcases hs.2.2 with ⟨h0, _⟩ | ⟨_, _, _, _, hv, hc, _⟩
    · omega
    · cases hv; omega
  obtain ⟨b, off, rfl, hcell⟩ := hop 0 (by omega)
  obtain ⟨b2, off2, rfl, hcell2⟩ := hop2 0 (by omega)
  have CL : Hid (∀ i, i < n → w.cell? ⟨b, off + i, none⟩ = some (.int .i64 (iI l i))) := fun i hi => hcell i (by omega)
  have CS : Hid (∀ i, i < m → w.cell? ⟨b2, off2 + i, none⟩ = some (.bool (bI s i))) := fun i hi => hcell2 i (by omega)
  clear hs hl h1 h2 hop hop2 hcell hcell2
  have d1 : ((n : Int) == 1) = false := beq_eq_false_iff_ne.2 (by omega)
  have d2 : ((n : Int) == 2) = false := beq_eq_false_iff_ne.2 (by omega)
  have d3 : (n : Int) / 2 = (h : Int) := by omega
  have hrow := Row.new w 47 [.slice none 0 0, .slice none 0 0]
  have HG0 : Hid (Grd 47 (w.alloc (.cells #[.slice none 0 0, .slice none 0 0] 47)) w.heap.size w.heap.size 2 (fun b => tab 0 (hv s l b))) := Grd.new hrow
  have HB0 : Hid (Below w.heap.size w (w.alloc (.cells #[.slice none 0 0, .slice none 0 0] 47))) := (Below.refl _ _).alloc (Nat.le_refl _) _
  clear hrow
  go_enter Tryd.func21, Tryd.ntmps21
  go_wp2
  go_loopw [7] (fun i wr => ∃ k : Nat, k ≤ h ∧ i = .int .i64 k ∧ Hid (Grd 47 wr w.heap.size w.heap.size 2 (fun b => tab k (hv s l b))) ∧ Hid (Below w.heap.size w wr)) (fun i _ => h - (intOf i).toNat)
  case atStart => exact ⟨0, Nat.zero_le _, rfl, HG0, HB0⟩
  case round =>
    obtain ⟨k, hk, rfl, hG, hB⟩ := hrel
    by_cases hlt : k < h
    · have hcs := CS.out k (by omega)
      have hcs : wr.cell? ⟨b2, off2 + k, none⟩ = some (.bool (bI s k)) := (hB.out.cell (p := ⟨b2, off2 + k, none⟩) (World.block_lt_of_cell? w _ hcs)).trans hcs
      have hc0 := CL.out (2 * k) (by omega)
      have hc1 := CL.out (2 * k + 1) (by omega)
      obtain ⟨K, hK⟩ : ∃ K : Nat, 2 * k = K := ⟨_, rfl⟩
      have hKi : 2 * (k : Int) = (K : Int) := by omega
      have hKn : K + 1 < n := by omega
      have hKn0 : K < n := by omega
      have hKi0 : (0 : Int) ≤ (K : Int) + 1 := by omega
      have hKi1 : (K : Int) + 1 < (n : Int) := by omega
      have hw1 : IntKind.i64.wrap 1 = 1 := by rw [IntKind.wrap_i64]; rfl
      have hw0 : IntKind.i64.wrap 0 = 0 := by rw [IntKind.wrap_i64]; rfl
      have hwK : IntKind.i64.wrap (K : Int) = K := by rw [IntKind.wrap_i64]; omega
      have hwK1 : IntKind.i64.wrap ((K : Int) + 1) = (K : Int) + 1 := by rw [IntKind.wrap_i64]; omega
      have HK := Lib.hid hK
      rw [hK] at hc0 hc1
      have hc0 : wr.cell? ⟨b, off + K, none⟩ = some (.int .i64 (iI l K)) := (hB.out.cell (p := ⟨b, off + K, none⟩) (World.block_lt_of_cell? w _ hc0)).trans hc0
      have hc1w := hc1
      clear hK
      obtain ⟨x, hx⟩ : ∃ x, iI l K = x := ⟨_, rfl⟩
      obtain ⟨y, hy⟩ : ∃ y, iI l (K + 1) = y := ⟨_, rfl⟩
      obtain ⟨t, ht⟩ : ∃ t, bI s k = t := ⟨_, rfl⟩
      rw [hx] at hc0
      rw [hy] at hc1w
      rw [ht] at hcs
      have HX := Lib.hid hx
      have HY := Lib.hid hy
      have HT := Lib.hid ht
      clear hx hy ht hc1
      cases t
      · have HV0 : Hid (hv s l 0 k = x) := by have := HK.out; unfold Hid hv; rw [HT.out]; subst this; simpa using HX.out
        have HV1 : Hid (hv s l 1 k = y) := by have := HK.out; unfold Hid hv; rw [HT.out]; subst this; simpa using HY.out
        obtain ⟨aP, cP, hcP, gP, hstep⟩ := hG.out.at (z := 0) (by omega)
        rw [show (tab k (hv s l 0)).length = k by simp] at hcP gP hstep
        have zcP : (wr.alloc (.cells #[.int .i64 x] 3)).cell? ⟨w.heap.size, 0, none⟩ = some (.slice aP k cP) := (((Below.refl wr.heap.size wr).alloc (Nat.le_refl _) (.cells #[.int .i64 x] 3)).cell (p := ⟨w.heap.size, 0, none⟩) (World.block_lt_of_cell? wr _ hcP)).trans hcP
        have GP := Lib.hid gP
        have STEPP := Lib.hid hstep
        have zP := hB.out.size
        clear gP hstep
        go_wp2
        go_region_law (first
          | (refine step_app _ rfl (.tmp 48) (.tmp 54) 24 rfl w.heap.size 3 (.int .i64 0) 1 8 Tryd.underlying24 Tryd.infoInt rfl (by omega) (.slice aP k cP) k (ints (tab k (hv s l 0))) rfl (GP.out.mono (B := wr.heap.size) (by repeat (first | exact Below.refl _ _ | refine Below.drew ?_ | refine Below.alloc ?_ (by simp <;> omega) _)) (Nat.le_refl _)) _ 1 [.int .i64 x] rfl (by first | exact view_one _ _ _ | exact (view_one wr _ _).mono (B := wr.heap.size + 1) (by repeat (first | exact Below.refl _ _ | refine Below.drew ?_)) (by simp)) (by simp [Value.oneCell']) (by unfold maxLen; omega) (by omega) (by simp <;> omega) ?_
             intro vP wP g1 r1 k1
             obtain ⟨aqP, cqP, hvq⟩ := g1.lit
             subst hvq
             have RP := Lib.hid (grown_drw r1)
             obtain ⟨hcaP, hfaP, hGa⟩ := STEPP.out _ _ _ (tab k (hv s l 0) ++ [x]) (k + 1) (by simp) (by simpa [ints] using g1) (grown_drw r1) k1
             have GAP := Lib.hid hGa
             clear g1 r1 k1 hGa))
        all_goals
          have BP : Hid (Below w.heap.size w (wP.setCell ⟨w.heap.size, 0, none⟩ (.slice aqP (k + 1) cqP))) := ((hB.out.alloc zP _).grown RP.out (by simp; omega) (fun g hg => (GP.out.lt g hg).1)).setCell (p := ⟨w.heap.size, 0, none⟩) (Nat.le_refl _) _
          clear hcaP hfaP hcP zcP RP GP STEPP
          generalize wP.setCell ⟨w.heap.size, 0, none⟩ (.slice aqP (k + 1) cqP) = W2 at GAP BP ⊢
          have hc1 : W2.cell? ⟨b, off + (K + 1), none⟩ = some (.int .i64 y) := (BP.out.cell (p := ⟨b, off + (K + 1), none⟩) (World.block_lt_of_cell? w _ hc1w)).trans hc1w
          obtain ⟨aQ, cQ, hcQ, gQ, hstep⟩ := GAP.out.at (z := 1) (by omega)
          rw [if_neg (by omega), show (tab k (hv s l 1)).length = k by simp] at hcQ gQ hstep
          have zcQ : (W2.alloc (.cells #[.int .i64 y] 3)).cell? ⟨w.heap.size, 1, none⟩ = some (.slice aQ k cQ) := (((Below.refl W2.heap.size W2).alloc (Nat.le_refl _) (.cells #[.int .i64 y] 3)).cell (p := ⟨w.heap.size, 1, none⟩) (World.block_lt_of_cell? W2 _ hcQ)).trans hcQ
          have GQ := Lib.hid gQ
          have STEPQ := Lib.hid hstep
          have zQ := BP.out.size
          clear gQ hstep
          go_wp2
          go_region_law (first
            | (refine step_app _ rfl (.tmp 62) (.tmp 69) 24 rfl w.heap.size 3 (.int .i64 0) 1 8 Tryd.underlying24 Tryd.infoInt rfl (by omega) (.slice aQ k cQ) k (ints (tab k (hv s l 1))) rfl (GQ.out.mono (B := W2.heap.size) (by repeat (first | exact Below.refl _ _ | refine Below.drew ?_ | refine Below.alloc ?_ (by simp <;> omega) _)) (Nat.le_refl _)) _ 1 [.int .i64 y] rfl (by first | exact view_one _ _ _ | exact (view_one W2 _ _).mono (B := W2.heap.size + 1) (by repeat (first | exact Below.refl _ _ | refine Below.drew ?_)) (by simp)) (by simp [Value.oneCell']) (by unfold maxLen; omega) (by omega) (by simp <;> omega) ?_
               intro vQ wQ g1 r1 k1
               obtain ⟨aqQ, cqQ, hvq⟩ := g1.lit
               subst hvq
               have RQ := Lib.hid (grown_drw r1)
               obtain ⟨hcaQ, hfaQ, hGa⟩ := STEPQ.out _ _ _ (tab k (hv s l 1) ++ [y]) (k + 1) (by simp) (by simpa [ints] using g1) (grown_drw r1) k1
               have GAQ := Lib.hid hGa
               clear g1 r1 k1 hGa))
          all_goals
            have BQ : Hid (Below w.heap.size w (wQ.setCell ⟨w.heap.size, 1, none⟩ (.slice aqQ (k + 1) cqQ))) := ((BP.out.alloc zQ _).grown RQ.out (by simp; omega) (fun g hg => (GQ.out.lt g hg).1)).setCell (p := ⟨w.heap.size, 1, none⟩) (Nat.le_refl _) _
            go_wp2
            go_roundw
            case rel => exact ⟨k + 1, hlt, by go_num, GAQ.out.congr (fun i hi => by rcases (show i = 0 ∨ i = 1 by omega) with rfl | rfl <;> simp [HV0.out, HV1.out, ← tab_snocI]), BQ.out⟩
            case measure => simp [intOf]; omega
      · have HV1 : Hid (hv s l 1 k = x) := by have := HK.out; unfold Hid hv; rw [HT.out]; subst this; simpa using HX.out
        have HV0 : Hid (hv s l 0 k = y) := by have := HK.out; unfold Hid hv; rw [HT.out]; subst this; simpa using HY.out
        obtain ⟨aP, cP, hcP, gP, hstep⟩ := hG.out.at (z := 1) (by omega)
        rw [show (tab k (hv s l 1)).length = k by simp] at hcP gP hstep
        have zcP : (wr.alloc (.cells #[.int .i64 x] 3)).cell? ⟨w.heap.size, 1, none⟩ = some (.slice aP k cP) := (((Below.refl wr.heap.size wr).alloc (Nat.le_refl _) (.cells #[.int .i64 x] 3)).cell (p := ⟨w.heap.size, 1, none⟩) (World.block_lt_of_cell? wr _ hcP)).trans hcP
        have GP := Lib.hid gP
        have STEPP := Lib.hid hstep
        have zP := hB.out.size
        clear gP hstep
        go_wp2
        go_region_law (first
          | (refine step_app _ rfl (.tmp 48) (.tmp 54) 24 rfl w.heap.size 3 (.int .i64 0) 1 8 Tryd.underlying24 Tryd.infoInt rfl (by omega) (.slice aP k cP) k (ints (tab k (hv s l 1))) rfl (GP.out.mono (B := wr.heap.size) (by repeat (first | exact Below.refl _ _ | refine Below.drew ?_ | refine Below.alloc ?_ (by simp <;> omega) _)) (Nat.le_refl _)) _ 1 [.int .i64 x] rfl (by first | exact view_one _ _ _ | exact (view_one wr _ _).mono (B := wr.heap.size + 1) (by repeat (first | exact Below.refl _ _ | refine Below.drew ?_)) (by simp)) (by simp [Value.oneCell']) (by unfold maxLen; omega) (by omega) (by simp <;> omega) ?_
             intro vP wP g1 r1 k1
             obtain ⟨aqP, cqP, hvq⟩ := g1.lit
             subst hvq
             have RP := Lib.hid (grown_drw r1)
             obtain ⟨hcaP, hfaP, hGa⟩ := STEPP.out _ _ _ (tab k (hv s l 1) ++ [x]) (k + 1) (by simp) (by simpa [ints] using g1) (grown_drw r1) k1
             have GAP := Lib.hid hGa
             clear g1 r1 k1 hGa))
        all_goals
          have BP : Hid (Below w.heap.size w (wP.setCell ⟨w.heap.size, 1, none⟩ (.slice aqP (k + 1) cqP))) := ((hB.out.alloc zP _).grown RP.out (by simp; omega) (fun g hg => (GP.out.lt g hg).1)).setCell (p := ⟨w.heap.size, 1, none⟩) (Nat.le_refl _) _
          clear hcaP hfaP hcP zcP RP GP STEPP
          generalize wP.setCell ⟨w.heap.size, 1, none⟩ (.slice aqP (k + 1) cqP) = W2 at GAP BP ⊢
          have hc1 : W2.cell? ⟨b, off + (K + 1), none⟩ = some (.int .i64 y) := (BP.out.cell (p := ⟨b, off + (K + 1), none⟩) (World.block_lt_of_cell? w _ hc1w)).trans hc1w
          obtain ⟨aQ, cQ, hcQ, gQ, hstep⟩ := GAP.out.at (z := 0) (by omega)
          rw [if_neg (by omega), show (tab k (hv s l 0)).length = k by simp] at hcQ gQ hstep
          have zcQ : (W2.alloc (.cells #[.int .i64 y] 3)).cell? ⟨w.heap.size, 0, none⟩ = some (.slice aQ k cQ) := (((Below.refl W2.heap.size W2).alloc (Nat.le_refl _) (.cells #[.int .i64 y] 3)).cell (p := ⟨w.heap.size, 0, none⟩) (World.block_lt_of_cell? W2 _ hcQ)).trans hcQ
          have GQ := Lib.hid gQ
          have STEPQ := Lib.hid hstep
          have zQ := BP.out.size
          clear gQ hstep
          go_wp2
          go_region_law (first
            | (refine step_app _ rfl (.tmp 62) (.tmp 69) 24 rfl w.heap.size 3 (.int .i64 0) 1 8 Tryd.underlying24 Tryd.infoInt rfl (by omega) (.slice aQ k cQ) k (ints (tab k (hv s l 0))) rfl (GQ.out.mono (B := W2.heap.size) (by repeat (first | exact Below.refl _ _ | refine Below.drew ?_ | refine Below.alloc ?_ (by simp <;> omega) _)) (Nat.le_refl _)) _ 1 [.int .i64 y] rfl (by first | exact view_one _ _ _ | exact (view_one W2 _ _).mono (B := W2.heap.size + 1) (by repeat (first | exact Below.refl _ _ | refine Below.drew ?_)) (by simp)) (by simp [Value.oneCell']) (by unfold maxLen; omega) (by omega) (by simp <;> omega) ?_
               intro vQ wQ g1 r1 k1
               obtain ⟨aqQ, cqQ, hvq⟩ := g1.lit
               subst hvq
               have RQ := Lib.hid (grown_drw r1)
               obtain ⟨hcaQ, hfaQ, hGa⟩ := STEPQ.out _ _ _ (tab k (hv s l 0) ++ [y]) (k + 1) (by simp) (by simpa [ints] using g1) (grown_drw r1) k1
               have GAQ := Lib.hid hGa
               clear g1 r1 k1 hGa))
          all_goals
            have BQ : Hid (Below w.heap.size w (wQ.setCell ⟨w.heap.size, 0, none⟩ (.slice aqQ (k + 1) cqQ))) := ((BP.out.alloc zQ _).grown RQ.out (by simp; omega) (fun g hg => (GQ.out.lt g hg).1)).setCell (p := ⟨w.heap.size, 0, none⟩) (Nat.le_refl _) _
            go_wp2
            go_roundw
            case rel => exact ⟨k + 1, hlt, by go_num, GAQ.out.congr (fun i hi => by rcases (show i = 0 ∨ i = 1 by omega) with rfl | rfl <;> simp [HV0.out, HV1.out, ← tab_snocI]), BQ.out⟩
            case measure => simp [intOf]; omega
    · have hkh : k = h := by omega
      subst hkh
      obtain ⟨v0, kc0, iv0⟩ := hG.out.view (z := 0) (by omega)
      obtain ⟨v1, kc1, iv1⟩ := hG.out.view (z := 1) (by omega)
      have I0 := Lib.hid iv0
      have I1 := Lib.hid iv1
      have S0 : Hid (Bools wr (.slice (some ⟨b2, off2 + k, none⟩) c (cs - k)) ((s.drop k).take c)) := (bools_at CS.out H1.out (by omega) (by omega) (by unfold maxLen; omega) (by omega)).mono hB.out (Nat.le_refl _)
      have S1 : Hid (Bools wr (.slice (some ⟨b2, off2 + (k + c), none⟩) c (cs - (k + c))) ((s.drop (k + c)).take c)) := (bools_at CS.out H1.out (by omega) (by omega) (by unfold maxLen; omega) (by omega)).mono hB.out (Nat.le_refl _)
      have hHlt : w.heap.size < wr.heap.size := World.block_lt_of_cell? wr _ kc0
      clear iv0 iv1
      obtain ⟨D, hD⟩ : ∃ D : Nat, k + c = D := ⟨_, rfl⟩
      have hDi : (k : Int) + (c : Int) = (D : Int) := by omega
      have hDk : D - k = c := by omega
      have HD := Lib.hid hD
      rw [hD] at S1
      have hwD : IntKind.i64.wrap (D : Int) = D := by rw [IntKind.wrap_i64]; omega
      have n1 : ¬ cs = k := by omega
      have n2 : ¬ cs = D := by omega
      have n3 : D ≤ cs := by omega
      have n4 : k ≤ D := by omega
      obtain ⟨C, hC⟩ : ∃ C : Nat, 2 * c = C := ⟨_, rfl⟩
      have hCi : 2 * (c : Int) = (C : Int) := by omega
      have HC := Lib.hid hC
      have hCb1 : C ≤ 2 * c := by omega
      have hCb2 : 2 * c ≤ C := by omega
      obtain ⟨E, hE⟩ : ∃ E : Nat, k + C = E := ⟨_, rfl⟩
      have hEi : (k : Int) + (C : Int) = (E : Int) := by omega
      have hED : E - D = c := by omega
      have hwE : IntKind.i64.wrap (E : Int) = E := by rw [IntKind.wrap_i64]; omega
      have n5 : E ≤ cs := by omega
      have n6 : D ≤ E := by omega
      have HE := Lib.hid hE
      clear hC hD hE
      have hwk : IntKind.i64.wrap (k : Int) = k := by rw [IntKind.wrap_i64]; omega
      have hwc : IntKind.i64.wrap (c : Int) = c := by rw [IntKind.wrap_i64]; omega
      have hmD : max (D : Int) 0 = D := by omega
      have hmE : max (E : Int) 0 = E := by omega
      have hwC : IntKind.i64.wrap (C : Int) = C := by rw [IntKind.wrap_i64]; omega
      go_wp2_with (go_at_call 29; refine (switches_wide _ _ HSW.out.1).mono ?_; rw [HSW.out.2]; rintro e w' ⟨rfl, rfl⟩)
      have HBd : Hid (Below wr.heap.size wr wr.drew) := (Below.refl _ _).drew
      go_region_law (go_simp; go_at_call 21; refine (HIH.out _ _ ((s.drop k).take c) (tab k (hv s l 0)) _ (S0.out.mono HBd.out (Nat.le_refl _)) (I0.out.mono HBd.out (Nat.le_refl _)) (by rw [List.length_take, List.length_drop, H1.out]; omega) (by simp)).mono ?_; rintro e w1 ⟨u1, rfl, hgu, hb⟩; have B1 := Lib.hid (HBd.out.trans hb); have U1 : Hid (Ints w1 u1 _) := hgu.view; clear hgu hb)
      obtain ⟨au, cu, hu, _, _⟩ := U1.out.open
      rw [HLEN.out _ _ (by simp)] at hu
      subst hu
      have kc1 : w1.cell? ⟨w.heap.size, 1, none⟩ = some v1 := (B1.out.cell (p := ⟨w.heap.size, 1, none⟩) hHlt).trans kc1
      have hB1 : Hid (Below w.heap.size w w1) := hB.out.trans (B1.out.mono (Nat.le_of_lt hHlt))
      have I1' := Lib.hid (I1.out.mono B1.out (Nat.le_refl _))
      have S1' := Lib.hid (S1.out.mono B1.out (Nat.le_refl _))
      clear I0 I1 S0 S1 B1 kc0 hB hG HBd
      go_wp2
      have HBd : Hid (Below w1.heap.size w1 w1.drew) := (Below.refl _ _).drew
      go_region_law (go_simp; go_at_call 21; refine (HIH.out _ _ ((s.drop D).take c) (tab k (hv s l 1)) _ (S1'.out.mono HBd.out (Nat.le_refl _)) (I1'.out.mono HBd.out (Nat.le_refl _)) (by rw [List.length_take, List.length_drop, H1.out]; omega) (by simp)).mono ?_; rintro e w2 ⟨u2, rfl, hgu, hb⟩; have B2 := Lib.hid (HBd.out.trans hb); have U2 : Hid (Ints w2 u2 _) := hgu.view; clear hgu hb)
      obtain ⟨av, cv, hu, _, _⟩ := U2.out.open
      rw [HLEN.out _ _ (by simp)] at hu
      subst hu
      have U1' := Lib.hid (U1.out.mono B2.out (Nat.le_refl _))
      have hB2 : Hid (Below w.heap.size w w2) := nxt hB1 B2.out
      clear I1' S1' kc1 U1 HBd B2 hB1
      obtain ⟨P, hP⟩ : ∃ P, g ((s.drop k).take c) (tab k (hv s l 0)) = P := ⟨_, rfl⟩
      obtain ⟨Q, hQ⟩ : ∃ Q, g ((s.drop D).take c) (tab k (hv s l 1)) = Q := ⟨_, rfl⟩
      have hPl : P.length = k := by rw [← hP]; exact HLEN.out _ _ (by simp)
      have hQl : Q.length = k := by rw [← hQ]; exact HLEN.out _ _ (by simp)
      rw [hP] at U1'
      rw [hQ] at U2
      have HP := Lib.hid hP
      have HQ := Lib.hid hQ
      obtain ⟨ad3, c3, hvu, _, hopu⟩ := U1'.out.open
      obtain ⟨ad4, c4, hvv, _, hopv⟩ := U2.out.open
      injection hvu with e1 e3 e4
      injection hvv with e2 e5 e6
      subst e1 e2
      clear e3 e4 e5 e6
      obtain ⟨bu, ou, hau, hcu⟩ := hopu 0 (by omega)
      obtain ⟨bv', ov, hav, hcv⟩ := hopv 0 (by omega)
      subst hau hav
      have CU : Hid (∀ i, i < k → w2.cell? ⟨bu, ou + i, none⟩ = some (.int .i64 (iI P i))) := fun i hi => hcu i (by omega)
      have CV : Hid (∀ i, i < k → w2.cell? ⟨bv', ov + i, none⟩ = some (.int .i64 (iI Q i))) := fun i hi => hcv i (by omega)
      obtain ⟨F, hF⟩ : ∃ F, mixF k c s P Q = F := ⟨_, rfl⟩
      have HFF := Lib.hid hF
      have HRES : Hid (stepV k c g s l = tab (2 * k) F) := by unfold Hid stepV; rw [HD.out, HP.out, HQ.out, HFF.out]
      have HN2 : Hid (k ≤ 4 ∧ E + k ≤ m ∧ k + 2 * c = E ∧ c ≤ 6) := ⟨q2, by omega, by have := HC.out; have := HE.out; omega, q3⟩
      clear hopu hopv hcu hcv hP hQ hF U1' U2 HIH HLEN hPl hQl hDi hDk n1 n2 n3 n4 n5 n6 hED hmD hmE hwD hCb1 hCb2 hn1 hn2 hm1 hm2 hmc q1 q3 q4 hk hlt d1 d2 hHlt
      go_wp2
      go_loopw [12, 13] (fun u i wr => ∃ j J : Nat, j ≤ k ∧ J ≤ 2 * j ∧ 2 * j ≤ J ∧ i = .int .i64 j ∧ Hid (Gr wr w2.heap.size 3 1 u J (ints (tab J F))) ∧ Hid (Below w2.heap.size w2 wr)) (fun _ i _ => k - (intOf i).toNat)
      case atStart => exact ⟨0, 0, Nat.zero_le _, by omega, by omega, rfl, Gr.nil _ _ _ _, Below.refl _ _⟩
      case round =>
        obtain ⟨j, J, hj, hJ1, hJ2, rfl, hG, hB⟩ := hrel
        by_cases hlt : j < k
        · have kt := CS.out (E + j) (by have := HN2.out; omega)
          have kt : wr.cell? ⟨b2, off2 + (E + j), none⟩ = some (.bool (bI s (E + j))) := ((hB2.out.trans (hB.out.mono hB2.out.size)).cell (p := ⟨b2, off2 + (E + j), none⟩) (World.block_lt_of_cell? w _ kt)).trans kt
          have ku := CU.out j hlt
          have ku : wr.cell? ⟨bu, ou + j, none⟩ = some (.int .i64 (iI P j)) := (hB.out.cell (p := ⟨bu, ou + j, none⟩) (World.block_lt_of_cell? w2 _ ku)).trans ku
          have kv := CV.out j hlt
          have kv : wr.cell? ⟨bv', ov + j, none⟩ = some (.int .i64 (iI Q j)) := (hB.out.cell (p := ⟨bv', ov + j, none⟩) (World.block_lt_of_cell? w2 _ kv)).trans kv
          have hE2 := HN2.out.2.2.1
          have f0 : F J = if bI s (E + j) then iI Q j else iI P j := by rw [← HFF.out, show J = 2 * j by omega, mix_even, hE2]
          have f1 : F (J + 1) = if bI s (E + j) then iI P j else iI Q j := by rw [← HFF.out, show J = 2 * j by omega, mix_odd, hE2]
          obtain ⟨x, hx⟩ : ∃ x, iI P j = x := ⟨_, rfl⟩
          obtain ⟨y, hy⟩ : ∃ y, iI Q j = y := ⟨_, rfl⟩
          obtain ⟨t, ht⟩ : ∃ t, bI s (E + j) = t := ⟨_, rfl⟩
          rw [hx] at ku f0 f1
          rw [hy] at kv f0 f1
          rw [ht] at kt f0 f1
          have HF0 := Lib.hid f0
          have HF1 := Lib.hid f1
          obtain ⟨Z, hZ⟩ : ∃ Z : Nat, E + j = Z := ⟨_, rfl⟩
          have hZi : (E : Int) + (j : Int) = (Z : Int) := by omega
          have hZm : Z < m := by have := HN2.out; omega
          have hwZ : IntKind.i64.wrap (Z : Int) = Z := by have := HN2.out; rw [IntKind.wrap_i64]; omega
          rw [hZ] at kt
          clear f0 f1 hx hy ht hE2 hZ
          cases t
          · simp only [Bool.false_eq_true, if_false] at HF0 HF1
            go_wp2
            go_region_law (refine step_app _ rfl (.tmp 127) (.tmp 136) 24 rfl w2.heap.size 3 (.int .i64 0) 1 8 Tryd.underlying24 Tryd.infoInt rfl (by omega) u12 J (ints (tab J F)) rfl (hG.out.mono (B := wr.heap.size) (by repeat (first | exact Below.refl _ _ | refine Below.drew ?_ | refine Below.alloc ?_ (by simp <;> omega) _)) (Nat.le_refl _)) _ 2 (ints [x, y]) rfl (by first | exact View.of_row (Row.new _ _ _) rfl (by unfold maxLen; omega) (Nat.le_refl _) | exact View.of_row (Row.new wr _ _).drew rfl (by unfold maxLen; omega) (Nat.le_refl _)) (one_ints _) (by unfold maxLen; have := HN2.out; omega) (by have := HN2.out; omega) (by have := hB.out.size; simp; omega) ?_; intro v4 w4 g4 r4 k4; have G4 := Lib.hid g4; have R4 := Lib.hid (grown_drw r4); clear g4 r4 k4)
            all_goals
              go_wp2
              go_roundw
              case rel => exact ⟨j + 1, J + 2, by omega, by omega, by omega, by go_num, (by have := G4.out; rw [show ints [x, y] = [.int .i64 x, .int .i64 y] from rfl, tab_two (n := J) (f := F) (x := x) (y := y) HF0.out HF1.out] at this; exact this), (hB.out.alloc hB.out.size _).grown R4.out (by have := hB.out.size; simp; omega) (fun g hg => (hG.out.lt g hg).1)⟩
              case measure => simp [intOf]; omega
          · simp only [if_true] at HF0 HF1
            go_wp2
            go_region_law (refine step_app _ rfl (.tmp 116) (.tmp 125) 24 rfl w2.heap.size 3 (.int .i64 0) 1 8 Tryd.underlying24 Tryd.infoInt rfl (by omega) u12 J (ints (tab J F)) rfl (hG.out.mono (B := wr.heap.size) (by repeat (first | exact Below.refl _ _ | refine Below.drew ?_ | refine Below.alloc ?_ (by simp <;> omega) _)) (Nat.le_refl _)) _ 2 (ints [y, x]) rfl (by first | exact View.of_row (Row.new _ _ _) rfl (by unfold maxLen; omega) (Nat.le_refl _) | exact View.of_row (Row.new wr _ _).drew rfl (by unfold maxLen; omega) (Nat.le_refl _)) (one_ints _) (by unfold maxLen; have := HN2.out; omega) (by have := HN2.out; omega) (by have := hB.out.size; simp; omega) ?_; intro v4 w4 g4 r4 k4; have G4 := Lib.hid g4; have R4 := Lib.hid (grown_drw r4); clear g4 r4 k4)
            all_goals
              go_wp2
              go_roundw
              case rel => exact ⟨j + 1, J + 2, by omega, by omega, by omega, by go_num, (by have := G4.out; rw [show ints [y, x] = [.int .i64 y, .int .i64 x] from rfl, tab_two (n := J) (f := F) (x := y) (y := x) HF0.out HF1.out] at this; exact this), (hB.out.alloc hB.out.size _).grown R4.out (by have := hB.out.size; simp; omega) (fun g hg => (hG.out.lt g hg).1)⟩
              case measure => simp [intOf]; omega
        · have hjk : J = 2 * k := by omega
          have HF1 : Hid (IntsPost (stepV k c g s l) w (.returned u12) wr) := by
            refine ⟨_, rfl, ?_, hB2.out.trans (hB.out.mono hB2.out.size)⟩
            rw [HRES.out, tab_length, ← hjk]
            exact hG.out.low hB2.out.size
          clear hjk
          go_wp2
          go_ret
          exact HF1.out
end Go.Proofs.YtnmkficfbnnakaaDoor
