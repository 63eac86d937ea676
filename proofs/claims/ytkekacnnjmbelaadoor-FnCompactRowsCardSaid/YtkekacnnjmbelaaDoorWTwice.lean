/- the walk of FnCompactTwice -/
import Derived.Test.YtkekacnnjmbelaaDoorCompDraw
import Derived.Test.YtkekacnnjmbelaaDoorComp
import Derived.Test.YtkekacnnjmbelaaDoorName
namespace Go.Proofs.YtkekacnnjmbelaaDoor
open Go.RowKit
def frontOf (n c : Nat) : List Bool := tab n (fun k => decide (k < c))
theorem tab_snoc' {α : Type} (n : Nat) (f : Nat → α) : tab (n + 1) f = tab n f ++ [f n] := by simp [tab, List.range_succ]
theorem marked_front (x : List Int) (n c : Nat) : ∀ k, k ≤ n → marked x (frontOf n c) k = tab (min k c) (fun i => x[i]?.getD 0)
  | 0, _ => by simp [marked, tab]
  | k + 1, h => by
    have ih := marked_front x n c k (by omega)
    have hf : (frontOf n c)[k]?.getD false = decide (k < c) := by unfold frontOf; rw [tab_get _ (by omega)]; rfl
    unfold marked
    rw [hf, ih]
    by_cases hk : k < c
    · rw [decide_eq_true hk, if_pos rfl, show min k c = k by omega, show min (k + 1) c = k + 1 by omega, tab_snoc']
    · rw [decide_eq_false hk, if_neg (by simp), show min (k + 1) c = min k c by omega]
theorem rows_twice {xs : List Int} {st : List Bool} (h : rowsOk xs st = true) :
    rowsOk (rowsV xs st) (frontOf st.length (marked xs st st.length).length) = true ∧ rowsV (rowsV xs st) (frontOf st.length (marked xs st st.length).length) = rowsV xs st := by
  have h' := h
  simp only [rowsOk, Bool.and_eq_true, decide_eq_true_eq] at h'
  obtain ⟨h1, h2⟩ := h'
  have hc := marked_length xs st xs.length
  rw [h2]
  obtain ⟨M, hM⟩ : ∃ M, marked xs st xs.length = M := ⟨_, rfl⟩
  rw [hM] at hc ⊢
  have hx : rowsV xs st = tab xs.length (fun p => M[p]?.getD 0) := by unfold rowsV; rw [if_pos h, hM]
  rw [hx]
  have hl : (tab xs.length (fun p => M[p]?.getD 0)).length = xs.length := tab_length _ _
  have ho : rowsOk (tab xs.length (fun p => M[p]?.getD 0)) (frontOf xs.length M.length) = true := by
    simp only [rowsOk, Bool.and_eq_true, decide_eq_true_eq, hl]
    exact ⟨h1, tab_length _ _⟩
  refine ⟨ho, ?_⟩
  conv => lhs; unfold rowsV
  rw [if_pos ho, hl, marked_front _ _ _ _ (Nat.le_refl _), show min xs.length M.length = M.length by omega]
  refine tab_congr fun p hp => ?_
  by_cases hpc : p < M.length
  · rw [tab_get _ hpc]
    simp only [Option.getD_some]
    rw [tab_get _ hp]; rfl
  · rw [List.getElem?_eq_none (by rw [tab_length]; omega), List.getElem?_eq_none (by omega)]
set_option maxHeartbeats 1000000 in
theorem walk0_FnCompactTwice (w : World) (v : Value) (bs : List Int) (h : Bts w v bs) (hR : Resv w) :
    Calls Tryd.prog 7 #[v] w fun e w' => LawOk w e w' := by
  obtain ⟨ad, c, hv, hm⟩ := bts_lit h
  have H := Lib.hid h
  have HR := Lib.hid hR
  clear h hR
  subst hv
  by_cases hbig : 1048576 < bs.length
  · go_enter Tryd.func7, Tryd.ntmps7
    go_wp2
    go_ret
    exact ⟨rfl, Below.refl _ _⟩
  · go_enter Tryd.func7, Tryd.ntmps7
    go_wp2_with fail
    refine (draw_CompactRows _ bs w H.out).mono ?_
    rintro e w1 ⟨u, v2, xs, st, rfl, hG, hM, hxl, hsl, _, hb⟩
    have HU : Hid (Ints w1 u xs) := Gr.ints hG rfl
    have HV : Hid (Bools w1 v2 st) := hM.view
    have B1 := nxt (Lib.hid (Below.refl _ _)) hb
    clear hb H hG hM
    obtain ⟨ad2, c2, hu, _, _⟩ := HU.out.open
    obtain ⟨ad3, c3, hv, _, _⟩ := HV.out.open
    subst hu hv
    obtain ⟨rv, hrv⟩ : ∃ rv, rowsV xs st = rv := ⟨_, rfl⟩
    obtain ⟨t, ht⟩ : ∃ t, rowsOk xs st = t := ⟨_, rfl⟩
    have HRV := Lib.hid hrv
    have HT := Lib.hid ht
    have hrl : rv.length ≤ 256 := by rw [← hrv]; exact rowsV_le xs st
    clear hrv ht
    go_wp2_with fail
    refine (impl_CompactRows _ xs _ st _ HU.out HV.out).mono ?_
    rw [HT.out, HRV.out]
    rintro e w2 ⟨x, rfl, hg, hb⟩
    have HX2 : Hid (Ints w2 x rv) := Gr.ints hg rfl
    have HU2 := Lib.hid (HU.out.mono hb (Nat.le_refl _))
    have HV2 := Lib.hid (HV.out.mono hb (Nat.le_refl _))
    have B2 := nxt B1 hb
    clear hg hb B1 HU HV
    go_wp2_with fail
    refine (spec_CompactRows _ xs _ st _ HU2.out HV2.out).mono ?_
    rw [HT.out, HRV.out]
    rintro e w3 ⟨y, rfl, hg, hb⟩
    have HX3 := Lib.hid (HX2.out.mono hb (Nat.le_refl _))
    have HY3 : Hid (Ints w3 y rv) := Gr.ints hg rfl
    have HV3 := Lib.hid (HV2.out.mono hb (Nat.le_refl _))
    have B3 := nxt B2 hb
    clear hg hb B2 HU2 HV2 HX2
    go_wp2_with fail
    refine (sameInts_same _ _ rv _ HX3.out HY3.out).mono ?_
    rintro e w4 ⟨rfl, hb⟩
    have HX4 := Lib.hid (HX3.out.mono hb (Nat.le_refl _))
    have HV4 := Lib.hid (HV3.out.mono hb (Nat.le_refl _))
    have B4 := nxt B3 hb
    have HR4 := Lib.hid (HR.out.mono B4.out (Nat.le_refl _))
    clear hb B3 HV3 HX3 HY3 HR
    cases t
    · go_wp2_with (go_at_call 14; refine (alive_any _ HR4.out).mono ?_; rintro e w' ⟨rfl, rfl⟩)
      go_ret
      exact ⟨rfl, B4.out⟩
    · obtain ⟨ad4, c4, hx4, _, _⟩ := HX4.out.open
      subst hx4
      obtain ⟨ad5, c5, hv5, _, hop⟩ := HV4.out.open
      cases hv5
      have HOP := Lib.hid hop
      clear hop
      go_wp2
      go_loop [9, 10] (fun m i => ∃ k : Nat, k ≤ st.length ∧ i = .int .i64 k ∧ m = .int .i64 (marked xs st k).length) (fun _ i => st.length - (intOf i).toNat)
      case atStart => exact ⟨0, Nat.zero_le _, rfl, rfl⟩
      case round =>
        obtain ⟨k, hk, rfl, rfl⟩ := hrel
        have hml := marked_length xs st k
        obtain ⟨q, hq⟩ : ∃ q, (marked xs st k).length = q := ⟨_, rfl⟩
        by_cases hlt : k < st.length
        · obtain ⟨b, off, rfl, hcell⟩ := HOP.out k hlt
          have hc1 := hcell k hlt
          obtain ⟨t, ht⟩ : ∃ t, st[k]?.getD false = t := ⟨_, rfl⟩
          have hx2 : bv st k = .bool t := by rw [bv, ht]
          rw [hx2] at hc1
          cases t
          · have HQ : Hid ((marked xs st (k + 1)).length = q) := by unfold Hid; rw [marked, ht]; simpa using hq
            rw [hq] at hml ⊢
            clear hcell hx2 ht hq
            go_wp2
            go_round
            case rel => exact ⟨k + 1, hlt, by go_num, by rw [HQ.out]⟩
            case measure => simp [intOf]; omega
          · have HQ : Hid ((marked xs st (k + 1)).length = q + 1) := by unfold Hid; rw [marked, ht]; simp [hq]
            rw [hq] at hml ⊢
            clear hcell hx2 ht hq
            go_wp2
            go_round
            case rel => exact ⟨k + 1, hlt, by go_num, by rw [HQ.out]; go_num⟩
            case measure => simp [intOf]; omega
        · obtain rfl : k = st.length := by omega
          have HQ := Lib.hid hq
          rw [hq] at hml ⊢
          have hq12 : q ≤ 12 := by omega
          clear hq hml hk hlt
          go_wp2
          go_loopw [11, 12] (fun u i wr => ∃ k : Nat, k ≤ st.length ∧ i = .int .i64 k ∧ Hid (Gr wr w4.heap.size 4 1 u k (bools (tab k (fun j => decide (j < q))))) ∧ Hid (Below w4.heap.size w4 wr)) (fun _ i _ => st.length - (intOf i).toNat)
          case atStart => exact ⟨0, Nat.zero_le _, rfl, Gr.none0 _ _ _ _ _, (Below.refl _ _).alloc (Nat.le_refl _) _⟩
          case round =>
            obtain ⟨k, hk, rfl, hG, hB⟩ := hrel
            by_cases hlt : k < st.length
            · obtain ⟨t, e⟩ : ∃ t, decide (k < q) = t := ⟨_, rfl⟩
              have HA : Hid (bools (tab k (fun j => decide (j < q))) ++ [.bool t] = bools (tab (k + 1) (fun j => decide (j < q)))) := by
                unfold Hid
                rw [tab_snoc', e]; simp [bools]
              have e2 : decide ((k : Int) < (q : Int)) = t := by rw [← e]; exact decide_eq_decide.2 (by omega)
              have hsz := hB.out.size
              go_wp2_with (at_builtin; refine wpList_app _ rfl (.tmp 66) (.tmp 70) 29 rfl w4.heap.size 4 (.bool false) 1 1 Tryd.underlying29 Tryd.infoBool rfl (by omega) u11 k (bools (tab k (fun j => decide (j < q)))) rfl (hG.out.alloc _) _ 1 [.bool t] rfl (view_one _ _ _) (by simp [Value.oneCell']) (by unfold maxLen; omega) (by omega) (by simp; omega) ?_; intro v1 w5 g1 r1 k1; have G1 := Lib.hid g1; have R1 := Lib.hid r1; clear g1 r1 k1)
              go_roundw
              case rel => exact ⟨k + 1, hlt, by go_num, by rw [← HA.out]; exact G1.out, (hB.out.alloc hsz _).grown R1.out (by simp; omega) (fun g hg => (hG.out.lt g hg).1)⟩
              case measure => simp [intOf]; omega
            · obtain rfl : k = st.length := by omega
              have HF5 : Hid (Bools wr u11 (frontOf st.length q)) := Gr.bools hG.out (by simp [frontOf])
              have HX5 := Lib.hid (HX4.out.mono hB.out (Nat.le_refl _))
              have B5 := nxt B4 hB.out
              have HT5 : Hid (rowsOk rv (frontOf st.length q) = true ∧ rowsV rv (frontOf st.length q) = rv) := by
                rw [← HRV.out, ← HQ.out]; exact rows_twice HT.out
              clear hG hB
              go_wp2_with fail
              refine (impl_CompactRows _ rv _ (frontOf st.length q) _ HX5.out HF5.out).mono ?_
              rw [HT5.out.1, HT5.out.2]
              rintro e w6 ⟨z, rfl, hg, hb⟩
              have HZ6 : Hid (Ints w6 z rv) := Gr.ints hg rfl
              have HX6 := Lib.hid (HX5.out.mono hb (Nat.le_refl _))
              have B6 := nxt B5 hb
              clear hg hb
              go_wp2_with fail
              refine (sameInts_same _ _ rv _ HZ6.out HX6.out).mono ?_
              rintro e w7 ⟨rfl, hb⟩
              have B7 := nxt B6 hb
              clear hb
              go_wp2
              go_ret
              exact ⟨rfl, B7.out⟩
theorem walk_FnCompactTwice (w : World) (v : Value) (bs : List Int) (h : View w 1 v bs.length (bs.map (Value.int .u8)) ∧ ∀ b ∈ bs, 0 ≤ b ∧ b ≤ 255) (hR : Resv w) :
    Calls Tryd.prog 7 #[v] w fun e w' => e = .returned (.bool true) ∧ Below w.heap.size w w' := walk0_FnCompactTwice w v bs h hR
end Go.Proofs.YtkekacnnjmbelaaDoor
