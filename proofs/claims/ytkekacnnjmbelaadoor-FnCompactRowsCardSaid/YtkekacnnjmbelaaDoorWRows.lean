/- the walk of FnCompactRows -/
import Derived.Test.YtkekacnnjmbelaaDoorWTwice
namespace Go.Proofs.YtkekacnnjmbelaaDoor
open Go.RowKit
theorem Gr.lit {w : World} {B : Nat} {e sz v n cs} (h : Gr w B e sz v n cs) : ∃ ad c, v = .slice ad n c := by
  rcases h with ⟨_, ⟨hv, h0⟩ | ⟨g, cap, cur, hv, _⟩⟩ | ⟨h0, _, b, hv⟩
  · exact ⟨_, _, by rw [hv, h0]⟩
  · exact ⟨_, _, hv⟩
  · exact ⟨_, _, by rw [hv, h0]⟩
def lenV : Value → Nat
  | .slice _ n _ => n
  | _ => 0
theorem Gr.lenV {w : World} {B : Nat} {e sz v n cs} (h : Gr w B e sz v n cs) : lenV v = n := by
  obtain ⟨ad, c, rfl⟩ := h.lit; rfl
theorem rows_pad {xs : List Int} {st : List Bool} (h : rowsOk xs st = true) : marked xs st xs.length ++ List.replicate (xs.length - (marked xs st xs.length).length) 0 = rowsV xs st := by
  have hc := marked_length xs st xs.length
  unfold rowsV
  rw [if_pos h]
  obtain ⟨M, hM⟩ : ∃ M, marked xs st xs.length = M := ⟨_, rfl⟩
  rw [hM] at hc ⊢
  refine List.ext_getElem? fun i => ?_
  by_cases hi : i < xs.length
  · rw [tab_get _ hi]
    by_cases hm : i < M.length
    · rw [List.getElem?_append_left hm, List.getElem?_eq_getElem hm]; rfl
    · rw [List.getElem?_append_right (by omega), List.getElem?_replicate, if_pos (by omega), List.getElem?_eq_none (by omega)]; rfl
  · rw [List.getElem?_eq_none (by simp; omega), List.getElem?_eq_none (by rw [tab_length]; omega)]
set_option maxHeartbeats 1000000 in
theorem walk0_FnCompactRows (w : World) (v : Value) (bs : List Int) (h : Bts w v bs) (hR : Resv w) :
    Calls Tryd.prog 6 #[v] w fun e w' => LawOk w e w' := by
  obtain ⟨ad, c, hv, hm⟩ := bts_lit h
  have H := Lib.hid h
  have HR := Lib.hid hR
  clear h hR
  subst hv
  by_cases hbig : 1048576 < bs.length
  · go_enter Tryd.func6, Tryd.ntmps6
    go_wp2
    go_ret
    exact ⟨rfl, Below.refl _ _⟩
  · go_enter Tryd.func6, Tryd.ntmps6
    go_wp2_with fail
    refine (draw_CompactRows _ bs w H.out).mono ?_
    rintro e w1 ⟨u, v2, xs, st, rfl, hG, hM, hxl, hsl, _, hb⟩
    have HU : Hid (Ints w1 u xs) := Gr.ints hG rfl
    have HV : Hid (Bools w1 v2 st) := hM.view
    have B1 := nxt (Lib.hid (Below.refl _ _)) hb
    clear hb H hG hM
    obtain ⟨ad2, c2, hu, _, _⟩ := HU.out.open
    obtain ⟨ad3, c3, hv, _, _⟩ := HV.out.open
    subst hu hv
    obtain ⟨rv, hrv⟩ : ∃ rv, rowsV xs st = rv := ⟨_, rfl⟩
    obtain ⟨t, ht⟩ : ∃ t, rowsOk xs st = t := ⟨_, rfl⟩
    have HRV := Lib.hid hrv
    have HT := Lib.hid ht
    have hrl : rv.length ≤ 256 := by rw [← hrv]; exact rowsV_le xs st
    clear hrv ht
    go_wp2_with fail
    refine (impl_CompactRows _ xs _ st _ HU.out HV.out).mono ?_
    rw [HT.out, HRV.out]
    rintro e w2 ⟨x, rfl, hg, hb⟩
    have HX2 : Hid (Ints w2 x rv) := Gr.ints hg rfl
    have HU2 := Lib.hid (HU.out.mono hb (Nat.le_refl _))
    have HV2 := Lib.hid (HV.out.mono hb (Nat.le_refl _))
    have B2 := nxt B1 hb
    clear hg hb B1 HU HV
    go_wp2_with fail
    refine (spec_CompactRows _ xs _ st _ HU2.out HV2.out).mono ?_
    rw [HT.out, HRV.out]
    rintro e w3 ⟨y, rfl, hg, hb⟩
    have HX3 := Lib.hid (HX2.out.mono hb (Nat.le_refl _))
    have HY3 : Hid (Ints w3 y rv) := Gr.ints hg rfl
    have HV3 := Lib.hid (HV2.out.mono hb (Nat.le_refl _))
    have HU3 := Lib.hid (HU2.out.mono hb (Nat.le_refl _))
    have B3 := nxt B2 hb
    clear hg hb B2 HU2 HV2 HX2
    go_wp2_with fail
    refine (sameInts_same _ _ rv _ HX3.out HY3.out).mono ?_
    rintro e w4 ⟨rfl, hb⟩
    have HX4 := Lib.hid (HX3.out.mono hb (Nat.le_refl _))
    have HV4 := Lib.hid (HV3.out.mono hb (Nat.le_refl _))
    have HU4 := Lib.hid (HU3.out.mono hb (Nat.le_refl _))
    have B4 := nxt B3 hb
    have HR4 := Lib.hid (HR.out.mono B4.out (Nat.le_refl _))
    clear hb B3 HV3 HU3 HX3 HY3 HR
    cases t
    · have hr0 : rv = [] := by rw [← HRV.out]; unfold rowsV; rw [HT.out]; rfl
      obtain ⟨ad4, c4, hx4, _, _⟩ := HX4.out.open
      have hx0 : x = .slice ad4 0 c4 := by rw [hx4, hr0]; rfl
      clear hx4
      subst hx0
      clear hr0
      go_wp2_with (go_at_call 14; refine (alive_any _ HR4.out).mono ?_; rintro e w' ⟨rfl, rfl⟩)
      go_ret
      exact ⟨rfl, B4.out⟩
    · obtain ⟨ad4, c4, hx4, _, _⟩ := HX4.out.open
      subst hx4
      obtain ⟨ad5, c5, hv5, _, hop⟩ := HV4.out.open
      cases hv5
      have HOP := Lib.hid hop
      clear hop
      obtain ⟨ad6, c6, hu6, _, hopu⟩ := HU4.out.open
      cases hu6
      have HOPU := Lib.hid hopu
      have hle : xs.length ≤ st.length := by
        have := HT.out
        simp only [rowsOk, Bool.and_eq_true, decide_eq_true_eq] at this
        omega
      clear hopu
      go_wp2
      go_loopw [9, 10] (fun u i wr => ∃ (k : Nat) (l : List Int), k ≤ xs.length ∧ i = .int .i64 k ∧ Hid (l = marked xs st k) ∧ l.length ≤ k ∧ Hid (Gr wr w4.heap.size 3 1 u l.length (ints l)) ∧ Hid (Below w4.heap.size w4 wr)) (fun _ i _ => xs.length - (intOf i).toNat)
      case atStart => exact ⟨0, [], Nat.zero_le _, rfl, rfl, Nat.le_refl _, Gr.none0 _ _ _ _ _, (Below.refl _ _).alloc (Nat.le_refl _) _⟩
      case round =>
        obtain ⟨k, l, hk, rfl, hL, hll, hG, hB⟩ := hrel
        by_cases hlt : k < xs.length
        · obtain ⟨b, off, rfl, hcell⟩ := HOP.out k (by omega)
          have hc1 := hcell k (by omega)
          have hc1 : wr.cell? ⟨b, off + k, none⟩ = some (bv st k) := (hB.out.cell (p := ⟨b, off + k, none⟩) (World.block_lt_of_cell? w4 _ hc1)).trans hc1
          obtain ⟨b2, off2, rfl, hcell2⟩ := HOPU.out k hlt
          have hc2 := hcell2 k hlt
          have hc2 : wr.cell? ⟨b2, off2 + k, none⟩ = some (iv xs k) := (hB.out.cell (p := ⟨b2, off2 + k, none⟩) (World.block_lt_of_cell? w4 _ hc2)).trans hc2
          obtain ⟨t, ht⟩ : ∃ t, st[k]?.getD false = t := ⟨_, rfl⟩
          have hx2 : bv st k = .bool t := by rw [bv, ht]
          rw [hx2] at hc1
          obtain ⟨z, hz⟩ : ∃ z, xs[k]?.getD 0 = z := ⟨_, rfl⟩
          have hx3 : iv xs k = .int .i64 z := by rw [iv, hz]
          rw [hx3] at hc2
          have hlt2 : k < st.length := by omega
          have hsz := hB.out.size
          obtain ⟨ad9, c9, hu9⟩ := hG.out.lit
          subst hu9
          cases t
          · have HQ : Hid (l = marked xs st (k + 1)) := by unfold Hid; rw [marked, ht]; exact hL.out
            clear hcell hcell2 hx2 hx3 ht hz
            go_wp2
            go_roundw
            case rel => exact ⟨k + 1, l, hlt, by go_num, HQ, by omega, hG, hB⟩
            case measure => simp [intOf]; omega
          · have HQ : Hid (l ++ [z] = marked xs st (k + 1)) := by unfold Hid; rw [marked, ht, hz, ← hL.out]; rfl
            have HA : Hid (ints l ++ [.int .i64 z] = ints (l ++ [z])) := by simp [Hid, ints]
            clear hcell hcell2 hx2 hx3 ht hz
            obtain ⟨q, hq⟩ : ∃ q, l.length = q := ⟨_, rfl⟩
            have HLQ := Lib.hid hq
            rw [hq] at hll hG ⊢
            clear hq
            go_wp2_with (at_builtin; refine wpList_app _ rfl (.tmp 59) (.tmp 64) 31 rfl w4.heap.size 3 (.int .i64 0) 1 8 Tryd.underlying31 Tryd.infoInt rfl (by omega) (.slice ad9 q c9) q (ints l) rfl (hG.out.alloc _) _ 1 [.int .i64 z] rfl (view_one _ _ _) (by simp [Value.oneCell']) (by unfold maxLen; omega) (by omega) (by simp; omega) ?_; intro v1 w5 g1 r1 k1; have G1 := Lib.hid g1; have R1 := Lib.hid r1; clear g1 r1 k1)
            go_roundw
            case rel => exact ⟨k + 1, l ++ [z], hlt, by go_num, HQ, by simp [HLQ.out]; omega, by rw [← HA.out, List.length_append, HLQ.out]; exact G1.out, (hB.out.alloc hsz _).grown R1.out (by simp; omega) (fun g hg => (hG.out.lt g hg).1)⟩
            case measure => simp [intOf]; omega
        · obtain rfl : k = xs.length := by omega
          obtain ⟨q, hq⟩ : ∃ q, l.length = q := ⟨_, rfl⟩
          have HLQ := Lib.hid hq
          rw [hq] at hll hG
          clear hq hk hlt
          go_wp2
          go_loopw [9] (fun u wr' => ∃ n : Nat, q ≤ n ∧ n ≤ xs.length ∧ Hid (Gr wr' w4.heap.size 3 1 u n (ints (l ++ List.replicate (n - q) 0))) ∧ Hid (Below w4.heap.size w4 wr')) (fun u _ => xs.length - lenV u)
          case atStart => exact ⟨q, Nat.le_refl _, hll, by simpa using hG, hB⟩
          case round =>
            obtain ⟨n, hn1, hn2, hG', hB'⟩ := hrel
            have hsz := hB'.out.size
            obtain ⟨ad9, c9, hu9⟩ := hG'.out.lit
            subst hu9
            by_cases hlt : n < xs.length
            · have HA : Hid (ints (l ++ List.replicate (n - q) 0) ++ [.int .i64 0] = ints (l ++ List.replicate (n + 1 - q) 0)) := by
                have e : n + 1 - q = (n - q) + 1 := by omega
                unfold Hid
                rw [e, List.replicate_succ']; simp [ints]
              go_wp2_with (at_builtin; refine wpList_app _ rfl (.tmp 71) (.tmp 72) 31 rfl w4.heap.size 3 (.int .i64 0) 1 8 Tryd.underlying31 Tryd.infoInt rfl (by omega) (.slice ad9 n c9) n (ints (l ++ List.replicate (n - q) 0)) rfl (hG'.out.alloc _) _ 1 [.int .i64 0] rfl (view_one _ _ _) (by simp [Value.oneCell']) (by unfold maxLen; omega) (by omega) (by simp; omega) ?_; intro v1 w5 g1 r1 k1; have G1 := Lib.hid g1; have R1 := Lib.hid r1; clear g1 r1 k1)
              go_roundw
              case rel => exact ⟨n + 1, by omega, hlt, by rw [← HA.out]; exact G1.out, (hB'.out.alloc hsz _).grown R1.out (by simp; omega) (fun g hg => (hG'.out.lt g hg).1)⟩
              case measure => rw [G1.out.lenV]; simp [lenV]; omega
            · obtain rfl : n = xs.length := by omega
              have HE : Hid (l ++ List.replicate (xs.length - q) 0 = rv) := by
                unfold Hid
                rw [← HLQ.out, hL.out, ← HRV.out]; exact rows_pad HT.out
              have h9 := hG'.out
              rw [HE.out] at h9
              have hrl2 : rv.length = xs.length := by rw [← HRV.out]; unfold rowsV; rw [if_pos HT.out, tab_length]
              have HZ := Lib.hid (Gr.ints h9 hrl2.symm)
              clear h9 hrl2
              have HX5 := Lib.hid (HX4.out.mono hB'.out (Nat.le_refl _))
              have B5 := nxt B4 hB'.out
              clear hG' hB'
              go_wp2_with fail
              refine (sameInts_same _ _ rv _ HX5.out HZ.out).mono ?_
              rintro e w7 ⟨rfl, hb⟩
              have B7 := nxt B5 hb
              clear hb
              go_wp2
              go_ret
              exact ⟨rfl, B7.out⟩
theorem walk_FnCompactRows (w : World) (v : Value) (bs : List Int) (h : View w 1 v bs.length (bs.map (Value.int .u8)) ∧ ∀ b ∈ bs, 0 ≤ b ∧ b ≤ 255) (hR : Resv w) :
    Calls Tryd.prog 6 #[v] w fun e w' => e = .returned (.bool true) ∧ Below w.heap.size w w' := walk0_FnCompactRows w v bs h hR
end Go.Proofs.YtkekacnnjmbelaaDoor
