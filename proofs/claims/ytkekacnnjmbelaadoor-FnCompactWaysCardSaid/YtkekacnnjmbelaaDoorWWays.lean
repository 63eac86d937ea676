/- the walk of FnCompactWays -/
import Derived.Test.YtkekacnnjmbelaaDoorCompDraw
import Derived.Test.YtkekacnnjmbelaaDoorComp
import Derived.Test.YtkekacnnjmbelaaDoorName
namespace Go.Proofs.YtkekacnnjmbelaaDoor
open Go.RowKit
set_option maxHeartbeats 1000000 in
theorem walk0_FnCompactWays (w : World) (v : Value) (bs : List Int) (h : Bts w v bs) (hR : Resv w) :
    Calls Tryd.prog 4 #[v] w fun e w' => LawOk w e w' := by
  obtain ⟨ad, c, hv, hm⟩ := bts_lit h
  have H := Lib.hid h
  have HR := Lib.hid hR
  clear h hR
  subst hv
  by_cases hbig : 1048576 < bs.length
  · go_enter Tryd.func4, Tryd.ntmps4
    go_wp2
    go_ret
    exact ⟨rfl, Below.refl _ _⟩
  · go_enter Tryd.func4, Tryd.ntmps4
    go_wp2_with fail
    refine (draw_CompactWays _ bs w H.out).mono ?_
    rintro e w1 ⟨v2, st, rfl, hM, hsl, hb⟩
    have HV : Hid (Bools w1 v2 st) := hM.view
    have B1 := nxt (Lib.hid (Below.refl _ _)) hb
    clear hb H hM
    obtain ⟨ad3, c3, hv, _, _⟩ := HV.out.open
    subst hv
    obtain ⟨rv, hrv⟩ : ∃ rv, waysV st = rv := ⟨_, rfl⟩
    have HRV := Lib.hid hrv
    have hrl : rv.length ≤ 256 := by rw [← hrv]; exact waysV_le st
    clear hrv
    go_wp2_with fail
    refine (impl_CompactWays _ st _ HV.out).mono ?_
    rw [HRV.out]
    rintro e w2 ⟨x, rfl, hg, hb⟩
    have HX2 : Hid (Ints w2 x rv) := Gr.ints hg rfl
    have HV2 := Lib.hid (HV.out.mono hb (Nat.le_refl _))
    have B2 := nxt B1 hb
    clear hg hb B1 HV
    go_wp2_with fail
    refine (spec_CompactWays _ st _ HV2.out).mono ?_
    rw [HRV.out]
    rintro e w3 ⟨y, rfl, hg, hb⟩
    have HX3 := Lib.hid (HX2.out.mono hb (Nat.le_refl _))
    have HY3 : Hid (Ints w3 y rv) := Gr.ints hg rfl
    have HV3 := Lib.hid (HV2.out.mono hb (Nat.le_refl _))
    have B3 := nxt B2 hb
    clear hg hb B2 HV2 HX2
    go_wp2_with fail
    refine (sameInts_same _ _ rv _ HX3.out HY3.out).mono ?_
    rintro e w4 ⟨rfl, hb⟩
    have HX4 := Lib.hid (HX3.out.mono hb (Nat.le_refl _))
    have HV4 := Lib.hid (HV3.out.mono hb (Nat.le_refl _))
    have B4 := nxt B3 hb
    have HR4 := Lib.hid (HR.out.mono B4.out (Nat.le_refl _))
    clear hb B3 HV3 HX3 HY3 HR
    obtain ⟨ad4, c4, hx4, _, hopx⟩ := HX4.out.open
    obtain ⟨ad5, c5, hv5, _, hop⟩ := HV4.out.open
    cases hv5
    have HOP := Lib.hid hop
    have HOPX := Lib.hid hopx
    clear hop hopx
    by_cases hbg : 256 < st.length
    · have hr0 : rv.length = 0 := by rw [← HRV.out]; unfold waysV; rw [if_neg (by omega)]; rfl
      rw [hr0] at hx4
      subst hx4
      have hne : ((0 : Int) == (st.length : Int)) = false := beq_eq_false_iff_ne.2 (by omega)
      clear hr0 HOPX
      go_wp2
      go_loop [5, 6] (fun l i => l = .int .i64 0 ∧ i = .int .i64 0) (fun _ _ => 0)
      case atStart => exact ⟨rfl, rfl⟩
      case round =>
        obtain ⟨rfl, rfl⟩ := hrel
        go_wp2_with (go_at_call 14; refine (alive_any _ HR4.out).mono ?_; rintro e w' ⟨rfl, rfl⟩)
        go_ret
        exact ⟨rfl, B4.out⟩
    · have hrt : rv = tab st.length (wayAt st) := by rw [← HRV.out]; unfold waysV; rw [if_pos (by omega)]
      have hr0 : rv.length = st.length := by rw [hrt, tab_length]
      rw [hr0] at hx4
      subst hx4
      have HRT := Lib.hid hrt
      have HR0 := Lib.hid hr0
      have hse : ∀ z : Int, (z == z) = true := by simp
      clear hr0 hrt
      go_wp2
      go_loop [5, 6] (fun l i => ∃ k L : Nat, k ≤ st.length ∧ i = .int .i64 k ∧ l = .int .i64 L ∧ Hid (L ≤ freeN st k)) (fun _ i => st.length - (intOf i).toNat)
      case atStart => exact ⟨0, 0, Nat.zero_le _, rfl, rfl, Nat.zero_le _⟩
      case round =>
        obtain ⟨k, L, hk, rfl, rfl, hL⟩ := hrel
        by_cases hlt : k < st.length
        · obtain ⟨b, off, rfl, hcell⟩ := HOP.out k hlt
          have hc1 := hcell k hlt
          obtain ⟨b2, off2, rfl, hcell2⟩ := HOPX.out k (by rw [HR0.out]; exact hlt)
          have hc2 := hcell2 k (by rw [HR0.out]; exact hlt)
          have hx3 : iv rv k = .int .i64 (wayAt st k) := by rw [HRT.out]; exact iv_tab _ hlt
          rw [hx3] at hc2
          obtain ⟨t, ht⟩ : ∃ t, st[k]?.getD false = t := ⟨_, rfl⟩
          have hx2 : bv st k = .bool t := by rw [bv, ht]
          rw [hx2] at hc1
          obtain ⟨f, hf⟩ : ∃ f, freeN st k = f := ⟨_, rfl⟩
          have hfl := freeN_le st k
          have hLL := hL.out
          rw [hf] at hfl hLL
          cases t
          · have hw : wayAt st k = 0 := by unfold wayAt; rw [ht]; rfl
            have HQ : Hid (L ≤ freeN st (k + 1)) := by unfold Hid freeN; rw [ht, hf]; simp; omega
            rw [hw] at hc2
            clear hcell hcell2 hx2 hx3 ht hw hf
            go_wp2
            go_round
            case rel => exact ⟨k + 1, L, hlt, by go_num, rfl, HQ⟩
            case measure => simp [intOf]; omega
          · have hw : wayAt st k = (f : Int) := by unfold wayAt; rw [ht, hf]; rfl
            have HQ : Hid (f ≤ freeN st (k + 1)) := by unfold Hid freeN; rw [ht, hf]; simp
            rw [hw] at hc2
            clear hcell hcell2 hx2 hx3 ht hw hf
            go_wp2
            go_round
            case rel => exact ⟨k + 1, f, hlt, by go_num, rfl, HQ⟩
            case measure => simp [intOf]; omega
        · obtain rfl : k = st.length := by omega
          go_wp2_with (go_at_call 14; refine (alive_any _ HR4.out).mono ?_; rintro e w' ⟨rfl, rfl⟩)
          go_ret
          exact ⟨rfl, B4.out⟩
theorem walk_FnCompactWays (w : World) (v : Value) (bs : List Int) (h : View w 1 v bs.length (bs.map (Value.int .u8)) ∧ ∀ b ∈ bs, 0 ≤ b ∧ b ≤ 255) (hR : Resv w) :
    Calls Tryd.prog 4 #[v] w fun e w' => e = .returned (.bool true) ∧ Below w.heap.size w w' := walk0_FnCompactWays w v bs h hR
end Go.Proofs.YtkekacnnjmbelaaDoor
