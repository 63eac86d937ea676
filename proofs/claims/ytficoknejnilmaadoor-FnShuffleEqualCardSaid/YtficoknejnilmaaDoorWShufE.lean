/- the walk of FnShuffleEqual -/
import Derived.Test.YtficoknejnilmaaDoorShufDraw
import Derived.Test.YtficoknejnilmaaDoorUnsh
import Derived.Test.YtficoknejnilmaaDoorShufLaw
import Derived.Test.YtficoknejnilmaaDoorPick
import Derived.Test.YtficoknejnilmaaDoorName
namespace Go.Proofs.YtficoknejnilmaaDoor
open Go.RowKit
set_option maxHeartbeats 1000000 in
theorem walk_FnShuffleEqual (w : World) (v : Value) (bs : List Int) (h : View w 1 v bs.length (bs.map (Value.int .u8)) ∧ ∀ b ∈ bs, 0 ≤ b ∧ b ≤ 255) (hR : Resv w) :
    Calls Tryd.prog 4 #[v] w fun e w' => e = .returned (.bool true) ∧ Below w.heap.size w w' := by
  obtain ⟨ad, c, hv, hm⟩ := bts_lit (show Bts w v bs from h)
  have H : Hid (Bts w v bs) := h
  have HR := Lib.hid hR
  clear h hR
  subst hv
  by_cases hbig : 1048576 < bs.length
  · go_enter Tryd.func4, Tryd.ntmps4
    go_wp2
    go_ret
    exact ⟨rfl, Below.refl _ _⟩
  · go_enter Tryd.func4, Tryd.ntmps4
    go_wp2_with fail
    refine (draw_ShuffleRows _ bs w H.out).mono ?_
    rintro e w1 ⟨u, v2, xs, ys, rfl, hG, hM, hxl, hyl, hb⟩
    have HU : Hid (Ints w1 u xs) := Gr.ints hG rfl
    have HV : Hid (Ints w1 v2 ys) := Gr.ints hM rfl
    have B1 := nxt (Lib.hid (Below.refl _ _)) hb
    clear hb H hG hM
    obtain ⟨ad2, c2, hu, _, _⟩ := HU.out.open
    obtain ⟨ad3, c3, hv, _, _⟩ := HV.out.open
    subst hu hv
    obtain ⟨rv, hrv⟩ : ∃ rv, shufV xs ys = rv := ⟨_, rfl⟩
    obtain ⟨t, ht⟩ : ∃ t, shufOk xs ys = t := ⟨_, rfl⟩
    have HRV := Lib.hid hrv
    have HT := Lib.hid ht
    have hrl : rv.length ≤ 32 := by rw [← hrv]; exact shufV_le xs ys
    clear hrv ht
    go_wp2_with fail
    refine (impl_ShuffleRows _ xs _ ys _ HU.out HV.out).mono ?_
    rw [HT.out, HRV.out]
    rintro e w2 ⟨x, rfl, hg, hb⟩
    have HX2 : Hid (Ints w2 x rv) := Gr.ints hg rfl
    have HU2 := Lib.hid (HU.out.mono hb (Nat.le_refl _))
    have HV2 := Lib.hid (HV.out.mono hb (Nat.le_refl _))
    have B2 := nxt B1 hb
    clear hg hb B1 HU HV
    go_wp2_with fail
    refine (spec_ShuffleRows _ xs _ ys _ HU2.out HV2.out).mono ?_
    rw [HT.out, HRV.out]
    rintro e w3 ⟨y, rfl, hg, hb⟩
    have HX3 := Lib.hid (HX2.out.mono hb (Nat.le_refl _))
    have HY3 : Hid (Ints w3 y rv) := Gr.ints hg rfl
    have HV3 := Lib.hid (HV2.out.mono hb (Nat.le_refl _))
    have HU3 := Lib.hid (HU2.out.mono hb (Nat.le_refl _))
    have B3 := nxt B2 hb
    clear hg hb B2 HU2 HV2 HX2
    go_wp2_with fail
    refine (sameInts_same _ _ rv _ HX3.out HY3.out).mono ?_
    rintro e w4 ⟨rfl, hb⟩
    have HX4 := Lib.hid (HX3.out.mono hb (Nat.le_refl _))
    have HV4 := Lib.hid (HV3.out.mono hb (Nat.le_refl _))
    have HU4 := Lib.hid (HU3.out.mono hb (Nat.le_refl _))
    have B4 := nxt B3 hb
    have HR4 := Lib.hid (HR.out.mono B4.out (Nat.le_refl _))
    clear hb B3 HX3 HY3 HV3 HU3
    obtain ⟨n, hn⟩ : ∃ n, xs.length = n := ⟨_, rfl⟩
    have HN := Lib.hid hn
    have hn32 : n ≤ 32 := by omega
    have hk1 : shufOk xs (tab n fun k => 3 * (k : Int)) = true := shufOk_of (by rw [tab_length]; exact hn) (by rw [tab_length]; exact hn32)
    have hk2 : shufOk xs (tab n fun _ => (0 : Int)) = true := shufOk_of (by rw [tab_length]; exact hn) (by rw [tab_length]; exact hn32)
    have HV1 : Hid (shufV xs (tab n fun k => 3 * (k : Int)) = xs) := shuf_asc _ _ hk1 fun i j hij hj => by
      rw [tab_length] at hj
      rw [tg_tab _ (by omega), tg_tab _ hj]; omega
    have HV2 : Hid (shufV xs (tab n fun _ => (0 : Int)) = xs) := shuf_asc _ _ hk2 fun i j hij hj => by
      rw [tab_length] at hj
      rw [tg_tab _ (by omega), tg_tab _ hj]; omega
    have HK1 := Lib.hid hk1
    have HK2 := Lib.hid hk2
    rw [hn] at hxl ⊢
    have hz : decide ((n : Int) > 32) = false := by simp; omega
    have hz' : decide ((32 : Int) < n) = false := by simp; omega
    clear hk1 hk2 hn
    go_wp2
    have HB0 : Hid (Below w4.heap.size w4 (w4.alloc (.cells #[] 3))) := (Below.refl _ _).alloc (Nat.le_refl _) _
    go_loopw [9, 10] (fun u i wr => ∃ k : Nat, k ≤ n ∧ i = .int .i64 k ∧ Hid (Gr wr w4.heap.size 3 1 u k (ints (tab k (fun k => 3 * (k : Int))))) ∧ Hid (Below w4.heap.size w4 wr)) (fun _ i _ => n - (intOf i).toNat)
    case atStart => exact ⟨0, Nat.zero_le _, rfl, Gr.none0 _ _ _ _ _, HB0.out⟩
    case round =>
      obtain ⟨k, hk, rfl, hG, hB⟩ := hrel
      have hsz := hB.out.size
      by_cases hlt : k < n
      · have HA : Hid (ints (tab k (fun k => 3 * (k : Int))) ++ [.int .i64 (3 * (k : Int))] = ints (tab (k + 1) (fun k => 3 * (k : Int)))) := tabI_snoc rfl
        have hw3 : IntKind.i64.wrap (3 * (k : Int)) = 3 * (k : Int) := by rw [IntKind.wrap_i64]; omega
        go_wp2_with (at_builtin; refine wpList_app _ rfl (.tmp 55) (.tmp 58) 23 rfl w4.heap.size 3 (.int .i64 0) 1 8 Tryd.underlying23 Tryd.infoInt rfl (by omega) u9 k (ints (tab k (fun k => 3 * (k : Int)))) rfl (hG.out.alloc _) _ 1 [.int .i64 (3 * (k : Int))] rfl (view_one _ _ _) (by simp [Value.oneCell']) (by unfold maxLen; omega) (by omega) (by simp; omega) ?_; intro v1 w5 g1 r1 k1; have G1 := Lib.hid g1; have R1 := Lib.hid r1; clear g1 r1 k1)
        go_roundw
        case rel => exact ⟨k + 1, hlt, by go_num, by rw [← HA.out]; exact G1.out, (hB.out.alloc hsz _).grown R1.out (by simp; omega) (fun g hg => (hG.out.lt g hg).1)⟩
        case measure => simp [intOf]; omega
      · obtain rfl : k = n := by omega
        obtain ⟨i0, hi, hz0, hz1, hz2⟩ := info_parts Tryd.infoInt
        have HUP : Hid (Ints wr u9 (tab k fun k => 3 * (k : Int))) := Gr.ints hG.out (by rw [tab_length])
        have HU5 := Lib.hid (HU4.out.mono hB.out (Nat.le_refl _))
        have B5 := nxt B4 hB.out
        clear hG hB B4 HU4
        go_wp2_with (at_make; refine wpList_make_full _ rfl _ _ 23 rfl wr.heap.size 3 i0 (.int .i64 0) 1 Tryd.underlying23 hi hz0 hz1 _ _ _ _ _ rfl rfl rfl rfl ?b2 ?b3 ?b4 ?_)
        case b2 => rw [hz2]; omega
        case b3 => unfold maxLen; omega
        case b4 => exact Nat.le_refl _
        · intro w6 hown hgrow
          have hrow := (row_of_own hown).1
          rw [made_tab, ← ints_tabf] at hrow
          have HZ : Hid (Ints w6 (.slice (some ⟨wr.heap.size, 0, none⟩) k k) (tab k fun _ => (0 : Int))) := Ints.of_row hrow (by rw [tab_length]) (by unfold maxLen; omega) (Nat.le_refl _)
          have hb6 : Below wr.heap.size wr w6 := (Below.refl _ _).grown hgrow (Nat.le_refl _) (by simp)
          have HUP6 := Lib.hid (HUP.out.mono hb6 (Nat.le_refl _))
          have HU6 := Lib.hid (HU5.out.mono hb6 (Nat.le_refl _))
          have B6 := nxt B5 hb6
          clear hown hgrow hrow hb6 B5 HU5 HUP
          rw [HN.out] at HU6
          go_wp2_with fail
          refine (impl_ShuffleRows _ xs _ (tab k fun _ => (0 : Int)) _ HU6.out HZ.out).mono ?_
          rw [HK2.out, HV2.out]
          rintro e w7 ⟨x, rfl, hg, hb⟩
          have HX7 : Hid (Ints w7 x xs) := Gr.ints hg rfl
          have HU7 := Lib.hid (HU6.out.mono hb (Nat.le_refl _))
          have HUP7 := Lib.hid (HUP6.out.mono hb (Nat.le_refl _))
          have B7 := nxt B6 hb
          clear hg hb B6 HU6 HUP6 HZ
          go_wp2_with fail
          refine (impl_ShuffleRows _ xs _ (tab k fun k => 3 * (k : Int)) _ HU7.out HUP7.out).mono ?_
          rw [HK1.out, HV1.out]
          rintro e w8 ⟨y, rfl, hg, hb⟩
          have HY8 : Hid (Ints w8 y xs) := Gr.ints hg rfl
          have HX8 := Lib.hid (HX7.out.mono hb (Nat.le_refl _))
          have HU8 := Lib.hid (HU7.out.mono hb (Nat.le_refl _))
          have B8 := nxt B7 hb
          clear hg hb B7 HU7 HUP7 HX7
          go_wp2_with fail
          refine (sameInts_same _ _ xs _ HX8.out HU8.out).mono ?_
          rintro e w9 ⟨rfl, hb⟩
          have HY9 := Lib.hid (HY8.out.mono hb (Nat.le_refl _))
          have HU9 := Lib.hid (HU8.out.mono hb (Nat.le_refl _))
          have B9 := nxt B8 hb
          clear hb B8 HY8 HU8 HX8
          go_wp2_with fail
          refine (sameInts_same _ _ xs _ HY9.out HU9.out).mono ?_
          rintro e w10 ⟨rfl, hb⟩
          have B10 := nxt B9 hb
          clear hb B9
          go_wp2
          go_ret
          exact ⟨rfl, B10.out⟩
end Go.Proofs.YtficoknejnilmaaDoor
