/- the walk of FnShuffleRows -/
import Derived.Test.YtficoknejnilmaaDoorShufDraw
import Derived.Test.YtficoknejnilmaaDoorUnsh
import Derived.Test.YtficoknejnilmaaDoorShufLaw
import Derived.Test.YtficoknejnilmaaDoorPick
import Derived.Test.YtficoknejnilmaaDoorName
namespace Go.Proofs.YtficoknejnilmaaDoor
open Go.RowKit
set_option maxHeartbeats 1000000 in
theorem walk_FnShuffleRows (w : World) (v : Value) (bs : List Int) (h : View w 1 v bs.length (bs.map (Value.int .u8)) ∧ ∀ b ∈ bs, 0 ≤ b ∧ b ≤ 255) (hR : Resv w) :
    Calls Tryd.prog 5 #[v] w fun e w' => e = .returned (.bool true) ∧ Below w.heap.size w w' := by
  obtain ⟨ad, c, hv, hm⟩ := bts_lit (show Bts w v bs from h)
  have H : Hid (Bts w v bs) := h
  have HR := Lib.hid hR
  clear h hR
  subst hv
  by_cases hbig : 1048576 < bs.length
  · go_enter Tryd.func5, Tryd.ntmps5
    go_wp2
    go_ret
    exact ⟨rfl, Below.refl _ _⟩
  · go_enter Tryd.func5, Tryd.ntmps5
    go_wp2_with fail
    refine (draw_ShuffleRows _ bs w H.out).mono ?_
    rintro e w1 ⟨u, v2, xs, ys, rfl, hG, hM, hxl, hyl, hb⟩
    have HU : Hid (Ints w1 u xs) := Gr.ints hG rfl
    have HV : Hid (Ints w1 v2 ys) := Gr.ints hM rfl
    have B1 := nxt (Lib.hid (Below.refl _ _)) hb
    clear hb H hG hM
    obtain ⟨ad2, c2, hu, _, _⟩ := HU.out.open
    obtain ⟨ad3, c3, hv, _, _⟩ := HV.out.open
    subst hu hv
    obtain ⟨rv, hrv⟩ : ∃ rv, shufV xs ys = rv := ⟨_, rfl⟩
    obtain ⟨t, ht⟩ : ∃ t, shufOk xs ys = t := ⟨_, rfl⟩
    have HRV := Lib.hid hrv
    have HT := Lib.hid ht
    have hrl : rv.length ≤ 32 := by rw [← hrv]; exact shufV_le xs ys
    clear hrv ht
    go_wp2_with fail
    refine (impl_ShuffleRows _ xs _ ys _ HU.out HV.out).mono ?_
    rw [HT.out, HRV.out]
    rintro e w2 ⟨x, rfl, hg, hb⟩
    have HX2 : Hid (Ints w2 x rv) := Gr.ints hg rfl
    have HU2 := Lib.hid (HU.out.mono hb (Nat.le_refl _))
    have HV2 := Lib.hid (HV.out.mono hb (Nat.le_refl _))
    have B2 := nxt B1 hb
    clear hg hb B1 HU HV
    go_wp2_with fail
    refine (spec_ShuffleRows _ xs _ ys _ HU2.out HV2.out).mono ?_
    rw [HT.out, HRV.out]
    rintro e w3 ⟨y, rfl, hg, hb⟩
    have HX3 := Lib.hid (HX2.out.mono hb (Nat.le_refl _))
    have HY3 : Hid (Ints w3 y rv) := Gr.ints hg rfl
    have HV3 := Lib.hid (HV2.out.mono hb (Nat.le_refl _))
    have HU3 := Lib.hid (HU2.out.mono hb (Nat.le_refl _))
    have B3 := nxt B2 hb
    clear hg hb B2 HU2 HV2 HX2
    go_wp2_with fail
    refine (sameInts_same _ _ rv _ HX3.out HY3.out).mono ?_
    rintro e w4 ⟨rfl, hb⟩
    have HX4 := Lib.hid (HX3.out.mono hb (Nat.le_refl _))
    have HV4 := Lib.hid (HV3.out.mono hb (Nat.le_refl _))
    have HU4 := Lib.hid (HU3.out.mono hb (Nat.le_refl _))
    have B4 := nxt B3 hb
    have HR4 := Lib.hid (HR.out.mono B4.out (Nat.le_refl _))
    clear hb B3 HX3 HY3 HV3 HU3
    cases t
    · have hr0 : rv = [] := by rw [← HRV.out]; unfold shufV; rw [HT.out]; rfl
      subst hr0
      obtain ⟨ad5, c5, hx, _, _⟩ := HX4.out.open
      rw [List.length_nil] at hx
      subst hx
      go_wp2_with (go_at_call 11; refine (alive_any _ HR4.out).mono ?_; rintro e w' ⟨rfl, rfl⟩)
      go_ret
      exact ⟨rfl, B4.out⟩
    · have HL := Lib.hid (shuf_back xs ys HT.out)
      rw [HRV.out] at HL
      have HL1 := Lib.hid HL.out.1
      have HL2 := Lib.hid HL.out.2
      clear HL
      go_wp2_with fail
      refine (impl_UnshuffleRows _ rv _ ys _ HX4.out HV4.out).mono ?_
      rw [HL1.out, HL2.out]
      rintro e w5 ⟨z, rfl, hg, hb⟩
      have HZ5 : Hid (Ints w5 z xs) := Gr.ints hg rfl
      have HU5 := Lib.hid (HU4.out.mono hb (Nat.le_refl _))
      have B5 := nxt B4 hb
      clear hg hb B4 HU4 HV4 HX4
      go_wp2_with fail
      refine (sameInts_same _ _ xs _ HZ5.out HU5.out).mono ?_
      rintro e w6 ⟨rfl, hb⟩
      have B6 := nxt B5 hb
      clear hb B5
      go_wp2
      go_ret
      exact ⟨rfl, B6.out⟩
end Go.Proofs.YtficoknejnilmaaDoor
