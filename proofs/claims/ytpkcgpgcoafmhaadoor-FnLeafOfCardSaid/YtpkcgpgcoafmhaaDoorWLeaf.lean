/- the walk of FnLeafOf -/
import Derived.Test.YtpkcgpgcoafmhaaDoorLeafDraw
import Derived.Test.YtpkcgpgcoafmhaaDoorName
namespace Go.Proofs.YtpkcgpgcoafmhaaDoor
open Go.RowKit
set_option maxRecDepth 20000 in
set_option maxHeartbeats 2000000 in
theorem walk0_FnLeafOf (w : World) (v : Value) (bs : List Int) (h : Bts w v bs) (hR : Resv w) :
    Calls Tryd.prog 3 #[v] w fun e w' => LawOk w e w' := by
  obtain ⟨ad, cd, hv, hm⟩ := bts_lit h
  have H := Lib.hid h
  have HR := Lib.hid hR
  clear h hR
  subst hv
  by_cases hbig : 1048576 < bs.length
  · go_enter Tryd.func3, Tryd.ntmps3
    go_wp2
    go_ret
    exact ⟨rfl, Below.refl _ _⟩
  · go_enter Tryd.func3, Tryd.ntmps3
    go_wp2_with fail
    refine (draw_LeafOf _ bs w H.out).mono ?_
    rintro e w1 ⟨a, c, a', c', n, f, st, x, rfl, hmi, hn, hs, hx1, hx2, hb⟩
    have HM1 := Lib.hid hmi
    have HS := Lib.hid hs
    have B1 := nxt (Lib.hid (Below.refl _ _)) hb
    obtain ⟨m, hm0⟩ : ∃ m, st.length = m := ⟨_, rfl⟩
    rw [hm0] at HM1 ⊢
    have hba : Below w1.heap.size w1 (w1.alloc (.cells #[.slice a n c, .slice a' m c'] 26)) := (Below.refl _ _).alloc (Nat.le_refl _) _
    have HROW : Hid (Row (w1.alloc (.cells #[.slice a n c, .slice a' m c'] 26)) w1.heap.size 26 [.slice a n c, .slice a' m c']) := Row.new w1 26 [.slice a n c, .slice a' m c']
    have HM2 := Lib.hid (HM1.out.mono hba (Nat.le_refl _))
    have B2 := nxt B1 hba
    obtain ⟨gx, hgx⟩ : ∃ gx, w1.heap.size = gx := ⟨_, rfl⟩
    rw [hgx] at HROW
    clear hmi hb hn hs hm0 hba B1 HM1 H
    go_wp2_with fail
    try rw [hgx]
    generalize (w1.alloc (.cells #[.slice a n c, .slice a' m c'] 26)) = W at HROW HM2 B2 ⊢
    clear hgx
    obtain ⟨L, hL⟩ : ∃ L, leafV n f st x = L := ⟨_, rfl⟩
    have HL := Lib.hid hL
    clear hL
    refine (impl_LeafOf _ n f st x W HM2.out HS.out).mono ?_
    rw [HL.out]
    rintro e w3 ⟨rfl, hb⟩
    have HROW3 := Lib.hid (HROW.out.mono hb HROW.out.lt)
    have HM3 := Lib.hid (HM2.out.mono hb (Nat.le_refl _))
    have B3 := nxt B2 hb
    clear hb HROW HM2 B2
    have x0 := HROW3.out.cell (i := 0) rfl
    have x1 := HROW3.out.cell (i := 1) rfl
    go_wp2_with fail
    refine (spec_LeafOf _ n f st x w3 HM3.out HS.out).mono ?_
    rw [HL.out]
    rintro e w4 ⟨rfl, hb⟩
    have HROW4 := Lib.hid (HROW3.out.mono hb HROW3.out.lt)
    have HM4 := Lib.hid (HM3.out.mono hb (Nat.le_refl _))
    have B4 := nxt B3 hb
    have hLL : (L != L) = false := by simp
    clear hb HROW3 HM3 B3 x0 x1
    have x0 := HROW4.out.cell (i := 0) rfl
    have x1 := HROW4.out.cell (i := 1) rfl
    cases hva : (validB n f st && inB x 0 7) with
    | false =>
      obtain rfl : L = -1 := by rw [← HL.out]; unfold leafV; rw [hva]; rfl
      have HR4 := Lib.hid (HR.out.mono B4.out (Nat.le_refl _))
      clear hva
      go_wp2_with (go_at_call 7; refine (alive_any _ HR4.out).mono ?_; rintro e w' ⟨rfl, rfl⟩)
      go_ret
      exact ⟨rfl, B4.out⟩
    | true =>
      rw [Bool.and_eq_true] at hva
      obtain ⟨hv, ha⟩ := hva
      obtain rfl : n = 7 := (validB_iff.1 hv).seven
      have hlv : (blkAt (allM 7 f st) x).2.2 = L := by rw [← HL.out]; unfold leafV; rw [hv, ha]; rfl
      have hli : inB L 0 3 = true := by rw [← hlv]; exact leaf_in hv ha
      have hli2 : 0 ≤ L ∧ L ≤ 3 := by rw [inB_iff] at hli; exact hli
      have HUO : Hid (useOk 7 f st x 0 0 = true) := by unfold Hid useOk; rw [hv, ha]; rfl
      have HPO : Hid (pathO L = pathL L) := by unfold Hid pathO; rw [hli]; rfl
      have HLV := Lib.hid hlv
      have hd1 : decide (L < 0) = false := decide_eq_false (by omega)
      have hd2 : decide (L < 4) = true := decide_eq_true (by omega)
      clear hlv hli hli2 hv ha
      go_wp2_with fail
      refine (impl_Use (t := false) HM4.out HS.out HUO.out).mono ?_
      rw [HLV.out]
      rintro e w5 ⟨mv, pv, rfl, hmo, hpv, hb⟩
      obtain ⟨bv, vs, rfl, hbv, hfam⟩ := hmo
      obtain ⟨a4, c4, hv4⟩ := hbv.lit
      obtain ⟨a6, c6, hv6⟩ := (hfam 0 (by omega)).1.lit
      have HPV : Hid (Ints w5 pv (pathL L)) := Gr.ints hpv rfl
      have B5 := nxt B4 hb
      rw [hv4, hv6]
      obtain ⟨m6, hm6⟩ : ∃ m6, (useLs (lsOf f st) L x false 0 0 0).length = m6 := ⟨_, rfl⟩
      rw [hm6]
      have hba : Below w5.heap.size w5 (w5.alloc (.cells #[.slice a4 7 c4, .slice a6 m6 c6] 26)) := (Below.refl _ _).alloc (Nat.le_refl _) _
      have HPV6 := Lib.hid (HPV.out.mono hba (Nat.le_refl _))
      have B6 := nxt B5 hba
      clear hbv hfam hv4 hv6 hpv hb hm6 hba HPV B5 x0 x1
      go_wp2_with fail
      refine (implPathOf_any L _).mono ?_
      rw [HPO.out]
      rintro e w7 ⟨u7, rfl, hg7, hb⟩
      have I7 : Hid (Ints w7 u7 (pathL L)) := Gr.ints hg7 rfl
      have HPV7 := Lib.hid (HPV6.out.mono hb (Nat.le_refl _))
      have B7 := nxt B6 hb
      clear hg7 hb HPV6 B6
      go_wp2_with fail
      refine (sameInts_same _ _ (pathL L) _ HPV7.out I7.out).mono ?_
      rintro e w8 ⟨rfl, hb⟩
      go_wp2
      go_ret
      first
        | exact ⟨rfl, B7.out⟩
        | exact ⟨rfl, (nxt B7 hb).out⟩
        | (subst hb; exact ⟨rfl, B7.out⟩)
theorem walk_FnLeafOf (w : World) (v : Value) (bs : List Int) (h : View w 1 v bs.length (bs.map (Value.int .u8)) ∧ ∀ b ∈ bs, 0 ≤ b ∧ b ≤ 255) (hR : Resv w) :
    Calls Tryd.prog 3 #[v] w fun e w' => e = .returned (.bool true) ∧ Below w.heap.size w w' := walk0_FnLeafOf w v bs h hR
end Go.Proofs.YtpkcgpgcoafmhaaDoor
