/- the walk of FnShuffleOrder -/
import Derived.Test.YtficoknejnilmaaDoorShufDraw
import Derived.Test.YtficoknejnilmaaDoorShuf
import Derived.Test.YtficoknejnilmaaDoorShufLaw
import Derived.Test.YtficoknejnilmaaDoorPick
import Derived.Test.YtficoknejnilmaaDoorName
namespace Go.Proofs.YtficoknejnilmaaDoor
open Go.RowKit
theorem ordV_iv {xs : List Int} (h : xs.length ≤ 32) {k : Nat} (hk : k < xs.length) : iv (ordV xs) k = .int .i64 (oF xs k : Int) := by
  rw [ordV_ok h]
  have := ord_cell xs hk
  rw [ints_get (by rw [natsI_length, ordI_length]; exact hk)] at this
  exact Option.some.inj this
theorem oF_lx {xs : List Int} {k : Nat} (hk : k + 1 < xs.length) : Lx (tg xs) (oF xs k) (oF xs (k + 1)) := by
  have hl := ordI_length (tg xs) xs.length
  have := (List.pairwise_iff_getElem.1 (ordI_sorted (tg xs) xs.length)) k (k + 1) (by omega) (by omega) (by omega)
  unfold oF
  rwa [List.getD_eq_getElem?_getD, List.getD_eq_getElem?_getD, List.getElem?_eq_getElem (by omega), List.getElem?_eq_getElem (by omega), Option.getD_some, Option.getD_some]
/-- which places have come -/
def seenF (xs : List Int) (k i : Nat) : Value := .bool (decide ((ordI (tg xs) xs.length).idxOf i < k))
theorem seen_step {xs : List Int} {k : Nat} (h : k < xs.length) : (tab xs.length (seenF xs k)).set (oF xs k) (.bool true) = tab xs.length (seenF xs (k + 1)) := by
  rw [tab_set]
  refine tab_congr fun i hi => ?_
  have hm : i ∈ ordI (tg xs) xs.length := ordI_mem.2 hi
  by_cases e : i = oF xs k
  · subst e
    rw [if_pos rfl]
    unfold seenF
    rw [oF_idx h]
    simp
  · rw [if_neg e]
    have hne : (ordI (tg xs) xs.length).idxOf i ≠ k := fun q => e (by rw [← q, oF_of hi])
    unfold seenF
    congr 1
    simp
    omega
theorem seen_no {xs : List Int} {k : Nat} (h : k < xs.length) : seenF xs k (oF xs k) = .bool false := by
  unfold seenF; rw [oF_idx h]; simp
theorem seen_zero (xs : List Int) (n : Nat) : tab n (fun _ => Value.bool false) = tab n (seenF xs 0) := tab_congr fun i _ => by simp [seenF]
set_option maxRecDepth 20000 in
set_option maxHeartbeats 2000000 in
theorem walk_FnShuffleOrder (w : World) (v : Value) (bs : List Int) (h : View w 1 v bs.length (bs.map (Value.int .u8)) ∧ ∀ b ∈ bs, 0 ≤ b ∧ b ≤ 255) (hR : Resv w) :
    Calls Tryd.prog 3 #[v] w fun e w' => e = .returned (.bool true) ∧ Below w.heap.size w w' := by
  obtain ⟨ad, c, hv, hm⟩ := bts_lit (show Bts w v bs from h)
  have H : Hid (Bts w v bs) := h
  have HR := Lib.hid hR
  clear h hR
  subst hv
  by_cases hbig : 1048576 < bs.length
  · go_enter Tryd.func3, Tryd.ntmps3
    go_wp2
    go_ret
    exact ⟨rfl, Below.refl _ _⟩
  · go_enter Tryd.func3, Tryd.ntmps3
    go_wp2_with fail
    refine (draw_ShuffleOrder _ bs w H.out).mono ?_
    rintro e w1 ⟨u, xs, rfl, hG, hxl, hb⟩
    have HU : Hid (Ints w1 u xs) := Gr.ints hG rfl
    have B1 := nxt (Lib.hid (Below.refl _ _)) hb
    clear hb H hG
    obtain ⟨ad2, c2, hu, _, _⟩ := HU.out.open
    subst hu
    obtain ⟨rv, hrv⟩ : ∃ rv, ordV xs = rv := ⟨_, rfl⟩
    have HRV := Lib.hid hrv
    have hrl : rv.length ≤ 32 := by rw [← hrv]; exact ordV_le xs
    clear hrv
    go_wp2_with fail
    refine (impl_ShuffleOrder _ xs _ HU.out).mono ?_
    rw [HRV.out]
    rintro e w2 ⟨x, rfl, hg, hb⟩
    have HX2 : Hid (Ints w2 x rv) := Gr.ints hg rfl
    have HU2 := Lib.hid (HU.out.mono hb (Nat.le_refl _))
    have B2 := nxt B1 hb
    clear hg hb B1 HU
    go_wp2_with fail
    refine (spec_ShuffleOrder _ xs _ HU2.out).mono ?_
    rw [HRV.out]
    rintro e w3 ⟨y, rfl, hg, hb⟩
    have HX3 := Lib.hid (HX2.out.mono hb (Nat.le_refl _))
    have HY3 : Hid (Ints w3 y rv) := Gr.ints hg rfl
    have HU3 := Lib.hid (HU2.out.mono hb (Nat.le_refl _))
    have B3 := nxt B2 hb
    clear hg hb B2 HU2 HX2
    go_wp2_with fail
    refine (sameInts_same _ _ rv _ HX3.out HY3.out).mono ?_
    rintro e w4 ⟨rfl, hb⟩
    have HX4 := Lib.hid (HX3.out.mono hb (Nat.le_refl _))
    have HU4 := Lib.hid (HU3.out.mono hb (Nat.le_refl _))
    have B4 := nxt B3 hb
    have HR4 := Lib.hid (HR.out.mono B4.out (Nat.le_refl _))
    clear hb B3 HX3 HY3 HU3
    by_cases h32 : 32 < xs.length
    · have hr0 : rv = [] := by rw [← HRV.out]; unfold ordV; rw [if_neg (by omega)]
      subst hr0
      obtain ⟨ad5, c5, hx, _, _⟩ := HX4.out.open
      rw [List.length_nil] at hx
      subst hx
      have hz : (32 : Int) < xs.length := by omega
      go_wp2_with (go_at_call 11; refine (alive_any _ HR4.out).mono ?_; rintro e w' ⟨rfl, rfl⟩)
      go_ret
      exact ⟨rfl, B4.out⟩
    · have hz : decide ((xs.length : Int) > 32) = false := by simp; omega
      have hz' : decide ((32 : Int) < xs.length) = false := by simp; omega
      obtain ⟨n, hn⟩ : ∃ n, xs.length = n := ⟨_, rfl⟩
      have HN := Lib.hid hn
      have hn32 : n ≤ 32 := by omega
      have hrn : rv.length = n := by rw [← HRV.out, ordV_ok (by omega), natsI_length, ordI_length, hn]
      obtain ⟨ad5, c5, hx, _, hop3⟩ := HX4.out.open
      rw [hrn] at hx hop3
      subst hx
      have HOP3 := Lib.hid hop3
      obtain ⟨_, _, hu4, _, hop2⟩ := HU4.out.open
      cases hu4
      rw [hn] at hop2 hz hz' ⊢
      have HOP2 := Lib.hid hop2
      have HIV : Hid (∀ k, k < n → iv rv k = .int .i64 (oF xs k : Int)) := fun k hk => by rw [← HRV.out]; exact ordV_iv (by omega) (by omega)
      obtain ⟨i0, hi, hz0, hz1, hz2⟩ := info_parts Tryd.infoBool
      clear hop2 hop3 hn hrn hrl hxl HX4 HU4
      go_wp2_with (at_make; refine wpList_make_full _ rfl _ _ 28 rfl w4.heap.size 4 i0 (.bool false) 1 Tryd.underlying28 hi hz0 hz1 _ _ _ _ _ rfl rfl rfl rfl ?b2 ?b3 ?b4 ?_)
      case b2 => rw [hz2]; omega
      case b3 => unfold maxLen; omega
      case b4 => exact Nat.le_refl _
      · intro w5 hown hgrow
        have hrow := (row_of_own hown).1
        rw [made_tab, seen_zero xs] at hrow
        have HROW := Lib.hid hrow
        have HB5 : Hid (Below w4.heap.size w4 w5) := (Below.refl _ _).grown hgrow (Nat.le_refl _) (by simp)
        clear hown hgrow hrow hz0 hz1 hz2 hi
        go_wp2
        go_loopw [6] (fun i wr => ∃ k : Nat, k ≤ n ∧ i = .int .i64 k ∧ Hid (Row wr w4.heap.size 4 (tab n (seenF xs k))) ∧ Hid (Below w4.heap.size w4 wr)) (fun i _ => n - (intOf i).toNat)
        case atStart => exact ⟨0, Nat.zero_le _, rfl, HROW.out, HB5.out⟩
        case round =>
          obtain ⟨k, hk, rfl, hRw, hB⟩ := hrel
          by_cases hlt : k < n
          · obtain ⟨b3, off3, rfl, hcell3⟩ := HOP3.out k hlt
            have hol : oF xs k < n := by have := oF_lt (ys := xs) (k := k) (by rw [HN.out]; exact hlt); rwa [HN.out] at this
            obtain ⟨b2, off2, rfl, hcell2⟩ := HOP2.out (oF xs k) hol
            have h1 : wr.cell? ⟨b3, off3 + k, none⟩ = some (.int .i64 (oF xs k : Int)) := by
              have q := hcell3 k hlt
              rw [HIV.out k hlt] at q
              exact (hB.out.cell (p := ⟨b3, off3 + k, none⟩) (World.block_lt_of_cell? w4 _ q)).trans q
            have h2 : wr.cell? ⟨w4.heap.size, oF xs k, none⟩ = some (.bool false) := by
              have := hRw.out.cell (tab_get (seenF xs k) hol)
              rwa [seen_no (by rw [HN.out]; exact hlt)] at this
            have hne3 : b3 ≠ w4.heap.size := Nat.ne_of_lt (World.block_lt_of_cell? w4 _ (hcell3 k hlt))
            have hne2 : b2 ≠ w4.heap.size := Nat.ne_of_lt (World.block_lt_of_cell? w4 _ (hcell2 _ hol))
            have hfr := hRw.out.free (oF xs k)
            have HM2 : Hid (Row (wr.setCell ⟨w4.heap.size, oF xs k, none⟩ (.bool true)) w4.heap.size 4 (tab n (seenF xs (k + 1)))) := by
              have := seen_step (xs := xs) (k := k) (by rw [HN.out]; exact hlt)
              rw [HN.out] at this
              rw [← this]; exact hRw.out.set _ _
            have HBN : Hid (Below w4.heap.size w4 (wr.setCell ⟨w4.heap.size, oF xs k, none⟩ (.bool true))) := hB.out.setCell (p := ⟨w4.heap.size, oF xs k, none⟩) (Nat.le_refl _) _
            obtain ⟨y, hy⟩ : ∃ y, oF xs k = y := ⟨_, rfl⟩
            have HY := Lib.hid hy
            rw [hy] at h1 h2 hol hfr HM2 HBN
            have z1 : (y : Int) < n := by omega
            have z2 : decide ((y : Int) < 0) = false := by simp <;> omega
            have z3 : decide ((y : Int) ≥ n) = false := by simp; omega
            have z4 : decide ((n : Int) ≤ y) = false := by simp; omega
            have z5 : decide (n ≤ y) = false := by simp; omega
            have HC2 := Lib.hid hcell2
            have HC3 := Lib.hid hcell3
            clear hcell2 hcell3 hy
            by_cases hk0 : 0 < k
            · obtain ⟨k0, hkk⟩ : ∃ k0, k = k0 + 1 := ⟨k - 1, by omega⟩
              have hlx := oF_lx (xs := xs) (k := k0) (by rw [HN.out]; omega)
              rw [← hkk, HY.out] at hlx
              have hol0 : oF xs k0 < n := by have := oF_lt (ys := xs) (k := k0) (by rw [HN.out]; omega); rwa [HN.out] at this
              have hk0n : k0 < n := by omega
              have hw0 : IntKind.i64.wrap ((k : Int) - 1) = (k0 : Int) := by rw [IntKind.wrap_i64]; omega
              obtain ⟨x, hx⟩ : ∃ x, oF xs k0 = x := ⟨_, rfl⟩
              obtain ⟨ty, hty⟩ : ∃ t, tg xs y = t := ⟨_, rfl⟩
              obtain ⟨tx, htx⟩ : ∃ t, tg xs x = t := ⟨_, rfl⟩
              rw [hx] at hlx hol0
              unfold Lx at hlx
              rw [hty, htx] at hlx
              have g1 : (wr.setCell ⟨w4.heap.size, y, none⟩ (.bool true)).cell? ⟨b3, off3 + k, none⟩ = some (.int .i64 (y : Int)) := by
                have q := HC3.out k hlt
                rw [HIV.out k hlt, HY.out] at q
                exact (HBN.out.cell (p := ⟨b3, off3 + k, none⟩) (World.block_lt_of_cell? w4 _ q)).trans q
              have g2 : (wr.setCell ⟨w4.heap.size, y, none⟩ (.bool true)).cell? ⟨b3, off3 + k0, none⟩ = some (.int .i64 (x : Int)) := by
                have q := HC3.out k0 hk0n
                rw [HIV.out k0 hk0n, hx] at q
                exact (HBN.out.cell (p := ⟨b3, off3 + k0, none⟩) (World.block_lt_of_cell? w4 _ q)).trans q
              have g3 : (wr.setCell ⟨w4.heap.size, y, none⟩ (.bool true)).cell? ⟨b2, off2 + y, none⟩ = some (.int .i64 ty) := by
                have q := HC2.out y hol
                rw [iv_tg, hty] at q
                exact (HBN.out.cell (p := ⟨b2, off2 + y, none⟩) (World.block_lt_of_cell? w4 _ q)).trans q
              have g4 : (wr.setCell ⟨w4.heap.size, y, none⟩ (.bool true)).cell? ⟨b2, off2 + x, none⟩ = some (.int .i64 tx) := by
                have q := HC2.out x hol0
                rw [iv_tg, htx] at q
                exact (HBN.out.cell (p := ⟨b2, off2 + x, none⟩) (World.block_lt_of_cell? w4 _ q)).trans q
              have z6 : (x : Int) < n := by omega
              have HG1 := Lib.hid g1
              have HG2 := Lib.hid g2
              have HG3 := Lib.hid g3
              have HG4 := Lib.hid g4
              have HLX := Lib.hid hlx
              have HKK := Lib.hid hkk
              clear g1 g2 g3 g4 hx hty htx hlx hkk
              go_wp2_with fail
              clear h1 h2 hfr
              have g1 := HG1.out
              have g2 := HG2.out
              have g3 := HG3.out
              have g4 := HG4.out
              clear HG1 HG2 HG3 HG4
              generalize (wr.setCell ⟨w4.heap.size, y, none⟩ (.bool true)) = wq at g1 g2 g3 g4 HM2 HBN ⊢
              have d1 : decide (0 < k) = true := by simp; omega
              by_cases hlt2 : tx < ty
              · have e1 : decide (ty < tx) = false := by simp; omega
                have e2 : (ty == tx) = false := by simp; omega
                go_quiet (fail)
                go_wp2
                go_roundw
                case rel => exact ⟨k + 1, hlt, by go_num, HM2.out, below_drewN HBN.out _⟩
                case measure => simp [intOf]; omega
              · have hxy : tx = ty ∧ x < y := by have := HLX.out; omega
                obtain ⟨rfl, hxy⟩ := hxy
                have e1 : decide (tx < tx) = false := by simp
                have e2 : (tx == tx) = true := by simp
                have e3 : decide (y < x) = false := by simp; omega
                have e4 : decide ((y : Int) < x) = false := by simp; omega
                clear hlt2
                go_quiet (fail)
                go_wp2
                go_roundw
                case rel => exact ⟨k + 1, hlt, by go_num, HM2.out, below_drewN HBN.out _⟩
                case measure => simp [intOf]; omega
            · have d1 : decide (0 < k) = false := by simp; omega
              have d2 : decide ((k : Int) > 0) = false := by simp; omega
              have d3 : ¬ (0 : Int) < k := by omega
              go_wp2_with fail
              go_quiet (fail)
              go_wp2
              go_roundw
              case rel => exact ⟨k + 1, hlt, by go_num, HM2.out, below_drewN HBN.out _⟩
              case measure => simp [intOf]; omega
          · obtain rfl : k = n := by omega
            go_wp2
            go_ret
            refine ⟨?_, B4.out.trans (hB.out.mono B4.out.size)⟩
            simp
end Go.Proofs.YtficoknejnilmaaDoor
