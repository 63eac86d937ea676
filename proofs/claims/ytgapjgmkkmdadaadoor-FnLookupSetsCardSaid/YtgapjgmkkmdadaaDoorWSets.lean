/- the walk of FnLookupSets -/
import Derived.Test.YtgapjgmkkmdadaaDoorSetsDraw
import Derived.Test.YtgapjgmkkmdadaaDoorSets
import Derived.Test.YtgapjgmkkmdadaaDoorMarks
import Derived.Test.YtgapjgmkkmdadaaDoorName
namespace Go.Proofs.YtgapjgmkkmdadaaDoor
open Go.RowKit
theorem tab_at {α : Type} {n k : Nat} (f : Nat → α) (h : k < n) (d : α) : (tab n f)[k]?.getD d = f k := by simp [tab, h]
theorem sets_diff {s m k : Nat} (a : Int) (h : k < m) : (bv (setA s m) k = .bool (setAt s k)) ∧ (bv (setB s m a) k = .bool (setAt s k != ((k : Int) == a))) := by
  unfold bv setA setB
  rw [tab_at _ h, tab_at _ h]
  exact ⟨rfl, rfl⟩
set_option maxHeartbeats 1000000 in
theorem walk0_FnLookupSets (w : World) (v : Value) (bs : List Int) (h : Bts w v bs) (hR : Resv w) :
    Calls Tryd.prog 7 #[v] w fun e w' => LawOk w e w' := by
  obtain ⟨ad, c, hv, hm⟩ := bts_lit h
  have H := Lib.hid h
  have HR := Lib.hid hR
  clear h hR
  subst hv
  by_cases hbig : 1048576 < bs.length
  · go_enter Tryd.func7, Tryd.ntmps7
    go_wp2
    go_ret
    exact ⟨rfl, Below.refl _ _⟩
  · go_enter Tryd.func7, Tryd.ntmps7
    go_wp2_with fail
    refine (draw_LookupSets _ bs w H.out).mono ?_
    rintro e w1 ⟨s, m, a, rfl, hb⟩
    have B1 := nxt (Lib.hid (Below.refl _ _)) hb
    clear hb H
    go_wp2_with fail
    refine (impl_LookupSets s m a w1).mono ?_
    rintro e w2 ⟨u1, u2, rfl, hb, h1, h2, _⟩
    have X1 : Hid (Bools w2 u1 _) := h1.view
    have X2 : Hid (Bools w2 u2 _) := h2.view
    have B2 := nxt B1 hb
    clear hb B1 h1 h2
    go_wp2_with fail
    refine (spec_LookupSets s m a w2).mono ?_
    rintro e w3 ⟨u3, u4, rfl, hb, h1, h2, _⟩
    have X3 : Hid (Bools w3 u3 _) := h1.view
    have X4 : Hid (Bools w3 u4 _) := h2.view
    have Y1 := Lib.hid (X1.out.mono hb (Nat.le_refl _))
    have Y2 := Lib.hid (X2.out.mono hb (Nat.le_refl _))
    have B3 := nxt B2 hb
    clear hb B2 h1 h2 X1 X2
    go_wp2_with fail
    refine (sameMarks_same _ _ _ _ Y1.out X3.out).mono ?_
    rintro e w4 ⟨rfl, hb⟩
    have B4 := nxt B3 hb
    have Z1 := Lib.hid (Y1.out.mono hb (Nat.le_refl _))
    have Z2 := Lib.hid (Y2.out.mono hb (Nat.le_refl _))
    have Z4 := Lib.hid (X4.out.mono hb (Nat.le_refl _))
    clear hb B3 Y1 Y2 X3 X4
    go_wp2_with fail
    refine (sameMarks_same _ _ _ _ Z2.out Z4.out).mono ?_
    rintro e w5 ⟨rfl, hb⟩
    have B5 := nxt B4 hb
    have Y1 := Lib.hid (Z1.out.mono hb (Nat.le_refl _))
    have Y2 := Lib.hid (Z2.out.mono hb (Nat.le_refl _))
    have HR5 := Lib.hid (HR.out.mono B5.out (Nat.le_refl _))
    clear hb B4 Z1 Z2 Z4
    have hss : ∀ z : Bool, (z != z) = false := by simp
    have hse : ∀ z : Int, (z == z) = true := by simp
    cases hok : setsOk s m a
    · have y1 := Y1.out
      have y2 := Y2.out
      rw [hok] at y1 y2
      simp only [Bool.false_eq_true, if_false] at y1 y2
      obtain ⟨a1, c1, hv1, _, _⟩ := y1.open
      obtain ⟨a2, c2, hv2, _, _⟩ := y2.open
      subst hv1 hv2
      clear y1 y2 Y1 Y2 hok
      simp only [List.length_nil]
      go_wp2_with (go_at_call 12; refine (alive_any _ HR5.out).mono ?_; rintro e w' ⟨rfl, rfl⟩)
      go_ret
      exact ⟨rfl, B5.out⟩
    · obtain ⟨S, M, rfl, rfl, hS, hM⟩ : ∃ S M : Nat, s = S ∧ m = M ∧ S ≤ 1000000 ∧ M ≤ 32 := by
        simp only [setsOk, Bool.and_eq_true] at hok
        have h1 := inB_iff.1 hok.1
        have h2 := inB_iff.1 hok.2.1
        exact ⟨s.toNat, m.toNat, by omega, by omega, by omega, by omega⟩
      obtain ⟨hk1, hk0⟩ : setsOk (S : Int) (M : Int) 0 = true ∧ 1 ≤ M := by
        simp only [setsOk, Bool.and_eq_true] at hok
        have h2 := inB_iff.1 hok.2.1
        exact ⟨by simp only [setsOk, hok.1, hok.2.1, Bool.true_and]; exact inB_true (by omega) (by omega), by omega⟩
      have y1 := Y1.out
      have y2 := Y2.out
      rw [hok] at y1 y2
      simp only [if_true, Int.toNat_natCast] at y1 y2
      obtain ⟨a1, c1, hv1, _, hop1⟩ := y1.open
      obtain ⟨a2, c2, hv2, _, hop2⟩ := y2.open
      rw [setA_length] at hv1 hop1
      rw [setB_length] at hv2 hop2
      subst hv1 hv2
      have Z1 := Lib.hid y1
      have OP1 := Lib.hid hop1
      have OP2 := Lib.hid hop2
      have HK1 := Lib.hid hk1
      clear y1 y2 Y1 Y2 hok hop1 hop2 hk1
      go_wp2
      go_loopw [12] (fun i wr => ∃ k : Nat, k ≤ M ∧ i = .int .i64 k ∧ Below w5.heap.size w5 wr) (fun i _ => M - (intOf i).toNat)
      case atStart => exact ⟨0, Nat.zero_le _, rfl, Below.refl _ _⟩
      case round =>
        obtain ⟨k, hk, rfl, hb⟩ := hrel
        by_cases hlt : k < M
        · obtain ⟨b, off, rfl, hcell⟩ := OP1.out k hlt
          obtain ⟨b2, off2, rfl, hcell2⟩ := OP2.out k hlt
          have hc1 := hcell k hlt
          have hc1 : wr.cell? ⟨b, off + k, none⟩ = some (bv (setA S M) k) := (hb.cell (p := ⟨b, off + k, none⟩) (World.block_lt_of_cell? w5 _ hc1)).trans hc1
          have hc2 := hcell2 k hlt
          have hc2 : wr.cell? ⟨b2, off2 + k, none⟩ = some (bv (setB S M a) k) := (hb.cell (p := ⟨b2, off2 + k, none⟩) (World.block_lt_of_cell? w5 _ hc2)).trans hc2
          rw [(sets_diff a hlt).1] at hc1
          rw [(sets_diff a hlt).2] at hc2
          clear hcell hcell2
          have HB := Lib.hid hb
          clear hb
          obtain ⟨x, hx⟩ : ∃ x, setAt S k = x := ⟨_, rfl⟩
          obtain ⟨y, hy⟩ : ∃ y, ((k : Int) == a) = y := ⟨_, rfl⟩
          rw [hx] at hc1 hc2
          rw [hy] at hc2
          clear hx
          cases x <;> cases y
          all_goals
            go_wp2
            go_quiet (fail)
            go_wp2
            go_roundw
            case rel => exact ⟨k + 1, hlt, by go_num, below_drewN HB.out _⟩
            case measure => simp [intOf]; omega
        · obtain rfl : k = M := by omega
          have B6 := nxt B5 hb
          have V1 := Lib.hid (Z1.out.mono hb (Nat.le_refl _))
          clear hb B5 OP1 OP2
          go_wp2_with fail
          refine (impl_LookupSets _ _ _ wr).mono ?_
          rintro e w7 ⟨u5, u6, rfl, hb, h1, -, _⟩
          rw [HK1.out] at h1 ⊢
          simp only [if_true, Int.toNat_natCast] at h1
          have V3 : Hid (Bools w7 u5 _) := h1.view
          have V2 := Lib.hid (V1.out.mono hb (Nat.le_refl _))
          have B7 := nxt B6 hb
          clear hb B6 h1 V1
          go_wp2_with fail
          refine (sameMarks_same _ _ _ _ V2.out V3.out).mono ?_
          rintro e w8 ⟨rfl, hb⟩
          have B8 := nxt B7 hb
          clear hb B7 V2 V3
          go_wp2
          go_ret
          exact ⟨rfl, B8.out⟩
theorem walk_FnLookupSets (w : World) (v : Value) (bs : List Int) (h : View w 1 v bs.length (bs.map (Value.int .u8)) ∧ ∀ b ∈ bs, 0 ≤ b ∧ b ≤ 255) (hR : Resv w) :
    Calls Tryd.prog 7 #[v] w fun e w' => e = .returned (.bool true) ∧ Below w.heap.size w w' := walk0_FnLookupSets w v bs h hR
end Go.Proofs.YtgapjgmkkmdadaaDoor
