/- the walk of FnLookupBack -/
import Derived.Test.YtgapjgmkkmdadaaDoorWAns
import Derived.Test.YtgapjgmkkmdadaaDoorSets
namespace Go.Proofs.YtgapjgmkkmdadaaDoor
open Go.RowKit
def GoodSets (s m a : Nat) (w : World) (e : Ending) (w' : World) : Prop := ∃ v u, e = .returned (.tuple #[v, u, .bool true]) ∧ Below w.heap.size w w' ∧ Bools w' v (setA s m) ∧ Bools w' u (setB s m a)
theorem sets_any (s m a : Nat) (w : World) (h1 : s ≤ 1000000) (h2 : m ≤ 32) (h3 : a < m) : Calls Tryd.prog 23 #[.int .i64 s, .int .i64 m, .int .i64 a] w (GoodSets s m a w) :=
  (impl_LookupSets s m a w).mono fun e w' ⟨v, u, he, hb, hT⟩ => by
    have ok : setsOk s m a = true := by
      unfold setsOk
      rw [inB_true (by omega) (by omega), inB_true (by omega) (by omega), inB_true (by omega) (by omega)]; rfl
    rw [ok] at he hT
    simp only [if_true, Int.toNat_natCast] at hT
    exact ⟨v, u, he, hb, Gr.bools hT.1 rfl, Gr.bools hT.2.1 rfl⟩
theorem sets_same (s m a j : Nat) (h : j ≠ a) : (setA s m)[j]?.getD false = (setB s m a)[j]?.getD false := by
  unfold setA setB
  by_cases hj : j < m
  · rw [tab_get _ hj, tab_get _ hj]
    have : ((j : Int) == (a : Int)) = false := beq_eq_false_iff_ne.2 (by omega)
    simp [this]
  · rw [List.getElem?_eq_none (by rw [tab_length]; omega), List.getElem?_eq_none (by rw [tab_length]; omega)]
theorem sets_other (s m a : Nat) (h : a < m) : (setA s m)[a]?.getD false = !((setB s m a)[a]?.getD false) := by
  unfold setA setB
  rw [tab_get _ h, tab_get _ h]
  simp
set_option maxHeartbeats 1000000 in
theorem walk0_FnLookupBack (w : World) (v : Value) (bs : List Int) (h : Bts w v bs) (hR : Resv w) :
    Calls Tryd.prog 8 #[v] w fun e w' => LawOk w e w' := by
  obtain ⟨ad, c, hv, hm⟩ := bts_lit h
  have H := Lib.hid h
  have HR := Lib.hid hR
  clear h hR
  subst hv
  by_cases hbig : 1048576 < bs.length
  · go_enter Tryd.func8, Tryd.ntmps8
    go_wp2
    go_ret
    exact ⟨rfl, Below.refl _ _⟩
  · go_enter Tryd.func8, Tryd.ntmps8
    go_wp2_with fail
    refine (draw_LookupAnswer _ bs w H.out).mono ?_
    rintro e w1 ⟨u, v2, xs, st, rfl, hG, hM, hxl, hsl, _, hb⟩
    have HU : Hid (Ints w1 u xs) := Gr.ints hG rfl
    have HV : Hid (Bools w1 v2 st) := hM.view
    have HB := Lib.hid hb
    have HR1 := Lib.hid (HR.out.mono hb (Nat.le_refl _))
    have z1 := hb.size
    clear hb H HR hG hM
    obtain ⟨ad2, c2, hu, _, hop⟩ := HU.out.open
    obtain ⟨ad3, c3, hv, _, _⟩ := HV.out.open
    subst hu hv
    have HOP := Lib.hid hop
    clear hop
    have hss : ∀ z : Int, (z != z) = false := by simp
    have hse : ∀ z : Int, (z == z) = true := by simp
    rcases ans_cases xs st with hx | ⟨h1, h2, h3, hx, hfl⟩
    · have HX := Lib.hid hx
      clear hx
      go_wp2_with (first | (go_at_call 20; refine (impl_LookupAnswer _ _ xs st _ HU.out HV.out).mono ?_; rw [HX.out]; rintro e w' ⟨rfl, rfl⟩) | (go_at_call 21; refine (spec_LookupAnswer _ _ xs st _ HU.out HV.out).mono ?_; rw [HX.out]; rintro e w' ⟨rfl, rfl⟩) | (go_at_call 12; refine (alive_any _ HR1.out).mono ?_; rintro e w' ⟨rfl, rfl⟩))
      go_ret
      exact ⟨rfl, HB.out⟩
    · obtain ⟨n, hn⟩ : ∃ n, foldX xs st xs.length = n := ⟨_, rfl⟩
      rw [hn] at hx hfl
      have HX := Lib.hid hx
      have HN := Lib.hid hn
      have H3 := Lib.hid h3
      have H1 := Lib.hid h1
      clear hx hn h3
      by_cases h0 : xs.length = 0
      · have hd : ((xs.length : Int) == 0) = true := by rw [h0]; rfl
        clear h0 h1
        go_wp2_with (first | (go_at_call 20; refine (impl_LookupAnswer _ _ xs st _ HU.out HV.out).mono ?_; rw [HX.out]; rintro e w' ⟨rfl, rfl⟩) | (go_at_call 21; refine (spec_LookupAnswer _ _ xs st _ HU.out HV.out).mono ?_; rw [HX.out]; rintro e w' ⟨rfl, rfl⟩) | (go_at_call 12; refine (alive_any _ HR1.out).mono ?_; rintro e w' ⟨rfl, rfl⟩))
        go_ret
        exact ⟨rfl, HB.out⟩
      · have hd : ((xs.length : Int) == 0) = false := beq_eq_false_iff_ne.2 (by omega)
        obtain ⟨a, ha⟩ : ∃ a : Nat, bs.length % xs.length = a := ⟨_, rfl⟩
        have hal : a < xs.length := by rw [← ha]; exact Nat.mod_lt _ (by omega)
        have hai : (bs.length : Int) % (xs.length : Int) = (a : Int) := by rw [← ha]; simp
        obtain ⟨b, off, rfl, hcell⟩ := HOP.out a hal
        obtain ⟨y, hy⟩ : ∃ y, xs[a]?.getD 0 = y := ⟨_, rfl⟩
        have HY := Lib.hid hy
        obtain ⟨s, hs⟩ : ∃ s : Nat, (bs.length : Int) % 1000 = s := ⟨bs.length % 1000, by omega⟩
        have hsl : s < 1000 := by omega
        have hc1 := hcell a hal
        have hxi : iv xs a = .int .i64 y := by rw [iv, hy]
        rw [hxi] at hc1
        have HC1 := Lib.hid hc1
        clear ha hcell hxi hy h1 hc1
        go_wp2_with (first
          | (go_at_call 20; refine (impl_LookupAnswer _ _ xs st _ HU.out HV.out).mono ?_; rw [HX.out]; rintro e w' ⟨rfl, rfl⟩)
          | (go_at_call 21; refine (spec_LookupAnswer _ _ xs st _ HU.out HV.out).mono ?_; rw [HX.out]; rintro e w' ⟨rfl, rfl⟩)
          | (go_at_call 23; refine (sets_any s xs.length a _ (by omega) (by omega) hal).mono ?_; rintro e w3 ⟨p, q, rfl, hb, hp, hq⟩; have B3 := nxt HB hb; have HP := Lib.hid hp; have HQ := Lib.hid hq; have HU3 := Lib.hid (HU.out.mono hb (Nat.le_refl _)); have HC3 := Lib.hid ((hb.cell (p := ⟨b, off + a, none⟩) (World.block_lt_of_cell? w1 _ HC1.out)).trans HC1.out); clear hb hp hq))
        have hcx := HC3.out
        obtain ⟨m1, hm1⟩ : ∃ m, foldX xs (setA s xs.length) xs.length = m := ⟨_, rfl⟩
        obtain ⟨m2, hm2⟩ : ∃ m, foldX xs (setB s xs.length a) xs.length = m := ⟨_, rfl⟩
        have HX1 : Hid (ansV xs (setA s xs.length) = (m1 : Int)) := by rw [← hm1]; exact ansV_end (by simp) h2 H3.out
        have HX2 : Hid (ansV xs (setB s xs.length a) = (m2 : Int)) := by rw [← hm2]; exact ansV_end (by simp) h2 H3.out
        have HL : Hid (lookV m1 m2 = y) := by
          rw [← hm1, ← hm2, ← HY.out]
          exact ans_diff (fun j hj => sets_same _ _ _ _ hj) (sets_other _ _ _ hal) hal H3.out
        clear hm1 hm2
        go_quiet (first | exact quiet_of (impl_LookupAnswer _ _ xs (setA s xs.length) _ (HU3.out.drewN _) (HP.out.drewN _)) (congrArg _ HX1.out) | exact quiet_of (impl_LookupAnswer _ _ xs (setB s xs.length a) _ (HU3.out.drewN _) (HQ.out.drewN _)) (congrArg _ HX2.out) | exact quiet_of (impl_LookupValue m1 m2 _) (congrArg _ HL.out))
        go_wp2
        go_ret
        exact ⟨rfl, below_drewN B3.out _⟩
theorem walk_FnLookupBack (w : World) (v : Value) (bs : List Int) (h : View w 1 v bs.length (bs.map (Value.int .u8)) ∧ ∀ b ∈ bs, 0 ≤ b ∧ b ≤ 255) (hR : Resv w) :
    Calls Tryd.prog 8 #[v] w fun e w' => e = .returned (.bool true) ∧ Below w.heap.size w w' := walk0_FnLookupBack w v bs h hR
end Go.Proofs.YtgapjgmkkmdadaaDoor
