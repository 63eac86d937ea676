/- the walk of FnPermValid -/
import Derived.Test.YtgapjgmkkmdadaaDoorPermDraw
import Derived.Test.YtgapjgmkkmdadaaDoorPerm
import Derived.Test.YtgapjgmkkmdadaaDoorName
namespace Go.Proofs.YtgapjgmkkmdadaaDoor
open Go.RowKit
theorem perm_twice {xs : List Int} {y : Int} (h : 2 ≤ xs.length) (hy : xs[0]? = some y) : permB ([y] ++ xs.take (xs.length - 1)) = false := by
  obtain ⟨a, b, l, rfl⟩ : ∃ a b l, xs = a :: b :: l := by
    match xs, h with
    | a :: b :: l, _ => exact ⟨a, b, l, rfl⟩
  simp at hy
  subst hy
  refine permB_bad (k := 1) (by simp) ?_
  unfold okAt
  have e : (a :: b :: l).take ((a :: b :: l).length - 1) = a :: (b :: l).take l.length := by simp
  rw [e]
  simp
set_option maxHeartbeats 1000000 in
theorem walk0_FnPermValid (w : World) (v : Value) (bs : List Int) (h : Bts w v bs) (hR : Resv w) :
    Calls Tryd.prog 5 #[v] w fun e w' => LawOk w e w' := by
  obtain ⟨ad, c, hv, hm⟩ := bts_lit h
  have H := Lib.hid h
  have HR := Lib.hid hR
  clear h hR
  subst hv
  by_cases hbig : 1048576 < bs.length
  · go_enter Tryd.func5, Tryd.ntmps5
    go_wp2
    go_ret
    exact ⟨rfl, Below.refl _ _⟩
  · go_enter Tryd.func5, Tryd.ntmps5
    go_wp2_with fail
    refine (draw_PermValid _ bs w H.out).mono ?_
    rintro e w1 ⟨u, xs, rfl, hG, hl9, hb⟩
    have hI : Ints w1 u xs := hG.view
    have B1 := nxt (Lib.hid (Below.refl _ _)) hb
    obtain ⟨ab, cb, hu⟩ := hG.lit
    subst hu
    have hroom := gr_room hG
    obtain ⟨n, hn⟩ : ∃ n, xs.length = n := ⟨_, rfl⟩
    have HN := Lib.hid hn
    rw [hn] at hl9 hroom hI hG
    have G1 := Lib.hid hG
    have I1 := Lib.hid hI
    rw [hn]
    clear hb H hG hn hI
    obtain ⟨t, ht⟩ : ∃ t, permB xs = t := ⟨_, rfl⟩
    have HT := Lib.hid ht
    clear ht
    go_wp2_with fail
    refine (impl_PermValid _ xs _ I1.out).mono ?_
    rw [HT.out]
    rintro e w' ⟨rfl, rfl⟩
    have htt : (t != t) = false := by simp
    go_wp2_with fail
    refine (spec_PermValid _ xs _ I1.out (by rw [HN.out]; omega)).mono ?_
    rw [HT.out]
    rintro e w2 ⟨rfl, hb⟩
    have B2 := nxt B1 hb
    have HR2 := Lib.hid (HR.out.mono B2.out (Nat.le_refl _))
    have G2 := Lib.hid (G1.out.mono hb (Nat.le_refl _))
    clear hb B1 G1
    cases t
    · go_wp2_with (go_at_call 12; refine (alive_any _ HR2.out).mono ?_; rintro e w' ⟨rfl, rfl⟩)
      go_ret
      exact ⟨rfl, B2.out⟩
    · by_cases h1 : n = 1
      · have hd : ((n : Int) == 1) = true := by rw [h1]; rfl
        clear h1
        go_wp2_with (go_at_call 12; refine (alive_any _ HR2.out).mono ?_; rintro e w' ⟨rfl, rfl⟩)
        go_ret
        exact ⟨rfl, B2.out⟩
      · have hd : ((n : Int) == 1) = false := beq_eq_false_iff_ne.2 (by omega)
        have hn0 : 2 ≤ n := by
          by_cases h0 : n = 0
          · exfalso
            have := HT.out
            obtain rfl := List.eq_nil_of_length_eq_zero (HN.out.trans h0)
            cases this
          · omega
        obtain ⟨m, rfl⟩ : ∃ m, n = m + 1 := ⟨n - 1, by omega⟩
        obtain ⟨g, c2, hu, _, _, _, _, hcell, _⟩ := G2.out.at (show 0 < m + 1 by omega)
        cases hu
        obtain ⟨y, hy⟩ : ∃ y, xs[0]? = some y := ⟨_, List.getElem?_eq_getElem (by rw [HN.out]; omega)⟩
        have hc0 : w2.cell? ⟨g, 0, none⟩ = some (.int .i64 y) := hcell 0 _ (by simp [ints, hy])
        have HP : Hid (permB ([y] ++ xs.take (m)) = false) := by have := perm_twice (by rw [HN.out]; omega) hy; rwa [HN.out, Nat.add_sub_cancel] at this
        have V1 : Hid (View w2 1 (.slice (some ⟨g, 0, none⟩) (m) cb) (m) (ints (xs.take (m)))) := by have := view_take G2.out.view (show m ≤ m + 1 by omega); simpa [Hid, ints, List.map_take] using this
        have hwr : IntKind.i64.wrap (m : Int) = (m : Int) := IntWalk.i64_in (m : Int) ⟨by omega, by omega⟩
        have hnc : m ≤ cb := by omega
        clear hcell hy
        go_wp2
        go_region_law (first
          | (refine step_app _ rfl (.tmp 27) (.tmp 32) 30 rfl w2.heap.size 3 (.int .i64 0) 1 8 Tryd.underlying30 Tryd.infoInt rfl (by omega) (.slice (some ⟨w2.heap.size, 0, none⟩) 1 1) 1 [.int .i64 y] rfl (Gr.of_made (Row.new _ _ _).drew rfl (by unfold maxLen; omega) (Nat.le_refl _)) _ (m) (ints (xs.take (m))) rfl (V1.out.mono (by repeat (first | exact Below.refl _ _ | refine Below.drew ?_ | refine Below.alloc ?_ (by simp <;> omega) _)) (Nat.le_refl _)) (one_ints _) (by unfold maxLen; omega) (by omega) (by simp <;> omega) ?_
             intro v3 w3 g1 r1 k1
             have I3 : Hid (Ints w3 v3 ([y] ++ xs.take (m))) := by
               have := g1.view
               unfold Hid Ints
               rw [show ([y] ++ xs.take (m)).length = 1 + (m) by simp [HN.out]; omega]
               simpa [ints] using this
             have BB3 := Lib.hid ((show Below w2.heap.size w2 _ by repeat (first | exact Below.refl _ _ | refine Below.drew ?_ | refine Below.alloc ?_ (by simp <;> omega) _)).grown r1 (by simp <;> omega) (fun g hg => by simp [gBlock] at hg; omega))
             clear g1 r1 k1)
          | (go_simp; (go_at_call 17; refine (impl_PermValid _ _ _ I3.out).mono ?_; rw [HP.out]; rintro e w' ⟨rfl, rfl⟩)))
        all_goals
          go_wp2
          go_ret
          exact ⟨rfl, B2.out.trans (BB3.out.mono B2.out.size)⟩
theorem walk_FnPermValid (w : World) (v : Value) (bs : List Int) (h : View w 1 v bs.length (bs.map (Value.int .u8)) ∧ ∀ b ∈ bs, 0 ≤ b ∧ b ≤ 255) (hR : Resv w) :
    Calls Tryd.prog 5 #[v] w fun e w' => e = .returned (.bool true) ∧ Below w.heap.size w w' := walk0_FnPermValid w v bs h hR
end Go.Proofs.YtgapjgmkkmdadaaDoor
