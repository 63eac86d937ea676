/- CatalogValid of the specification -/
import Derived.Test.YtiiipaemplihnaaDoorCat
import Derived.Test.YtiiipaemplihnaaDoorTabS
namespace Go.Proofs.YtiiipaemplihnaaDoor
open Go.RowKit
set_option maxRecDepth 20000 in
set_option maxHeartbeats 400000 in
theorem spec_CatalogValid (v : Value) (n : Nat) (en : Nat → Ent) (w : World) (h : CatIn w v n en) (hs : SmallC n en) :
    Calls Tryd.prog 15 #[v] w fun e w' => e = .returned (.bool (catB n en)) ∧ Below w.heap.size w w' := by
  obtain ⟨ad, c, rfl, hmax, hop⟩ := h.open
  unfold maxLen at hmax
  have HOP := Lib.hid hop
  have HS := Lib.hid hs
  clear hop h hs
  go_enter Tryd.func15, Tryd.ntmps15
  go_wp2
  go_loopg [3, 4] n (fun gg i _ wr => ∃ k : Nat, k ≤ n ∧ n - k ≤ gg ∧ i = .int .i64 k ∧ Hid (∀ j, j < k → gdC n en j = true) ∧ Hid (Below w.heap.size w wr))
  case atStart => exact ⟨0, Nat.zero_le _, Nat.le_refl _, rfl, (fun j hj => by omega), Below.refl _ _⟩
  case round =>
    obtain ⟨k, hk, hgg, rfl, hG, hB⟩ := hrel
    by_cases hlt : k < n
    · have HLT := Lib.hid hlt
      obtain ⟨b, off, rfl, hcell⟩ := HOP.out k hlt
      have HCE : Hid (∀ i, i < n → ∀ W, Below w.heap.size w W → W.cell? ⟨b, off + i * 3, none⟩ = some (.string (en i).1)) := fun i hi W hW => by
        obtain ⟨_, _, _, _, d0, _⟩ := hcell i hi
        exact (hW.cell (p := ⟨b, off + i * 3, none⟩) (World.block_lt_of_cell? w _ d0)).trans d0
      obtain ⟨a1, c1, a2, c2, d0, d1, d2, ht⟩ := hcell k hlt
      have hbk := World.block_lt_of_cell? w _ d0
      have HD1 : Hid (∀ W, Below w.heap.size w W → W.cell? ⟨b, off + k * 3 + 1, none⟩ = some (.slice a1 (en k).2.1.length c1) ∧ W.cell? ⟨b, off + k * 3 + 2, none⟩ = some (.slice a2 (en k).2.2.1 c2)) := fun W hW =>
        ⟨(hW.cell (p := ⟨b, off + k * 3 + 1, none⟩) hbk).trans d1, (hW.cell (p := ⟨b, off + k * 3 + 2, none⟩) hbk).trans d2⟩
      have HCK := Lib.hid (HCE.out k hlt)
      obtain ⟨hs1, hs2⟩ := HS.out k hlt
      have hgd : gdC n en k = (nameB (tx (en k).1) && (!decide (tx (en k).1 ∈ (nmL n en).take k) && tabB (txs (en k).2.1) (en k).2.2.1 (en k).2.2.2)) := rfl
      obtain ⟨⟨y, ns, m, f⟩, he⟩ : ∃ e, en k = e := ⟨_, rfl⟩
      rw [he] at HCK HD1 ht hs1 hs2 hgd
      simp only at HCK HD1 ht hs1 hs2 hgd
      obtain ⟨l1, hl1⟩ : ∃ l, ns.length = l := ⟨_, rfl⟩
      rw [hl1] at HD1 ht
      have HT := Lib.hid ht
      have HYZ : Hid (y.size ≤ 9223372036854775807) := by unfold Hid; omega
      have HS2 := Lib.hid hs2
      have HGD := Lib.hid hgd
      clear hcell hbk hs1 hs2 he hl1 ht hgd d0 d1 d2
      have x0 := HCK.out _ hB.out
      cases hn : nameB (tx y) with
      | false =>
        have HN := Lib.hid hn
        have HF : Hid (catB n en = false) := catB_bad HLT.out (by rw [HGD.out, hn]; rfl)
        clear hn
        go_wp2_with fail
        refine (spec_NameValid _ _ HYZ.out).mono ?_
        rw [HN.out]
        rintro e w1 ⟨rfl, hb⟩
        have HB1 := Lib.hid (hB.out.trans (hb.mono hB.out.size))
        clear hb x0
        go_wp2
        go_ret
        exact ⟨ret_bool HF.out.symm, HB1.out⟩
      | true =>
        have HN := Lib.hid hn
        clear hn
        go_wp2_with fail
        refine (spec_NameValid _ _ HYZ.out).mono ?_
        rw [HN.out]
        rintro e w1 ⟨rfl, hb⟩
        have HB1 := Lib.hid (hB.out.trans (hb.mono hB.out.size))
        clear hb x0
        obtain ⟨x1, x2⟩ := HD1.out _ HB1.out
        obtain ⟨t, htt⟩ : ∃ t, tabB (txs ns) m f = t := ⟨_, rfl⟩
        have HTT := Lib.hid htt
        clear htt
        go_wp2_with fail
        refine (spec_TableValid _ ns m f _ (HT.out.mono HB1.out (Nat.le_refl _)) HS2.out).mono ?_
        rw [HTT.out]
        rintro e w2 ⟨rfl, hb⟩
        have HB2 := Lib.hid (HB1.out.trans (hb.mono HB1.out.size))
        clear hb x1 x2 HB1 hB
        cases t
        · have HF : Hid (catB n en = false) := catB_bad HLT.out (by rw [HGD.out, HTT.out]; simp)
          go_wp2
          go_ret
          exact ⟨ret_bool HF.out.symm, HB2.out⟩
        · go_wp2
          go_loopg [4] k (fun gg j wj => ∃ q : Nat, q ≤ k ∧ k - q ≤ gg ∧ j = .int .i64 q ∧ Hid (tx y ∉ (nmL n en).take q) ∧ Hid (Below w.heap.size w wj))
          case atStart => exact ⟨0, Nat.zero_le _, Nat.le_refl _, rfl, by simp [Hid], HB2.out⟩
          case round =>
            obtain ⟨q, hq, hgq, rfl, hN, hBj⟩ := hrel
            by_cases hqk : q < k
            · have HQK := Lib.hid hqk
              have hqn : q < n := by omega
              have d0 := HCE.out q hqn _ hBj.out
              have d1 := HCK.out _ hBj.out
              have hzq := nmL_get en hqn
              obtain ⟨z, hz⟩ : ∃ z, (en q).1 = z := ⟨_, rfl⟩
              rw [hz] at d0 hzq
              have HZQ := Lib.hid hzq
              clear hz hzq
              have hd3 : (q : Int) < (n : Int) := by omega
              have hd4 : (k : Int) < (n : Int) := by omega
              by_cases hxy : tx y = tx z
              · have hxx : (z.toList == y.toList) = true := by rw [tx_eq]; simp [hxy]
                have HF : Hid (catB n en = false) := catB_bad HLT.out (by
                  rw [HGD.out, decide_eq_true (show tx y ∈ (nmL n en).take k from ?_)]
                  · simp
                  · rw [hxy]; exact List.mem_of_getElem? (i := q) (by rw [List.getElem?_take, if_pos HQK.out]; exact HZQ.out))
                clear hxy
                go_wp2_with fail
                go_quiet (fail)
                go_wp2
                go_ret
                exact ⟨ret_bool HF.out.symm, by first | exact hBj.out | exact hBj.out.drew | exact below_drewN hBj.out _⟩
              · have hxx : (z.toList == y.toList) = false := by rw [tx_eq]; simpa using fun e => hxy e.symm
                have HF : Hid (tx y ∉ (nmL n en).take (q + 1)) := not_take_succS HZQ.out hN.out hxy
                clear hxy
                go_wp2_with fail
                go_quiet (fail)
                go_wp2
                go_roundg (k - (q + 1))
                case rel => exact ⟨q + 1, HQK.out, Nat.le_refl _, by go_num, HF, by first | exact hBj.out | exact hBj.out.drew | exact below_drewN hBj.out _⟩
                case measure => have := HQK.out; omega
            · obtain rfl : q = k := by omega
              have HF : Hid (∀ j, j < q + 1 → gdC n en j = true) := fun j hj => by
                by_cases e : j = q
                · subst e; rw [HGD.out, HN.out, HTT.out, decide_eq_false hN.out]; rfl
                · exact hG.out j (by omega)
              go_wp2
              go_roundg (n - (q + 1))
              case rel => exact ⟨q + 1, HLT.out, Nat.le_refl _, by go_num, HF.out, hBj.out⟩
              case measure => have := HLT.out; omega
    · obtain rfl : k = n := by omega
      have HF : Hid (catB k en = decide (k ≤ 4)) := catB_end hG.out
      go_wp2
      go_ret
      exact ⟨ret_bool (by rw [HF.out]; first | rfl | (rw [Bool.eq_iff_iff, decide_eq_true_eq, decide_eq_true_eq]; omega)), hB.out⟩
end Go.Proofs.YtiiipaemplihnaaDoor
