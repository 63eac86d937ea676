/- TableValid of the specification -/
import Derived.Test.YtajgghifamebkaaDoorTabP
import Derived.Deep.LoopGhost
namespace Go.Proofs.YtajgghifamebkaaDoor
set_option linter.unusedSimpArgs false
set_option linter.unusedVariables false
open Go.RowKit
theorem nameB_res {l : List UInt8} (h : l ∈ reservedL) : nameB l = false := by
  unfold nameB
  rw [decide_eq_true h]; simp
set_option maxRecDepth 20000 in
theorem spec_NameValid (s : ByteArray) (w : World) (hs : s.size ≤ 9223372036854775807) :
    Calls Tryd.prog 59 #[.string s] w fun e w' => e = .returned (.bool (nameB (tx s))) ∧ Below w.heap.size w w' := by
  obtain ⟨W, hW⟩ : ∃ W, W = w.alloc (.cells #[.string ⟨#[115, 101, 108, 101, 99, 116]⟩, .string ⟨#[102, 114, 111, 109]⟩, .string ⟨#[106, 111, 105, 110]⟩, .string ⟨#[111, 110]⟩, .string ⟨#[119, 104, 101, 114, 101]⟩, .string ⟨#[97, 110, 100]⟩, .string ⟨#[111, 114]⟩, .string ⟨#[103, 114, 111, 117, 112]⟩, .string ⟨#[98, 121]⟩, .string ⟨#[115, 117, 109]⟩, .string ⟨#[111, 114, 100, 101, 114]⟩, .string ⟨#[100, 111, 119, 110]⟩, .string ⟨#[108, 105, 109, 105, 116]⟩] 9) := ⟨_, rfl⟩
  have HBW : Hid (Below w.heap.size w W) := by rw [hW]; exact (Below.refl _ _).alloc (Nat.le_refl _) _
  have HRW : Hid (Row W w.heap.size 9 (strs reservedS)) := by rw [hW]; exact Row.new w 9 (strs reservedS)
  have HW := Lib.hid hW
  clear hW
  go_enter Tryd.func59, Tryd.ntmps59
  go_wp2
  go_loop [3] (fun i => ∃ k : Nat, k ≤ s.size ∧ i = .int .i64 k ∧ Hid (∀ j c, j < k → (tx s)[j]? = some c → lowB c = true)) (fun i => s.size - (intOf i).toNat)
  case atStart => exact ⟨0, Nat.zero_le _, rfl, fun j c hj => by omega⟩
  case round =>
    obtain ⟨k, hk, rfl, hN⟩ := hrel
    by_cases hlt : k < s.size
    · have HC : Hid ((tx s)[k]? = some s[k]) := by unfold Hid tx; rw [Array.getElem?_toList, Array.getElem?_eq_getElem (by simpa using hlt)]; rfl
      by_cases h1 : ((s[k].toNat : Nat) : Int) < 97
      · have HB : Hid (nameB (tx s) = false) := nameB_bad HC.out (by simp [lowB, UInt8.le_iff_toNat_le]; omega)
        go_wp2
        go_ret
        exact ⟨ret_bool HB.out.symm, Below.refl _ _⟩
      · have h1' : decide (((s[k].toNat : Nat) : Int) < 97) = false := by simpa using h1
        by_cases h2 : (122 : Int) < ((s[k].toNat : Nat) : Int)
        · have HB : Hid (nameB (tx s) = false) := nameB_bad HC.out (by simp [lowB, UInt8.le_iff_toNat_le]; omega)
          go_wp2
          go_ret
          exact ⟨ret_bool HB.out.symm, Below.refl _ _⟩
        · have h2' : decide ((122 : Int) < ((s[k].toNat : Nat) : Int)) = false := by simpa using h2
          have HA : Hid (∀ j c, j < k + 1 → (tx s)[j]? = some c → lowB c = true) := fun j c hj hc => by
            by_cases e : j = k
            · subst e
              rw [HC.out] at hc
              cases hc
              simp [lowB, UInt8.le_iff_toNat_le]; omega
            · exact hN.out j c (by omega) hc
          go_wp2
          go_round
          case rel => exact ⟨k + 1, hlt, by go_num, HA⟩
          case measure => simp [intOf]; omega
    · obtain rfl : k = s.size := by omega
      have HE : Hid (nameB (tx s) = (inB s.size 1 8 && !decide (tx s ∈ reservedL))) := by
        have hl : (tx s).length = s.size := by simp [tx]
        rw [← hl]
        exact nameB_end fun k c hc => hN.out k c (by rw [← hl]; exact (List.getElem?_eq_some_iff.1 hc).1) hc
      clear hN
      go_wp2
      rw [← HW.out]
      go_loop [5] (fun i => ∃ q : Nat, q ≤ 13 ∧ i = .int .i64 q ∧ Hid (tx s ∉ reservedL.take q)) (fun i => 13 - (intOf i).toNat)
      case atStart => exact ⟨0, Nat.zero_le _, rfl, by simp [Hid]⟩
      case round =>
        obtain ⟨q, hq, rfl, hN⟩ := hrel
        by_cases hlq : q < 13
        · obtain ⟨y, hy⟩ : ∃ y, reservedS[q]? = some y := ⟨_, List.getElem?_eq_getElem (by simpa [reservedS, reservedL] using hlq)⟩
          have hc := HRW.out.cell (i := q) (u := .string y) (by unfold strs; rw [List.getElem?_map, hy]; rfl)
          have HY : Hid (reservedL[q]? = some (tx y)) := by unfold Hid; rw [← txs_reserved]; unfold txs; rw [List.getElem?_map, hy]; rfl
          clear hy
          by_cases hxy : tx s = tx y
          · have hxx : (s.toList == y.toList) = true := by rw [tx_eq]; simp [hxy]
            have HF : Hid (nameB (tx s) = false) := nameB_res (by rw [hxy]; exact List.mem_of_getElem? HY.out)
            clear hxy
            go_wp2
            go_ret
            exact ⟨ret_bool HF.out.symm, HBW.out⟩
          · have hxx : (s.toList == y.toList) = false := by rw [tx_eq]; simpa using hxy
            have HF : Hid (tx s ∉ reservedL.take (q + 1)) := not_take_succS HY.out hN.out hxy
            clear hxy
            go_wp2
            go_round
            case rel => exact ⟨q + 1, hlq, by go_num, HF⟩
            case measure => simp [intOf]; omega
        · obtain rfl : q = 13 := by omega
          have HF : Hid (decide (tx s ∈ reservedL) = false) := decide_eq_false (by have := hN.out; rwa [List.take_of_length_le (by simp [reservedL])] at this)
          go_wp2_with (go_at_call 29; refine (l1In_any _ _ _ _).mono ?_; rintro e w' ⟨rfl, rfl⟩)
          go_ret
          exact ⟨ret_bool (by rw [HE.out, HF.out]; simp), HBW.out⟩
set_option maxRecDepth 20000 in
theorem l1Names_any (v : Value) (ns : List ByteArray) (w : World) (h : Strs w v ns) (hs : SmallS ns) :
    Calls Tryd.prog 30 #[v] w fun e w' => e = .returned (.bool (colB (txs ns))) ∧ Below w.heap.size w w' := by
  obtain ⟨ad, c, rfl, hmax, hop⟩ := h.open
  unfold maxLen at hmax
  have HOP := Lib.hid hop
  have HZ := Lib.hid hs
  have HLN : Hid ((txs ns).length = ns.length) := txs_length ns
  obtain ⟨n, hn⟩ : ∃ n, ns.length = n := ⟨_, rfl⟩
  rw [hn] at hmax HOP HLN
  have HN := Lib.hid hn
  rw [hn]
  clear hop h hs hn
  go_enter Tryd.func30, Tryd.ntmps30
  go_wp2
  go_loopg [3, 4] n (fun gg i _ wr => ∃ k : Nat, k ≤ n ∧ n - k ≤ gg ∧ i = .int .i64 k ∧ Hid (∀ j, j < k → gdN (txs ns) j = true) ∧ Hid (Below w.heap.size w wr))
  case atStart => exact ⟨0, Nat.zero_le _, Nat.le_refl _, rfl, (fun j hj => by omega), Below.refl _ _⟩
  case round =>
    obtain ⟨k, hk, hgg, rfl, hG, hB⟩ := hrel
    by_cases hlt : k < n
    · have HLT := Lib.hid hlt
      obtain ⟨b, off, rfl, hcell⟩ := HOP.out k hlt
      have HCE : Hid (∀ i, i < n → ∀ W, Below w.heap.size w W → W.cell? ⟨b, off + i, none⟩ = some (sv ns i)) := fun i hi W hW => (hW.cell (p := ⟨b, off + i, none⟩) (World.block_lt_of_cell? w _ (hcell i hi))).trans (hcell i hi)
      obtain ⟨y, hy⟩ : ∃ y, ns[k]?.getD ByteArray.empty = y := ⟨_, rfl⟩
      have hx : sv ns k = .string y := by rw [sv, hy]
      have HSV := Lib.hid hx
      have hc1 := HCE.out k hlt wr hB.out
      rw [hx] at hc1
      have HYZ : Hid (y.size ≤ 9223372036854775807) := by have := HZ.out.at k; rw [hy] at this; unfold Hid; omega
      have HY : Hid ((txs ns)[k]? = some (tx y)) := txs_get (by rw [HN.out]; exact hlt) hy
      have HGD : Hid (gdN (txs ns) k = (nameB (tx y) && !decide (tx y ∈ (txs ns).take k))) := gdN_at HY.out
      have HKL : Hid (k < (txs ns).length) := by rw [HLN.out]; exact hlt
      clear hx hy hcell
      cases hnb : nameB (tx y) with
      | false =>
        have HNB := Lib.hid hnb
        have HF : Hid (colB (txs ns) = false) := colB_bad HKL.out (by rw [HGD.out, hnb]; rfl)
        clear hnb
        go_wp2_with (go_at_call 59; refine (spec_NameValid _ _ HYZ.out).mono ?_; rw [HNB.out]; rintro e w' ⟨rfl, hb⟩; have HB2 := Lib.hid (hB.out.trans (hb.mono hB.out.size)); clear hb)
        go_ret
        exact ⟨ret_bool HF.out.symm, HB2.out⟩
      | true =>
        have HNB := Lib.hid hnb
        clear hnb
        go_wp2_with fail
        refine (spec_NameValid _ _ HYZ.out).mono ?_
        rw [HNB.out]
        rintro e w1 ⟨rfl, hb⟩
        have HB2 := Lib.hid (hB.out.trans (hb.mono hB.out.size))
        clear hb hc1 hB
        go_wp2
        go_loopg [4] k (fun gg j wj => ∃ q : Nat, q ≤ k ∧ k - q ≤ gg ∧ j = .int .i64 q ∧ Hid (tx y ∉ (txs ns).take q) ∧ Hid (Below w.heap.size w wj))
        case atStart => exact ⟨0, Nat.zero_le _, Nat.le_refl _, rfl, by simp [Hid], HB2.out⟩
        case round =>
          obtain ⟨q, hq, hgq, rfl, hN, hBj⟩ := hrel
          by_cases hqk : q < k
          · have HQK := Lib.hid hqk
            have hqn : q < n := by omega
            obtain ⟨z, hz⟩ : ∃ z, ns[q]?.getD ByteArray.empty = z := ⟨_, rfl⟩
            have hzv : sv ns q = .string z := by rw [sv, hz]
            have HZQ : Hid ((txs ns)[q]? = some (tx z)) := txs_get (by rw [HN.out]; exact hqn) hz
            have d0 := HCE.out q hqn _ hBj.out
            have d1 := HCE.out k hlt _ hBj.out
            rw [hzv] at d0
            rw [HSV.out] at d1
            clear hz hzv
            have hd3 : (q : Int) < (n : Int) := by omega
            have hd4 : (k : Int) < (n : Int) := by omega
            by_cases hxy : tx y = tx z
            · have hxx : (z.toList == y.toList) = true := by rw [tx_eq]; simp [hxy]
              have HF : Hid (colB (txs ns) = false) := colB_bad HKL.out (by
                rw [HGD.out, decide_eq_true (show tx y ∈ (txs ns).take k from ?_)]
                · simp
                · rw [hxy]; exact List.mem_of_getElem? (i := q) (by rw [List.getElem?_take, if_pos HQK.out]; exact HZQ.out))
              clear hxy
              go_wp2_with fail
              go_quiet (fail)
              go_wp2
              go_ret
              exact ⟨ret_bool HF.out.symm, by first | exact hBj.out | exact hBj.out.drew | exact below_drewN hBj.out _⟩
            · have hxx : (z.toList == y.toList) = false := by rw [tx_eq]; simpa using fun e => hxy e.symm
              have HF : Hid (tx y ∉ (txs ns).take (q + 1)) := not_take_succS HZQ.out hN.out hxy
              clear hxy
              go_wp2_with fail
              go_quiet (fail)
              go_wp2
              go_roundg (k - (q + 1))
              case rel => exact ⟨q + 1, HQK.out, Nat.le_refl _, by go_num, HF, by first | exact hBj.out | exact hBj.out.drew | exact below_drewN hBj.out _⟩
              case measure => have := HQK.out; omega
          · obtain rfl : q = k := by omega
            have HF : Hid (∀ j, j < q + 1 → gdN (txs ns) j = true) := fun j hj => by
              by_cases e : j = q
              · subst e; rw [HGD.out, HNB.out, decide_eq_false hN.out]; rfl
              · exact hG.out j (by omega)
            go_wp2
            go_roundg (n - (q + 1))
            case rel => exact ⟨q + 1, HLT.out, Nat.le_refl _, by go_num, HF, hBj.out⟩
            case measure => have := HLT.out; omega
    · obtain rfl : k = n := by omega
      have HF : Hid (colB (txs ns) = inB k 1 6) := by
        have := colB_end (ns := txs ns) (fun j hj => hG.out j (by rw [HLN.out] at hj; exact hj))
        rwa [HLN.out] at this
      go_wp2_with (go_at_call 29; refine (l1In_any _ _ _ _).mono ?_; rintro e w' ⟨rfl, rfl⟩)
      go_ret
      exact ⟨ret_bool HF.out.symm, hB.out⟩
set_option maxRecDepth 20000 in
set_option maxHeartbeats 400000 in
theorem spec_TableValid (v : Value) (ns : List ByteArray) (n : Nat) (f : Nat → List Int) (w : World) (h : TabIn w v ns n f) (hs : SmallS ns) :
    Calls Tryd.prog 10 #[v] w fun e w' => e = .returned (.bool (tabB (txs ns) n f)) ∧ Below w.heap.size w w' := by
  obtain ⟨nv, rv, rfl, h1, h2⟩ := h
  obtain ⟨ad, c, hu, hmax, _⟩ := h1.open
  subst hu
  obtain ⟨ad2, c2, hu, hmax2, hop⟩ := h2.open
  subst hu
  unfold maxLen at hmax hmax2
  have hb := (Below.refl w.heap.size w).alloc (Nat.le_refl _) (.cells #[.slice ad ns.length c, .slice ad2 n c2] 26)
  obtain ⟨m, hm⟩ : ∃ m, ns.length = m := ⟨_, rfl⟩
  have HM := Lib.hid hm
  have HROW : Hid (Row (w.alloc (.cells #[.slice ad m c, .slice ad2 n c2] 26)) w.heap.size 26 [.slice ad m c, .slice ad2 n c2]) := Row.new w 26 [.slice ad m c, .slice ad2 n c2]
  have HST := Lib.hid (h1.mono hb (Nat.le_refl _))
  have HOP := Lib.hid hop
  have HB0 := Lib.hid hb
  have HS := Lib.hid hs
  have HT : Hid (tabB (txs ns) n f = (colB (txs ns) && (decide (n ≤ 16) && rowsB m n f))) := by unfold Hid tabB; rw [txs_length, hm]
  rw [hm] at hmax HST HB0 ⊢
  clear h1 h2 hb hs hm hop
  go_enter Tryd.func10, Tryd.ntmps10
  go_wp2_with fail
  obtain ⟨g, hg⟩ : ∃ g, w.heap.size = g := ⟨_, rfl⟩
  have HGZ := Lib.hid hg
  rw [hg] at HROW HB0 ⊢
  generalize (w.alloc (.cells #[.slice ad m c, .slice ad2 n c2] 26)) = W at HROW HST HB0 ⊢
  clear hg
  have HGL : Hid (g ≤ W.heap.size) := by unfold Hid; rw [← HGZ.out]; exact HB0.out.size
  go_loopg [3, 4] n (fun gg i _ wr => ∃ k : Nat, k ≤ n ∧ n - k ≤ gg ∧ i = .int .i64 k ∧ Hid (∀ j, j < k → rowB m (f j) = true) ∧ Hid (Below W.heap.size W wr))
  case atStart => exact ⟨0, Nat.zero_le _, Nat.le_refl _, rfl, (fun j hj => by omega), Below.refl _ _⟩
  case round =>
    obtain ⟨k, hk, hgg, rfl, hG, hB⟩ := hrel
    have HX := Lib.hid (HROW.out.mono hB.out HROW.out.lt)
    have x0 := HX.out.cell (i := 0) rfl
    have x1 := HX.out.cell (i := 1) rfl
    by_cases hlt : k < n
    · have HLT := Lib.hid hlt
      obtain ⟨b, off, rfl, hcell⟩ := HOP.out k hlt
      obtain ⟨a', c', hc1, hi⟩ := hcell k hlt
      have hW0 : Below g w wr := HB0.out.trans (hB.out.mono HGL.out)
      have hc2 := (hW0.cell (p := ⟨b, off + k, none⟩) (by rw [← HGZ.out]; exact World.block_lt_of_cell? w _ hc1)).trans hc1
      obtain ⟨l, hl⟩ : ∃ l, (f k).length = l := ⟨_, rfl⟩
      have hlm : l ≤ 9223372036854775807 := by obtain ⟨_, _, _, h9, _⟩ := hi.open; unfold maxLen at h9; omega
      rw [hl] at hc2
      have HC2 := Lib.hid hc2
      have HL := Lib.hid hl
      have hd4 : (k : Int) < (n : Int) := by omega
      clear hcell hl hi hc1 hW0
      by_cases hlm2 : l = m
      · have hne : ((l : Int) != (m : Int)) = false := by simp [hlm2]
        have HLM := Lib.hid hlm2
        clear hlm2
        go_wp2_with fail
        go_quiet (fail)
        clear hc2 x0 x1
        go_wp2
        go_loopg [4] l (fun gg j wj => ∃ q : Nat, q ≤ l ∧ l - q ≤ gg ∧ j = .int .i64 q ∧ Hid (∀ x ∈ (f k).take q, okV x = true) ∧ Hid (Below W.heap.size W wj))
        case atStart => exact ⟨0, Nat.zero_le _, Nat.le_refl _, rfl, (fun x hx => by simp at hx), by first | exact hB.out | exact hB.out.drew | exact below_drewN hB.out _⟩
        case round =>
          obtain ⟨q, hq, hgq, rfl, hN, hBj⟩ := hrel
          have HXj := Lib.hid (HROW.out.mono hBj.out HROW.out.lt)
          have x0 := HXj.out.cell (i := 0) rfl
          have x1 := HXj.out.cell (i := 1) rfl
          obtain ⟨a2, c2', hc1, hi⟩ : ∃ a2 c2', w.cell? ⟨b, off + k, none⟩ = some (.slice a2 l c2') ∧ Ints w (.slice a2 l c2') (f k) := by
            obtain ⟨b9, off9, e9, h9⟩ := HOP.out k HLT.out
            cases e9
            obtain ⟨a2, c2', h1, h2⟩ := h9 k HLT.out
            rw [HL.out] at h1 h2
            exact ⟨a2, c2', h1, h2⟩
          have hWj : Below g w _ := HB0.out.trans (hBj.out.mono HGL.out)
          have hc2 := (hWj.cell (p := ⟨b, off + k, none⟩) (by rw [← HGZ.out]; exact World.block_lt_of_cell? w _ hc1)).trans hc1
          by_cases hql : q < l
          · have HQL := Lib.hid hql
            obtain ⟨x, hx⟩ : ∃ x, (f k)[q]? = some x := ⟨_, List.getElem?_eq_getElem (by rw [HL.out]; exact hql)⟩
            obtain ⟨b3, off3, hb3, hc3⟩ := ints_at hi HL.out hx
            subst hb3
            have hc4 := (hWj.cell (p := ⟨b3, off3 + q, none⟩) (by rw [← HGZ.out]; exact World.block_lt_of_cell? w _ hc3)).trans hc3
            have HXX := Lib.hid hx
            have hd5 : (q : Int) < (l : Int) := by omega
            clear hc1 hi hc3 hx hWj
            cases hok : okV x with
            | false =>
              have HOK : Hid (inB x (-100000) 100000 = false) := hok
              have HF : Hid (rowsB m n f = false) := rowsB_bad HLT.out (by
                unfold rowB
                rw [show (f k).all okV = false from by rw [List.all_eq_false]; exact ⟨x, List.mem_of_getElem? HXX.out, by simp [hok]⟩, Bool.and_false])
              clear hok
              go_wp2_with (go_at_call 29; refine (l1In_any _ _ _ _).mono ?_; rw [HOK.out]; rintro e w' ⟨rfl, rfl⟩)
              go_ret
              exact ⟨ret_bool (by rw [HT.out, HF.out]; simp), by rw [HGZ.out]; exact HB0.out.trans (hBj.out.mono HGL.out)⟩
            | true =>
              have HOK : Hid (inB x (-100000) 100000 = true) := hok
              have HF : Hid (∀ y ∈ (f k).take (q + 1), okV y = true) := fun y hy => by
                rw [take_next HXX.out] at hy
                rcases List.mem_append.1 hy with hy | hy
                · exact hN.out y hy
                · obtain rfl : y = x := by simpa using hy
                  exact hok
              clear hok
              go_wp2_with (go_at_call 29; refine (l1In_any _ _ _ _).mono ?_; rw [HOK.out]; rintro e w' ⟨rfl, rfl⟩)
              go_roundg (l - (q + 1))
              case rel => exact ⟨q + 1, HQL.out, Nat.le_refl _, by go_num, HF, hBj.out⟩
              case measure => have := HQL.out; omega
          · obtain rfl : q = l := by omega
            have HF : Hid (∀ j, j < k + 1 → rowB m (f j) = true) := fun j hj => by
              by_cases e : j = k
              · subst e
                unfold rowB
                rw [HL.out, decide_eq_true HLM.out, Bool.true_and, List.all_eq_true]
                intro x hx
                refine hN.out x ?_
                rw [List.take_of_length_le (by rw [HL.out]; exact Nat.le_refl _)]; exact hx
              · exact hG.out j (by omega)
            clear hc1 hi hWj
            go_wp2
            go_roundg (n - (k + 1))
            case rel => exact ⟨k + 1, HLT.out, Nat.le_refl _, by go_num, HF, hBj.out⟩
            case measure => have := HLT.out; omega
      · have hne : ((l : Int) != (m : Int)) = true := by simp; omega
        have HF : Hid (rowsB m n f = false) := rowsB_bad HLT.out (by unfold rowB; rw [HL.out, decide_eq_false hlm2, Bool.false_and])
        clear hlm2
        go_wp2_with fail
        go_quiet (fail)
        go_wp2
        go_ret
        exact ⟨ret_bool (by rw [HT.out, HF.out]; simp), by rw [HGZ.out]; exact HB0.out.trans (Below.mono (by first | exact hB.out | exact hB.out.drew | exact below_drewN hB.out _) HGL.out)⟩
    · obtain rfl : k = n := by omega
      have HF : Hid (rowsB m k f = true) := rowsB_end hG.out
      have HV := Lib.hid (HST.out.mono hB.out (Nat.le_refl _))
      obtain ⟨r, hr⟩ : ∃ r, colB (txs ns) = r := ⟨_, rfl⟩
      have HRR := Lib.hid hr
      have hd16 : decide ((k : Int) ≤ 16) = decide (k ≤ 16) := by
        rw [Bool.eq_iff_iff, decide_eq_true_eq, decide_eq_true_eq]; omega
      have HD := Lib.hid hd16
      clear hr hd16
      go_wp2_with fail
      refine (l1Names_any _ _ _ HV.out HS.out).mono ?_
      rw [HRR.out]
      rintro e w1 ⟨rfl, hb⟩
      have HX2 := Lib.hid (HX.out.mono hb HX.out.lt)
      have y0 := HX2.out.cell (i := 0) rfl
      have y1 := HX2.out.cell (i := 1) rfl
      have HB2 : Hid (Below w.heap.size w w1) := by unfold Hid; rw [HGZ.out]; exact HB0.out.trans ((hB.out.trans (hb.mono hB.out.size)).mono HGL.out)
      clear hb x0 x1
      cases r
      · go_wp2
        go_ret
        exact ⟨ret_bool (by rw [HT.out, HRR.out]; rfl), HB2.out⟩
      · by_cases h16 : k ≤ 16
        · have h16z : (k : Int) ≤ 16 := by omega
          go_wp2
          go_ret
          exact ⟨ret_bool (by rw [HT.out, HRR.out, HF.out, decide_eq_true h16]; rfl), HB2.out⟩
        · have h16z : decide ((k : Int) ≤ 16) = false := decide_eq_false (by omega)
          go_wp2
          go_ret
          exact ⟨ret_bool (by rw [HT.out, HRR.out, HF.out, decide_eq_false h16]; rfl), HB2.out⟩
end Go.Proofs.YtajgghifamebkaaDoor
