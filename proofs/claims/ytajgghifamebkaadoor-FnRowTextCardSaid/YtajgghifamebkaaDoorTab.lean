/- TableValid of the program -/
import Derived.Test.YtajgghifamebkaaDoorTabP
namespace Go.Proofs.YtajgghifamebkaaDoor
set_option linter.unusedSimpArgs false
set_option linter.unusedVariables false
open Go.RowKit
set_option maxRecDepth 20000 in
theorem columns_any (v : Value) (ns : List ByteArray) (w : World) (h : Strs w v ns) (hR : Resv w) (hs : SmallS ns) :
    Calls Tryd.prog 54 #[v] w fun e w' => e = .returned (.bool (colB (txs ns))) ∧ w = w' := by
  obtain ⟨ad, c, rfl, hmax, hop⟩ := h.open
  unfold maxLen at hmax
  have hcap := h.cap
  have HOP := Lib.hid hop
  have HS := Lib.hid h
  have HR := Lib.hid hR
  have HZ := Lib.hid hs
  have HLN : Hid ((txs ns).length = ns.length) := txs_length ns
  clear hop h hR hs
  go_enter Tryd.func54, Tryd.ntmps54
  go_wp2
  go_loop [3, 4, 7] (fun _ _ i => ∃ k : Nat, k ≤ ns.length ∧ i = .int .i64 k ∧ Hid (∀ j, j < k → gdN (txs ns) j = true)) (fun _ _ i => ns.length - (intOf i).toNat)
  case atStart => exact ⟨0, Nat.zero_le _, rfl, fun j hj => by omega⟩
  case round =>
    obtain ⟨k, hk, rfl, hN⟩ := hrel
    by_cases hlt : k < ns.length
    · obtain ⟨b, off, rfl, hcell⟩ := HOP.out k hlt
      have hc1 := hcell k hlt
      clear hcell
      obtain ⟨y, hy⟩ : ∃ y, ns[k]?.getD ByteArray.empty = y := ⟨_, rfl⟩
      have hx : sv ns k = .string y := by rw [sv, hy]
      rw [hx] at hc1
      have HYZ : Hid (y.size ≤ 9223372036854775807) := by have := HZ.out.at k; rw [hy] at this; unfold Hid; omega
      have HY : Hid ((txs ns)[k]? = some (tx y)) := txs_get hlt hy
      have HG : Hid (gdN (txs ns) k = (nameB (tx y) && !decide (tx y ∈ (txs ns).take k))) := gdN_at HY.out
      have HLT : Hid (k < (txs ns).length) := by rw [HLN.out]; exact hlt
      clear hx hy
      cases hn : nameB (tx y) with
      | false =>
        have HNB := Lib.hid hn
        have HF : Hid (colB (txs ns) = false) := colB_bad HLT.out (by rw [HG.out, hn]; rfl)
        clear hn
        go_wp2_with (go_at_call 31; refine (impl_NameValid _ _ HR.out HYZ.out).mono ?_; rw [HNB.out]; rintro e w' ⟨rfl, rfl⟩)
        go_ret
        exact ⟨ret_bool HF.out.symm, rfl⟩
      | true =>
        have HNB := Lib.hid hn
        have HT : Hid (Strs w (.slice (some ⟨b, off, none⟩) k c) (ns.take k)) := strs_take HS.out (by omega)
        have hkc : (k : Int) ≤ (c : Int) := by omega
        by_cases hm : tx y ∈ (txs ns).take k
        · have HM : Hid (decide (tx y ∈ (txs ns).take k) = true) := decide_eq_true hm
          have HF : Hid (colB (txs ns) = false) := colB_bad HLT.out (by rw [HG.out, HM.out]; simp)
          clear hn hm
          go_wp2_with (first
            | (go_at_call 31; refine (impl_NameValid _ _ HR.out HYZ.out).mono ?_; rw [HNB.out]; rintro e w' ⟨rfl, rfl⟩)
            | (go_at_call 60; refine (containsS_any _ _ _ _ HT.out).mono ?_; rw [txs_take, HM.out]; rintro e w' ⟨rfl, rfl⟩))
          go_ret
          exact ⟨ret_bool HF.out.symm, rfl⟩
        · have HM : Hid (decide (tx y ∈ (txs ns).take k) = false) := decide_eq_false hm
          have HF : Hid (∀ j, j < k + 1 → gdN (txs ns) j = true) := fun j hj => by
            by_cases e : j = k
            · subst e; rw [HG.out, HM.out, hn]; rfl
            · exact hN.out j (by omega)
          clear hn hm
          go_wp2_with (first
            | (go_at_call 31; refine (impl_NameValid _ _ HR.out HYZ.out).mono ?_; rw [HNB.out]; rintro e w' ⟨rfl, rfl⟩)
            | (go_at_call 60; refine (containsS_any _ _ _ _ HT.out).mono ?_; rw [txs_take, HM.out]; rintro e w' ⟨rfl, rfl⟩))
          go_round
          case rel => exact ⟨k + 1, hlt, by go_num, HF⟩
          case measure => simp [intOf]; omega
    · obtain rfl : k = ns.length := by omega
      have HF : Hid (colB (txs ns) = inB ns.length 1 6) := by
        have := colB_end (ns := txs ns) (fun j hj => hN.out j (by rw [HLN.out] at hj; exact hj))
        rwa [HLN.out] at this
      go_wp2_with (go_at_call 46; refine (in_any _ _ _ _).mono ?_; rintro e w' ⟨rfl, rfl⟩)
      go_ret
      exact ⟨ret_bool HF.out.symm, rfl⟩
set_option maxRecDepth 20000 in
theorem rowsFit1_any (x : Int) (w : World) : Calls Tryd.prog 77 #[.int .i64 x] w fun e w' => e = .returned (.bool (!okV x)) ∧ w = w' := by
  have H : Hid (inB x (-100000) 100000 = okV x) := rfl
  go_enter Tryd.func77, Tryd.ntmps77
  go_wp2_with (first
    | (go_at_call 46; refine (in_any _ _ _ _).mono ?_; rw [H.out]; rintro e w' ⟨rfl, rfl⟩)
    | go_in)
  go_ret
  exact ⟨rfl, rfl⟩
set_option maxRecDepth 20000 in
theorem indexBad_any (v : Value) (xs : List Int) (w : World) (h : Ints w v xs) :
    Calls Tryd.prog 92 #[v, .func (.func 77) #[] #[]] w fun e w' => e = .returned (.int .i64 (idxB (fun x => !okV x) xs)) ∧ w = w' := by
  obtain ⟨ad, c, rfl, hmax, hop⟩ := h.open
  unfold maxLen at hmax
  have HOP := Lib.hid hop
  clear hop h
  go_enter Tryd.func92, Tryd.ntmps92
  go_wp2
  go_loop [5, 8] (fun _ i => ∃ k : Nat, k ≤ xs.length ∧ i = .int .i64 k ∧ Hid (∀ b ∈ xs.take k, (!okV b) = false)) (fun _ i => xs.length - (intOf i).toNat)
  case atStart => exact ⟨0, Nat.zero_le _, rfl, fun b hb => by simp at hb⟩
  case round =>
    obtain ⟨k, hk, rfl, hN⟩ := hrel
    by_cases hlt : k < xs.length
    · obtain ⟨b, off, rfl, hcell⟩ := HOP.out k hlt
      have hc1 := hcell k hlt
      clear hcell
      obtain ⟨y, hy⟩ : ∃ y, xs[k]? = some y := ⟨_, List.getElem?_eq_getElem hlt⟩
      have hx : iv xs k = .int .i64 y := by rw [iv, hy]; rfl
      rw [hx] at hc1
      have HY := Lib.hid hy
      clear hx hy
      cases hp : (!okV y) with
      | true =>
        have HP : Hid (idxB (fun x => !okV x) xs = k) := idxB_at (p := fun x => !okV x) HY.out hp hN.out
        have HPX := Lib.hid hp
        clear hp
        go_wp2_with (go_at_call 77; refine (rowsFit1_any _ _).mono ?_; rw [HPX.out]; rintro e w' ⟨rfl, rfl⟩)
        go_ret
        exact ⟨ret_int HP.out.symm, rfl⟩
      | false =>
        have HF : Hid (∀ b ∈ xs.take (k + 1), (!okV b) = false) := take_false (p := fun x => !okV x) HY.out hp hN.out
        have HPX := Lib.hid hp
        clear hp
        go_wp2_with (go_at_call 77; refine (rowsFit1_any _ _).mono ?_; rw [HPX.out]; rintro e w' ⟨rfl, rfl⟩)
        go_round
        case rel => exact ⟨k + 1, hlt, by go_num, HF⟩
        case measure => simp [intOf]; omega
    · obtain rfl : k = xs.length := by omega
      have HP : Hid (idxB (fun x => !okV x) xs = -1) := idxB_none (p := fun x => !okV x) (by have := hN.out; rwa [List.take_length] at this)
      go_wp2
      go_ret
      exact ⟨ret_int HP.out.symm, rfl⟩
set_option maxRecDepth 20000 in
theorem containsBad_any (v : Value) (xs : List Int) (w : World) (h : Ints w v xs) :
    Calls Tryd.prog 76 #[v, .func (.func 77) #[] #[]] w fun e w' => e = .returned (.bool (!xs.all okV)) ∧ w = w' := by
  have H := Lib.hid h
  have HG : Hid (decide (0 ≤ idxB (fun x => !okV x) xs) = !xs.all okV) := (idxB_ge _ xs).trans any_not
  clear h
  go_enter Tryd.func76, Tryd.ntmps76
  go_wp2_with (go_at_call 92; refine (indexBad_any _ _ _ H.out).mono ?_; rintro e w' ⟨rfl, rfl⟩)
  go_ret
  exact ⟨ret_bool HG.out, rfl⟩
set_option maxRecDepth 20000 in
theorem rowsFit_any (v u : Value) (ns : List ByteArray) (n : Nat) (f : Nat → List Int) (w : World) (h : Strs w v ns) (g : IntSS w u n f) :
    Calls Tryd.prog 55 #[v, u] w fun e w' => e = .returned (.bool (rowsB ns.length n f)) ∧ w = w' := by
  obtain ⟨ad, c, rfl, hmax, _⟩ := h.open
  obtain ⟨ad2, c2, rfl, hmax2, hop⟩ := g.open
  unfold maxLen at hmax hmax2
  have HOP := Lib.hid hop
  obtain ⟨m, hm⟩ : ∃ m, ns.length = m := ⟨_, rfl⟩
  rw [hm] at hmax ⊢
  clear hop h g hm
  go_enter Tryd.func55, Tryd.ntmps55
  go_wp2
  go_loop [6, 9] (fun _ i => ∃ k : Nat, k ≤ n ∧ i = .int .i64 k ∧ Hid (∀ j, j < k → rowB m (f j) = true)) (fun _ i => n - (intOf i).toNat)
  case atStart => exact ⟨0, Nat.zero_le _, rfl, fun j hj => by omega⟩
  case round =>
    obtain ⟨k, hk, rfl, hN⟩ := hrel
    by_cases hlt : k < n
    · obtain ⟨b, off, rfl, hcell⟩ := HOP.out k hlt
      obtain ⟨a', c', hc1, hi⟩ := hcell k hlt
      have HI := Lib.hid hi
      have HLT := Lib.hid hlt
      obtain ⟨l, hl⟩ : ∃ l, (f k).length = l := ⟨_, rfl⟩
      have hlm : l ≤ 9223372036854775807 := by obtain ⟨_, _, _, h9, _⟩ := hi.open; unfold maxLen at h9; omega
      rw [hl] at hc1 hi HI
      have HL := Lib.hid hl
      clear hcell hl hi
      by_cases hlm2 : l = m
      · have hne : ((l : Int) != (m : Int)) = false := by simp [hlm2]
        cases hall : (f k).all okV with
        | false =>
          have HA := Lib.hid hall
          have HF : Hid (rowsB m n f = false) := rowsB_bad HLT.out (by unfold rowB; rw [hall, Bool.and_false])
          clear hall hlm2
          go_wp2_with (go_at_call 76; refine (containsBad_any _ _ _ HI.out).mono ?_; rw [HA.out]; rintro e w' ⟨rfl, rfl⟩)
          go_ret
          exact ⟨ret_bool HF.out.symm, rfl⟩
        | true =>
          have HA := Lib.hid hall
          have HF : Hid (∀ j, j < k + 1 → rowB m (f j) = true) := fun j hj => by
            by_cases e : j = k
            · subst e; unfold rowB; rw [hall, HL.out, hlm2]; simp
            · exact hN.out j (by omega)
          clear hall hlm2
          go_wp2_with (go_at_call 76; refine (containsBad_any _ _ _ HI.out).mono ?_; rw [HA.out]; rintro e w' ⟨rfl, rfl⟩)
          go_round
          case rel => exact ⟨k + 1, hlt, by go_num, HF⟩
          case measure => simp [intOf]; omega
      · have hne : ((l : Int) != (m : Int)) = true := by simp; omega
        have HF : Hid (rowsB m n f = false) := rowsB_bad HLT.out (by unfold rowB; rw [HL.out, decide_eq_false hlm2, Bool.false_and])
        clear hlm2
        go_wp2
        go_ret
        exact ⟨ret_bool HF.out.symm, rfl⟩
    · obtain rfl : k = n := by omega
      have HF : Hid (rowsB m k f = true) := rowsB_end hN.out
      go_wp2
      go_ret
      exact ⟨ret_bool HF.out.symm, rfl⟩
set_option maxRecDepth 20000 in
theorem impl_TableValid (v : Value) (ns : List ByteArray) (n : Nat) (f : Nat → List Int) (w : World) (h : TabIn w v ns n f) (hR : Resv w) (hs : SmallS ns) :
    Calls Tryd.prog 27 #[v] w fun e w' => e = .returned (.bool (tabB (txs ns) n f)) ∧ Below w.heap.size w w' := by
  obtain ⟨nv, rv, rfl, h1, h2⟩ := h
  obtain ⟨ad, c, hu, _, _⟩ := h1.open
  subst hu
  obtain ⟨ad2, c2, hu, _, _⟩ := h2.open
  subst hu
  have hb := (Below.refl w.heap.size w).alloc (Nat.le_refl _) (.cells #[.slice ad ns.length c, .slice ad2 n c2] 26)
  have H1 := Lib.hid (h1.mono hb (Nat.le_refl _))
  have H2 := Lib.hid (h2.mono hb (Nat.le_refl _))
  have HR := Lib.hid (hR.mono hb (Nat.le_refl _))
  have HB := Lib.hid hb
  have HS := Lib.hid hs
  have HT : Hid (tabB (txs ns) n f = (colB (txs ns) && (decide (n ≤ 16) && rowsB ns.length n f))) := by unfold Hid tabB; rw [txs_length]
  clear h1 h2 hR hb hs
  cases hc : colB (txs ns) with
  | false =>
    have HC := Lib.hid hc
    clear hc
    go_enter Tryd.func27, Tryd.ntmps27
    go_wp2_with (go_at_call 54; refine (columns_any _ _ _ H1.out HR.out HS.out).mono ?_; rw [HC.out]; rintro e w' ⟨rfl, rfl⟩)
    go_ret
    exact ⟨ret_bool (by rw [HT.out, HC.out]; rfl), HB.out⟩
  | true =>
    have HC := Lib.hid hc
    clear hc
    by_cases h16 : n ≤ 16
    · have H16 : Hid (decide (n ≤ 16) = true) := decide_eq_true h16
      have h16' : decide ((n : Int) ≤ 16) = true := decide_eq_true (by omega)
      obtain ⟨r, hr⟩ : ∃ r, rowsB ns.length n f = r := ⟨_, rfl⟩
      have HRR := Lib.hid hr
      clear hr
      go_enter Tryd.func27, Tryd.ntmps27
      go_wp2_with (first
        | (go_at_call 54; refine (columns_any _ _ _ H1.out HR.out HS.out).mono ?_; rw [HC.out]; rintro e w' ⟨rfl, rfl⟩)
        | (go_at_call 55; refine (rowsFit_any _ _ _ _ _ _ H1.out H2.out).mono ?_; rw [HRR.out]; rintro e w' ⟨rfl, rfl⟩))
      go_ret
      exact ⟨ret_bool (by rw [HT.out, HC.out, H16.out, HRR.out]; rfl), HB.out⟩
    · have H16 : Hid (decide (n ≤ 16) = false) := decide_eq_false h16
      have h16' : decide ((n : Int) ≤ 16) = false := decide_eq_false (by omega)
      go_enter Tryd.func27, Tryd.ntmps27
      go_wp2_with (go_at_call 54; refine (columns_any _ _ _ H1.out HR.out HS.out).mono ?_; rw [HC.out]; rintro e w' ⟨rfl, rfl⟩)
      go_ret
      exact ⟨ret_bool (by rw [HT.out, HC.out, H16.out]; rfl), HB.out⟩
end Go.Proofs.YtajgghifamebkaaDoor
