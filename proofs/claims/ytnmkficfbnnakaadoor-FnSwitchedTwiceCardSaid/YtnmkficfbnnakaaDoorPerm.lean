/- contracts of slices.Index, slices.Contains at ints, and of PermValid, both -/
import Derived.Test.YtnmkficfbnnakaaDoorChecked
import Derived.Test.YtnmkficfbnnakaaDoorMem
import Derived.Test.YtnmkficfbnnakaaDoorInts
import Derived.Test.YtnmkficfbnnakaaDoorScal
namespace Go.Proofs.YtnmkficfbnnakaaDoor
open Go.RowKit
theorem Ints.mk {w : World} {b off n c : Nat} {xs : List Int} (hl : xs.length = n) (hm : n ≤ maxLen) (hc : n ≤ c) (h : ∀ i, i < n → w.cell? ⟨b, off + i, none⟩ = some (iv xs i)) : Ints w (.slice (some ⟨b, off, none⟩) n c) xs := by
  subst hl
  refine ⟨by simp, hm, ?_⟩
  by_cases h0 : xs.length = 0
  · rw [h0]; exact .inl ⟨rfl, _, _, rfl⟩
  · refine .inr ⟨by omega, b, off, c, rfl, hc, fun i u hu => ?_⟩
    have hi : i < xs.length := by
      have := (List.getElem?_eq_some_iff.1 hu).1
      simpa using this
    rw [ints_get hi] at hu
    cases hu
    exact h i hi
theorem iv_take (xs : List Int) {i k : Nat} (h : i < k) : iv (xs.take k) i = iv xs i := by simp [iv, List.getElem?_take, h]
/-- the first place of a number, or -1 -/
def indexI (xs : List Int) (v : Int) : Int := if v ∈ xs then (xs.idxOf v : Int) else -1
theorem indexI_at {xs : List Int} {v : Int} {k : Nat} (h : k < xs.length) (hk : xs[k]?.getD 0 = v) (hn : v ∉ xs.take k) : indexI xs v = k := by
  have hv : xs[k] = v := by simpa [h] using hk
  have hm : v ∈ xs := hv ▸ List.getElem_mem h
  have e : xs = xs.take k ++ v :: xs.drop (k + 1) := by
    rw [← hv, List.getElem_cons_drop, List.take_append_drop]
  unfold indexI
  rw [if_pos hm]
  have : xs.idxOf v = k := by
    rw [e, List.idxOf_append, if_neg hn, List.idxOf_cons_self]
    simp [Nat.le_of_lt h]
  omega
theorem indexI_none {xs : List Int} {v : Int} (h : v ∉ xs) : indexI xs v = -1 := if_neg h
theorem not_take_succ {xs : List Int} {v : Int} {k : Nat} (h : k < xs.length) (hn : v ∉ xs.take k) (hk : ¬ xs[k]?.getD 0 = v) : v ∉ xs.take (k + 1) := by
  rw [List.take_succ_eq_append_getElem h]
  simp only [List.mem_append, List.mem_singleton, not_or]
  exact ⟨hn, fun e => hk (by simp [h, e])⟩
theorem indexI_ge (xs : List Int) (v : Int) : decide (0 ≤ indexI xs v) = xs.contains v := by
  unfold indexI
  by_cases h : v ∈ xs
  · rw [if_pos h]; simp [h]
  · rw [if_neg h]; simp [h]
theorem indexI_bd (xs : List Int) (v : Int) : -1 ≤ indexI xs v ∧ indexI xs v < xs.length ∨ xs = [] ∧ indexI xs v = -1 := by
  unfold indexI
  by_cases h : v ∈ xs
  · rw [if_pos h]; have := List.idxOf_lt_length_of_mem h; omega
  · rw [if_neg h]; cases xs with
    | nil => exact .inr ⟨rfl, rfl⟩
    | cons a l => left; simp; omega

theorem index_any (v : Value) (xs : List Int) (x : Int) (w : World) (h : Ints w v xs) :
    Calls Tryd.prog 38 #[v, .int .i64 x] w fun e w' => e = .returned (.int .i64 (indexI xs x)) ∧ w = w' := by
  obtain ⟨ad, c, rfl, hmax, hop⟩ := h.open
  unfold maxLen at hmax
  have HOP := Lib.hid hop
  clear hop h
  go_enter Tryd.func38, Tryd.ntmps38
  go_wp2
  go_loop [8] (fun i => ∃ k : Nat, k ≤ xs.length ∧ i = .int .i64 k ∧ Hid (x ∉ xs.take k)) (fun i => xs.length - (intOf i).toNat)
  case atStart => exact ⟨0, Nat.zero_le _, rfl, by simp [Hid]⟩
  case round =>
    obtain ⟨k, hk, rfl, hN⟩ := hrel
    by_cases hlt : k < xs.length
    · obtain ⟨b, off, rfl, hcell⟩ := HOP.out k hlt
      have hc1 := hcell k hlt
      clear hcell
      obtain ⟨y, hy⟩ : ∃ y, xs[k]?.getD 0 = y := ⟨_, rfl⟩
      have hx : iv xs k = .int .i64 y := by rw [iv, hy]
      rw [hx] at hc1
      clear hx
      have HY := Lib.hid hy
      clear hy
      by_cases hxy : x = y
      · subst hxy
        have hxx : (x == x) = true := by simp
        have HF : Hid (indexI xs x = k) := indexI_at hlt HY.out hN.out
        go_wp2
        go_ret
        exact ⟨ret_int HF.out.symm, rfl⟩
      · have hxx : (x == y) = false := by simpa using hxy
        have HF : Hid (x ∉ xs.take (k + 1)) := not_take_succ hlt hN.out (by rw [HY.out]; exact fun e => hxy e.symm)
        clear hxy
        go_wp2
        go_round
        case rel => exact ⟨k + 1, hlt, by go_num, HF⟩
        case measure => simp [intOf]; omega
    · obtain rfl : k = xs.length := by omega
      have HF : Hid (indexI xs x = -1) := indexI_none (by have := hN.out; rwa [List.take_length] at this)
      go_wp2
      go_ret
      exact ⟨ret_int HF.out.symm, rfl⟩
theorem contains_any (v : Value) (xs : List Int) (x : Int) (w : World) (h : Ints w v xs) :
    Calls Tryd.prog 35 #[v, .int .i64 x] w fun e w' => e = .returned (.bool (xs.contains x)) ∧ w = w' := by
  have H := Lib.hid h
  clear h
  go_enter Tryd.func35, Tryd.ntmps35
  go_wp2_with (go_at_call 38; refine (index_any _ _ _ _ H.out).mono ?_; rintro e w' ⟨rfl, rfl⟩)
  go_ret
  exact ⟨ret_bool (indexI_ge _ _), rfl⟩
def okAt (p : List Int) (k : Nat) : Bool := inB (p[k]?.getD 0) 0 ((p.length : Int) - 1) && !(p.take k).contains (p[k]?.getD 0)
/-- 1, 2, 4 or 8 numbers, each from 0 on and less than how many there are, and each once -/
def permB (p : List Int) : Bool := (List.range p.length).all (okAt p) && wideB p.length
theorem permB_bad {p : List Int} {k : Nat} (hk : k < p.length) (h : okAt p k = false) : permB p = false := by
  unfold permB
  rw [Bool.and_eq_false_iff]
  left
  rw [List.all_eq_false]
  exact ⟨k, by simpa using hk, by simp [h]⟩
theorem permB_end {p : List Int} (h : ∀ k, k < p.length → okAt p k = true) : permB p = wideB p.length := by
  unfold permB
  have : (List.range p.length).all (okAt p) = true := by
    rw [List.all_eq_true]
    intro k hk
    exact h k (by simpa using hk)
  rw [this, Bool.true_and]
theorem swc_wide (n : Int) : decide (0 ≤ swc n) = wideB n := by
  rcases wide_cases n with rfl | rfl | rfl | rfl | h
  · rfl
  · rfl
  · rfl
  · rfl
  · rw [(wide_no h).1, (wide_no h).2]; rfl
theorem impl_PermValid (v : Value) (p : List Int) (w : World) (h : Ints w v p) :
    Calls Tryd.prog 25 #[v] w fun e w' => e = .returned (.bool (permB p)) ∧ w = w' := by
  obtain ⟨ad, c, rfl, hmax, hop⟩ := h.open
  have hm := hmax
  unfold maxLen at hmax
  have HOP := Lib.hid hop
  have HH := Lib.hid h
  have HM := Lib.hid hm
  clear hop h hm
  go_enter Tryd.func25, Tryd.ntmps25
  go_wp2
  go_loop [7] (fun i => ∃ k : Nat, k ≤ p.length ∧ i = .int .i64 k ∧ Hid (∀ j, j < k → okAt p j = true)) (fun i => p.length - (intOf i).toNat)
  case atStart => exact ⟨0, Nat.zero_le _, rfl, fun j hj => by omega⟩
  case round =>
    obtain ⟨k, hk, rfl, hN⟩ := hrel
    by_cases hlt : k < p.length
    · obtain ⟨b, off, rfl, hcell⟩ := HOP.out k hlt
      have hc1 := hcell k hlt
      obtain ⟨y, hy⟩ : ∃ y, p[k]?.getD 0 = y := ⟨_, rfl⟩
      have hx : iv p k = .int .i64 y := by rw [iv, hy]
      rw [hx] at hc1
      have HOK : Hid (okAt p k = (inB y 0 ((p.length : Int) - 1) && !(p.take k).contains y)) := by unfold Hid okAt; rw [hy]
      have HV : Hid (Ints w (.slice (some ⟨b, off, none⟩) k c) (p.take k)) := by
        have hlc : p.length ≤ c := by
          rcases HH.out.2.2 with ⟨h0, _⟩ | ⟨_, _, _, _, hv, hc, _⟩
          · omega
          · cases hv; exact hc
        refine Ints.mk (by simp [Nat.le_of_lt hlt]) (Nat.le_trans hk HM.out) (by omega) fun i hi => ?_
        rw [iv_take _ hi]
        exact hcell i (by omega)
      have hlc : k ≤ c := by
        rcases HH.out.2.2 with ⟨h0, _⟩ | ⟨_, _, _, _, hv, hc, _⟩
        · omega
        · cases hv; omega
      clear hcell hx hy
      cases hin : inB y 0 ((p.length : Int) - 1)
      · have HB : Hid (permB p = false) := permB_bad hlt (by rw [HOK.out, hin]; rfl)
        have HI := Lib.hid hin
        clear hin
        go_wp2_with (go_at_call 32; refine (in_any _ _ _ _).mono ?_; rw [HI.out]; rintro e w' ⟨rfl, rfl⟩)
        go_ret
        exact ⟨ret_bool HB.out.symm, rfl⟩
      · have HI := Lib.hid hin
        clear hin
        cases hct : (p.take k).contains y
        · have HA : Hid (∀ j, j < k + 1 → okAt p j = true) := fun j hj => by
            by_cases e : j = k
            · subst e; rw [HOK.out, HI.out, hct]; rfl
            · exact hN.out j (by omega)
          have HC := Lib.hid hct
          clear hct
          go_wp2_with (first | (go_at_call 32; refine (in_any _ _ _ _).mono ?_; rw [HI.out]; rintro e w' ⟨rfl, rfl⟩) | (go_at_call 35; refine (contains_any _ _ _ _ HV.out).mono ?_; rw [HC.out]; rintro e w' ⟨rfl, rfl⟩))
          go_round
          case rel => exact ⟨k + 1, hlt, by go_num, HA⟩
          case measure => simp [intOf]; omega
        · have HB : Hid (permB p = false) := permB_bad hlt (by rw [HOK.out, hct]; simp)
          have HC := Lib.hid hct
          clear hct
          go_wp2_with (first | (go_at_call 32; refine (in_any _ _ _ _).mono ?_; rw [HI.out]; rintro e w' ⟨rfl, rfl⟩) | (go_at_call 35; refine (contains_any _ _ _ _ HV.out).mono ?_; rw [HC.out]; rintro e w' ⟨rfl, rfl⟩))
          go_ret
          exact ⟨ret_bool HB.out.symm, rfl⟩
    · obtain rfl : k = p.length := by omega
      have HB : Hid (permB p = wideB p.length) := permB_end hN.out
      go_wp2_with (go_at_call 20; refine (isWide_any _ _).mono ?_; rintro e w' ⟨rfl, rfl⟩)
      go_ret
      exact ⟨ret_bool HB.out.symm, rfl⟩
/-- which numbers are among the first k -/
def usedV (p : List Int) (k i : Nat) : Value := .bool ((p.take k).contains (i : Int))
theorem used_zero (n : Nat) (p : List Int) : tab n (fun _ => Value.bool false) = tab n (usedV p 0) := tab_congr fun i _ => by simp [usedV]
theorem used_step (n k : Nat) (p : List Int) (y : Int) (hk : k < p.length) (hy : p[k]?.getD 0 = y) (h0 : 0 ≤ y) : (tab n (usedV p k)).set y.toNat (.bool true) = tab n (usedV p (k + 1)) := by
  rw [tab_set]
  refine tab_congr fun i _ => ?_
  have hy' : p[k] = y := by simpa [hk] using hy
  unfold usedV
  rw [List.take_succ_eq_append_getElem hk, hy']
  by_cases h : i = y.toNat
  · subst h; simp [Int.toNat_of_nonneg h0]
  · rw [if_neg h]
    have : ¬ (i : Int) = y := by omega
    simp [this]
theorem spec_PermValid (v : Value) (p : List Int) (w : World) (h : Ints w v p) (hn : p.length ≤ 1048576) :
    Calls Tryd.prog 15 #[v] w fun e w' => e = .returned (.bool (permB p)) ∧ Below w.heap.size w w' := by
  obtain ⟨i0, hi, hz0, hz1, hz2⟩ := info_parts Tryd.infoBool
  obtain ⟨ad, c, rfl, hmax, hop⟩ := h.open
  have hmax' := hmax
  unfold maxLen at hmax'
  have HOP := Lib.hid hop
  clear hop h
  go_enter Tryd.func15, Tryd.ntmps15
  go_wp2_with (at_make; refine wpList_make_full _ rfl _ _ 23 rfl w.heap.size 4 i0 (.bool false) 1 Tryd.underlying23 hi hz0 hz1 _ _ _ _ _ rfl rfl rfl rfl ?b2 ?b3 ?b4 ?_)
  case b2 => rw [hz2]; omega
  case b3 => exact hmax
  case b4 => exact Nat.le_refl _
  · intro w1 hown hgrow
    have hrow := (row_of_own hown).1
    rw [made_tab, used_zero _ p] at hrow
    have hb : Below w.heap.size w w1 := (Below.refl _ _).grown hgrow (Nat.le_refl _) (by simp)
    clear hown hgrow
    go_wp2
    go_loopw [4] (fun i wr => ∃ k : Nat, k ≤ p.length ∧ i = .int .i64 k ∧ Row wr w.heap.size 4 (tab p.length (usedV p k)) ∧ Below w.heap.size w wr ∧ Hid (∀ j, j < k → okAt p j = true)) (fun i _ => p.length - (intOf i).toNat)
    case atStart => exact ⟨0, Nat.zero_le _, rfl, hrow, hb, fun j hj => by omega⟩
    case round =>
      obtain ⟨k, hk, rfl, hrow, hb, hN⟩ := hrel
      by_cases hlt : k < p.length
      · obtain ⟨b, off, rfl, hcell⟩ := HOP.out k hlt
        have hc1 := hcell k hlt
        have hc1 : wr.cell? ⟨b, off + k, none⟩ = some (iv p k) := (hb.cell (p := ⟨b, off + k, none⟩) (World.block_lt_of_cell? w _ hc1)).trans hc1
        obtain ⟨y, hy⟩ : ∃ y, p[k]?.getD 0 = y := ⟨_, rfl⟩
        have hx : iv p k = .int .i64 y := by rw [iv, hy]
        rw [hx] at hc1
        have HY := Lib.hid hy
        have HOK : Hid (okAt p k = (inB y 0 ((p.length : Int) - 1) && !(p.take k).contains y)) := by unfold Hid okAt; rw [hy]
        have HR := Lib.hid hrow
        have HB := Lib.hid hb
        clear hcell hx hy hrow hb
        cases hin : inB y 0 ((p.length : Int) - 1)
        · have HBad : Hid (permB p = false) := permB_bad hlt (by rw [HOK.out, hin]; rfl)
          have HI := Lib.hid hin
          clear hin
          go_wp2_with (go_at_call 28; refine (l1In_any _ _ _ _).mono ?_; rw [HI.out]; rintro e w' ⟨rfl, rfl⟩)
          go_ret
          exact ⟨ret_bool HBad.out.symm, HB.out⟩
        · have HI := Lib.hid hin
          obtain ⟨y0, y1⟩ := inB_iff.1 hin
          clear hin
          have hyl : y.toNat < p.length := by omega
          have hc2 : wr.cell? ⟨w.heap.size, y.toNat, none⟩ = some (usedV p k y.toNat) := HR.out.cell (tab_get _ hyl)
          rw [usedV, Int.toNat_of_nonneg y0] at hc2
          have hf2 := HR.out.free y.toNat
          cases hct : (p.take k).contains y
          · have HA : Hid (∀ j, j < k + 1 → okAt p j = true) := fun j hj => by
              by_cases e : j = k
              · subst e; rw [HOK.out, HI.out, hct]; rfl
              · exact hN.out j (by omega)
            rw [hct] at hc2
            clear hct
            go_wp2_with (go_at_call 28; refine (l1In_any _ _ _ _).mono ?_; rw [HI.out]; rintro e w' ⟨rfl, rfl⟩)
            go_roundw
            case rel => exact ⟨k + 1, hlt, by go_num, by rw [← used_step _ _ _ _ hlt HY.out y0]; exact HR.out.set _ _, HB.out.setCell (Nat.le_refl _) _, HA⟩
            case measure => simp [intOf]; omega
          · have HBad : Hid (permB p = false) := permB_bad hlt (by rw [HOK.out, hct]; simp)
            rw [hct] at hc2
            clear hct
            go_wp2_with (go_at_call 28; refine (l1In_any _ _ _ _).mono ?_; rw [HI.out]; rintro e w' ⟨rfl, rfl⟩)
            go_ret
            exact ⟨ret_bool HBad.out.symm, HB.out⟩
      · obtain rfl : k = p.length := by omega
        have HE : Hid (permB p = wideB p.length) := permB_end hN.out
        have HB := Lib.hid hb
        clear hrow hb
        go_wp2_with (go_at_call 19; refine (spec_sw_any _ _).mono ?_; rintro e w' ⟨rfl, rfl⟩)
        go_ret
        exact ⟨ret_bool ((swc_wide _).trans HE.out.symm), HB.out⟩
end Go.Proofs.YtnmkficfbnnakaaDoor
