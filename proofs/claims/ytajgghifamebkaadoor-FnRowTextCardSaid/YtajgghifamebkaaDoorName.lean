/- contracts of slices.Index, slices.Contains at strings, of NameValid (impl) and of alive -/
import Derived.Test.YtajgghifamebkaaDoorChecked
import Derived.Test.YtajgghifamebkaaDoorMem
import Derived.Test.YtajgghifamebkaaDoorScal
namespace Go.Proofs.YtajgghifamebkaaDoor
set_option linter.unusedSimpArgs false
set_option linter.unusedVariables false
open Go.RowKit
/-- a slice of strings -/
def sv (ss : List ByteArray) (j : Nat) : Value := .string (ss[j]?.getD ByteArray.empty)
def strs (ss : List ByteArray) : List Value := ss.map Value.string
@[simp] theorem strs_length (ss : List ByteArray) : (strs ss).length = ss.length := by simp [strs]
theorem strs_get {ss : List ByteArray} {i : Nat} (h : i < ss.length) : (strs ss)[i]? = some (sv ss i) := by simp [strs, sv, h]
def Strs (w : World) (v : Value) (ss : List ByteArray) : Prop := View w 1 v ss.length (strs ss)
theorem Strs.mono {w w' : World} {v ss} (h : Strs w v ss) {B : Nat} (hb : Below B w w') (hB : w.heap.size ≤ B) : Strs w' v ss := View.mono h hb hB
theorem Strs.open {w : World} {v ss} (h : Strs w v ss) : ∃ ad c, v = .slice ad ss.length c ∧ ss.length ≤ maxLen ∧ ∀ i, i < ss.length → ∃ b off, ad = some ⟨b, off, none⟩ ∧ ∀ i, i < ss.length → w.cell? ⟨b, off + i, none⟩ = some (sv ss i) := by
  obtain ⟨h1, h2, ⟨h3, a, c, hv⟩ | ⟨h3, b, off, c, hv, hc, hcell⟩⟩ := h
  · rw [h3]; exact ⟨a, c, hv, Nat.zero_le _, fun i hi => by omega⟩
  · exact ⟨_, c, hv, h2, fun i hi => ⟨b, off, rfl, fun i hi => hcell i _ (strs_get hi)⟩⟩
/-- the letters of a text -/
def tx (s : ByteArray) : List UInt8 := s.data.toList
def txs (ss : List ByteArray) : List (List UInt8) := ss.map tx
@[simp] theorem txs_length (ss : List ByteArray) : (txs ss).length = ss.length := by simp [txs]
theorem tx_eq (x y : ByteArray) : (x.toList == y.toList) = (tx x == tx y) := by rw [ByteArray.toList_eq, ByteArray.toList_eq]; rfl
theorem tx_inj {a b : ByteArray} (h : tx a = tx b) : a = b := Go.WideShapes.bytes_inj h
theorem txs_get {ss : List ByteArray} {k : Nat} {y : ByteArray} (h : k < ss.length) (hk : ss[k]?.getD ByteArray.empty = y) : (txs ss)[k]? = some (tx y) := by
  simp [txs, h] at hk ⊢
  rw [hk]
/-- the first place of a text, or -1 -/
def indexS (ss : List (List UInt8)) (x : List UInt8) : Int := if x ∈ ss then (ss.idxOf x : Int) else -1
theorem indexS_at {ss : List (List UInt8)} {x : List UInt8} {k : Nat} (hk : ss[k]? = some x) (hn : x ∉ ss.take k) : indexS ss x = k := by
  obtain ⟨h, hv⟩ := List.getElem?_eq_some_iff.1 hk
  have hm : x ∈ ss := hv ▸ List.getElem_mem h
  have e : ss = ss.take k ++ x :: ss.drop (k + 1) := by
    rw [← hv, List.getElem_cons_drop, List.take_append_drop]
  unfold indexS
  rw [if_pos hm]
  have : ss.idxOf x = k := by
    rw [e, List.idxOf_append, if_neg hn, List.idxOf_cons_self]
    simp [Nat.le_of_lt h]
  omega
theorem indexS_none {ss : List (List UInt8)} {x : List UInt8} (h : x ∉ ss) : indexS ss x = -1 := if_neg h
theorem not_take_succS {ss : List (List UInt8)} {x y : List UInt8} {k : Nat} (hy : ss[k]? = some y) (hn : x ∉ ss.take k) (hk : ¬ x = y) : x ∉ ss.take (k + 1) := by
  obtain ⟨h, hv⟩ := List.getElem?_eq_some_iff.1 hy
  rw [List.take_succ_eq_append_getElem h]
  simp only [List.mem_append, List.mem_singleton, not_or]
  exact ⟨hn, fun e => hk (by rw [e, hv])⟩
theorem indexS_ge (ss : List (List UInt8)) (x : List UInt8) : decide (0 ≤ indexS ss x) = decide (x ∈ ss) := by
  unfold indexS
  by_cases h : x ∈ ss
  · rw [if_pos h]; simp [h]
  · rw [if_neg h]; simp [h]
theorem indexS_any (v : Value) (ss : List ByteArray) (x : ByteArray) (w : World) (h : Strs w v ss) :
    Calls Tryd.prog 80 #[v, .string x] w fun e w' => e = .returned (.int .i64 (indexS (txs ss) (tx x))) ∧ w = w' := by
  obtain ⟨ad, c, rfl, hmax, hop⟩ := h.open
  unfold maxLen at hmax
  have HOP := Lib.hid hop
  clear hop h
  go_enter Tryd.func80, Tryd.ntmps80
  go_wp2
  go_loop [8] (fun i => ∃ k : Nat, k ≤ ss.length ∧ i = .int .i64 k ∧ Hid (tx x ∉ (txs ss).take k)) (fun i => ss.length - (intOf i).toNat)
  case atStart => exact ⟨0, Nat.zero_le _, rfl, by simp [Hid]⟩
  case round =>
    obtain ⟨k, hk, rfl, hN⟩ := hrel
    by_cases hlt : k < ss.length
    · obtain ⟨b, off, rfl, hcell⟩ := HOP.out k hlt
      have hc1 := hcell k hlt
      clear hcell
      obtain ⟨y, hy⟩ : ∃ y, ss[k]?.getD ByteArray.empty = y := ⟨_, rfl⟩
      have hx : sv ss k = .string y := by rw [sv, hy]
      rw [hx] at hc1
      have HY : Hid ((txs ss)[k]? = some (tx y)) := txs_get hlt hy
      clear hx hy
      by_cases hxy : tx x = tx y
      · have hxx : (x.toList == y.toList) = true := by rw [tx_eq]; simp [hxy]
        have HF : Hid (indexS (txs ss) (tx x) = k) := by rw [hxy]; exact indexS_at HY.out (by rw [← hxy]; exact hN.out)
        clear hxy
        go_wp2
        go_ret
        exact ⟨ret_int HF.out.symm, rfl⟩
      · have hxx : (x.toList == y.toList) = false := by rw [tx_eq]; simpa using hxy
        have HF : Hid (tx x ∉ (txs ss).take (k + 1)) := not_take_succS HY.out hN.out hxy
        clear hxy
        go_wp2
        go_round
        case rel => exact ⟨k + 1, hlt, by go_num, HF⟩
        case measure => simp [intOf]; omega
    · obtain rfl : k = ss.length := by omega
      have HF : Hid (indexS (txs ss) (tx x) = -1) := indexS_none (by have := hN.out; rwa [List.take_of_length_le (by simp)] at this)
      go_wp2
      go_ret
      exact ⟨ret_int HF.out.symm, rfl⟩
theorem containsS_any (v : Value) (ss : List ByteArray) (x : ByteArray) (w : World) (h : Strs w v ss) :
    Calls Tryd.prog 60 #[v, .string x] w fun e w' => e = .returned (.bool (decide (tx x ∈ txs ss))) ∧ w = w' := by
  have H := Lib.hid h
  clear h
  go_enter Tryd.func60, Tryd.ntmps60
  go_wp2_with (go_at_call 80; refine (indexS_any _ _ _ _ H.out).mono ?_; rintro e w' ⟨rfl, rfl⟩)
  go_ret
  exact ⟨ret_bool (indexS_ge _ _), rfl⟩
/-- a small letter -/
def lowB (c : UInt8) : Bool := 97 ≤ c && c ≤ 122
def reservedL : List (List UInt8) := [[115, 101, 108, 101, 99, 116], [102, 114, 111, 109], [106, 111, 105, 110], [111, 110], [119, 104, 101, 114, 101], [97, 110, 100], [111, 114], [103, 114, 111, 117, 112], [98, 121], [115, 117, 109], [111, 114, 100, 101, 114], [100, 111, 119, 110], [108, 105, 109, 105, 116]]
def reservedS : List ByteArray := reservedL.map fun l => ⟨l.toArray⟩
theorem txs_reserved : txs reservedS = reservedL := by rfl
/-- a name -/
def nameB (l : List UInt8) : Bool := l.all lowB && (inB l.length 1 8 && !decide (l ∈ reservedL))
theorem nameB_bad {l : List UInt8} {k : Nat} {c : UInt8} (h : l[k]? = some c) (hc : lowB c = false) : nameB l = false := by
  unfold nameB
  have : l.all lowB = false := by
    rw [List.all_eq_false]
    exact ⟨c, List.mem_of_getElem? h, by simp [hc]⟩
  rw [this, Bool.false_and]
theorem nameB_end {l : List UInt8} (h : ∀ (k : Nat) (c : UInt8), l[k]? = some c → lowB c = true) : nameB l = (inB l.length 1 8 && !decide (l ∈ reservedL)) := by
  unfold nameB
  have : l.all lowB = true := by
    rw [List.all_eq_true]
    intro c hc
    obtain ⟨k, hk⟩ := List.getElem?_of_mem hc
    exact h k c hk
  rw [this, Bool.true_and]
/-- the words that the program lists as reserved, in the variable's block -/
def Resv (w : World) : Prop := ∃ v, w.cell? ⟨0, 0, none⟩ = some v ∧ Strs w v reservedS
theorem Resv.mono {w w' : World} (h : Resv w) {B : Nat} (hb : Below B w w') (hB : w.heap.size ≤ B) : Resv w' := by
  obtain ⟨v, hc, hs⟩ := h
  refine ⟨v, ?_, hs.mono hb hB⟩
  rw [hb.cell (p := ⟨0, 0, none⟩) (Nat.lt_of_lt_of_le (World.block_lt_of_cell? w _ hc) hB)]
  exact hc
theorem impl_NameValid (s : ByteArray) (w : World) (h : Resv w) (hs : s.size ≤ 9223372036854775807) :
    Calls Tryd.prog 31 #[.string s] w fun e w' => e = .returned (.bool (nameB (tx s))) ∧ w = w' := by
  obtain ⟨v, hcv, hS⟩ := h
  have HS := Lib.hid hS
  obtain ⟨ad, cc, hv, _, _⟩ := hS.open
  subst hv
  clear hS
  go_enter Tryd.func31, Tryd.ntmps31
  go_wp2
  go_loop [6] (fun i => ∃ k : Nat, k ≤ s.size ∧ i = .int .i64 k ∧ Hid (∀ j c, j < k → (tx s)[j]? = some c → lowB c = true)) (fun i => s.size - (intOf i).toNat)
  case atStart => exact ⟨0, Nat.zero_le _, rfl, fun j c hj => by omega⟩
  case round =>
    obtain ⟨k, hk, rfl, hN⟩ := hrel
    by_cases hlt : k < s.size
    · have HC : Hid ((tx s)[k]? = some s[k]) := by unfold Hid tx; rw [Array.getElem?_toList, Array.getElem?_eq_getElem (by simpa using hlt)]; rfl
      by_cases h1 : ((s[k].toNat : Nat) : Int) < 97
      · have HB : Hid (nameB (tx s) = false) := nameB_bad HC.out (by simp [lowB, UInt8.le_iff_toNat_le]; omega)
        go_wp2
        go_ret
        exact ⟨ret_bool HB.out.symm, rfl⟩
      · have h1' : decide (((s[k].toNat : Nat) : Int) < 97) = false := by simpa using h1
        by_cases h2 : (122 : Int) < ((s[k].toNat : Nat) : Int)
        · have HB : Hid (nameB (tx s) = false) := nameB_bad HC.out (by simp [lowB, UInt8.le_iff_toNat_le]; omega)
          go_wp2
          go_ret
          exact ⟨ret_bool HB.out.symm, rfl⟩
        · have h2' : decide ((122 : Int) < ((s[k].toNat : Nat) : Int)) = false := by simpa using h2
          have HA : Hid (∀ j c, j < k + 1 → (tx s)[j]? = some c → lowB c = true) := fun j c hj hc => by
            by_cases e : j = k
            · subst e
              rw [HC.out] at hc
              cases hc
              simp [lowB, UInt8.le_iff_toNat_le]; omega
            · exact hN.out j c (by omega) hc
          go_wp2
          go_round
          case rel => exact ⟨k + 1, hlt, by go_num, HA⟩
          case measure => simp [intOf]; omega
    · obtain rfl : k = s.size := by omega
      have HE : Hid (nameB (tx s) = (inB s.size 1 8 && !decide (tx s ∈ reservedL))) := by
        have hl : (tx s).length = s.size := by simp [tx]
        rw [← hl]
        exact nameB_end fun k c hc => hN.out k c (by rw [← hl]; exact (List.getElem?_eq_some_iff.1 hc).1) hc
      cases hin : inB (s.size : Int) 1 8
      · have HI := Lib.hid hin
        clear hin
        go_wp2_with (go_at_call 46; refine (in_any _ _ _ _).mono ?_; rw [HI.out]; rintro e w' ⟨rfl, rfl⟩)
        go_ret
        exact ⟨ret_bool (by rw [HE.out, HI.out]; rfl), rfl⟩
      · have HI := Lib.hid hin
        clear hin
        go_wp2_with (first | (go_at_call 46; refine (in_any _ _ _ _).mono ?_; rw [HI.out]; rintro e w' ⟨rfl, rfl⟩) | (go_at_call 60; refine (containsS_any _ _ _ _ HS.out).mono ?_; rw [txs_reserved]; rintro e w' ⟨rfl, rfl⟩))
        go_ret
        exact ⟨ret_bool (by rw [HE.out, HI.out]; rfl), rfl⟩
theorem alive_any (w : World) (h : Resv w) : Calls Tryd.prog 11 #[] w fun e w' => e = .returned (.bool true) ∧ w = w' := by
  have H := Lib.hid h
  clear h
  have hk : nameB (tx ⟨#[107, 101, 121]⟩) = true := by decide +kernel
  have HK := Lib.hid hk
  clear hk
  go_enter Tryd.func11, Tryd.ntmps11
  go_wp2_with (go_at_call 31; refine (impl_NameValid _ _ H.out (by decide)).mono ?_; rw [HK.out]; rintro e w' ⟨rfl, rfl⟩)
  go_ret
  exact ⟨rfl, rfl⟩
end Go.Proofs.YtajgghifamebkaaDoor
