/- numbers and their texts: what the library's functions need of the world; the program's functions -/
import Derived.Test.YtajgghifamebkaaDoorTxtT
import Derived.Test.YtajgghifamebkaaDoorScal
import Derived.Test.YtajgghifamebkaaDoorTab
import Derived.Test.YtajgghifamebkaaDoorShelf
import Derived.Lib.AppendIntMem
import Derived.Lib.AtoiErrMem
namespace Go.Proofs.YtajgghifamebkaaDoor
set_option linter.unusedSimpArgs false
set_option linter.unusedVariables false
open Go.RowKit
open Go
theorem var_mono {P : Program} {w w' : World} {nm : String} {cs : Array Value} {B : Nat} (h : w.var? P nm = some cs) (hb : Below B w w') (hB : w.heap.size ≤ B) : w'.var? P nm = some cs := by
  unfold World.var? at h ⊢
  rw [Option.bind_eq_some_iff] at h
  obtain ⟨g, hg, hc⟩ := h
  rw [hg, Option.bind_some]
  have hlt : g < w.heap.size := by
    cases he : w.heap[g]? with
    | none => rw [he] at hc; cases hc
    | some o => exact (Array.getElem?_eq_some_iff.1 he).1
  rw [hb.block g (Nat.lt_of_lt_of_le hlt hB)]
  exact hc
/-- what the library's functions read of the world -/
structure LibW (w : World) : Prop where
  res : Resv w
  max : ∃ m, w.cell? ⟨3, 0, none⟩ = some (.int .i64 m)
  pow : Lib.TabIs Tryd.prog w "internal/strconv.uint64pow10" .u64 Lib.pow10Tab
  syn : ∃ tp p, w.var? Tryd.prog "strconv.ErrSyntax" = some #[.iface tp p]
  rng : ∃ tp p, w.var? Tryd.prog "strconv.ErrRange" = some #[.iface tp p]
theorem LibW.mono {w w' : World} (h : LibW w) {B : Nat} (hb : Below B w w') (hB : w.heap.size ≤ B) : LibW w' := by
  obtain ⟨m, hm⟩ := h.max
  obtain ⟨t1, p1, h1⟩ := h.syn
  obtain ⟨t2, p2, h2⟩ := h.rng
  exact ⟨h.res.mono hb hB, ⟨m, (hb.cell (p := ⟨3, 0, none⟩) (Nat.lt_of_lt_of_le (World.block_lt_of_cell? w _ hm) hB)).trans hm⟩, var_mono h.pow hb hB, ⟨t1, p1, var_mono h1 hb hB⟩, ⟨t2, p2, var_mono h2 hb hB⟩⟩
def mkS (l : List UInt8) : ByteArray := ⟨l.toArray⟩
@[simp] theorem tx_mkS (l : List UInt8) : tx (mkS l) = l := by simp [tx, mkS]
theorem mkS_tx (s : ByteArray) : mkS (tx s) = s := tx_inj (tx_mkS _)
theorem mkS_size (l : List UInt8) : (mkS l).size = l.length := by show l.toArray.size = l.length; simp
theorem tx_size (s : ByteArray) : (tx s).length = s.size := by show s.data.toList.length = s.data.size; simp
theorem tx_append (a b : ByteArray) : tx (a ++ b) = tx a ++ tx b := by show (a ++ b).data.toList = a.data.toList ++ b.data.toList; rw [ByteArray.data_append, Array.toList_append]
/-- a number's text -/
def numTx (n : Int) : List UInt8 := if NumOk n then Lib.itoa n else []
theorem inB_num (n : Int) : inB n (-100000) 100000 = decide (NumOk n) := rfl
theorem isValueT_any (n : Int) (w : World) : Calls Tryd.prog 47 #[.int .i64 n] w fun e w' => e = .returned (.bool (inB n (-100000) 100000)) ∧ w = w' := by
  go_enter Tryd.func47, Tryd.ntmps47
  go_wp2_with (go_at_call 46; refine (in_any _ _ _ _).mono ?_; rintro e w' ⟨rfl, rfl⟩)
  go_ret
  exact ⟨rfl, rfl⟩
theorem impl_NumberText (n : Int) (w : World) (h : LibW w) : Calls Tryd.prog 48 #[.int .i64 n] w fun e w' => e = .returned (.string (mkS (numTx n))) ∧ Below w.heap.size w w' := by
  have H := Lib.hid h
  clear h
  by_cases hok : NumOk n
  · have HE : Hid (numTx n = Lib.itoa n) := if_pos hok
    have HB : Hid (inB n (-100000) 100000 = true) := by rw [inB_num]; exact decide_eq_true hok
    have h1 : -9223372036854775808 ≤ n := by have := hok.1; omega
    have h2 : n ≤ 9223372036854775807 := by have := hok.2; omega
    clear hok
    go_enter Tryd.func48, Tryd.ntmps48
    go_wp2_with (first
      | (go_at_call 47; refine (isValueT_any _ _).mono ?_; rw [HB.out]; rintro e w' ⟨rfl, rfl⟩)
      | (go_at_call 68; refine (Tryd.strconv_Itoa n h1 h2 _ H.out.pow).mono ?_; rintro e w' ⟨rfl, k, os, rfl⟩))
    go_ret
    exact ⟨by rw [HE.out]; rfl, Lib.below_grow _ _ (Nat.le_refl _) _ _⟩
  · have HE : Hid (numTx n = []) := if_neg hok
    have HB : Hid (inB n (-100000) 100000 = false) := by rw [inB_num]; exact decide_eq_false hok
    clear hok
    go_enter Tryd.func48, Tryd.ntmps48
    go_wp2_with (go_at_call 47; refine (isValueT_any _ _).mono ?_; rw [HB.out]; rintro e w' ⟨rfl, rfl⟩)
    go_ret
    exact ⟨by rw [HE.out]; rfl, Below.refl _ _⟩
/-- a word is the text of a number -/
def NumRd (s : List UInt8) (e : Ending) : Prop := (∃ n, NumOk n ∧ Lib.itoa n = s ∧ e = .returned (.tuple #[.int .i64 n, .bool true])) ∨ ((∀ n, NumOk n → Lib.itoa n ≠ s) ∧ e = .returned (.tuple #[.int .i64 0, .bool false]))
theorem impl_ReadNumber (s : ByteArray) (w : World) (h : LibW w) (hs : s.size ≤ 4000000) : Calls Tryd.prog 23 #[.string s] w fun e w' => NumRd (tx s) e ∧ Below w.heap.size w w' := by
  have H := Lib.hid h
  obtain ⟨t1, p1, h1⟩ := h.syn
  obtain ⟨t2, p2, h2⟩ := h.rng
  have H1 := Lib.hid h1
  have H2 := Lib.hid h2
  clear h h1 h2
  cases ha : Lib.atoiAll s.data.toList
  rotate_left
  ·
    have HA : Hid ((∀ v, Lib.atoiAll s.data.toList ≠ .ok v) ∧ Lib.atoiAll s.data.toList ≠ .range) := ⟨(fun v e => by rw [ha] at e; cases e), (fun e => by rw [ha] at e; cases e)⟩
    have HN : Hid (∀ n, NumOk n → Lib.itoa n ≠ tx s) := fun n hn e => by
      have := itoa_atoi hn
      rw [e] at this
      unfold tx at this
      rw [ha] at this
      cases this
    clear ha
    go_enter Tryd.func23, Tryd.ntmps23
    go_wp2_with (go_at_call 51; refine (Tryd.strconv_Atoi_syntax_var s (by omega) HA.out _ _ _ H1.out).mono ?_; rintro e w' ⟨N, rfl, -, -, hb⟩)
    exact bodyPost_ret (v := .tuple #[.int .i64 0, .bool false]) (by simp [results, Tryd.results23, go_sem]) rfl ⟨.inr ⟨HN.out, rfl⟩, hb⟩
  ·
    have HA := Lib.hid ha
    have HN : Hid (∀ n, NumOk n → Lib.itoa n ≠ tx s) := fun n hn e => by
      have := itoa_atoi hn
      rw [e] at this
      unfold tx at this
      rw [ha] at this
      cases this
    clear ha
    go_enter Tryd.func23, Tryd.ntmps23
    go_wp2_with (go_at_call 51; refine (Tryd.strconv_Atoi_range_var s (by omega) HA.out _ _ _ H2.out).mono ?_; rintro e w' ⟨N, rfl, -, -, hb⟩)
    exact bodyPost_ret (v := .tuple #[.int .i64 0, .bool false]) (by simp [results, Tryd.results23, go_sem]) rfl ⟨.inr ⟨HN.out, rfl⟩, hb⟩
  · rename_i v
    have HA := Lib.hid ha
    have hne : numTx v = tx s → NumOk v ∧ Lib.itoa v = tx s := fun e => by
      by_cases hv : NumOk v
      · rw [numTx, if_pos hv] at e; exact ⟨hv, e⟩
      · rw [numTx, if_neg hv] at e
        have e' : s.data.toList = [] := e.symm
        rw [e'] at ha
        cases ha
    have hno : numTx v ≠ tx s → ∀ n, NumOk n → Lib.itoa n ≠ tx s := fun e n hn hs' => by
      have h1 := itoa_atoi hn
      rw [hs'] at h1
      have h2 : Lib.atoiAll (tx s) = .ok v := ha
      rw [h2] at h1
      injection h1 with h1
      subst h1
      exact e (by rw [numTx, if_pos hn]; exact hs')
    have HNE := Lib.hid hne
    have HNO := Lib.hid hno
    clear ha hne hno
    go_enter Tryd.func23, Tryd.ntmps23
    go_wp2_with fail
    refine (Tryd.strconv_Atoi_ok s (by omega) v HA.out w).mono ?_
    rintro e w1 ⟨rfl, hw⟩
    have hb1 : Below w.heap.size w w1 := by
      rcases hw with rfl | ⟨t, rfl⟩
      · exact Below.refl _ _
      · exact Lib.bytesWorld_below w _ t
    have HB1 := Lib.hid hb1
    have HL := Lib.hid (H.out.mono hb1 (Nat.le_refl _))
    clear hw hb1
    go_wp2_with fail
    refine (impl_NumberText v w1 HL.out).mono ?_
    rintro e w2 ⟨rfl, hb⟩
    have HB2 := nxt HB1 hb
    clear hb
    by_cases hx : numTx v = tx s
    · have hxx : ((mkS (numTx v)).toList == s.toList) = true := by rw [tx_eq, tx_mkS, hx]; simp
      have HX := HNE.out hx
      have HX := Lib.hid HX
      clear hx
      go_wp2_with fail
      exact bodyPost_ret (v := .tuple #[.int .i64 v, .bool true]) (by simp [results, Tryd.results23, go_sem]) rfl ⟨.inl ⟨v, HX.out.1, HX.out.2, rfl⟩, HB2.out⟩
    · have hxx : ((mkS (numTx v)).toList == s.toList) = false := by rw [tx_eq, tx_mkS]; simpa using hx
      have HX := Lib.hid (HNO.out hx)
      clear hx
      go_wp2_with fail
      exact bodyPost_ret (v := .tuple #[.int .i64 0, .bool false]) (by simp [results, Tryd.results23, go_sem]) rfl ⟨.inr ⟨HX.out, rfl⟩, HB2.out⟩
end Go.Proofs.YtajgghifamebkaaDoor
