/- texts of tables: the program's -/
import Derived.Test.YtajgghifamebkaaDoorTxtQ
import Derived.Test.YtajgghifamebkaaDoorTab
namespace Go.Proofs.YtajgghifamebkaaDoor
set_option linter.unusedSimpArgs false
set_option linter.unusedVariables false
open Go.RowKit
open Go
theorem Join_any (v : Value) (ss : List ByteArray) (sep : ByteArray) (w : World) (h : Strs w v ss) (hn : ss.length ≤ 1000) (hl : (Lib.join (txs ss) (tx sep)).length ≤ 1000000) :
    Calls Tryd.prog 28 #[v, .string sep] w fun e w' => e = .returned (.string (mkS (Lib.join (txs ss) (tx sep)))) ∧ Below w.heap.size w w' := by
  obtain ⟨h1, h2, ⟨h3, a, c, hv⟩ | ⟨h3, b, off, c, hv, hc, hcell⟩⟩ := h
  · have hss : ss = [] := List.eq_nil_of_length_eq_zero h3
    subst hss
    rw [hv]
    refine (Tryd.strings_Join_none a c sep w).mono ?_
    rintro e w' ⟨rfl, rfl⟩
    exact ⟨rfl, Below.refl _ _⟩
  · have hx := fun (j : Nat) (x : ByteArray) (hj : ss[j]? = some x) => hcell j (.string x) (by unfold strs; rw [List.getElem?_map, hj]; rfl)
    have h0 := hx 0 ss[0] (List.getElem?_eq_getElem (by omega))
    rw [hv]
    exact Tryd.strings_Join b off c ss sep w hx (World.block_lt_of_cell? w _ h0) (by omega) hc (Nat.le_trans hl (by decide))
/-- the parts of a table's text -/
def partsS (ns : List ByteArray) (k : Nat) (f : Nat → List Int) : List ByteArray := mkS (Lib.join (txs ns) spL) :: tab k fun i => mkS (rowT (f i))
theorem partsS_snoc (ns : List ByteArray) (k : Nat) (f : Nat → List Int) : strs (partsS ns (k + 1) f) = strs (partsS ns k f) ++ [.string (mkS (rowT (f k)))] := by
  simp [partsS, strs, tab, List.range_succ]
theorem partsS_len (ns : List ByteArray) (k : Nat) (f : Nat → List Int) : (partsS ns k f).length = k + 1 := by simp [partsS]
theorem partsS_tx (ns : List ByteArray) (k : Nat) (f : Nat → List Int) : txs (partsS ns k f) = Lib.join (txs ns) spL :: tab k fun i => rowT (f i) := by
  simp [partsS, txs, tab]
theorem names_len {ns : List (List UInt8)} {n : Nat} {f : Nat → List Int} (h : tabB ns n f = true) : (Lib.join ns spL).length ≤ 54 := by
  have hb := h
  unfold tabB at hb
  rw [Bool.and_eq_true] at hb
  obtain ⟨-, g2, -, g4⟩ := colB_nodup hb.1
  have h1 := join_len (sep := spL) (L := 8) (ps := ns) (fun p hp => by
    have := g2 p hp
    unfold nameB at this
    rw [Bool.and_eq_true, Bool.and_eq_true, inB_iff] at this
    omega)
  have h2 := Nat.mul_le_mul_right (8 + spL.length) g4
  exact Nat.le_trans h1 (Nat.le_trans h2 (by decide))
theorem tabT_len {ns : List (List UInt8)} {n : Nat} {f : Nat → List Int} (h : tabB ns n f = true) : (tabT ns n f).length ≤ 1000 := by
  obtain ⟨-, h2, -, h4⟩ := tabB_parts h
  have h1 := join_len (sep := slL) (L := 54) (ps := Lib.join ns spL :: tab n fun i => rowT (f i)) (fun p hp => by
    rcases List.mem_cons.1 hp with rfl | hp
    · exact names_len h
    · obtain ⟨i, hi, rfl⟩ := tab_memI hp
      have := rowT_len (h4 i hi).1
      omega)
  rw [List.length_cons, tab_length] at h1
  have h3 := Nat.mul_le_mul_right (54 + slL.length) (show n + 1 ≤ 17 by omega)
  exact Nat.le_trans h1 (Nat.le_trans h3 (by decide))
set_option maxRecDepth 20000 in
set_option maxHeartbeats 800000 in
theorem impl_TableText (v : Value) (ns : List ByteArray) (n : Nat) (f : Nat → List Int) (w : World) (h : TabIn w v ns n f) (hl : LibW w) (hs : SmallS ns) :
    Calls Tryd.prog 8 #[v] w fun e w' => e = .returned (.string (mkS (tabTx (txs ns) n f))) ∧ Below w.heap.size w w' := by
  obtain ⟨nv, rv, rfl, h1, h2⟩ := h
  obtain ⟨an, cn, rfl, -, -⟩ := h1.open
  obtain ⟨ar, cr, rfl, hmax, -⟩ := h2.open
  unfold maxLen at hmax
  obtain ⟨l, hl0⟩ : ∃ l, ns.length = l := ⟨_, rfl⟩
  have HL0 := Lib.hid hl0
  rw [hl0] at h1 ⊢
  obtain ⟨W, hW⟩ : ∃ W, W = w.alloc (.cells #[.slice an l cn, .slice ar n cr] 26) := ⟨_, rfl⟩
  have HW := Lib.hid hW
  have HB : Hid (Below w.heap.size w W) := by rw [hW]; exact (Below.refl _ _).alloc (Nat.le_refl _) _
  have HX : Hid (Row W w.heap.size 26 [.slice an l cn, .slice ar n cr]) := by rw [hW]; exact Row.new w 26 [.slice an l cn, .slice ar n cr]
  have S1 := Lib.hid (h1.mono HB.out (Nat.le_refl _))
  have I1 := Lib.hid (h2.mono HB.out (Nat.le_refl _))
  have HLW := Lib.hid hl
  have I0 := Lib.hid h2
  have HL := Lib.hid (hl.mono HB.out (Nat.le_refl _))
  have HS := Lib.hid hs
  clear h1 h2 hl hs hl0 hW
  have x0 := HX.out.cell (i := 0) rfl
  have x1 := HX.out.cell (i := 1) rfl
  obtain ⟨g0, hg0⟩ : ∃ g0, w.heap.size = g0 := ⟨_, rfl⟩
  have HG0 := Lib.hid hg0
  rw [hg0] at HX x0 x1
  go_enter Tryd.func8, Tryd.ntmps8
  go_wp2_with fail
  rw [← HW.out]
  try rw [hg0]
  clear hg0
  cases hT : tabB (txs ns) n f with
  | false =>
    have HT := Lib.hid hT
    have HTX : Hid (tabTx (txs ns) n f = []) := if_neg (by rw [hT]; simp)
    clear hT
    refine (impl_TableValid (.agg #[.slice an l cn, .slice ar n cr]) ns n f W ⟨_, _, rfl, S1.out, I1.out⟩ HL.out.res HS.out).mono ?_
    rw [HT.out]
    rintro e w1 ⟨rfl, hb⟩
    have HB1 := nxt HB hb
    clear hb x0 x1
    go_wp2
    go_ret
    exact ⟨by rw [HTX.out]; rfl, by first | exact HB1.out | (rw [← HG0.out]; exact HB1.out)⟩
  | true =>
    have HT := Lib.hid hT
    have HTX : Hid (tabTx (txs ns) n f = tabT (txs ns) n f) := if_pos hT
    have hps := tabB_parts hT
    have hn16 : n ≤ 16 := hps.2.1
    have hl1 : 1 ≤ l := by have := hps.1.1; rw [txs_length, HL0.out] at this; exact this
    have hl6 : l ≤ 6 := by have := hps.1.2; rw [txs_length, HL0.out] at this; exact this
    have HRO : Hid (∀ i, i < n → RowOk (f i)) := fun i hi => (hps.2.2.2 i hi).1
    have HTL := Lib.hid (tabT_len hT)
    have HNL := Lib.hid (names_len hT)
    clear hT hps
    refine (impl_TableValid (.agg #[.slice an l cn, .slice ar n cr]) ns n f W ⟨_, _, rfl, S1.out, I1.out⟩ HL.out.res HS.out).mono ?_
    rw [HT.out]
    rintro e w1 ⟨rfl, hb⟩
    have HB1 := nxt HB hb
    have HX1 := Lib.hid (HX.out.mono hb HX.out.lt)
    have S2 := Lib.hid (S1.out.mono hb (Nat.le_refl _))
    clear hb x0 x1 S1 I1 HX HL
    have x0 := HX1.out.cell (i := 0) rfl
    go_wp2_with fail
    refine (Join_any (.slice an l cn) ns ⟨#[32]⟩ w1 S2.out (by rw [HL0.out]; omega) (Nat.le_trans HNL.out (by decide))).mono ?_
    rintro e w2 ⟨rfl, hb⟩
    have HB2 := nxt HB1 hb
    have HX2 := Lib.hid (HX1.out.mono hb HX1.out.lt)
    have hba : Below w2.heap.size w2 (w2.alloc (.cells #[.string (mkS (Lib.join (txs ns) (tx ⟨#[32]⟩)))] 9)) := (Below.refl _ _).alloc (Nat.le_refl _) _
    have HB3 := nxt HB2 hba
    have HX3 := Lib.hid (HX2.out.mono hba HX2.out.lt)
    have HG3 : Hid (Gr (w2.alloc (.cells #[.string (mkS (Lib.join (txs ns) (tx ⟨#[32]⟩)))] 9)) w.heap.size 9 1 (.slice (some ⟨w2.heap.size, 0, none⟩) 1 1) 1 (strs (partsS ns 0 f))) :=
      Gr.of_made (n := 1) (sz := 1) (Row.new w2 9 (strs (partsS ns 0 f))) rfl (by unfold maxLen; omega) HB2.out.size
    have x1 := HX3.out.cell (i := 1) rfl
    obtain ⟨g3, hg3⟩ : ∃ g3, w2.heap.size = g3 := ⟨_, rfl⟩
    rw [hg3] at HG3
    clear hb hba HX1 HX2 S2 x0 HB1 HB2
    go_wp2_with fail
    try rw [hg3]
    generalize (w2.alloc (.cells #[.string (mkS (Lib.join (txs ns) (tx ⟨#[32]⟩)))] 9)) = W3 at HB3 HX3 HG3 x1 ⊢
    clear hg3
    go_loopg [3, 5, 16] n (fun gg u _ i wr => ∃ k : Nat, k ≤ n ∧ n - k ≤ gg ∧ i = .int .i64 (k : Int) ∧ Hid (Gr wr w.heap.size 9 1 u (k + 1) (strs (partsS ns k f))) ∧ Hid (Below w.heap.size w wr))
    case atStart => exact ⟨0, Nat.zero_le _, Nat.le_refl _, rfl, HG3.out, HB3.out⟩
    case round =>
      clear HG3 HB3 HX3 x1
      obtain ⟨k, hk, hgg, rfl, hG, hB⟩ := hrel
      obtain ⟨au, cu, hu⟩ := hG.out.lit
      subst hu
      by_cases hlt : k < n
      · have HLT := Lib.hid hlt
        have hI := I0.out.mono hB.out (Nat.le_refl _)
        obtain ⟨ad9, c9, hv9, -, hop⟩ := hI.open
        cases hv9
        obtain ⟨b, off, rfl, hcell⟩ := hop k hlt
        obtain ⟨a', c', d0, hrow⟩ := hcell k hlt
        have HRW := Lib.hid hrow
        obtain ⟨m, hm⟩ : ∃ m, (f k).length = m := ⟨_, rfl⟩
        rw [hm] at d0 HRW
        have HLr := Lib.hid (HLW.out.mono hB.out (Nat.le_refl _))
        have HE : Hid (rowTx (f k) = rowT (f k)) := if_pos (HRO.out k hlt)
        clear hI hop hcell hrow hm
        go_wp2_with fail
        refine (impl_RowText _ (f k) wr HRW.out HLr.out).mono ?_
        rw [HE.out]
        rintro e w4 ⟨rfl, hb⟩
        have hB4 := nxt hB hb
        have hG4 := Lib.hid (hG.out.mono hb (Nat.le_refl _))
        clear hb hG hB d0
        go_wp2_with (at_builtin; refine wpList_app _ rfl (.tmp 20) (.tmp 23) 23 rfl w.heap.size 9 (.string ByteArray.empty) 1 16 Tryd.underlying23 Tryd.infoStr rfl (by omega) (.slice au (k + 1) cu) (k + 1) (strs (partsS ns k f)) rfl (hG4.out.alloc _) _ 1 [.string (mkS (rowT (f k)))] rfl (view_one _ _ _) (by simp [Value.oneCell']) (by unfold maxLen; omega) (by omega) (by have := hB4.out.size; simp; omega) ?_; intro v5 w5 g5 r5 k5; have hG5 := Lib.hid g5; have hR5 := Lib.hid r5; clear g5 r5 k5)
        go_roundg (n - (k + 1))
        case rel =>
          refine ⟨k + 1, HLT.out, Nat.le_refl _, by go_num, ?_, (hB4.out.alloc hB4.out.size _).grown hR5.out (by have := hB4.out.size; simp; omega) (fun g hg => (hG4.out.lt g hg).1)⟩
          unfold Hid
          rw [partsS_snoc]
          exact hG5.out
        case measure => have := HLT.out; omega
      · obtain rfl : k = n := by omega
        have hV : Strs wr (.slice au (k + 1) cu) (partsS ns k f) := by unfold Strs; rw [partsS_len]; exact hG.out.view
        have hJ := Join_any (.slice au (k + 1) cu) (partsS ns k f) ⟨#[32, 47, 32]⟩ wr hV (by rw [partsS_len]; omega) (by rw [partsS_tx]; exact Nat.le_trans HTL.out (by decide))
        rw [partsS_tx] at hJ
        have HJ := Lib.hid hJ
        clear hV hJ hG
        go_wp2_with fail
        refine HJ.out.mono ?_
        rintro e w4 ⟨rfl, hb⟩
        have hB4 := nxt hB hb
        clear hb
        go_wp2
        go_ret
        exact ⟨by rw [HTX.out]; rfl, by first | exact hB4.out | (rw [← HG0.out]; exact hB4.out)⟩
end Go.Proofs.YtajgghifamebkaaDoor
