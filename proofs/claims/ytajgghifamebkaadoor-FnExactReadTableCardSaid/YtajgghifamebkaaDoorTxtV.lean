/- texts of tables: the reference's -/
import Derived.Test.YtajgghifamebkaaDoorTxtU
import Derived.Test.YtajgghifamebkaaDoorTabS
namespace Go.Proofs.YtajgghifamebkaaDoor
set_option linter.unusedSimpArgs false
set_option linter.unusedVariables false
open Go.RowKit
open Go
theorem names_len8 {ns : List (List UInt8)} {n : Nat} {f : Nat → List Int} (h : tabB ns n f = true) : ∀ p ∈ ns, p.length ≤ 8 := fun p hp => by
  have hb := h
  unfold tabB at hb
  rw [Bool.and_eq_true] at hb
  obtain ⟨-, g2, -, -⟩ := colB_nodup hb.1
  have := g2 p hp
  unfold nameB at this
  rw [Bool.and_eq_true, Bool.and_eq_true, inB_iff] at this
  omega
theorem tab_snocE {α : Type} (n : Nat) (f : Nat → α) : tab (n + 1) f = tab n f ++ [f n] := by simp [tab, List.range_succ]
theorem tabT_snoc (ns : List (List UInt8)) (k : Nat) (f : Nat → List Int) : tabT ns (k + 1) f = tabT ns k f ++ (slL ++ rowT (f k)) := by
  unfold tabT
  rw [tab_snocE, ← List.cons_append, join_snoc (by simp)]
set_option maxRecDepth 20000 in
set_option maxHeartbeats 800000 in
theorem spec_TableText (v : Value) (ns : List ByteArray) (n : Nat) (f : Nat → List Int) (w : World) (h : TabIn w v ns n f) (hs : SmallS ns) :
    Calls Tryd.prog 9 #[v] w fun e w' => e = .returned (.string (mkS (tabTx (txs ns) n f))) ∧ Below w.heap.size w w' := by
  obtain ⟨nv, rv, rfl, h1, h2⟩ := h
  obtain ⟨an, cn, rfl, -, -⟩ := h1.open
  obtain ⟨ar, cr, rfl, hmax, -⟩ := h2.open
  unfold maxLen at hmax
  obtain ⟨l, hl0⟩ : ∃ l, ns.length = l := ⟨_, rfl⟩
  have HL0 := Lib.hid hl0
  rw [hl0] at h1 ⊢
  obtain ⟨W, hW⟩ : ∃ W, W = w.alloc (.cells #[.slice an l cn, .slice ar n cr] 26) := ⟨_, rfl⟩
  have HW := Lib.hid hW
  have HB : Hid (Below w.heap.size w W) := by rw [hW]; exact (Below.refl _ _).alloc (Nat.le_refl _) _
  have HX : Hid (Row W w.heap.size 26 [.slice an l cn, .slice ar n cr]) := by rw [hW]; exact Row.new w 26 [.slice an l cn, .slice ar n cr]
  have S0 := Lib.hid h1
  have I0 := Lib.hid h2
  have S1 := Lib.hid (h1.mono HB.out (Nat.le_refl _))
  have I1 := Lib.hid (h2.mono HB.out (Nat.le_refl _))
  have HS := Lib.hid hs
  clear h1 h2 hs hl0 hW
  have x0 := HX.out.cell (i := 0) rfl
  have x1 := HX.out.cell (i := 1) rfl
  obtain ⟨g0, hg0⟩ : ∃ g0, w.heap.size = g0 := ⟨_, rfl⟩
  have HG0 := Lib.hid hg0
  rw [hg0] at HX x0 x1
  go_enter Tryd.func9, Tryd.ntmps9
  go_wp2_with fail
  rw [← HW.out]
  try rw [hg0]
  clear hg0
  cases hT : tabB (txs ns) n f with
  | false =>
    have HT := Lib.hid hT
    have HTX : Hid (tabTx (txs ns) n f = []) := if_neg (by rw [hT]; simp)
    clear hT
    refine (spec_TableValid (.agg #[.slice an l cn, .slice ar n cr]) ns n f W ⟨_, _, rfl, S1.out, I1.out⟩ HS.out).mono ?_
    rw [HT.out]
    rintro e w1 ⟨rfl, hb⟩
    have HB1 := nxt HB hb
    clear hb x0 x1
    go_wp2
    go_ret
    exact ⟨by rw [HTX.out]; rfl, by first | exact HB1.out | (rw [← HG0.out]; exact HB1.out)⟩
  | true =>
    have HT := Lib.hid hT
    have HTX : Hid (tabTx (txs ns) n f = tabT (txs ns) n f) := if_pos hT
    have hps := tabB_parts hT
    have hn16 : n ≤ 16 := hps.2.1
    have hl1 : 1 ≤ l := by have := hps.1.1; rw [txs_length, HL0.out] at this; exact this
    have hl6 : l ≤ 6 := by have := hps.1.2; rw [txs_length, HL0.out] at this; exact this
    have HRO : Hid (∀ i, i < n → RowOk (f i)) := fun i hi => (hps.2.2.2 i hi).1
    have HN8 := Lib.hid (names_len8 hT)
    clear hT hps
    refine (spec_TableValid (.agg #[.slice an l cn, .slice ar n cr]) ns n f W ⟨_, _, rfl, S1.out, I1.out⟩ HS.out).mono ?_
    rw [HT.out]
    rintro e w1 ⟨rfl, hb⟩
    have HB1 := nxt HB hb
    have HX1 := Lib.hid (HX.out.mono hb HX.out.lt)
    have S2 := Lib.hid (S0.out.mono HB1.out (Nat.le_refl _))
    clear hb x0 x1 S1 I1 HX
    have x0 := HX1.out.cell (i := 0) rfl
    have x1 := HX1.out.cell (i := 1) rfl
    obtain ⟨ad9, c9, hv9, -, hop⟩ := S2.out.open
    rw [HL0.out] at hv9
    cases hv9
    obtain ⟨b, off, rfl, hcell⟩ := hop 0 (by rw [HL0.out]; omega)
    have HCELL := Lib.hid hcell
    obtain ⟨y0, hy0⟩ : ∃ y, ns[0]?.getD ByteArray.empty = y := ⟨_, rfl⟩
    have d0 : w1.cell? ⟨b, off, none⟩ = some (.string y0) := by rw [← hy0]; exact hcell 0 (by rw [HL0.out]; omega)
    have HY0 := Lib.hid (txs_get (k := 0) (by rw [HL0.out]; omega) hy0)
    clear hop hcell hy0
    go_wp2
    go_loopg [3, 4] l (fun gg s i wr => ∃ (k : Nat) (o : ByteArray), 1 ≤ k ∧ k ≤ l ∧ l - k ≤ gg ∧ i = .int .i64 (k : Int) ∧ s = .string o ∧ Hid (tx o = Lib.join ((txs ns).take k) spL) ∧ w1 = wr)
    case atStart => exact ⟨1, y0, Nat.le_refl _, hl1, by omega, rfl, rfl, by unfold Hid; rw [show (1 : Nat) = 0 + 1 from rfl, List.take_add_one, HY0.out]; simp [Lib.join_one], rfl⟩
    case round =>
      obtain ⟨k, o, hk1, hk, hgg, rfl, rfl, hT, rfl⟩ := hrel
      by_cases hlt : k < l
      · have HLT := Lib.hid hlt
        obtain ⟨y, hy⟩ : ∃ y, ns[k]?.getD ByteArray.empty = y := ⟨_, rfl⟩
        have d1 : w1.cell? ⟨b, off + k, none⟩ = some (.string y) := by rw [← hy]; exact HCELL.out k (by rw [HL0.out]; exact hlt)
        have HY := Lib.hid (txs_get (k := k) (by rw [HL0.out]; exact hlt) hy)
        have hys : y.size ≤ 8 := by rw [← tx_size]; exact HN8.out _ (List.mem_of_getElem? HY.out)
        have hos : o.size ≤ 100 := by
          have h1 := join_len (sep := spL) (L := 8) (ps := (txs ns).take k) (fun p hp => HN8.out p (List.mem_of_mem_take hp))
          rw [← hT.out, tx_size, List.length_take] at h1
          have h2 : min k (txs ns).length ≤ 6 := by omega
          have h3 := Nat.mul_le_mul_right (8 + spL.length) h2
          have h4 : 6 * (8 + spL.length) = 54 := rfl
          omega
        have hsz : (o ++ (⟨#[32]⟩ : ByteArray)).size ≤ 200 := by rw [← tx_size, tx_append, List.length_append, tx_size]; show o.size + 1 ≤ 200; omega
        have HK1 := Lib.hid hk1
        clear hy
        go_wp2
        go_roundg (l - (k + 1))
        case rel =>
          refine ⟨k + 1, (o ++ ⟨#[32]⟩) ++ y, by omega, HLT.out, Nat.le_refl _, by go_num, rfl, ?_, rfl⟩
          unfold Hid
          rw [tx_append, tx_append, hT.out, List.take_add_one, HY.out]
          simp only [Option.toList_some]
          rw [join_snoc (fun e => by
            have := congrArg List.length e
            rw [List.length_take, txs_length] at this
            have h1 : ns.length = l := HL0.out
            have h2 : k < l := HLT.out
            have h3 : 1 ≤ k := HK1.out
            rw [List.length_nil] at this; omega), List.append_assoc]
          rfl
        case measure => have := HLT.out; omega
      · obtain rfl : k = l := by omega
        have HO : Hid (tx o = tabT (txs ns) 0 f) := by
          have := hT.out
          rw [← HL0.out, ← txs_length, List.take_length] at this
          unfold Hid tabT
          rw [this]
          exact (Lib.join_one _ _).symm
        clear hT hlt
        go_wp2
        go_loopg [3, 5] n (fun gg s i wr => ∃ (q : Nat) (o : ByteArray), q ≤ n ∧ n - q ≤ gg ∧ i = .int .i64 (q : Int) ∧ s = .string o ∧ Hid (tx o = tabT (txs ns) q f) ∧ Hid (Row wr g0 26 [.slice (some ⟨b, off, none⟩) k cn, .slice ar n cr]) ∧ Hid (Below w.heap.size w wr))
        case atStart => exact ⟨0, o, Nat.zero_le _, Nat.le_refl _, rfl, rfl, HO.out, HX1.out, HB1.out⟩
        case round =>
          clear HX1 HB1 x0 x1 d0
          obtain ⟨q, o, hq, hgq, rfl, rfl, hT, hX, hB⟩ := hrel
          have x1 := hX.out.cell (i := 1) rfl
          by_cases hlt : q < n
          · have HLT := Lib.hid hlt
            have hI := I0.out.mono hB.out (Nat.le_refl _)
            obtain ⟨ad9, c9, hv9, -, hop⟩ := hI.open
            cases hv9
            obtain ⟨b2, off2, rfl, hcell⟩ := hop q hlt
            obtain ⟨a', c', d0, hrow⟩ := hcell q hlt
            have HRW := Lib.hid hrow
            obtain ⟨m, hm⟩ : ∃ m, (f q).length = m := ⟨_, rfl⟩
            rw [hm] at d0 HRW
            have HE : Hid (rowTx (f q) = rowT (f q)) := if_pos (HRO.out q hlt)
            have hrs : (mkS (rowT (f q))).size ≤ 48 := by rw [mkS_size]; exact rowT_len (HRO.out q hlt)
            have hos : o.size ≤ 2000 := by
              have h0 := join_len (sep := spL) (L := 8) (ps := txs ns) HN8.out
              have h1 := join_len (sep := slL) (L := 54) (ps := Lib.join (txs ns) spL :: tab q fun i => rowT (f i)) (fun p hp => by
                rcases List.mem_cons.1 hp with rfl | hp
                · refine Nat.le_trans h0 ?_
                  rw [txs_length, HL0.out]
                  have h3 := Nat.mul_le_mul_right (8 + spL.length) hl6
                  exact Nat.le_trans h3 (by decide)
                · obtain ⟨i, hi, rfl⟩ := tab_memI hp
                  have := rowT_len (HRO.out i (by omega))
                  omega)
              have h2 : (tx o).length = o.size := tx_size o
              rw [hT.out] at h2
              unfold tabT at h2
              rw [List.length_cons, tab_length] at h1
              have h3 := Nat.mul_le_mul_right (54 + slL.length) (show q + 1 ≤ 17 by omega)
              have h4 : 17 * (54 + slL.length) = 969 := rfl
              omega
            have hsz : (o ++ (⟨#[32, 47, 32]⟩ : ByteArray)).size ≤ 3000 := by rw [← tx_size, tx_append, List.length_append, tx_size]; show o.size + 3 ≤ 3000; omega
            clear hI hop hcell hrow hm
            go_wp2_with fail
            refine (spec_RowText _ (f q) wr HRW.out).mono ?_
            rw [HE.out]
            rintro e w4 ⟨rfl, hb⟩
            have hB4 := nxt hB hb
            have hX4 := Lib.hid (hX.out.mono hb hX.out.lt)
            clear hb hB hX d0 x1
            go_wp2
            go_roundg (n - (q + 1))
            case rel =>
              refine ⟨q + 1, (o ++ ⟨#[32, 47, 32]⟩) ++ mkS (rowT (f q)), HLT.out, Nat.le_refl _, by go_num, rfl, ?_, hX4.out, hB4.out⟩
              unfold Hid
              rw [tx_append, tx_append, tx_mkS, hT.out, tabT_snoc, List.append_assoc]
              rfl
            case measure => have := HLT.out; omega
          · obtain rfl : q = n := by omega
            have HF : Hid (mkS (tabT (txs ns) q f) = o) := by apply tx_inj; rw [tx_mkS]; exact hT.out.symm
            go_wp2
            go_ret
            exact ⟨by rw [HTX.out, HF.out]; rfl, by first | exact hB.out | (rw [← HG0.out]; exact hB.out)⟩
end Go.Proofs.YtajgghifamebkaaDoor
