/- the walk of FnTableText -/
import Derived.Test.YtajgghifamebkaaDoorTtDr
import Derived.Test.YtajgghifamebkaaDoorTxtZ
namespace Go.Proofs.YtajgghifamebkaaDoor
set_option linter.unusedSimpArgs false
set_option linter.unusedVariables false
open Go.RowKit
open Go
set_option maxRecDepth 20000 in
set_option maxHeartbeats 2000000 in
theorem walk0_FnTableText (w : World) (v : Value) (bs : List Int) (h : Bts w v bs) (hR : LibW w) :
    Calls Tryd.prog 3 #[v] w fun e w' => LawOk w e w' := by
  obtain ⟨ad, cd, hv, hm⟩ := bts_lit h
  have H := Lib.hid h
  have HR := Lib.hid hR
  clear h hR
  subst hv
  by_cases hbig : 1048576 < bs.length
  · go_enter Tryd.func3, Tryd.ntmps3
    go_wp2
    go_ret
    exact ⟨rfl, Below.refl _ _⟩
  · go_enter Tryd.func3, Tryd.ntmps3
    go_wp2_with fail
    refine (draw_TableText _ bs w H.out).mono ?_
    rintro e w1 ⟨u, ns, n, f, rfl, ht, hs, hb⟩
    obtain ⟨a1, c1, a2, c2, rfl⟩ := ht.lits
    obtain ⟨l, hl⟩ : ∃ l, ns.length = l := ⟨_, rfl⟩
    rw [hl] at ht ⊢
    have HS := Lib.hid hs
    have B1 := nxt (Lib.hid (Below.refl _ _)) hb
    have hba : Below w1.heap.size w1 (w1.alloc (.cells #[.slice a1 l c1, .slice a2 n c2] 26)) := (Below.refl _ _).alloc (Nat.le_refl _) _
    have X3 : Hid (Row (w1.alloc (.cells #[.slice a1 l c1, .slice a2 n c2] 26)) w1.heap.size 26 [.slice a1 l c1, .slice a2 n c2]) := Row.new w1 26 [.slice a1 l c1, .slice a2 n c2]
    have T2 := Lib.hid (ht.mono hba (Nat.le_refl _))
    have B2 := nxt B1 hba
    have HR2 := Lib.hid (HR.out.mono B2.out (Nat.le_refl _))
    obtain ⟨g3, hg3⟩ : ∃ g3, w1.heap.size = g3 := ⟨_, rfl⟩
    rw [hg3] at X3
    have x0 := X3.out.cell (i := 0) rfl
    have x1 := X3.out.cell (i := 1) rfl
    clear ht hs hb hl hba B1 H
    go_wp2_with fail
    try rw [hg3]
    generalize (w1.alloc (.cells #[.slice a1 l c1, .slice a2 n c2] 26)) = W at X3 T2 B2 HR2 x0 x1 ⊢
    clear hg3
    refine (impl_TableText (.agg #[.slice a1 l c1, .slice a2 n c2]) ns n f W T2.out HR2.out HS.out).mono ?_
    rintro e w3 ⟨rfl, hb⟩
    have X4 := Lib.hid (X3.out.mono hb X3.out.lt)
    have T3 := Lib.hid (T2.out.mono hb (Nat.le_refl _))
    have B3 := nxt B2 hb
    obtain ⟨tt, htt⟩ : ∃ tt, mkS (tabTx (txs ns) n f) = tt := ⟨_, rfl⟩
    have HTT := Lib.hid htt
    rw [htt]
    clear hb X3 T2 B2 x0 x1 htt
    have x0 := X4.out.cell (i := 0) rfl
    have x1 := X4.out.cell (i := 1) rfl
    go_wp2_with fail
    refine (spec_TableText (.agg #[.slice a1 l c1, .slice a2 n c2]) ns n f w3 T3.out HS.out).mono ?_
    rw [HTT.out]
    rintro e w4 ⟨rfl, hb⟩
    have X5 := Lib.hid (X4.out.mono hb X4.out.lt)
    have T4 := Lib.hid (T3.out.mono hb (Nat.le_refl _))
    have B4 := nxt B3 hb
    have hee : (tt.toList == tt.toList) = true := by simp
    clear hb X4 T3 B3 x0 x1
    have x0 := X5.out.cell (i := 0) rfl
    have x1 := X5.out.cell (i := 1) rfl
    go_wp2_with fail
    cases hT : tabB (txs ns) n f with
    | false =>
      have HT := Lib.hid hT
      have HE : Hid (tt = ⟨#[]⟩) := by
        rw [← HTT.out, tabTx, if_neg (by rw [hT]; simp)]; rfl
      clear hT
      refine (spec_TableValid (.agg #[.slice a1 l c1, .slice a2 n c2]) ns n f w4 T4.out HS.out).mono ?_
      rw [HT.out]
      rintro e w5 ⟨rfl, hb⟩
      have B5 := nxt B4 hb
      have HR5 := Lib.hid (HR.out.mono B5.out (Nat.le_refl _))
      obtain rfl : tt = ⟨#[]⟩ := HE.out
      clear hb x0 x1 X5 T4
      go_wp2_with (go_at_call 11; refine (alive_any _ HR5.out.res).mono ?_; rintro e w' ⟨rfl, rfl⟩)
      go_ret
      exact ⟨rfl, B5.out⟩
    | true =>
      have HT := Lib.hid hT
      have HTX : Hid (tx tt = tabT (txs ns) n f) := by unfold Hid; rw [← HTT.out, tx_mkS, tabTx, if_pos hT]
      have hsz : tt.size ≤ 4000000 := by
        have := tabT_len hT
        rw [← HTX.out, tx_size] at this
        omega
      clear hT
      refine (spec_TableValid (.agg #[.slice a1 l c1, .slice a2 n c2]) ns n f w4 T4.out HS.out).mono ?_
      rw [HT.out]
      rintro e w5 ⟨rfl, hb⟩
      have X6 := Lib.hid (X5.out.mono hb X5.out.lt)
      have T5 := Lib.hid (T4.out.mono hb (Nat.le_refl _))
      have B5 := nxt B4 hb
      have HR5 := Lib.hid (HR.out.mono B5.out (Nat.le_refl _))
      clear hb X5 T4 B4 x0 x1
      go_wp2_with fail
      refine (impl_ReadTable tt w5 HR5.out hsz).mono ?_
      rintro e w6 ⟨hrd, hb⟩
      have X7 := Lib.hid (X6.out.mono hb X6.out.lt)
      have T6 := Lib.hid (T5.out.mono hb (Nat.le_refl _))
      have B6 := nxt B5 hb
      clear hb X6 T5 B5
      have HCN : Hid (Canon (tx tt) (txs ns) n f) := ⟨HT.out, HTX.out.symm⟩
      rcases hrd with ⟨u2, ns2, n2, f2, hc, -, rfl, htx⟩ | ⟨hno, -⟩
      · obtain ⟨e1, e2, e3⟩ := HCN.out.uniq hc
        have e4 : ns = ns2 := by
          have : ∀ {a b : List ByteArray}, txs a = txs b → a = b := fun {a b} h => by
            induction a generalizing b with
            | nil => cases b with
              | nil => rfl
              | cons y t => simp [txs] at h
            | cons x s ih => cases b with
              | nil => simp [txs] at h
              | cons y t =>
                simp only [txs, List.map_cons, List.cons.injEq] at h
                rw [tx_inj h.1, ih h.2]
          exact this e1
        subst e4
        subst e2
        have hv2 : TabIn w6 u2 ns n f := by
          obtain ⟨nv, rv, vs, rfl, h1, h2, -⟩ := htx
          exact ⟨nv, rv, rfl, h1.view, (h2.ext (fun i hi => (e3 i hi).symm)).view⟩
        obtain ⟨a3, c3, a4, c4, rfl⟩ := hv2.lits
        have hba : Below w6.heap.size w6 (w6.alloc (.cells #[.slice a3 ns.length c3, .slice a4 n c4] 26)) := (Below.refl _ _).alloc (Nat.le_refl _) _
        have X9 : Hid (Row (w6.alloc (.cells #[.slice a3 ns.length c3, .slice a4 n c4] 26)) w6.heap.size 26 [.slice a3 ns.length c3, .slice a4 n c4]) := Row.new w6 26 [.slice a3 ns.length c3, .slice a4 n c4]
        have X8 := Lib.hid (X7.out.mono hba X7.out.lt)
        have T7 := Lib.hid (T6.out.mono hba (Nat.le_refl _))
        have T8 := Lib.hid (hv2.mono hba (Nat.le_refl _))
        have B7 := nxt B6 hba
        obtain ⟨g5, hg5⟩ : ∃ g5, w6.heap.size = g5 := ⟨_, rfl⟩
        obtain ⟨l2, hl2⟩ : ∃ l2, ns.length = l2 := ⟨_, rfl⟩
        rw [hl2] at X9 X8 T7 T8 B7 ⊢
        rw [hg5] at X9
        have x0 := X8.out.cell (i := 0) rfl
        have x1 := X8.out.cell (i := 1) rfl
        have y0 := X9.out.cell (i := 0) rfl
        have y1 := X9.out.cell (i := 1) rfl
        clear e1 e3 hc htx hv2 hba X7 T6 B6 hl2
        go_wp2_with fail
        refine (sameTable_same _ _ ns n f _ T8.out T7.out).mono ?_
        rintro e w8 ⟨rfl, hb⟩
        have B8 := nxt B7 hb
        clear hb
        go_wp2
        go_ret
        exact ⟨rfl, B8.out⟩
      · exact absurd HCN.out (hno _ _ _)
theorem walk_FnTableText (w : World) (v : Value) (bs : List Int) (h : View w 1 v bs.length (bs.map (Value.int .u8)) ∧ ∀ b ∈ bs, 0 ≤ b ∧ b ≤ 255) (hR : LibW w) :
    Calls Tryd.prog 3 #[v] w fun e w' => e = .returned (.bool true) ∧ Below w.heap.size w w' := walk0_FnTableText w v bs h hR
end Go.Proofs.YtajgghifamebkaaDoor
