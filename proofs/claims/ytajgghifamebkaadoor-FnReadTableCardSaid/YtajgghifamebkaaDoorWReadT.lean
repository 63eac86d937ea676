/- the walk of FnReadTable -/
import Derived.Test.YtajgghifamebkaaDoorRdDr
import Derived.Test.YtajgghifamebkaaDoorTxtZ
import Derived.Test.YtajgghifamebkaaDoorTxtC
import Derived.Test.YtajgghifamebkaaDoorTxtD
namespace Go.Proofs.YtajgghifamebkaaDoor
set_option linter.unusedSimpArgs false
set_option linter.unusedVariables false
open Go.RowKit
open Go
set_option maxRecDepth 20000 in
set_option maxHeartbeats 2000000 in
theorem walk0_FnReadTable (w : World) (v : Value) (bs : List Int) (h : Bts w v bs) (hR : LibW w) :
    Calls Tryd.prog 4 #[v] w fun e w' => LawOk w e w' := by
  obtain ⟨ad, cd, hv, hm⟩ := bts_lit h
  have H := Lib.hid h
  have HR := Lib.hid hR
  clear h hR
  subst hv
  by_cases hbig : 1048576 < bs.length
  · go_enter Tryd.func4, Tryd.ntmps4
    go_wp2
    go_ret
    exact ⟨rfl, Below.refl _ _⟩
  · go_enter Tryd.func4, Tryd.ntmps4
    go_wp2_with fail
    refine (draw_ReadTable _ bs w H.out).mono ?_
    rintro e w1 ⟨s, rfl, hs, hb⟩
    have B1 := nxt (Lib.hid (Below.refl _ _)) hb
    have HR1 := Lib.hid (HR.out.mono B1.out (Nat.le_refl _))
    obtain ⟨b, ns, n, f, hsm, -, -, -, hct, hcf, hfix⟩ := tabRd_fix (tx s)
    have HS := Lib.hid hsm
    have HCT := Lib.hid hct
    have HCF := Lib.hid hcf
    have HFIX := Lib.hid hfix
    clear hb H hsm hct hcf hfix
    go_wp2_with fail
    refine (impl_ReadTable s w1 HR1.out (by omega)).mono ?_
    rintro e w2 ⟨hrd, hb⟩
    obtain ⟨u, rfl, htx⟩ := HFIX.out _ _ _ hrd
    have hv2 := htx.view
    obtain ⟨a1, c1, a2, c2, rfl⟩ := hv2.lits
    obtain ⟨l, hl⟩ : ∃ l, ns.length = l := ⟨_, rfl⟩
    have HL := Lib.hid hl
    rw [hl] at hv2 ⊢
    have B2 := nxt B1 hb
    have hba : Below w2.heap.size w2 (w2.alloc (.cells #[.slice a1 l c1, .slice a2 n c2] 26)) := (Below.refl _ _).alloc (Nat.le_refl _) _
    have X3 : Hid (Row (w2.alloc (.cells #[.slice a1 l c1, .slice a2 n c2] 26)) w2.heap.size 26 [.slice a1 l c1, .slice a2 n c2]) := Row.new w2 26 [.slice a1 l c1, .slice a2 n c2]
    have T3 := Lib.hid (hv2.mono hba (Nat.le_refl _))
    have B3 := nxt B2 hba
    have HR3 := Lib.hid (HR.out.mono B3.out (Nat.le_refl _))
    obtain ⟨g3, hg3⟩ : ∃ g3, w2.heap.size = g3 := ⟨_, rfl⟩
    rw [hg3] at X3
    clear hb hrd htx hv2 hba B1 B2 HR1 hl
    go_wp2_with fail
    try rw [hg3]
    generalize (w2.alloc (.cells #[.slice a1 l c1, .slice a2 n c2] 26)) = W3 at X3 T3 B3 HR3 ⊢
    clear hg3
    refine (spec_ReadTable s W3 (by omega)).mono ?_
    rintro e w4 ⟨hrd, hb⟩
    obtain ⟨u, rfl, htx⟩ := HFIX.out _ _ _ hrd
    have hv2 := htx.view
    obtain ⟨a3, c3, a4, c4, rfl⟩ := hv2.lits
    rw [HL.out] at hv2 ⊢
    have hba : Below w4.heap.size w4 (w4.alloc (.cells #[.slice a3 l c3, .slice a4 n c4] 26)) := (Below.refl _ _).alloc (Nat.le_refl _) _
    have Y5 : Hid (Row (w4.alloc (.cells #[.slice a3 l c3, .slice a4 n c4] 26)) w4.heap.size 26 [.slice a3 l c3, .slice a4 n c4]) := Row.new w4 26 [.slice a3 l c3, .slice a4 n c4]
    have hbx := hb.trans (hba.mono hb.size)
    have X5 := Lib.hid (X3.out.mono hbx X3.out.lt)
    have T5 := Lib.hid (T3.out.mono hbx (Nat.le_refl _))
    have U5 := Lib.hid (hv2.mono hba (Nat.le_refl _))
    have B5 := nxt B3 hbx
    obtain ⟨g5, hg5⟩ : ∃ g5, w4.heap.size = g5 := ⟨_, rfl⟩
    rw [hg5] at Y5
    have x0 := X5.out.cell (i := 0) rfl
    have x1 := X5.out.cell (i := 1) rfl
    have y0 := Y5.out.cell (i := 0) rfl
    have y1 := Y5.out.cell (i := 1) rfl
    clear hb hbx hrd htx hv2 hba X3 T3 B3 HR3
    go_wp2_with fail
    try rw [hg5]
    generalize (w4.alloc (.cells #[.slice a3 l c3, .slice a4 n c4] 26)) = W5 at X5 Y5 T5 U5 B5 x0 x1 y0 y1 ⊢
    clear hg5
    refine (sameTable_same _ _ ns n f W5 T5.out U5.out).mono ?_
    rintro e w6 ⟨rfl, hb⟩
    have X6 := Lib.hid (X5.out.mono hb X5.out.lt)
    have T6 := Lib.hid (T5.out.mono hb (Nat.le_refl _))
    have B6 := nxt B5 hb
    have HR6 := Lib.hid (HR.out.mono B6.out (Nat.le_refl _))
    clear hb x0 x1 y0 y1 X5 Y5 T5 U5 B5
    have x0 := X6.out.cell (i := 0) rfl
    have x1 := X6.out.cell (i := 1) rfl
    cases b with
    | false =>
      have hl0 : l = 0 := by rw [← HL.out, (HCF.out rfl).1]; rfl
      subst hl0
      go_wp2_with (go_at_call 11; refine (alive_any _ HR6.out.res).mono ?_; rintro e w' ⟨rfl, rfl⟩)
      go_ret
      exact ⟨rfl, B6.out⟩
    | true =>
      have HC := Lib.hid (HCT.out rfl)
      have hn1 : ¬ 9223372036854775807 < s.size + 1 := by omega
      have hs1 : (s ++ (⟨#[32]⟩ : ByteArray)).size ≤ 4000000 := by rw [← tx_size, tx_append, List.length_append, tx_size]; show s.size + 1 ≤ 4000000; omega
      have HNS : Hid (∀ ns' n' f', ¬ Canon (tx (s ++ (⟨#[32]⟩ : ByteArray))) ns' n' f') := fun ns' n' f' hc => by
        rw [tx_append] at hc
        exact Canon.no_space hc
      go_wp2_with fail
      refine (impl_ReadTable (s ++ (⟨#[32]⟩ : ByteArray)) w6 HR6.out hs1).mono ?_
      rintro e w7 ⟨hrd, hb⟩
      rcases hrd with ⟨u7, ns7, n7, f7, hc7, -⟩ | ⟨-, rfl⟩
      · exact absurd hc7 (HNS.out _ _ _)
      · have hba : Below w7.heap.size w7 (w7.alloc (.cells #[.slice none 0 0, .slice none 0 0] 26)) := (Below.refl _ _).alloc (Nat.le_refl _) _
        have hbx := hb.trans (hba.mono hb.size)
        have X8 := Lib.hid (X6.out.mono hbx X6.out.lt)
        have T8 := Lib.hid (T6.out.mono hbx (Nat.le_refl _))
        have B8 := nxt B6 hbx
        have HR8 := Lib.hid (HR.out.mono B8.out (Nat.le_refl _))
        obtain ⟨g7, hg7⟩ : ∃ g7, w7.heap.size = g7 := ⟨_, rfl⟩
        clear hb hbx hba x0 x1 X6 T6 B6 HR6
        have x0 := X8.out.cell (i := 0) rfl
        have x1 := X8.out.cell (i := 1) rfl
        go_wp2_with fail
        try rw [hg7]
        generalize (w7.alloc (.cells #[.slice none 0 0, .slice none 0 0] 26)) = W8 at X8 T8 B8 HR8 x0 x1 ⊢
        clear hg7
        refine (impl_TableText (.agg #[.slice a1 l c1, .slice a2 n c2]) ns n f W8 T8.out HR8.out HS.out).mono ?_
        rintro e w9 ⟨rfl, hb⟩
        have B9 := nxt B8 hb
        have HTT : mkS (tabTx (txs ns) n f) = s := by
          apply tx_inj
          rw [tx_mkS, tabTx, if_pos HC.out.1]
          exact HC.out.2
        rw [HTT]
        have hee : (s.toList == s.toList) = true := by simp
        clear hb x0 x1 HTT
        go_wp2
        go_ret
        exact ⟨rfl, B9.out⟩
theorem walk_FnReadTable (w : World) (v : Value) (bs : List Int) (h : View w 1 v bs.length (bs.map (Value.int .u8)) ∧ ∀ b ∈ bs, 0 ≤ b ∧ b ≤ 255) (hR : LibW w) :
    Calls Tryd.prog 4 #[v] w fun e w' => e = .returned (.bool true) ∧ Below w.heap.size w w' := walk0_FnReadTable w v bs h hR
end Go.Proofs.YtajgghifamebkaaDoor
