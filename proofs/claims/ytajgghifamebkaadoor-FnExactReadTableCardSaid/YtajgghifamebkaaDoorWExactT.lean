/- the walk of FnExactReadTable -/
import Derived.Test.YtajgghifamebkaaDoorTxtZ
import Derived.Test.YtajgghifamebkaaDoorTxtC
import Derived.Test.YtajgghifamebkaaDoorTxtE
namespace Go.Proofs.YtajgghifamebkaaDoor
set_option linter.unusedSimpArgs false
set_option linter.unusedVariables false
open Go.RowKit
open Go
set_option maxRecDepth 20000 in
set_option maxHeartbeats 2000000 in
theorem walk_FnExactReadTable (w : World) (s : ByteArray) (hR : LibW w) :
    Calls Tryd.prog 5 #[.string s] w fun e w' => e = .returned (.bool true) ∧ Below w.heap.size w w' := by
  have HR := Lib.hid hR
  clear hR
  by_cases hbig : 1048576 < s.size
  · go_enter Tryd.func5, Tryd.ntmps5
    go_wp2
    go_ret
    exact ⟨rfl, Below.refl _ _⟩
  · have hs : s.size ≤ 1048576 := by omega
    obtain ⟨b, ns, n, f, hsm, hl6, hn16, hf6, -, -, hfix⟩ := tabRd_fix (tx s)
    have HFIX := Lib.hid hfix
    have hpl : preL f n ≤ 1000 := by
      have h1 := preL_bound f 6 n hf6
      omega
    obtain ⟨l, hl⟩ : ∃ l, ns.length = l := ⟨_, rfl⟩
    have HL := Lib.hid hl
    rw [hl] at hl6
    have HL6 : Hid (ns.length ≤ 6) := by unfold Hid; omega
    have HPL := Lib.hid hpl
    obtain ⟨M, hM⟩ : ∃ M : Int, ((1 + l : Nat) : Int) + (preL f n : Int) = M := ⟨_, rfl⟩
    have HM := Lib.hid hM
    have hM0 : 1 ≤ M := by omega
    have hMd : decide (M < 0) = false := decide_eq_false (by omega)
    have hMn : ¬ (M < 0) := by omega
    clear hsm hn16 hf6 hfix hl hM
    go_enter Tryd.func5, Tryd.ntmps5
    go_wp2_with fail
    refine (spec_ReadTable s w (by omega)).mono ?_
    rintro e w1 ⟨hrd, hb⟩
    obtain ⟨u, rfl, htx⟩ := HFIX.out _ _ _ hrd
    have hv2 := htx.view
    obtain ⟨a1, c1, a2, c2, rfl⟩ := hv2.lits
    rw [HL.out] at hv2 ⊢
    have B1 := Lib.hid hb
    have hba : Below w1.heap.size w1 (w1.alloc (.cells #[.slice a1 l c1, .slice a2 n c2] 26)) := (Below.refl _ _).alloc (Nat.le_refl _) _
    have X3 : Hid (Row (w1.alloc (.cells #[.slice a1 l c1, .slice a2 n c2] 26)) w1.heap.size 26 [.slice a1 l c1, .slice a2 n c2]) := Row.new w1 26 [.slice a1 l c1, .slice a2 n c2]
    have T3 := Lib.hid (hv2.mono hba (Nat.le_refl _))
    have B3 := nxt B1 hba
    have HR3 := Lib.hid (HR.out.mono B3.out (Nat.le_refl _))
    obtain ⟨g3, hg3⟩ : ∃ g3, w1.heap.size = g3 := ⟨_, rfl⟩
    rw [hg3] at X3
    have HG3 := Lib.hid X3.out.lt
    clear hb hrd htx hv2 hba B1
    go_wp2_with fail
    try rw [hg3]
    generalize (w1.alloc (.cells #[.slice a1 l c1, .slice a2 n c2] 26)) = W3 at X3 T3 B3 HR3 HG3 ⊢
    clear hg3
    refine (impl_ReadTable s W3 HR3.out (by omega)).mono ?_
    rintro e w4 ⟨hrd, hb⟩
    obtain ⟨u, rfl, htx⟩ := HFIX.out _ _ _ hrd
    have hv2 := htx.view
    obtain ⟨a3, c3, a4, c4, rfl⟩ := hv2.lits
    rw [HL.out] at hv2 htx ⊢
    have hba : Below w4.heap.size w4 (w4.alloc (.cells #[.slice a3 l c3, .slice a4 n c4] 26)) := (Below.refl _ _).alloc (Nat.le_refl _) _
    have Y5 : Hid (Row (w4.alloc (.cells #[.slice a3 l c3, .slice a4 n c4] 26)) w4.heap.size 26 [.slice a3 l c3, .slice a4 n c4]) := Row.new w4 26 [.slice a3 l c3, .slice a4 n c4]
    have hbx := hb.trans (hba.mono hb.size)
    have X5 := Lib.hid (X3.out.mono hbx X3.out.lt)
    have T5 := Lib.hid (T3.out.mono hbx (Nat.le_refl _))
    have U5 := Lib.hid (hv2.mono hba (Nat.le_refl _))
    have O5 := Lib.hid (htx.mono hba (Nat.le_refl _))
    have BX5 := Lib.hid hbx
    have B5 := nxt B3 hbx
    obtain ⟨g5, hg5⟩ : ∃ g5, w4.heap.size = g5 := ⟨_, rfl⟩
    have HG5 : Hid (W3.heap.size ≤ g5) := by rw [← hg5]; exact hb.size
    rw [hg5] at Y5
    have x0 := X5.out.cell (i := 0) rfl
    have x1 := X5.out.cell (i := 1) rfl
    have y0 := Y5.out.cell (i := 0) rfl
    have y1 := Y5.out.cell (i := 1) rfl
    clear hb hbx hrd htx hv2 hba HR3
    go_wp2_with fail
    try rw [hg5]
    generalize (w4.alloc (.cells #[.slice a3 l c3, .slice a4 n c4] 26)) = W5 at X5 Y5 T5 U5 O5 B5 BX5 x0 x1 y0 y1 ⊢
    clear hg5
    refine (eqTable_same _ _ ns n f W5 U5.out T5.out).mono ?_
    rintro e w6 ⟨rfl, hb⟩
    have X6 := Lib.hid (X5.out.mono hb X5.out.lt)
    have Y6 := Lib.hid (Y5.out.mono hb Y5.out.lt)
    have T6 := Lib.hid (T5.out.mono hb (Nat.le_refl _))
    have O6 := Lib.hid (O5.out.mono hb (Nat.le_refl _))
    have B6 := nxt B5 hb
    have BX6 : Hid (Below W3.heap.size W3 w6) := BX5.out.trans (hb.mono BX5.out.size)
    clear hb x0 x1 y0 y1 X5 Y5 T5 U5 B5 BX5 O5
    have x0 := X6.out.cell (i := 0) rfl
    have x1 := X6.out.cell (i := 1) rfl
    have y0 := Y6.out.cell (i := 0) rfl
    have y1 := Y6.out.cell (i := 1) rfl
    have hbb : (b == b) = true := by simp
    go_wp2_with fail
    refine (markTable_any _ W3.heap.size ns n f w6 O6.out BX6.out.size HL6.out HPL.out).mono ?_
    rintro e w7 ⟨rfl, ht, hrows, hb⟩
    rw [HL.out] at ht ⊢
    rw [HM.out]
    have BX7 : Hid (Below W3.heap.size W3 w7) := BX6.out.trans hb
    have X7 := Lib.hid (hrows _ _ X6.out)
    have Y7 := Lib.hid (hrows _ _ Y6.out)
    have T7 := Lib.hid (T3.out.mono BX7.out (Nat.le_refl _))
    have V7 := Lib.hid ht
    have B7 := nxt B3 BX7.out
    clear hb ht hrows x0 x1 y0 y1 X6 Y6 T6 B6 BX6 O6
    have y0 := Y7.out.cell (i := 0) rfl
    have y1 := Y7.out.cell (i := 1) rfl
    go_wp2_with fail
    refine (heldTable_any _ l n f w7 V7.out hl6 HPL.out).mono ?_
    rintro e w8 ⟨rfl, hb⟩
    rw [HM.out]
    have X8 := Lib.hid (X7.out.mono hb X7.out.lt)
    have Y8 := Lib.hid (Y7.out.mono hb Y7.out.lt)
    have T8 := Lib.hid (T7.out.mono hb (Nat.le_refl _))
    have V8 := Lib.hid (V7.out.mono hb (Nat.le_refl _))
    have B8 := nxt B7 hb
    have HR8 := Lib.hid (HR.out.mono B8.out (Nat.le_refl _))
    clear hb y0 y1 X7 Y7 T7 V7 B7 BX7
    go_wp2_with fail
    refine (impl_ReadTable s w8 HR8.out (by omega)).mono ?_
    rintro e w9 ⟨hrd, hb⟩
    obtain ⟨u, rfl, htx⟩ := HFIX.out _ _ _ hrd
    have hv2 := htx.view
    obtain ⟨a5, c5, a6, c6, rfl⟩ := hv2.lits
    rw [HL.out] at hv2 ⊢
    have hba : Below w9.heap.size w9 (w9.alloc (.cells #[.slice a5 l c5, .slice a6 n c6] 26)) := (Below.refl _ _).alloc (Nat.le_refl _) _
    have Z10 : Hid (Row (w9.alloc (.cells #[.slice a5 l c5, .slice a6 n c6] 26)) w9.heap.size 26 [.slice a5 l c5, .slice a6 n c6]) := Row.new w9 26 [.slice a5 l c5, .slice a6 n c6]
    have hbx := hb.trans (hba.mono hb.size)
    have X10 := Lib.hid (X8.out.mono hbx X8.out.lt)
    have Y10 := Lib.hid (Y8.out.mono hbx Y8.out.lt)
    have T10 := Lib.hid (T8.out.mono hbx (Nat.le_refl _))
    have V10 := Lib.hid (V8.out.mono hbx (Nat.le_refl _))
    have U10 := Lib.hid (hv2.mono hba (Nat.le_refl _))
    have B10 := nxt B8 hbx
    obtain ⟨g9, hg9⟩ : ∃ g9, w9.heap.size = g9 := ⟨_, rfl⟩
    rw [hg9] at Z10
    have x0 := X10.out.cell (i := 0) rfl
    have x1 := X10.out.cell (i := 1) rfl
    have z0 := Z10.out.cell (i := 0) rfl
    have z1 := Z10.out.cell (i := 1) rfl
    clear hb hbx hrd htx hv2 hba X8 Y8 T8 V8 B8 HR8
    go_wp2_with fail
    try rw [hg9]
    generalize (w9.alloc (.cells #[.slice a5 l c5, .slice a6 n c6] 26)) = W10 at X10 Y10 Z10 T10 U10 V10 B10 x0 x1 z0 z1 ⊢
    clear hg9
    refine (eqTable_same _ _ ns n f W10 U10.out T10.out).mono ?_
    rintro e w11 ⟨rfl, hb⟩
    have Y11 := Lib.hid (Y10.out.mono hb Y10.out.lt)
    have V11 := Lib.hid (V10.out.mono hb (Nat.le_refl _))
    have B11 := nxt B10 hb
    clear hb x0 x1 z0 z1 X10 Y10 Z10 T10 U10 V10 B10
    have y0 := Y11.out.cell (i := 0) rfl
    have y1 := Y11.out.cell (i := 1) rfl
    go_wp2_with fail
    refine (heldTable_any _ l n f w11 V11.out hl6 HPL.out).mono ?_
    rintro e w12 ⟨rfl, hb⟩
    rw [HM.out]
    have B12 := nxt B11 hb
    clear hb y0 y1
    go_wp2
    go_ret
    exact ⟨rfl, B12.out⟩
end Go.Proofs.YtajgghifamebkaaDoor
