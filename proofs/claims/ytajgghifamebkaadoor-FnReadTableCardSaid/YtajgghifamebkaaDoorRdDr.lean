/- the draw of FnReadTable -/
import Derived.Test.YtajgghifamebkaaDoorTtDr
import Derived.Test.YtajgghifamebkaaDoorTxtV
namespace Go.Proofs.YtajgghifamebkaaDoor
set_option linter.unusedSimpArgs false
set_option linter.unusedVariables false
open Go.RowKit
open Go
theorem tabTx_len (ns : List (List UInt8)) (n : Nat) (f : Nat → List Int) : (tabTx ns n f).length ≤ 1000 := by
  unfold tabTx
  split
  · rename_i h; exact tabT_len h
  · simp
def DrawnTx (w : World) (e : Ending) (w' : World) : Prop := ∃ t : ByteArray, e = .returned (.string t) ∧ t.size ≤ 2000 ∧ Below w.heap.size w w'
set_option maxRecDepth 20000 in
set_option maxHeartbeats 1000000 in
theorem draw_ReadTable (v : Value) (bs : List Int) (w : World) (h : Bts w v bs) : Calls Tryd.prog 14 #[v] w (DrawnTx w) := by
  have H := Lib.hid h
  clear h
  go_enter Tryd.func14, Tryd.ntmps14
  go_wp2_with fail
  refine (open_any v bs w H.out).mono ?_
  rintro e w1 ⟨v1, bs1, rfl, hr, hb⟩
  have HR := Lib.hid hr
  have HB1 := Lib.hid hb
  obtain ⟨lowR0, lowV0⟩ := hr.low
  clear hr hb H
  obtain ⟨R, hRR⟩ : ∃ R, w.heap.size = R := ⟨_, rfl⟩
  have HRR := Lib.hid hRR
  rw [hRR] at HR lowR0
  go_wp2_with fail
  try rw [hRR]
  clear hRR
  refine (pick_nat R v1 bs1 3 0 w1 HR.out (by omega) (by omega)).mono ?_
  rintro e w2 ⟨x, rfl, hx, hr, hg⟩
  have R2 := Lib.hid hr
  have HB2 : Hid (Below w.heap.size w w2) := HB1.out.grown hg HB1.out.size (fun g hg => by cases hg; have := HRR.out; omega)
  clear hr hg HR
  go_wp2_with fail
  refine (table_any R v1 bs1 x 0 (0 + 1) w2 R2.out (by omega) hx (by omega)).mono ?_
  rintro e w3 ⟨u, ns, n, f, p3, rfl, hT, hl, hs, -, hp1, hp2, hr, hg⟩
  have HB3 : Hid (Below w.heap.size w w3) := HB2.out.grown hg HB2.out.size (fun g hg => by cases hg; have := HRR.out; omega)
  have R3 := Lib.hid hr
  have HT := Lib.hid hT.view
  have HS : Hid (SmallS ns) := fun y hy => by have := hs y hy; omega
  clear hr hg hT hl hs R2 HB2
  go_wp2_with fail
  refine (spec_TableText u ns n f w3 HT.out HS.out).mono ?_
  rintro e w4 ⟨rfl, hb⟩
  obtain ⟨lowR, lowV⟩ := R3.out.low
  have R4 := Lib.hid (R3.out.below hb lowR lowV)
  have HB4 := nxt HB3 hb
  obtain ⟨t, ht⟩ : ∃ t, mkS (tabTx (txs ns) n f) = t := ⟨_, rfl⟩
  have hts : t.size ≤ 1000 := by rw [← ht, mkS_size]; exact tabTx_len _ _ _
  rw [ht]
  clear hb ht R3 HB3 HT HS lowR lowV lowR0 lowV0
  go_wp2_with fail
  refine (odd_any R v1 bs1 3 p3 w4 R4.out (by omega) (by omega)).mono ?_
  rintro e w5 ⟨b, p5, rfl, q1, q2, hr, hg, -⟩
  have R5 := Lib.hid hr
  have HB5 : Hid (Below w.heap.size w w5) := HB4.out.grown hg HB4.out.size (fun g hg => by cases hg; have := HRR.out; omega)
  obtain ⟨lowR, lowV⟩ := hr.low
  have LV := Lib.hid lowV
  clear hr hg R4 HB4 lowV
  cases b
  · go_wp2
    go_ret
    exact ⟨t, rfl, by omega, HB5.out⟩
  · have hz1 : w.heap.size ≤ w5.heap.size := HB5.out.size
    have hs1 : (t ++ (⟨#[32]⟩ : ByteArray)).size ≤ 2000 := by rw [← tx_size, tx_append, List.length_append, tx_size]; show t.size + 1 ≤ 2000; omega
    have hs4 : (t ++ (⟨#[32, 47, 32, 120]⟩ : ByteArray)).size ≤ 2000 := by rw [← tx_size, tx_append, List.length_append, tx_size]; show t.size + 4 ≤ 2000; omega
    have hn1 : ¬ 9223372036854775807 < t.size + 1 := by omega
    have hn4 : ¬ 9223372036854775807 < t.size + 4 := by omega
    have hba := (Below.refl w.heap.size w5).alloc hz1 (.cells #[.string ⟨#[]⟩, .string ⟨#[97]⟩, .string ⟨#[97, 32, 98]⟩, .string ⟨#[97, 32, 97]⟩, .string ⟨#[97, 32, 47, 32, 49]⟩, .string ⟨#[97, 32, 47, 32, 49, 32, 50]⟩, .string ⟨#[97, 32, 47]⟩, .string ⟨#[97, 32, 47, 32, 49, 32, 47]⟩, .string ⟨#[97, 32, 98, 32, 47, 32, 49, 32, 50, 32, 47, 32, 51]⟩, .string ⟨#[97, 32, 47, 32, 48, 49]⟩, .string ⟨#[97, 32, 32, 98]⟩, .string (t ++ (⟨#[32]⟩ : ByteArray)), .string (t ++ (⟨#[32, 47, 32, 120]⟩ : ByteArray))] 9)
    have hbb : Below w5.heap.size w5 (w5.alloc (.cells #[.string ⟨#[]⟩, .string ⟨#[97]⟩, .string ⟨#[97, 32, 98]⟩, .string ⟨#[97, 32, 97]⟩, .string ⟨#[97, 32, 47, 32, 49]⟩, .string ⟨#[97, 32, 47, 32, 49, 32, 50]⟩, .string ⟨#[97, 32, 47]⟩, .string ⟨#[97, 32, 47, 32, 49, 32, 47]⟩, .string ⟨#[97, 32, 98, 32, 47, 32, 49, 32, 50, 32, 47, 32, 51]⟩, .string ⟨#[97, 32, 47, 32, 48, 49]⟩, .string ⟨#[97, 32, 32, 98]⟩, .string (t ++ (⟨#[32]⟩ : ByteArray)), .string (t ++ (⟨#[32, 47, 32, 120]⟩ : ByteArray))] 9)) := (Below.refl _ _).alloc (Nat.le_refl _) _
    have hr1 : Row (w5.alloc (.cells #[.string ⟨#[]⟩, .string ⟨#[97]⟩, .string ⟨#[97, 32, 98]⟩, .string ⟨#[97, 32, 97]⟩, .string ⟨#[97, 32, 47, 32, 49]⟩, .string ⟨#[97, 32, 47, 32, 49, 32, 50]⟩, .string ⟨#[97, 32, 47]⟩, .string ⟨#[97, 32, 47, 32, 49, 32, 47]⟩, .string ⟨#[97, 32, 98, 32, 47, 32, 49, 32, 50, 32, 47, 32, 51]⟩, .string ⟨#[97, 32, 47, 32, 48, 49]⟩, .string ⟨#[97, 32, 32, 98]⟩, .string (t ++ (⟨#[32]⟩ : ByteArray)), .string (t ++ (⟨#[32, 47, 32, 120]⟩ : ByteArray))] 9)) w5.heap.size 9 (strs [⟨#[]⟩, ⟨#[97]⟩, ⟨#[97, 32, 98]⟩, ⟨#[97, 32, 97]⟩, ⟨#[97, 32, 47, 32, 49]⟩, ⟨#[97, 32, 47, 32, 49, 32, 50]⟩, ⟨#[97, 32, 47]⟩, ⟨#[97, 32, 47, 32, 49, 32, 47]⟩, ⟨#[97, 32, 98, 32, 47, 32, 49, 32, 50, 32, 47, 32, 51]⟩, ⟨#[97, 32, 47, 32, 48, 49]⟩, ⟨#[97, 32, 32, 98]⟩, t ++ (⟨#[32]⟩ : ByteArray), t ++ (⟨#[32, 47, 32, 120]⟩ : ByteArray)]) := Row.new w5 9 (strs [⟨#[]⟩, ⟨#[97]⟩, ⟨#[97, 32, 98]⟩, ⟨#[97, 32, 97]⟩, ⟨#[97, 32, 47, 32, 49]⟩, ⟨#[97, 32, 47, 32, 49, 32, 50]⟩, ⟨#[97, 32, 47]⟩, ⟨#[97, 32, 47, 32, 49, 32, 47]⟩, ⟨#[97, 32, 98, 32, 47, 32, 49, 32, 50, 32, 47, 32, 51]⟩, ⟨#[97, 32, 47, 32, 48, 49]⟩, ⟨#[97, 32, 32, 98]⟩, t ++ (⟨#[32]⟩ : ByteArray), t ++ (⟨#[32, 47, 32, 120]⟩ : ByteArray)])
    have R5b := Lib.hid (R5.out.below hbb lowR LV.out)
    have HB6 : Hid (Below w.heap.size w (w5.alloc (.cells #[.string ⟨#[]⟩, .string ⟨#[97]⟩, .string ⟨#[97, 32, 98]⟩, .string ⟨#[97, 32, 97]⟩, .string ⟨#[97, 32, 47, 32, 49]⟩, .string ⟨#[97, 32, 47, 32, 49, 32, 50]⟩, .string ⟨#[97, 32, 47]⟩, .string ⟨#[97, 32, 47, 32, 49, 32, 47]⟩, .string ⟨#[97, 32, 98, 32, 47, 32, 49, 32, 50, 32, 47, 32, 51]⟩, .string ⟨#[97, 32, 47, 32, 48, 49]⟩, .string ⟨#[97, 32, 32, 98]⟩, .string (t ++ (⟨#[32]⟩ : ByteArray)), .string (t ++ (⟨#[32, 47, 32, 120]⟩ : ByteArray))] 9))) := HB5.out.trans hba
    have HPP : Hid (∀ s ∈ ([⟨#[]⟩, ⟨#[97]⟩, ⟨#[97, 32, 98]⟩, ⟨#[97, 32, 97]⟩, ⟨#[97, 32, 47, 32, 49]⟩, ⟨#[97, 32, 47, 32, 49, 32, 50]⟩, ⟨#[97, 32, 47]⟩, ⟨#[97, 32, 47, 32, 49, 32, 47]⟩, ⟨#[97, 32, 98, 32, 47, 32, 49, 32, 50, 32, 47, 32, 51]⟩, ⟨#[97, 32, 47, 32, 48, 49]⟩, ⟨#[97, 32, 32, 98]⟩, t ++ (⟨#[32]⟩ : ByteArray), t ++ (⟨#[32, 47, 32, 120]⟩ : ByteArray)] : List ByteArray), s.size ≤ 2000) := by
      intro s hs
      simp only [List.mem_cons, List.not_mem_nil, or_false] at hs
      rcases hs with rfl | rfl | rfl | rfl | rfl | rfl | rfl | rfl | rfl | rfl | rfl | rfl | rfl
      · decide
      · decide
      · decide
      · decide
      · decide
      · decide
      · decide
      · decide
      · decide
      · decide
      · decide
      · exact hs1
      · exact hs4
    have HR1 := Lib.hid hr1
    clear hba hbb hr1 R5 HB5
    go_wp2_with fail
    refine (pick_nat R v1 bs1 13 p5 _ R5b.out (by omega) (by omega)).mono ?_
    rintro e w6 ⟨y, rfl, hy, hr, hg⟩
    have HB7 : Hid (Below w.heap.size w w6) := HB6.out.grown hg HB6.out.size (fun g hg => by cases hg; have := HRR.out; omega)
    have hr2 := HR1.out.grown hg (fun e => by cases e; omega)
    obtain ⟨s, hsc, hsl⟩ := row_atS hr2 (P := fun s => s.size ≤ 2000) HPP.out (i := y) (by simpa using hy)
    clear hr hg hr2 HR1 R5b HB6
    go_wp2
    go_ret
    exact ⟨s, rfl, hsl, HB7.out⟩
end Go.Proofs.YtajgghifamebkaaDoor
