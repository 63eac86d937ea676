/- draws of stacks: DrawStackValid -/
import Derived.Test.YtmdjkaghjljbfaaDoorStackDraw
namespace Go.Proofs.YtmdjkaghjljbfaaDoor
open Go.RowKit
/-- a stack drawn -/
def DrawnStack (w : World) (e : Ending) (w' : World) : Prop := ∃ (g off : Nat) (ds : List Int) (m : Int), e = .returned (.agg #[.slice (some ⟨g, off, none⟩) (8 - off) (8 - off), .int .i64 m]) ∧ off ≤ 1 ∧ ds.length = 8 ∧ Row w' g 3 (ints ds) ∧ -1 ≤ m ∧ m ≤ 9 ∧ Below w.heap.size w w'
/-- the cells of a drawn stack -/
theorem ints_drop {w : World} {g off : Nat} {ds : List Int} (h : Row w g 3 (ints ds)) (hl : ds.length = 8) (ho : off ≤ 1) : Ints w (.slice (some ⟨g, off, none⟩) (8 - off) (8 - off)) (ds.drop off) := by
  have hd : (ds.drop off).length = 8 - off := by simp [hl]
  refine ⟨by rw [ints_length, hd, Nat.mul_one], by unfold maxLen; omega, .inr ⟨by omega, g, off, 8 - off, by rw [hd], by omega, fun i u hu => ?_⟩⟩
  refine h.cell ?_
  rw [← hu]
  simp [ints]
theorem draw_StackValid (v : Value) (bs : List Int) (w : World) (h : Bts w v bs) : Calls Tryd.prog 8 #[v] w (DrawnStack w) := by
  have hbA : Below w.heap.size w (w.alloc (.cells #[.slice none 0 0, .int .i64 0] 25)) := (Below.refl _ _).alloc (Nat.le_refl _) _
  have HT := Lib.hid (Row.new w 25 [.slice none 0 0, .int .i64 0])
  have H := Lib.hid (h.mono hbA (Nat.le_refl _))
  have HA := Lib.hid hbA
  clear h hbA
  go_enter Tryd.func8, Tryd.ntmps8
  go_wp2_with fail
  generalize w.alloc (.cells #[.slice none 0 0, .int .i64 0] 25) = W at HT H HA ⊢
  refine (open_any v bs W H.out).mono ?_
  rintro e w1 ⟨v1, bs1, rfl, hr, hb⟩
  have HR := Lib.hid hr
  have HT1 := Lib.hid (HT.out.mono hb HT.out.lt)
  have z0 : w.heap.size < W.heap.size := HT.out.lt
  have z1 : W.heap.size ≤ w1.heap.size := hb.size
  have B1 : Hid (Below w.heap.size w w1) := HA.out.trans (hb.mono (Nat.le_of_lt z0))
  clear hr hb H HT HA
  go_wp2_with fail
  refine (stack_any W.heap.size v1 bs1 2 0 w1 HR.out (by omega) (by omega) (by omega)).mono ?_
  rintro e w2 ⟨g, off, ds, m, p', rfl, ho, hl, hg0, hrow, m1, m9, -, -, -, hg⟩
  have HT2 := Lib.hid (HT1.out.grown hg (some_ne (by omega)))
  have B2 : Hid (Below w.heap.size w w2) := B1.out.trans (below_grown hg (fun g h => by cases h; omega) (by omega))
  have HROW := Lib.hid hrow
  have HL := Lib.hid hl
  have kt0 : w2.cell? ⟨w.heap.size, 0, none⟩ = some (.slice none 0 0) := HT2.out.cell rfl
  have kt1 : w2.cell? ⟨w.heap.size, 1, none⟩ = some (.int .i64 0) := HT2.out.cell rfl
  have ft0 := HT2.out.free 0
  have ft1 := HT2.out.free 1
  have n2 : ¬ g = w.heap.size := by omega
  clear hg hrow hl HR HT1 B1
  go_wp2
  refine bodyPost_ret (v := .agg #[.slice (some ⟨g, off, none⟩) (8 - off) (8 - off), .int .i64 m]) (by simp [results, Tryd.results8, go_sem, kt0, kt1]) rfl ?_
  exact ⟨g, off, ds, m, rfl, ho, HL.out, (HROW.out.setOther (p := ⟨w.heap.size, 0, none⟩) n2 _).setOther (p := ⟨w.heap.size, 1, none⟩) n2 _, m1, m9, (B2.out.setCell (p := ⟨w.heap.size, 0, none⟩) (Nat.le_refl _) _).setCell (p := ⟨w.heap.size, 1, none⟩) (Nat.le_refl _) _⟩
end Go.Proofs.YtmdjkaghjljbfaaDoor
