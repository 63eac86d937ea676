/- MemoryUse refuses -/
import Derived.Test.YtpkcgpgcoafmhaaDoorMemoU
namespace Go.Proofs.YtpkcgpgcoafmhaaDoor
open Go.RowKit
def UsePost (ok : Bool) (n : Nat) (ls : Nat → List (Int × Int × Int)) (had : Int) (ps : List Int) (w : World) (e : Ending) (w' : World) : Prop := ∃ mv pv, e = .returned (.tuple #[mv, .int .i64 had, pv, .bool ok]) ∧ MO w' w.heap.size mv n ls ∧ Gr w' w.heap.size 3 1 pv ps.length (ints ps) ∧ Below w.heap.size w w'
def useOk (n : Nat) (f : Nat → List (Int × Int × Int)) (st : List (Int × Int × Int)) (a v l : Int) : Bool := validB n f st && inB a 0 7 && inB v (-100000) 100000 && inB l 0 3
set_option maxRecDepth 20000 in
set_option maxHeartbeats 2000000 in
theorem impl_Use_no (mv : Value) (n : Nat) (f : Nat → List (Int × Int × Int)) (st : List (Int × Int × Int)) (a : Int) (t : Bool) (v l : Int) (w : World) (h : MemIn w mv n f st) (hs : Small n f st) (hk : useOk n f st a v l = false) :
    Calls Tryd.prog 8 #[mv, .int .i64 a, .bool t, .int .i64 v, .int .i64 l] w (UsePost false 0 (fun _ => []) 0 [] w) := by
  have HM := Lib.hid h
  obtain ⟨bs, sv, rfl, h1, h2⟩ := h
  have HSM := Lib.hid hs
  clear h1 h2 hs
  obtain ⟨w1, hw1⟩ : ∃ w1, w1 = (w.alloc (.cells #[bs, sv] 26)).alloc (.cells #[.slice none 0 0, .slice none 0 0] 26) := ⟨_, rfl⟩
  have HW1 := Lib.hid hw1
  have HB1 : Hid (Below w.heap.size w w1) := by rw [hw1]; exact ((Below.refl _ _).alloc (Nat.le_refl _) _).alloc (by simp) _
  have HR1 : Hid (Row w1 (w.heap.size + 1) 26 [.slice none 0 0, .slice none 0 0]) := by
    have := Row.new (w.alloc (.cells #[bs, sv] 26)) 26 [.slice none 0 0, .slice none 0 0]
    rw [World.size_alloc] at this
    rw [hw1]; exact this
  clear hw1
  have HEND : Hid (∀ w2, Below w1.heap.size w1 w2 → Row w2 (w.heap.size + 1) 26 [.slice none 0 0, .slice none 0 0]) := fun w2 hb => HR1.out.mono hb HR1.out.lt
  have HZ : Hid (∀ w2, Below w.heap.size w w2 → UsePost false 0 (fun _ => []) 0 [] w (.returned (.tuple #[.agg #[.slice none 0 0, .slice none 0 0], .int .i64 0, .slice none 0 0, .bool false])) w2) := fun w2 hb => ⟨_, _, rfl, MO.zero _ _, Gr.nil _ _ _ _, hb⟩
  unfold useOk at hk
  cases hv : validB n f st with
  | false =>
    have HV := Lib.hid hv
    clear hv hk
    go_enter Tryd.func8, Tryd.ntmps8
    go_wp2_with fail
    rw [← HW1.out]
    refine (impl_MemoryValid _ n f st w1 (HM.out.mono HB1.out (Nat.le_refl _)) HSM.out).mono ?_
    rw [HV.out]
    rintro e w2 ⟨rfl, hb⟩
    have HB2 : Hid (Below w.heap.size w w2) := HB1.out.trans (hb.mono HB1.out.size)
    have HR2 := Lib.hid (HEND.out w2 hb)
    clear hb
    have y0 := HR2.out.cell (i := 0) rfl
    have y1 := HR2.out.cell (i := 1) rfl
    have z0 := HR2.out.free 0
    have z1 := HR2.out.free 1
    go_wp2
    have hrow := (HR2.out.set 0 (.slice none 0 0)).set 1 (.slice none 0 0)
    have f0 := hrow.cell (i := 0) rfl
    have f1 := hrow.cell (i := 1) rfl
    have hg1 : w2.grownBy ((w2.setCell ⟨w.heap.size + 1, 0, none⟩ (.slice none 0 0)).setCell ⟨w.heap.size + 1, 1, none⟩ (.slice none 0 0)) (some (w.heap.size + 1)) := grown_set (set_other w2 ⟨w.heap.size + 1, 0, none⟩ _ rfl) _ _
    exact bodyPost_ret (v := .tuple #[.agg #[.slice none 0 0, .slice none 0 0], .int .i64 0, .slice none 0 0, .bool false]) (by simp [results, Tryd.results8, go_sem, f0, f1]) rfl (HZ.out _ (HB2.out.grown hg1 HB2.out.size (fun g hg => by cases hg; omega)))
  | true =>
    have HV := Lib.hid hv
    cases ha : inB a 0 7 with
    | false =>
      have HA := Lib.hid ha
      clear hv hk ha
      go_enter Tryd.func8, Tryd.ntmps8
      go_wp2_with fail
      rw [← HW1.out]
      refine (impl_MemoryValid _ n f st w1 (HM.out.mono HB1.out (Nat.le_refl _)) HSM.out).mono ?_
      rw [HV.out]
      rintro e w2 ⟨rfl, hb⟩
      have HB2 : Hid (Below w.heap.size w w2) := HB1.out.trans (hb.mono HB1.out.size)
      have HR2 := Lib.hid (HEND.out w2 hb)
      clear hb
      have y0 := HR2.out.cell (i := 0) rfl
      have y1 := HR2.out.cell (i := 1) rfl
      have z0 := HR2.out.free 0
      have z1 := HR2.out.free 1
      go_wp2_with (first | (go_at_call 15; refine (isAddress_any _ _).mono ?_; rw [HA.out]; rintro e w' ⟨rfl, rfl⟩))
      have hrow := (HR2.out.set 0 (.slice none 0 0)).set 1 (.slice none 0 0)
      have f0 := hrow.cell (i := 0) rfl
      have f1 := hrow.cell (i := 1) rfl
      have hg1 : w2.grownBy ((w2.setCell ⟨w.heap.size + 1, 0, none⟩ (.slice none 0 0)).setCell ⟨w.heap.size + 1, 1, none⟩ (.slice none 0 0)) (some (w.heap.size + 1)) := grown_set (set_other w2 ⟨w.heap.size + 1, 0, none⟩ _ rfl) _ _
      exact bodyPost_ret (v := .tuple #[.agg #[.slice none 0 0, .slice none 0 0], .int .i64 0, .slice none 0 0, .bool false]) (by simp [results, Tryd.results8, go_sem, f0, f1]) rfl (HZ.out _ (HB2.out.grown hg1 HB2.out.size (fun g hg => by cases hg; omega)))
    | true =>
      have HA := Lib.hid ha
      cases hvv : inB v (-100000) 100000 with
      | false =>
        have HVV := Lib.hid hvv
        clear hv hk ha hvv
        go_enter Tryd.func8, Tryd.ntmps8
        go_wp2_with fail
        rw [← HW1.out]
        refine (impl_MemoryValid _ n f st w1 (HM.out.mono HB1.out (Nat.le_refl _)) HSM.out).mono ?_
        rw [HV.out]
        rintro e w2 ⟨rfl, hb⟩
        have HB2 : Hid (Below w.heap.size w w2) := HB1.out.trans (hb.mono HB1.out.size)
        have HR2 := Lib.hid (HEND.out w2 hb)
        clear hb
        have y0 := HR2.out.cell (i := 0) rfl
        have y1 := HR2.out.cell (i := 1) rfl
        have z0 := HR2.out.free 0
        have z1 := HR2.out.free 1
        go_wp2_with (first | (go_at_call 15; refine (isAddress_any _ _).mono ?_; rw [HA.out]; rintro e w' ⟨rfl, rfl⟩) | (go_at_call 19; refine (isValue_any _ _).mono ?_; rw [HVV.out]; rintro e w' ⟨rfl, rfl⟩))
        have hrow := (HR2.out.set 0 (.slice none 0 0)).set 1 (.slice none 0 0)
        have f0 := hrow.cell (i := 0) rfl
        have f1 := hrow.cell (i := 1) rfl
        have hg1 : w2.grownBy ((w2.setCell ⟨w.heap.size + 1, 0, none⟩ (.slice none 0 0)).setCell ⟨w.heap.size + 1, 1, none⟩ (.slice none 0 0)) (some (w.heap.size + 1)) := grown_set (set_other w2 ⟨w.heap.size + 1, 0, none⟩ _ rfl) _ _
        exact bodyPost_ret (v := .tuple #[.agg #[.slice none 0 0, .slice none 0 0], .int .i64 0, .slice none 0 0, .bool false]) (by simp [results, Tryd.results8, go_sem, f0, f1]) rfl (HZ.out _ (HB2.out.grown hg1 HB2.out.size (fun g hg => by cases hg; omega)))
      | true =>
        have HVV := Lib.hid hvv
        cases hl : inB l 0 3 with
        | false =>
          have HL := Lib.hid hl
          clear hv hk ha hvv hl
          go_enter Tryd.func8, Tryd.ntmps8
          go_wp2_with fail
          rw [← HW1.out]
          refine (impl_MemoryValid _ n f st w1 (HM.out.mono HB1.out (Nat.le_refl _)) HSM.out).mono ?_
          rw [HV.out]
          rintro e w2 ⟨rfl, hb⟩
          have HB2 : Hid (Below w.heap.size w w2) := HB1.out.trans (hb.mono HB1.out.size)
          have HR2 := Lib.hid (HEND.out w2 hb)
          clear hb
          have y0 := HR2.out.cell (i := 0) rfl
          have y1 := HR2.out.cell (i := 1) rfl
          have z0 := HR2.out.free 0
          have z1 := HR2.out.free 1
          go_wp2_with (first | (go_at_call 15; refine (isAddress_any _ _).mono ?_; rw [HA.out]; rintro e w' ⟨rfl, rfl⟩) | (go_at_call 19; refine (isValue_any _ _).mono ?_; rw [HVV.out]; rintro e w' ⟨rfl, rfl⟩) | (go_at_call 20; refine (isLeaf_any _ _).mono ?_; rw [HL.out]; rintro e w' ⟨rfl, rfl⟩))
          have hrow := (HR2.out.set 0 (.slice none 0 0)).set 1 (.slice none 0 0)
          have f0 := hrow.cell (i := 0) rfl
          have f1 := hrow.cell (i := 1) rfl
          have hg1 : w2.grownBy ((w2.setCell ⟨w.heap.size + 1, 0, none⟩ (.slice none 0 0)).setCell ⟨w.heap.size + 1, 1, none⟩ (.slice none 0 0)) (some (w.heap.size + 1)) := grown_set (set_other w2 ⟨w.heap.size + 1, 0, none⟩ _ rfl) _ _
          exact bodyPost_ret (v := .tuple #[.agg #[.slice none 0 0, .slice none 0 0], .int .i64 0, .slice none 0 0, .bool false]) (by simp [results, Tryd.results8, go_sem, f0, f1]) rfl (HZ.out _ (HB2.out.grown hg1 HB2.out.size (fun g hg => by cases hg; omega)))
        | true => rw [hv, ha, hvv, hl] at hk; cases hk
end Go.Proofs.YtpkcgpgcoafmhaaDoor
