/- MemoryUse of the specification refuses -/
import Derived.Test.YtbnplohlfiefhaaDoorMemoU2
namespace Go.Proofs.YtbnplohlfiefhaaDoor
open Go.RowKit
theorem leaf_in {n : Nat} {f : Nat → List (Int × Int × Int)} {st : List (Int × Int × Int)} {a : Int} (hv : validB n f st = true) (ha : inB a 0 7 = true) : inB (blkAt (allM n f st) a).2.2 0 3 = true := by
  have h := validB_iff.1 hv
  obtain ⟨b, hb, rfl⟩ := valid_at h ha
  rw [blkAt_of h.nodup hb rfl]
  have := h.ok b hb
  unfold blkOk at this
  rw [Bool.and_eq_true] at this; exact this.2
theorem use_refused {n : Nat} {f : Nat → List (Int × Int × Int)} {st : List (Int × Int × Int)} {a v l : Int} (hk : useOk n f st a v l = false) :
    leafV n f st a = -1 ∨ (0 ≤ leafV n f st a ∧ inB v (-100000) 100000 = false) ∨ (0 ≤ leafV n f st a ∧ inB v (-100000) 100000 = true ∧ inB l 0 3 = false) := by
  unfold useOk at hk
  unfold leafV
  cases hv : validB n f st with
  | false => left; rfl
  | true =>
    cases ha : inB a 0 7 with
    | false => left; rfl
    | true =>
      have hl := leaf_in hv ha
      rw [inB_iff] at hl
      rw [hv, ha] at hk
      right
      cases h2 : inB v (-100000) 100000 with
      | false => left; exact ⟨hl.1, rfl⟩
      | true =>
        right
        rw [h2] at hk
        exact ⟨hl.1, rfl, by simpa using hk⟩
set_option maxRecDepth 20000 in
set_option maxHeartbeats 2000000 in
theorem spec_Use_no (mv : Value) (n : Nat) (f : Nat → List (Int × Int × Int)) (st : List (Int × Int × Int)) (a : Int) (t : Bool) (v l : Int) (w : World) (h : MemIn w mv n f st) (hs : Small n f st) (hk : useOk n f st a v l = false) :
    Calls Tryd.prog 22 #[mv, .int .i64 a, .bool t, .int .i64 v, .int .i64 l] w (UsePost false 0 (fun _ => []) 0 [] w) := by
  have HM := Lib.hid h
  obtain ⟨bs, sv, rfl, h1, h2⟩ := h
  have HSM := Lib.hid hs
  clear h1 h2 hs
  have hd := use_refused hk
  obtain ⟨LV, hlv⟩ : ∃ LV, leafV n f st a = LV := ⟨_, rfl⟩
  rw [hlv] at hd
  have HLV := Lib.hid hlv
  have HD := Lib.hid hd
  clear hk hlv hd
  obtain ⟨w1, hw1⟩ : ∃ w1, w1 = (w.alloc (.cells #[bs, sv] 29)).alloc (.cells #[.slice none 0 0, .slice none 0 0] 29) := ⟨_, rfl⟩
  have HW1 := Lib.hid hw1
  have HB1 : Hid (Below w.heap.size w w1) := by rw [hw1]; exact ((Below.refl _ _).alloc (Nat.le_refl _) _).alloc (by simp) _
  have HR0 : Hid (Row w1 w.heap.size 29 [bs, sv]) := by rw [hw1]; exact (Row.new w 29 [bs, sv]).alloc _
  have HR1 : Hid (Row w1 (w.heap.size + 1) 29 [.slice none 0 0, .slice none 0 0]) := by
    have := Row.new (w.alloc (.cells #[bs, sv] 29)) 29 [.slice none 0 0, .slice none 0 0]
    rw [World.size_alloc] at this
    rw [hw1]; exact this
  have k0 : ((w.alloc (.cells #[bs, sv] 29)).alloc (.cells #[.slice none 0 0, .slice none 0 0] 29)).cell? ⟨w.heap.size, 0, none⟩ = some bs := by rw [← hw1]; exact HR0.out.cell rfl
  have k1 : ((w.alloc (.cells #[bs, sv] 29)).alloc (.cells #[.slice none 0 0, .slice none 0 0] 29)).cell? ⟨w.heap.size, 1, none⟩ = some sv := by rw [← hw1]; exact HR0.out.cell rfl
  clear hw1
  go_enter Tryd.func22, Tryd.ntmps22
  go_wp2_with fail
  rw [← HW1.out]
  clear k0 k1
  refine (spec_LeafOf _ n f st a w1 (HM.out.mono HB1.out (Nat.le_refl _)) HSM.out).mono ?_
  rw [HLV.out]
  rintro e w2 ⟨rfl, hb⟩
  have HB2 : Hid (Below w.heap.size w w2) := HB1.out.trans (hb.mono HB1.out.size)
  have HR2 := Lib.hid (HR1.out.mono hb HR1.out.lt)
  clear hb HB1 HR0 HR1 HW1
  have HR3 : Hid (Row (w2.alloc (.cells #[] 3)) (w.heap.size + 1) 29 [.slice none 0 0, .slice none 0 0]) := HR2.out.alloc _
  have y0 := HR3.out.cell (i := 0) rfl
  have y1 := HR3.out.cell (i := 1) rfl
  have z0 := HR3.out.free 0
  have z1 := HR3.out.free 1
  have x0 := HR2.out.cell (i := 0) rfl
  have x1 := HR2.out.cell (i := 1) rfl
  rcases HD.out with hd | ⟨hd, hvv⟩ | ⟨hd, hvv, hl⟩
  · subst hd
    go_wp2
    have hrow := (HR3.out.set 0 (.slice none 0 0)).set 1 (.slice none 0 0)
    have f0 := hrow.cell (i := 0) rfl
    have f1 := hrow.cell (i := 1) rfl
    have hg1 : (w2.alloc (.cells #[] 3)).grownBy (((w2.alloc (.cells #[] 3)).setCell ⟨w.heap.size + 1, 0, none⟩ (.slice none 0 0)).setCell ⟨w.heap.size + 1, 1, none⟩ (.slice none 0 0)) (some (w.heap.size + 1)) := grown_set (set_other _ ⟨w.heap.size + 1, 0, none⟩ _ rfl) _ _
    refine bodyPost_ret (v := .tuple #[.agg #[.slice none 0 0, .slice none 0 0], .int .i64 0, .slice (some ⟨w2.heap.size, 0, none⟩) 0 0, .bool false]) (by simp [results, Tryd.results22, go_sem, f0, f1]) rfl ?_
    exact ⟨_, _, rfl, MO.zero _ _, Gr.none0 _ _ _ _ _, (HB2.out.alloc HB2.out.size _).grown hg1 (by simp; have := HB2.out.size; omega) (fun g hg => by cases hg; omega)⟩
  · have hdd : decide (LV < 0) = false := decide_eq_false (by omega)
    have HVV := Lib.hid hvv
    clear hd hvv
    go_wp2_with (first | (go_at_call 43; refine (l1In_any _ _ _ _).mono ?_; rw [HVV.out]; rintro e w' ⟨rfl, rfl⟩))
    have hrow := (HR3.out.set 0 (.slice none 0 0)).set 1 (.slice none 0 0)
    have f0 := hrow.cell (i := 0) rfl
    have f1 := hrow.cell (i := 1) rfl
    have hg1 : (w2.alloc (.cells #[] 3)).grownBy (((w2.alloc (.cells #[] 3)).setCell ⟨w.heap.size + 1, 0, none⟩ (.slice none 0 0)).setCell ⟨w.heap.size + 1, 1, none⟩ (.slice none 0 0)) (some (w.heap.size + 1)) := grown_set (set_other _ ⟨w.heap.size + 1, 0, none⟩ _ rfl) _ _
    refine bodyPost_ret (v := .tuple #[.agg #[.slice none 0 0, .slice none 0 0], .int .i64 0, .slice (some ⟨w2.heap.size, 0, none⟩) 0 0, .bool false]) (by simp [results, Tryd.results22, go_sem, f0, f1]) rfl ?_
    exact ⟨_, _, rfl, MO.zero _ _, Gr.none0 _ _ _ _ _, (HB2.out.alloc HB2.out.size _).grown hg1 (by simp; have := HB2.out.size; omega) (fun g hg => by cases hg; omega)⟩
  · have hdd : decide (LV < 0) = false := decide_eq_false (by omega)
    have HVV := Lib.hid hvv
    have HL := Lib.hid hl
    clear hd hvv hl
    go_wp2_with (first | (go_at_call 43; refine (l1In_any _ _ _ _).mono ?_; rw [HVV.out]; rintro e w' ⟨rfl, rfl⟩) | (go_at_call 43; refine (l1In_any _ _ _ _).mono ?_; rw [HL.out]; rintro e w' ⟨rfl, rfl⟩))
    have hrow := (HR3.out.set 0 (.slice none 0 0)).set 1 (.slice none 0 0)
    have f0 := hrow.cell (i := 0) rfl
    have f1 := hrow.cell (i := 1) rfl
    have hg1 : (w2.alloc (.cells #[] 3)).grownBy (((w2.alloc (.cells #[] 3)).setCell ⟨w.heap.size + 1, 0, none⟩ (.slice none 0 0)).setCell ⟨w.heap.size + 1, 1, none⟩ (.slice none 0 0)) (some (w.heap.size + 1)) := grown_set (set_other _ ⟨w.heap.size + 1, 0, none⟩ _ rfl) _ _
    refine bodyPost_ret (v := .tuple #[.agg #[.slice none 0 0, .slice none 0 0], .int .i64 0, .slice (some ⟨w2.heap.size, 0, none⟩) 0 0, .bool false]) (by simp [results, Tryd.results22, go_sem, f0, f1]) rfl ?_
    exact ⟨_, _, rfl, MO.zero _ _, Gr.none0 _ _ _ _ _, (HB2.out.alloc HB2.out.size _).grown hg1 (by simp; have := HB2.out.size; omega) (fun g hg => by cases hg; omega)⟩
end Go.Proofs.YtbnplohlfiefhaaDoor
