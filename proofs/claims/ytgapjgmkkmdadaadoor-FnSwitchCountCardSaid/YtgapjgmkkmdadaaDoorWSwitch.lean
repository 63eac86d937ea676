/- the walk of FnSwitchCount -/
import Derived.Test.YtgapjgmkkmdadaaDoorDraw
import Derived.Test.YtgapjgmkkmdadaaDoorName
import Derived.Test.YtgapjgmkkmdadaaDoorScal
namespace Go.Proofs.YtgapjgmkkmdadaaDoor
open Go.RowKit
def DrawnInt (lo hi : Int) (w : World) (e : Ending) (w' : World) : Prop := ∃ x : Int, e = .returned (.int .i64 x) ∧ lo ≤ x ∧ x ≤ hi ∧ Below w.heap.size w w'
theorem draw_SwitchCount (v : Value) (bs : List Int) (w : World) (h : Bts w v bs) : Calls Tryd.prog 9 #[v] w (DrawnInt (-1) 9 w) := by
  have H := Lib.hid h
  clear h
  go_enter Tryd.func9, Tryd.ntmps9
  go_wp2_with fail
  refine (open_any v bs w H.out).mono ?_
  rintro e w1 ⟨v1, bs1, rfl, hr, hb⟩
  have HR := Lib.hid hr
  have B1 := nxt (Lib.hid (Below.refl _ _)) hb
  clear hr hb
  go_wp2_with fail
  refine (pick_any _ v1 bs1 11 0 _ HR.out (by omega)).mono ?_
  rintro e w2 ⟨x, rfl, x0, x1, _, _, hg, _⟩
  have x1 := x1 (by omega)
  have B2 := nxtG B1 hg (fun g h => by cases h; exact Nat.le_refl _)
  clear hg B1
  go_wp2
  go_ret
  exact ⟨_, rfl, by omega, by omega, B2.out⟩
theorem swc1 : swc 1 = 0 := rfl
theorem swc2 : swc 2 = 1 := rfl
theorem swc4 : swc 4 = 6 := rfl
theorem swc8 : swc 8 = 20 := rfl
def LawPost (w : World) (e : Ending) (w' : World) : Prop := e = .returned (.bool true) ∧ Below w.heap.size w w'
theorem walk0_FnSwitchCount (w : World) (v : Value) (bs : List Int) (h : Bts w v bs) (hR : Resv w) :
    Calls Tryd.prog 3 #[v] w fun e w' => LawPost w e w' := by
  obtain ⟨ad, c, hv⟩ := h.open
  have H := Lib.hid h
  have HR := Lib.hid hR
  clear h hR
  have hv' : v = .slice ad bs.length c := by
    rcases hv with ⟨hv, _⟩ | ⟨rfl, hv⟩
    · exact hv
    · exact hv
  have hm : bs.length ≤ 9223372036854775807 := by
    rcases hv with ⟨_, hm, _⟩ | ⟨rfl, _⟩
    · unfold maxLen at hm; omega
    · simp
  clear hv
  subst hv'
  by_cases hbig : 1048576 < bs.length
  · go_enter Tryd.func3, Tryd.ntmps3
    go_wp2
    go_ret
    exact ⟨rfl, Below.refl _ _⟩
  · go_enter Tryd.func3, Tryd.ntmps3
    go_wp2_with fail
    refine (draw_SwitchCount _ bs w H.out).mono ?_
    rintro e w1 ⟨x, rfl, x0, x1, hb⟩
    have HB := Lib.hid hb
    have HR1 := Lib.hid (HR.out.mono hb (Nat.le_refl _))
    clear hb H HR
    have hss : ∀ z : Int, (z != z) = false := by simp
    rcases wide_cases x with rfl | rfl | rfl | rfl | hx
    case inr.inr.inr.inr =>
      have hx2 := (wide_no hx).2
      have HX := Lib.hid hx2
      clear hx hx2
      go_wp2_with (first | (go_at_call 11; refine (spec_sw_any _ _).mono ?_; rw [HX.out]; rintro e w' ⟨rfl, rfl⟩) | (go_at_call 10; refine (impl_sw_any _ _).mono ?_; rw [HX.out]; rintro e w' ⟨rfl, rfl⟩) | (go_at_call 12; refine (alive_any _ HR1.out).mono ?_; rintro e w' ⟨rfl, rfl⟩))
      go_ret
      exact ⟨rfl, HB.out⟩
    all_goals
      go_wp2_with (first | (go_at_call 11; refine (spec_sw_any _ _).mono ?_; simp only [swc1, swc2, swc4, swc8]; rintro e w' ⟨rfl, rfl⟩) | (go_at_call 10; refine (impl_sw_any _ _).mono ?_; simp only [swc1, swc2, swc4, swc8]; rintro e w' ⟨rfl, rfl⟩) | (go_at_call 12; refine (alive_any _ HR1.out).mono ?_; rintro e w' ⟨rfl, rfl⟩))
      go_ret
      exact ⟨rfl, HB.out⟩
theorem walk_FnSwitchCount (w : World) (v : Value) (bs : List Int) (h : View w 1 v bs.length (bs.map (Value.int .u8)) ∧ ∀ b ∈ bs, 0 ≤ b ∧ b ≤ 255) (hR : Resv w) :
    Calls Tryd.prog 3 #[v] w fun e w' => e = .returned (.bool true) ∧ Below w.heap.size w w' := walk0_FnSwitchCount w v bs h hR
end Go.Proofs.YtgapjgmkkmdadaaDoor
