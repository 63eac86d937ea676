/- walks of the laws FnExactSwitchCount and FnExactPermValid -/
import Derived.Test.YtgapjgmkkmdadaaPerm
namespace Go.Proofs.Ytgapjgmkkmdadaa
open Go.RowKit
theorem walk_FnExactSwitchCount (w : World) (a : Int) (ha : Fit a) :
    Calls Try.prog 3 #[.int .i64 a] w fun e w' => e = .returned (.bool true) ∧ Below w.heap.size w w' := by
  have hs : (swc a != swc a) = false := by simp
  clear ha
  go_enter Try.func3, Try.ntmps3
  go_wp2_with (first | (go_at_call 8; refine (spec_sw_any _ _).mono ?_; rintro e w' ⟨rfl, rfl⟩) | (go_at_call 9; refine (impl_sw_any _ _).mono ?_; rintro e w' ⟨rfl, rfl⟩))
  go_ret
  exact ⟨rfl, Below.refl _ _⟩
theorem walk_FnExactPermValid (w : World) (v : Value) (p : List Int) (h : Ints w v p) (hf : FitL p) :
    Calls Try.prog 5 #[v] w fun e w' => e = .returned (.bool true) ∧ Below w.heap.size w w' := by
  have H := Lib.hid h
  have HF := Lib.hid hf
  obtain ⟨ad, c, hv, hmax, _⟩ := h.open
  subst hv
  clear h hf
  by_cases hbig : 1048576 < p.length
  · go_enter Try.func5, Try.ntmps5
    go_wp2
    go_ret
    exact ⟨rfl, Below.refl _ _⟩
  · go_enter Try.func5, Try.ntmps5
    go_wp2_with fail
    refine (toIntS_own _ p _ H.out (by omega)).mono ?_
    rintro e w1 ⟨v1, b1, rfl, ho1, -, hb⟩
    have B1 := nxt (Lib.hid (Below.refl _ _)) hb
    have O1 := Lib.hid ho1
    clear ho1 hb
    go_wp2_with fail
    refine (spec_PermValid _ p _ O1.out.ints (by omega)).mono ?_
    rintro e w2 ⟨rfl, hb⟩
    have B2 := nxt B1 hb
    clear O1 hb B1
    go_wp2_with fail
    refine (toIntS_own _ p _ (H.out.mono B2.out (Nat.le_refl _)) (by omega)).mono ?_
    rintro e w3 ⟨v3, b3, rfl, ho3, -, hb⟩
    have B3 := nxt B2 hb
    have O3 := Lib.hid ho3
    clear ho3 hb B2
    go_wp2_with fail
    refine (impl_PermValid _ p _ O3.out.ints).mono ?_
    rintro e w4 ⟨rfl, rfl⟩
    have hs : (permB p != permB p) = false := by simp
    go_wp2_with fail
    refine (toIntS_own _ p _ (H.out.mono B3.out (Nat.le_refl _)) (by omega)).mono ?_
    rintro e w5 ⟨v5, b5, rfl, ho5, -, hb⟩
    have B5 := nxt B3 hb
    have O5 := Lib.hid ho5
    have O3' := Lib.hid (O3.out.mono hb)
    clear ho5 hb B3 O3
    go_wp2_with fail
    refine (eqIntS_same _ _ p _ O3'.out.ints O5.out.ints).mono ?_
    rintro e w6 ⟨rfl, hb⟩
    have B6 := nxt B5 hb
    clear hb B5 O5 O3'
    go_wp2_with fail
    go_ret
    exact ⟨rfl, B6.out⟩
end Go.Proofs.Ytgapjgmkkmdadaa
