/- the walk of FnLookupValue -/
import Derived.Test.YtgapjgmkkmdadaaDoorLookVDraw
import Derived.Test.YtgapjgmkkmdadaaDoorLook
import Derived.Test.YtgapjgmkkmdadaaDoorName
namespace Go.Proofs.YtgapjgmkkmdadaaDoor
open Go.RowKit
theorem lookV_bad {a b : Int} (h : ¬ (inB a 0 200000 = true ∧ inB b 0 200000 = true)) : lookV a b = -1 := by
  unfold lookV
  rw [if_neg]
  simpa using h
theorem lookV_of {a b : Int} (ha : inB a 0 200000 = true) (hb : inB b 0 200000 = true) : lookV a b = xorI a b := by
  unfold lookV
  rw [ha, hb]; rfl
theorem xorI_comm (a b : Int) : xorI a b = xorI b a := by unfold xorI; rw [Nat.xor_comm]
theorem xorI_self (a : Int) : xorI a a = 0 := by unfold xorI; rw [Nat.xor_self]; rfl
theorem xorI_back {a b : Int} (hb : 0 ≤ b) : xorI (xorI a b) a = b := by
  unfold xorI
  rw [Int.toNat_natCast, Nat.xor_comm a.toNat, Nat.xor_assoc, Nat.xor_self, Nat.xor_zero]
  omega
set_option maxHeartbeats 1000000 in
theorem walk0_FnLookupValue (w : World) (v : Value) (bs : List Int) (h : Bts w v bs) (hR : Resv w) :
    Calls Tryd.prog 4 #[v] w fun e w' => LawOk w e w' := by
  obtain ⟨ad, c, hv, hm⟩ := bts_lit h
  have H := Lib.hid h
  have HR := Lib.hid hR
  clear h hR
  subst hv
  by_cases hbig : 1048576 < bs.length
  · go_enter Tryd.func4, Tryd.ntmps4
    go_wp2
    go_ret
    exact ⟨rfl, Below.refl _ _⟩
  · go_enter Tryd.func4, Tryd.ntmps4
    go_wp2_with fail
    refine (draw_LookupValue _ bs w H.out).mono ?_
    rintro e w1 ⟨a, b, rfl, hb⟩
    have HB := Lib.hid hb
    have HR1 := Lib.hid (HR.out.mono hb (Nat.le_refl _))
    clear hb H HR
    have hss : ∀ z : Int, (z != z) = false := by simp
    have hse : ∀ z : Int, (z == z) = true := by simp
    by_cases hin : inB a 0 200000 = true ∧ inB b 0 200000 = true
    · obtain ⟨ha, hb⟩ := hin
      obtain ⟨n, hn⟩ : ∃ n : Nat, xorI a b = (n : Int) := ⟨_, rfl⟩
      have H1 : Hid (lookV a b = (n : Int)) := by rw [lookV_of ha hb]; exact hn
      have H2 : Hid (lookV b a = (n : Int)) := by rw [lookV_of hb ha, xorI_comm]; exact hn
      have H3 : Hid (lookV a a = 0) := by (show lookV a a = 0; rw [lookV_of ha ha, xorI_self])
      by_cases h4 : (200000 : Int) < (n : Int)
      · clear ha hb hn
        go_wp2_with (first
          | (go_at_call 14; refine (impl_LookupValue _ _ _).mono ?_; (first | rw [H1.out] | rw [H2.out] | rw [H3.out]); rintro e w' ⟨rfl, rfl⟩)
          | (go_at_call 15; refine (spec_LookupValue _ _ _).mono ?_; rw [H1.out]; rintro e w' ⟨rfl, rfl⟩))
        go_ret
        exact ⟨rfl, HB.out⟩
      · have H4 : Hid (lookV (n : Int) a = b) := by rw [lookV_of (inB_true (by omega) (by omega)) ha, ← hn]; exact xorI_back (inB_iff.1 hb).1
        clear ha hb hn
        have hse2 : (b == b) = true := by simp
        go_wp2_with (first
          | (go_at_call 14; refine (impl_LookupValue _ _ _).mono ?_; (first | rw [H1.out] | rw [H2.out] | rw [H3.out] | rw [H4.out]); rintro e w' ⟨rfl, rfl⟩)
          | (go_at_call 15; refine (spec_LookupValue _ _ _).mono ?_; rw [H1.out]; rintro e w' ⟨rfl, rfl⟩))
        go_ret
        exact ⟨rfl, HB.out⟩
    · have HX := Lib.hid (lookV_bad hin)
      clear hin
      go_wp2_with (first
        | (go_at_call 14; refine (impl_LookupValue _ _ _).mono ?_; rw [HX.out]; rintro e w' ⟨rfl, rfl⟩)
        | (go_at_call 15; refine (spec_LookupValue _ _ _).mono ?_; rw [HX.out]; rintro e w' ⟨rfl, rfl⟩)
        | (go_at_call 12; refine (alive_any _ HR1.out).mono ?_; rintro e w' ⟨rfl, rfl⟩))
      go_ret
      exact ⟨rfl, HB.out⟩
theorem walk_FnLookupValue (w : World) (v : Value) (bs : List Int) (h : View w 1 v bs.length (bs.map (Value.int .u8)) ∧ ∀ b ∈ bs, 0 ≤ b ∧ b ≤ 255) (hR : Resv w) :
    Calls Tryd.prog 4 #[v] w fun e w' => e = .returned (.bool true) ∧ Below w.heap.size w w' := walk0_FnLookupValue w v bs h hR
end Go.Proofs.YtgapjgmkkmdadaaDoor
