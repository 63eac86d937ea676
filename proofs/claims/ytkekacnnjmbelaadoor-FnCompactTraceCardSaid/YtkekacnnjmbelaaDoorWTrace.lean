/- the walk of FnCompactTrace -/
import Derived.Test.YtkekacnnjmbelaaDoorTrDraw
import Derived.Test.YtkekacnnjmbelaaDoorCompT
import Derived.Test.YtkekacnnjmbelaaDoorName
namespace Go.Proofs.YtkekacnnjmbelaaDoor
open Go.RowKit
set_option maxHeartbeats 1000000 in
theorem walk0_FnCompactTrace (w : World) (v : Value) (bs : List Int) (h : Bts w v bs) (hR : Resv w) :
    Calls Tryd.prog 3 #[v] w fun e w' => LawOk w e w' := by
  obtain ⟨ad, c, hv, hm⟩ := bts_lit h
  have H := Lib.hid h
  have HR := Lib.hid hR
  clear h hR
  subst hv
  by_cases hbig : 1048576 < bs.length
  · go_enter Tryd.func3, Tryd.ntmps3
    go_wp2
    go_ret
    exact ⟨rfl, Below.refl _ _⟩
  · go_enter Tryd.func3, Tryd.ntmps3
    go_wp2_with fail
    refine (draw_CompactTrace _ bs w H.out).mono ?_
    rintro e w1 ⟨m, rfl, m0, m1, hb⟩
    have B1 := nxt (Lib.hid (Below.refl _ _)) hb
    clear hb H
    obtain ⟨xs, hxs⟩ : ∃ xs, traceC m = xs := ⟨_, rfl⟩
    have HXS := Lib.hid hxs
    clear hxs
    go_wp2_with fail
    refine (impl_CompactTrace m _).mono ?_
    rw [HXS.out]
    rintro e w2 ⟨x, rfl, hg, hb⟩
    have HX2 : Hid (Accs w2 x xs) := Gr.accs hg rfl
    have B2 := nxt B1 hb
    clear hg hb B1
    go_wp2_with fail
    refine (spec_CompactTrace m _).mono ?_
    rw [HXS.out]
    rintro e w3 ⟨y, rfl, hg, hb⟩
    have HX3 := Lib.hid (HX2.out.mono hb (Nat.le_refl _))
    have HY3 : Hid (Accs w3 y xs) := Gr.accs hg rfl
    have B3 := nxt B2 hb
    clear hg hb B2 HX2
    go_wp2_with fail
    refine (sameTrace_same _ _ xs _ HX3.out HY3.out).mono ?_
    rintro e w4 ⟨rfl, hb⟩
    have HX4 := Lib.hid (HX3.out.mono hb (Nat.le_refl _))
    have B4 := nxt B3 hb
    have HR4 := Lib.hid (HR.out.mono B4.out (Nat.le_refl _))
    clear hb B3 HX3 HY3 HR
    obtain ⟨ad4, c4, hx4, _, _⟩ := HX4.out.open
    by_cases hsm : m < 2 ∨ 256 < m
    · have hl : xs.length = 0 := by rw [← HXS.out, traceC_small hsm]; rfl
      rw [hl] at hx4
      subst hx4
      clear hl
      rcases hsm with h1 | h1
      · go_wp2_with (go_at_call 14; refine (alive_any _ HR4.out).mono ?_; rintro e w' ⟨rfl, rfl⟩)
        go_ret
        exact ⟨rfl, B4.out⟩
      · have h2 : decide (m < 2) = false := by simp; omega
        go_wp2_with (go_at_call 14; refine (alive_any _ HR4.out).mono ?_; rintro e w' ⟨rfl, rfl⟩)
        go_ret
        exact ⟨rfl, B4.out⟩
    · obtain ⟨M, rfl⟩ := Int.eq_ofNat_of_zero_le (by omega : 0 ≤ m)
      have hM2 : 2 ≤ M := by omega
      have hM : M ≤ 256 := by omega
      obtain ⟨s, hs, e1, e2⟩ := traceC_mid hM2 hM
      rw [HXS.out] at e1
      obtain ⟨n, hn⟩ : ∃ n, xs.length = n := ⟨_, rfl⟩
      rw [hn] at hx4 e1
      have HN := Lib.hid hn
      subst hx4
      clear hn
      have hnl : n ≤ 4608 := by rw [e1]; exact mul512 hM hs
      have p1 : (2 : Int) * (M : Int) * (s : Int) = (n : Int) := by rw [e1]; push_cast; rfl
      have p2 : (n : Int) / (2 * (M : Int)) = (s : Int) := by rw [← p1]; exact Int.mul_ediv_cancel_left _ (by omega)
      have q1 : decide ((M : Int) < 2) = false := by simp; omega
      have q2 : decide ((256 : Int) < (M : Int)) = false := by simp; omega
      clear e1 hsm
      by_cases hbg : 256 < 2 * M
      · have q3 : decide ((256 : Int) < 2 * (M : Int)) = true := by simp; omega
        clear e2
        go_wp2
        go_ret
        exact ⟨rfl, B4.out⟩
      · have q3 : decide ((256 : Int) < 2 * (M : Int)) = false := by simp; omega
        have e3 := e2 (by omega)
        obtain ⟨ys, hys⟩ : ∃ ys, traceC (2 * (M : Int)) = ys := ⟨_, rfl⟩
        rw [show ((2 * M : Nat) : Int) = 2 * (M : Int) by push_cast; rfl, hys] at e3
        have hyl := traceC_le (2 * (M : Int))
        rw [hys] at hyl
        have HYS := Lib.hid hys
        obtain ⟨n2, hn2⟩ : ∃ n2, ys.length = n2 := ⟨_, rfl⟩
        rw [hn2] at e3 hyl
        have HN2 := Lib.hid hn2
        have p3 : (4 : Int) * (M : Int) * ((s : Int) + 1) = (n2 : Int) := by rw [e3]; push_cast; rfl
        clear e2 e3 hys hn2
        go_wp2_with fail
        refine (impl_CompactTrace (2 * (M : Int)) _).mono ?_
        rw [HYS.out]
        rintro e w5 ⟨z, rfl, hg, hb⟩
        obtain ⟨ad5, c5, hz⟩ := hg.lit
        rw [HN2.out] at hz
        subst hz
        have B5 := nxt B4 hb
        clear hg hb
        go_wp2
        go_ret
        exact ⟨rfl, B5.out⟩
theorem walk_FnCompactTrace (w : World) (v : Value) (bs : List Int) (h : View w 1 v bs.length (bs.map (Value.int .u8)) ∧ ∀ b ∈ bs, 0 ≤ b ∧ b ≤ 255) (hR : Resv w) :
    Calls Tryd.prog 3 #[v] w fun e w' => e = .returned (.bool true) ∧ Below w.heap.size w w' := walk0_FnCompactTrace w v bs h hR
end Go.Proofs.YtkekacnnjmbelaaDoor
