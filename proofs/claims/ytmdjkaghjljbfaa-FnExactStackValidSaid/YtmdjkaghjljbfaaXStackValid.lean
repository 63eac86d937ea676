/- the walk of FnExactStackValid -/
import Derived.Test.YtmdjkaghjljbfaaStack
import Derived.Test.YtmdjkaghjljbfaaInts
import Derived.Test.YtmdjkaghjljbfaaMem
import Derived.Deep.RegionHeld3
namespace Go.Proofs.Ytmdjkaghjljbfaa
open Go.RowKit
set_option maxHeartbeats 4000000 in
theorem walk_FnExactStackValid (w : World) (vcs : Value) (mcs : Int) (cs : List Int) (hcs : Ints w vcs cs) (fcs : FitL cs) (gcs : Fit mcs) :
    Calls Try.prog 3 #[.agg #[vcs, .int .i64 mcs]] w fun e w' => e = .returned (.bool true) ∧ Below w.heap.size w w' := by
  have Hcs := Lib.hid hcs
  obtain ⟨adcs, ccs, hvcs, hmcs, _⟩ := hcs.open
  subst hvcs
  unfold maxLen at hmcs
  clear hcs fcs gcs
  have HA : Hid (Below w.heap.size w (w.alloc (.cells #[.slice adcs cs.length ccs, .int .i64 mcs] 24))) := (Below.refl _ _).alloc (Nat.le_refl _) _
  have RA := Lib.hid (Row.new w 24 [.slice adcs cs.length ccs, .int .i64 mcs])
  by_cases hbcs : 1048576 < cs.length
  · go_enter Try.func3, Try.ntmps3
    go_wp2_with fail
    refine (szStack_any _ cs _ _ (Hcs.out.mono HA.out (Nat.le_refl _))).mono ?_
    rw [if_neg (by omega)]
    rintro e w1 ⟨rfl, hb⟩
    have HB := Lib.hid (HA.out.trans (hb.mono HA.out.size))
    clear hb
    go_wp2
    go_ret
    exact ⟨rfl, HB.out⟩
  have hzcs : decide ((1048576 : Int) - (cs.length : Int) < 0) = false := by simp; omega
  have hs0 : ((stackB cs mcs) != (stackB cs mcs)) = false := by simp
  go_enter Try.func3, Try.ntmps3
  go_wp2_with fail
  generalize hW0 : (w.alloc (.cells #[.slice adcs cs.length ccs, .int .i64 mcs] 24)) = W0 at HA RA ⊢
  clear hW0
  have B0 := HA
  clear HA
  have C0 : Hid (w.heap.size < W0.heap.size) := RA.out.lt
  have kA0 : W0.cell? ⟨w.heap.size, 0, none⟩ = some (.slice adcs cs.length ccs) := RA.out.cell rfl
  have kA1 : W0.cell? ⟨w.heap.size, 1, none⟩ = some (.int .i64 mcs) := RA.out.cell rfl
  go_wp2_with fail
  clear kA0 kA1
  refine (szStack_any _ cs _ _ (Hcs.out.mono B0.out (Nat.le_refl _))).mono ?_
  rw [if_pos (by omega)]
  rintro e v0 ⟨rfl, hb⟩
  have B1 := nxt B0 hb
  have C1 : Hid (W0.heap.size ≤ v0.heap.size) := (hb).size
  have RA' := Lib.hid (RA.out.mono hb RA.out.lt)
  clear RA
  have RA := RA'
  clear RA'
  clear B0
  clear hb
  have kA0 : v0.cell? ⟨w.heap.size, 0, none⟩ = some (.slice adcs cs.length ccs) := RA.out.cell rfl
  have kA1 : v0.cell? ⟨w.heap.size, 1, none⟩ = some (.int .i64 mcs) := RA.out.cell rfl
  go_wp2_with fail
  clear kA0 kA1
  refine (toStack_own _ cs _ (Hcs.out.mono B1.out (Nat.le_refl _)) (by omega)).mono ?_
  rintro e v1 ⟨vs, bs, rfl, hos, hfs, hb⟩
  have Fs := Lib.hid (From.up B1 hfs)
  have Is : Hid (∀ g, bs = some g → v0.heap.size ≤ g ∧ g < v1.heap.size) := fun g h => ⟨hfs g h, hos.lt g h⟩
  have B2 := nxt B1 hb
  have C2 : Hid (v0.heap.size ≤ v1.heap.size) := (hb).size
  have RA' := Lib.hid (RA.out.mono hb RA.out.lt)
  clear RA
  have RA := RA'
  clear RA'
  clear B1
  have Os := Lib.hid hos
  clear hos hfs
  clear hb
  have kA0 : v1.cell? ⟨w.heap.size, 0, none⟩ = some (.slice adcs cs.length ccs) := RA.out.cell rfl
  have kA1 : v1.cell? ⟨w.heap.size, 1, none⟩ = some (.int .i64 mcs) := RA.out.cell rfl
  go_wp2_with fail
  clear kA0 kA1
  refine (spec_StackValid_own _ cs mcs  _ Os.out.ints (by omega)).mono ?_
  rintro e v2 ⟨rfl, hb⟩
  have B3 := nxt B2 hb
  have C3 : Hid (v1.heap.size ≤ v2.heap.size) := (hb).size
  have Os' := Lib.hid (Os.out.mono hb)
  clear Os
  have Os := Os'
  clear Os'
  have RA' := Lib.hid (RA.out.mono hb RA.out.lt)
  clear RA
  have RA := RA'
  clear RA'
  clear B2
  clear hb
  clear Os Fs Is
  have kA0 : v2.cell? ⟨w.heap.size, 0, none⟩ = some (.slice adcs cs.length ccs) := RA.out.cell rfl
  have kA1 : v2.cell? ⟨w.heap.size, 1, none⟩ = some (.int .i64 mcs) := RA.out.cell rfl
  go_wp2_with fail
  clear kA0 kA1
  refine (toStack_own _ cs _ (Hcs.out.mono B3.out (Nat.le_refl _)) (by omega)).mono ?_
  rintro e v3 ⟨vx, bx, rfl, hox, hfx, hb⟩
  have Fx := Lib.hid (From.up B3 hfx)
  have Ix : Hid (∀ g, bx = some g → v2.heap.size ≤ g ∧ g < v3.heap.size) := fun g h => ⟨hfx g h, hox.lt g h⟩
  have B4 := nxt B3 hb
  have C4 : Hid (v2.heap.size ≤ v3.heap.size) := (hb).size
  have RA' := Lib.hid (RA.out.mono hb RA.out.lt)
  clear RA
  have RA := RA'
  clear RA'
  clear B3
  have Ox := Lib.hid hox
  clear hox hfx
  clear hb
  obtain ⟨ax, cx, hvx, _, _⟩ := Ox.out.ints.open
  subst hvx
  have HP : Hid (Below v3.heap.size v3 (v3.alloc (.cells #[.slice ax cs.length cx, .int .i64 (mcs)] 27))) := (Below.refl _ _).alloc (Nat.le_refl _) _
  have Rx : Hid (Row (v3.alloc (.cells #[.slice ax cs.length cx, .int .i64 (mcs)] 27)) v3.heap.size 27 [.slice ax cs.length cx, .int .i64 (mcs)]) := Row.new v3 27 [.slice ax cs.length cx, .int .i64 (mcs)]
  have eA : ¬ v3.heap.size = w.heap.size := by have := RA.out.lt; omega
  have kA0 : v3.cell? ⟨w.heap.size, 0, none⟩ = some (.slice adcs cs.length ccs) := RA.out.cell rfl
  have kA1 : v3.cell? ⟨w.heap.size, 1, none⟩ = some (.int .i64 mcs) := RA.out.cell rfl
  go_wp2_with fail
  clear kA0 kA1
  clear eA
  generalize hW4 : (v3.alloc (.cells #[.slice ax cs.length cx, .int .i64 (mcs)] 27)) = v4 at HP Rx ⊢
  clear hW4
  have hp := HP.out
  clear HP
  have CP : Hid (v3.heap.size < v4.heap.size) := Rx.out.lt
  have B5 := nxt B4 hp
  have C5 : Hid (v3.heap.size ≤ v4.heap.size) := (hp).size
  have Ox' := Lib.hid (Ox.out.mono hp)
  clear Ox
  have Ox := Ox'
  clear Ox'
  have RA' := Lib.hid (RA.out.mono hp RA.out.lt)
  clear RA
  have RA := RA'
  clear RA'
  clear B4
  clear C5
  have C5 := CP
  clear hp CP
  refine (impl_StackValid_own _ cs mcs  _ Ox.out.ints (by omega)).mono ?_
  rintro e v5 ⟨rfl, hb⟩
  have B6 := nxt B5 hb
  have C6 : Hid (v4.heap.size ≤ v5.heap.size) := (hb).size
  have Ox' := Lib.hid (Ox.out.mono hb)
  clear Ox
  have Ox := Ox'
  clear Ox'
  have RA' := Lib.hid (RA.out.mono hb RA.out.lt)
  clear RA
  have RA := RA'
  clear RA'
  have Rx' := Lib.hid (Rx.out.mono hb Rx.out.lt)
  clear Rx
  have Rx := Rx'
  clear Rx'
  clear B5
  clear hb
  have kA0 : v5.cell? ⟨w.heap.size, 0, none⟩ = some (.slice adcs cs.length ccs) := RA.out.cell rfl
  have kA1 : v5.cell? ⟨w.heap.size, 1, none⟩ = some (.int .i64 mcs) := RA.out.cell rfl
  have kx0 : v5.cell? ⟨v3.heap.size, 0, none⟩ = some (.slice ax cs.length cx) := Rx.out.cell rfl
  have kx1 : v5.cell? ⟨v3.heap.size, 1, none⟩ = some (.int .i64 (mcs)) := Rx.out.cell rfl
  go_wp2
  clear kA0 kA1 kx0 kx1
  have KH0 : Hid (v5.drew.cell? ⟨v3.heap.size, 0, none⟩ = some (.slice ax cs.length cx) ∧ v5.drew.cell? ⟨v3.heap.size, 1, none⟩ = some (.int .i64 (mcs)) ∧ v5.drew.cell? ⟨w.heap.size, 0, none⟩ = some (.slice adcs cs.length ccs) ∧ v5.drew.cell? ⟨w.heap.size, 1, none⟩ = some (.int .i64 mcs)) := ⟨Rx.out.cell rfl, Rx.out.cell rfl, RA.out.cell rfl, RA.out.cell rfl⟩
  go_region_held3 (fun w' => w'.cell? ⟨v3.heap.size, 0, none⟩ = some (.slice ax cs.length cx) ∧ w'.cell? ⟨v3.heap.size, 1, none⟩ = some (.int .i64 (mcs)) ∧ w'.cell? ⟨w.heap.size, 0, none⟩ = some (.slice adcs cs.length ccs) ∧ w'.cell? ⟨w.heap.size, 1, none⟩ = some (.int .i64 mcs)) ((first | exact KH0.out | exact KH1.out | exact KH2.out)) (first | (go_at_call 9; refine (toStack_own _ cs _ ?_ (by omega)).mono ?_; (exact (Hcs.out.mono B6.out.drew (Nat.le_refl _))); rintro e v6 ⟨vy, by9, rfl, hoy, hfy, hb⟩; have hb1 := (Below.refl v5.heap.size v5).drew.trans hb; have HB1 := Lib.hid hb1; have OY := Lib.hid hoy; have KH1 : Hid (v6.cell? ⟨v3.heap.size, 0, none⟩ = some (.slice ax cs.length cx) ∧ v6.cell? ⟨v3.heap.size, 1, none⟩ = some (.int .i64 (mcs)) ∧ v6.cell? ⟨w.heap.size, 0, none⟩ = some (.slice adcs cs.length ccs) ∧ v6.cell? ⟨w.heap.size, 1, none⟩ = some (.int .i64 mcs)) := ⟨(Rx.out.mono hb1 Rx.out.lt).cell rfl, (Rx.out.mono hb1 Rx.out.lt).cell rfl, (RA.out.mono hb1 RA.out.lt).cell rfl, (RA.out.mono hb1 RA.out.lt).cell rfl⟩; have OX := Lib.hid (Ox.out.mono hb1); clear hb hb1 hoy hfy) | (go_at_call 11; refine (eqStack_same _ _ cs _ OX.out.ints OY.out.ints).mono ?_; rintro e v7 ⟨rfl, hb⟩; have HB2 := Lib.hid (HB1.out.trans (hb.mono HB1.out.size)); have KH2 : Hid (v7.cell? ⟨v3.heap.size, 0, none⟩ = some (.slice ax cs.length cx) ∧ v7.cell? ⟨v3.heap.size, 1, none⟩ = some (.int .i64 (mcs)) ∧ v7.cell? ⟨w.heap.size, 0, none⟩ = some (.slice adcs cs.length ccs) ∧ v7.cell? ⟨w.heap.size, 1, none⟩ = some (.int .i64 mcs)) := ⟨(Rx.out.mono HB2.out Rx.out.lt).cell rfl, (Rx.out.mono HB2.out Rx.out.lt).cell rfl, (RA.out.mono HB2.out RA.out.lt).cell rfl, (RA.out.mono HB2.out RA.out.lt).cell rfl⟩; clear hb))
  have hb := HB2.out
  clear HB1 HB2 KH0 KH1 KH2 OX OY
  have B7 := nxt B6 hb
  have C7 : Hid (v5.heap.size ≤ v7.heap.size) := (hb).size
  have Ox' := Lib.hid (Ox.out.mono hb)
  clear Ox
  have Ox := Ox'
  clear Ox'
  have RA' := Lib.hid (RA.out.mono hb RA.out.lt)
  clear RA
  have RA := RA'
  clear RA'
  have Rx' := Lib.hid (Rx.out.mono hb Rx.out.lt)
  clear Rx
  have Rx := Rx'
  clear Rx'
  clear B6
  clear hb
  have kA0 : v7.cell? ⟨w.heap.size, 0, none⟩ = some (.slice adcs cs.length ccs) := RA.out.cell rfl
  have kA1 : v7.cell? ⟨w.heap.size, 1, none⟩ = some (.int .i64 mcs) := RA.out.cell rfl
  have kx0 : v7.cell? ⟨v3.heap.size, 0, none⟩ = some (.slice ax cs.length cx) := Rx.out.cell rfl
  have kx1 : v7.cell? ⟨v3.heap.size, 1, none⟩ = some (.int .i64 (mcs)) := Rx.out.cell rfl
  go_wp2
  go_ret
  exact ⟨rfl, B7.out⟩
end Go.Proofs.Ytmdjkaghjljbfaa
