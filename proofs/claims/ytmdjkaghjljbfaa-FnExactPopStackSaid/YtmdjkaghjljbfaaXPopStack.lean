/- the walk of FnExactPopStack -/
import Derived.Test.YtmdjkaghjljbfaaPushSpec
import Derived.Test.YtmdjkaghjljbfaaInts
import Derived.Test.YtmdjkaghjljbfaaMem
import Derived.Deep.RegionHeld3
namespace Go.Proofs.Ytmdjkaghjljbfaa
open Go.RowKit
set_option maxHeartbeats 4000000 in
set_option maxRecDepth 20000 in
theorem walk_FnExactPopStack (w : World) (vcs : Value) (mcs : Int) (cs : List Int) (hcs : Ints w vcs cs) (fcs : FitL cs) (gcs : Fit mcs) (t : Bool) :
    Calls Try.prog 6 #[.agg #[vcs, .int .i64 mcs], .bool t] w fun e w' => e = .returned (.bool true) ∧ Below w.heap.size w w' := by
  have Hcs := Lib.hid hcs
  obtain ⟨adcs, ccs, hvcs, hmcs, _⟩ := hcs.open
  subst hvcs
  unfold maxLen at hmcs
  clear hcs fcs gcs
  have HA : Hid (Below w.heap.size w (w.alloc (.cells #[.slice adcs cs.length ccs, .int .i64 mcs] 24))) := (Below.refl _ _).alloc (Nat.le_refl _) _
  have RA := Lib.hid (Row.new w 24 [.slice adcs cs.length ccs, .int .i64 mcs])
  by_cases hbcs : 1048576 < cs.length
  · go_enter Try.func6, Try.ntmps6
    go_wp2_with fail
    refine (szStack_any _ cs _ _ (Hcs.out.mono HA.out (Nat.le_refl _))).mono ?_
    rw [if_neg (by omega)]
    rintro e w1 ⟨rfl, hb⟩
    have HB := Lib.hid (HA.out.trans (hb.mono HA.out.size))
    clear hb
    go_wp2
    go_ret
    exact ⟨rfl, HB.out⟩
  have hzcs : decide ((1048576 : Int) - (cs.length : Int) < 0) = false := by simp; omega
  have hs1 : ((popV cs mcs t) != (popV cs mcs t)) = false := by simp
  have hs3 : ((popOk cs mcs t) != (popOk cs mcs t)) = false := by simp
  obtain ⟨n0, hn0⟩ : ∃ n, (popC cs mcs t).length = n := ⟨_, rfl⟩
  have hz0 := popC_le cs mcs t
  rw [hn0] at hz0
  have HL0 := Lib.hid hn0
  clear hn0
  obtain ⟨n2, hn2⟩ : ∃ n, (popT cs mcs).length = n := ⟨_, rfl⟩
  have hz2 := popT_le cs mcs
  rw [hn2] at hz2
  have HL2 := Lib.hid hn2
  clear hn2
  have hkb : decide (((1 : Int) + (cs.length : Int)) < 0) = false := by simp; omega
  have hmb1 : decide ((1 + (n0 : Int) : Int) < 0) = false := by simp; omega
  have hmb2 : decide ((1 + (n0 : Int) + 3 * (n2 : Int) : Int) < 0) = false := by simp; omega
  go_enter Try.func6, Try.ntmps6
  go_wp2_with fail
  generalize hW0 : (w.alloc (.cells #[.slice adcs cs.length ccs, .int .i64 mcs] 24)) = W0 at HA RA ⊢
  clear hW0
  have B0 := HA
  clear HA
  have C0 : Hid (w.heap.size < W0.heap.size) := RA.out.lt
  have kA0 : W0.cell? ⟨w.heap.size, 0, none⟩ = some (.slice adcs cs.length ccs) := RA.out.cell rfl
  have kA1 : W0.cell? ⟨w.heap.size, 1, none⟩ = some (.int .i64 mcs) := RA.out.cell rfl
  go_wp2_with fail
  clear kA0 kA1
  refine (szStack_any _ cs _ _ (Hcs.out.mono B0.out (Nat.le_refl _))).mono ?_
  rw [if_pos (by omega)]
  rintro e v0 ⟨rfl, hb⟩
  have B1 := nxt B0 hb
  have C1 : Hid (W0.heap.size ≤ v0.heap.size) := (hb).size
  have RA' := Lib.hid (RA.out.mono hb RA.out.lt)
  clear RA
  have RA := RA'
  clear RA'
  clear B0
  clear hb
  have kA0 : v0.cell? ⟨w.heap.size, 0, none⟩ = some (.slice adcs cs.length ccs) := RA.out.cell rfl
  have kA1 : v0.cell? ⟨w.heap.size, 1, none⟩ = some (.int .i64 mcs) := RA.out.cell rfl
  go_wp2_with fail
  clear kA0 kA1
  refine (toStack_own _ cs _ (Hcs.out.mono B1.out (Nat.le_refl _)) (by omega)).mono ?_
  rintro e v1 ⟨vs, bs, rfl, hos, hfs, hb⟩
  have Fs := Lib.hid (From.up B1 hfs)
  have Is : Hid (∀ g, bs = some g → v0.heap.size ≤ g ∧ g < v1.heap.size) := fun g h => ⟨hfs g h, hos.lt g h⟩
  have B2 := nxt B1 hb
  have C2 : Hid (v0.heap.size ≤ v1.heap.size) := (hb).size
  have RA' := Lib.hid (RA.out.mono hb RA.out.lt)
  clear RA
  have RA := RA'
  clear RA'
  clear B1
  have Os := Lib.hid hos
  clear hos hfs
  clear hb
  have kA0 : v1.cell? ⟨w.heap.size, 0, none⟩ = some (.slice adcs cs.length ccs) := RA.out.cell rfl
  have kA1 : v1.cell? ⟨w.heap.size, 1, none⟩ = some (.int .i64 mcs) := RA.out.cell rfl
  go_wp2_with fail
  clear kA0 kA1
  refine (spec_PopStack_own _ cs mcs t _ Os.out.ints (by omega)).mono ?_
  rintro e v2 ⟨vW0, vW2, bW0, bW2, rfl, hoW0, hfW0, hoW2, hfW2, hapW0, hb⟩
  have FW0 := Lib.hid (From.up B2 hfW0)
  have IW0 : Hid (∀ g, bW0 = some g → v1.heap.size ≤ g ∧ g < v2.heap.size) := fun g h => ⟨hfW0 g h, hoW0.lt g h⟩
  have FW2 := Lib.hid (From.up B2 hfW2)
  have IW2 : Hid (∀ g, bW2 = some g → v1.heap.size ≤ g ∧ g < v2.heap.size) := fun g h => ⟨hfW2 g h, hoW2.lt g h⟩
  have B3 := nxt B2 hb
  have C3 : Hid (v1.heap.size ≤ v2.heap.size) := (hb).size
  have Os' := Lib.hid (Os.out.mono hb)
  clear Os
  have Os := Os'
  clear Os'
  have RA' := Lib.hid (RA.out.mono hb RA.out.lt)
  clear RA
  have RA := RA'
  clear RA'
  clear B2
  have OW0 := Lib.hid hoW0
  clear hoW0 hfW0
  have OW2 := Lib.hid hoW2
  clear hoW2 hfW2
  clear hb
  have HAPW0 := Lib.hid hapW0
  clear hapW0
  clear Os Fs Is
  obtain ⟨aW0, cW0, hvW0, _, _⟩ := OW0.out.ints.open
  rw [HL0.out] at hvW0
  subst hvW0
  have HP : Hid (Below v2.heap.size v2 (v2.alloc (.cells #[.slice aW0 n0 cW0, .int .i64 (popM cs mcs t)] 27))) := (Below.refl _ _).alloc (Nat.le_refl _) _
  have RW0 : Hid (Row (v2.alloc (.cells #[.slice aW0 n0 cW0, .int .i64 (popM cs mcs t)] 27)) v2.heap.size 27 [.slice aW0 n0 cW0, .int .i64 (popM cs mcs t)]) := Row.new v2 27 [.slice aW0 n0 cW0, .int .i64 (popM cs mcs t)]
  have eA : ¬ v2.heap.size = w.heap.size := by have := RA.out.lt; omega
  have zA0 : (v2.alloc (.cells #[.slice aW0 n0 cW0, .int .i64 (popM cs mcs t)] 27)).cell? ⟨w.heap.size, 0, none⟩ = some (.slice adcs cs.length ccs) := (RA.out.mono HP.out RA.out.lt).cell rfl
  have zA1 : (v2.alloc (.cells #[.slice aW0 n0 cW0, .int .i64 (popM cs mcs t)] 27)).cell? ⟨w.heap.size, 1, none⟩ = some (.int .i64 mcs) := (RA.out.mono HP.out RA.out.lt).cell rfl
  have kA0 : v2.cell? ⟨w.heap.size, 0, none⟩ = some (.slice adcs cs.length ccs) := RA.out.cell rfl
  have kA1 : v2.cell? ⟨w.heap.size, 1, none⟩ = some (.int .i64 mcs) := RA.out.cell rfl
  go_wp2_with fail
  clear kA0 kA1
  clear eA zA0 zA1
  generalize hW3 : (v2.alloc (.cells #[.slice aW0 n0 cW0, .int .i64 (popM cs mcs t)] 27)) = v3 at HP RW0 ⊢
  clear hW3
  have hp := HP.out
  clear HP
  have CP : Hid (v2.heap.size < v3.heap.size) := RW0.out.lt
  have B4 := nxt B3 hp
  have C4 : Hid (v2.heap.size ≤ v3.heap.size) := (hp).size
  have OW0' := Lib.hid (OW0.out.mono hp)
  clear OW0
  have OW0 := OW0'
  clear OW0'
  have OW2' := Lib.hid (OW2.out.mono hp)
  clear OW2
  have OW2 := OW2'
  clear OW2'
  have RA' := Lib.hid (RA.out.mono hp RA.out.lt)
  clear RA
  have RA := RA'
  clear RA'
  clear B3
  clear C4
  have C4 := CP
  clear hp CP
  refine (toStack_own _ cs _ (Hcs.out.mono B4.out (Nat.le_refl _)) (by omega)).mono ?_
  rintro e v4 ⟨vx, bx, rfl, hox, hfx, hb⟩
  have Fx := Lib.hid (From.up B4 hfx)
  have Ix : Hid (∀ g, bx = some g → v3.heap.size ≤ g ∧ g < v4.heap.size) := fun g h => ⟨hfx g h, hox.lt g h⟩
  have B5 := nxt B4 hb
  have C5 : Hid (v3.heap.size ≤ v4.heap.size) := (hb).size
  have OW0' := Lib.hid (OW0.out.mono hb)
  clear OW0
  have OW0 := OW0'
  clear OW0'
  have OW2' := Lib.hid (OW2.out.mono hb)
  clear OW2
  have OW2 := OW2'
  clear OW2'
  have RA' := Lib.hid (RA.out.mono hb RA.out.lt)
  clear RA
  have RA := RA'
  clear RA'
  have RW0' := Lib.hid (RW0.out.mono hb RW0.out.lt)
  clear RW0
  have RW0 := RW0'
  clear RW0'
  clear B4
  have Ox := Lib.hid hox
  clear hox hfx
  clear hb
  obtain ⟨ax, cx, hvx, _, _⟩ := Ox.out.ints.open
  subst hvx
  have HP : Hid (Below v4.heap.size v4 (v4.alloc (.cells #[.slice ax cs.length cx, .int .i64 (mcs)] 27))) := (Below.refl _ _).alloc (Nat.le_refl _) _
  have Rx : Hid (Row (v4.alloc (.cells #[.slice ax cs.length cx, .int .i64 (mcs)] 27)) v4.heap.size 27 [.slice ax cs.length cx, .int .i64 (mcs)]) := Row.new v4 27 [.slice ax cs.length cx, .int .i64 (mcs)]
  have eA : ¬ v4.heap.size = w.heap.size := by have := RA.out.lt; omega
  have eW0 : ¬ v4.heap.size = v2.heap.size := by have := RW0.out.lt; omega
  have zA0 : (v4.alloc (.cells #[.slice ax cs.length cx, .int .i64 (mcs)] 27)).cell? ⟨w.heap.size, 0, none⟩ = some (.slice adcs cs.length ccs) := (RA.out.mono HP.out RA.out.lt).cell rfl
  have zA1 : (v4.alloc (.cells #[.slice ax cs.length cx, .int .i64 (mcs)] 27)).cell? ⟨w.heap.size, 1, none⟩ = some (.int .i64 mcs) := (RA.out.mono HP.out RA.out.lt).cell rfl
  have zW00 : (v4.alloc (.cells #[.slice ax cs.length cx, .int .i64 (mcs)] 27)).cell? ⟨v2.heap.size, 0, none⟩ = some (.slice aW0 n0 cW0) := (RW0.out.mono HP.out RW0.out.lt).cell rfl
  have zW01 : (v4.alloc (.cells #[.slice ax cs.length cx, .int .i64 (mcs)] 27)).cell? ⟨v2.heap.size, 1, none⟩ = some (.int .i64 (popM cs mcs t)) := (RW0.out.mono HP.out RW0.out.lt).cell rfl
  have kA0 : v4.cell? ⟨w.heap.size, 0, none⟩ = some (.slice adcs cs.length ccs) := RA.out.cell rfl
  have kA1 : v4.cell? ⟨w.heap.size, 1, none⟩ = some (.int .i64 mcs) := RA.out.cell rfl
  have kW00 : v4.cell? ⟨v2.heap.size, 0, none⟩ = some (.slice aW0 n0 cW0) := RW0.out.cell rfl
  have kW01 : v4.cell? ⟨v2.heap.size, 1, none⟩ = some (.int .i64 (popM cs mcs t)) := RW0.out.cell rfl
  go_wp2_with fail
  clear kA0 kA1 kW00 kW01
  clear eA zA0 zA1 eW0 zW00 zW01
  generalize hW5 : (v4.alloc (.cells #[.slice ax cs.length cx, .int .i64 (mcs)] 27)) = v5 at HP Rx ⊢
  clear hW5
  have hp := HP.out
  clear HP
  have CP : Hid (v4.heap.size < v5.heap.size) := Rx.out.lt
  have B6 := nxt B5 hp
  have C6 : Hid (v4.heap.size ≤ v5.heap.size) := (hp).size
  have OW0' := Lib.hid (OW0.out.mono hp)
  clear OW0
  have OW0 := OW0'
  clear OW0'
  have OW2' := Lib.hid (OW2.out.mono hp)
  clear OW2
  have OW2 := OW2'
  clear OW2'
  have Ox' := Lib.hid (Ox.out.mono hp)
  clear Ox
  have Ox := Ox'
  clear Ox'
  have RA' := Lib.hid (RA.out.mono hp RA.out.lt)
  clear RA
  have RA := RA'
  clear RA'
  have RW0' := Lib.hid (RW0.out.mono hp RW0.out.lt)
  clear RW0
  have RW0 := RW0'
  clear RW0'
  clear B5
  clear C6
  have C6 := CP
  clear hp CP
  refine (impl_PopStack_own _ cs mcs t _ Ox.out.ints (by omega)).mono ?_
  rintro e v6 ⟨vG0, vG2, bG0, bG2, rfl, hoG0, hfG0, hoG2, hfG2, hapG0, hb⟩
  have FG0 := Lib.hid (From.up B6 hfG0)
  have IG0 : Hid (∀ g, bG0 = some g → v5.heap.size ≤ g ∧ g < v6.heap.size) := fun g h => ⟨hfG0 g h, hoG0.lt g h⟩
  have FG2 := Lib.hid (From.up B6 hfG2)
  have IG2 : Hid (∀ g, bG2 = some g → v5.heap.size ≤ g ∧ g < v6.heap.size) := fun g h => ⟨hfG2 g h, hoG2.lt g h⟩
  have B7 := nxt B6 hb
  have C7 : Hid (v5.heap.size ≤ v6.heap.size) := (hb).size
  have OW0' := Lib.hid (OW0.out.mono hb)
  clear OW0
  have OW0 := OW0'
  clear OW0'
  have OW2' := Lib.hid (OW2.out.mono hb)
  clear OW2
  have OW2 := OW2'
  clear OW2'
  have Ox' := Lib.hid (Ox.out.mono hb)
  clear Ox
  have Ox := Ox'
  clear Ox'
  have RA' := Lib.hid (RA.out.mono hb RA.out.lt)
  clear RA
  have RA := RA'
  clear RA'
  have RW0' := Lib.hid (RW0.out.mono hb RW0.out.lt)
  clear RW0
  have RW0 := RW0'
  clear RW0'
  have Rx' := Lib.hid (Rx.out.mono hb Rx.out.lt)
  clear Rx
  have Rx := Rx'
  clear Rx'
  clear B6
  have OG0 := Lib.hid hoG0
  clear hoG0 hfG0
  have OG2 := Lib.hid hoG2
  clear hoG2 hfG2
  clear hb
  have HAPG0 := Lib.hid hapG0
  clear hapG0
  obtain ⟨aG0, cG0, hvG0, _, _⟩ := OG0.out.ints.open
  rw [HL0.out] at hvG0
  subst hvG0
  have HP : Hid (Below v6.heap.size v6 (v6.alloc (.cells #[.slice aG0 n0 cG0, .int .i64 (popM cs mcs t)] 27))) := (Below.refl _ _).alloc (Nat.le_refl _) _
  have RG0 : Hid (Row (v6.alloc (.cells #[.slice aG0 n0 cG0, .int .i64 (popM cs mcs t)] 27)) v6.heap.size 27 [.slice aG0 n0 cG0, .int .i64 (popM cs mcs t)]) := Row.new v6 27 [.slice aG0 n0 cG0, .int .i64 (popM cs mcs t)]
  have eA : ¬ v6.heap.size = w.heap.size := by have := RA.out.lt; omega
  have eW0 : ¬ v6.heap.size = v2.heap.size := by have := RW0.out.lt; omega
  have ex : ¬ v6.heap.size = v4.heap.size := by have := Rx.out.lt; omega
  have zA0 : (v6.alloc (.cells #[.slice aG0 n0 cG0, .int .i64 (popM cs mcs t)] 27)).cell? ⟨w.heap.size, 0, none⟩ = some (.slice adcs cs.length ccs) := (RA.out.mono HP.out RA.out.lt).cell rfl
  have zA1 : (v6.alloc (.cells #[.slice aG0 n0 cG0, .int .i64 (popM cs mcs t)] 27)).cell? ⟨w.heap.size, 1, none⟩ = some (.int .i64 mcs) := (RA.out.mono HP.out RA.out.lt).cell rfl
  have zW00 : (v6.alloc (.cells #[.slice aG0 n0 cG0, .int .i64 (popM cs mcs t)] 27)).cell? ⟨v2.heap.size, 0, none⟩ = some (.slice aW0 n0 cW0) := (RW0.out.mono HP.out RW0.out.lt).cell rfl
  have zW01 : (v6.alloc (.cells #[.slice aG0 n0 cG0, .int .i64 (popM cs mcs t)] 27)).cell? ⟨v2.heap.size, 1, none⟩ = some (.int .i64 (popM cs mcs t)) := (RW0.out.mono HP.out RW0.out.lt).cell rfl
  have zx0 : (v6.alloc (.cells #[.slice aG0 n0 cG0, .int .i64 (popM cs mcs t)] 27)).cell? ⟨v4.heap.size, 0, none⟩ = some (.slice ax cs.length cx) := (Rx.out.mono HP.out Rx.out.lt).cell rfl
  have zx1 : (v6.alloc (.cells #[.slice aG0 n0 cG0, .int .i64 (popM cs mcs t)] 27)).cell? ⟨v4.heap.size, 1, none⟩ = some (.int .i64 (mcs)) := (Rx.out.mono HP.out Rx.out.lt).cell rfl
  have kA0 : v6.cell? ⟨w.heap.size, 0, none⟩ = some (.slice adcs cs.length ccs) := RA.out.cell rfl
  have kA1 : v6.cell? ⟨w.heap.size, 1, none⟩ = some (.int .i64 mcs) := RA.out.cell rfl
  have kW00 : v6.cell? ⟨v2.heap.size, 0, none⟩ = some (.slice aW0 n0 cW0) := RW0.out.cell rfl
  have kW01 : v6.cell? ⟨v2.heap.size, 1, none⟩ = some (.int .i64 (popM cs mcs t)) := RW0.out.cell rfl
  have kx0 : v6.cell? ⟨v4.heap.size, 0, none⟩ = some (.slice ax cs.length cx) := Rx.out.cell rfl
  have kx1 : v6.cell? ⟨v4.heap.size, 1, none⟩ = some (.int .i64 (mcs)) := Rx.out.cell rfl
  go_wp2_with fail
  clear kA0 kA1 kW00 kW01 kx0 kx1
  clear eA zA0 zA1 eW0 zW00 zW01 ex zx0 zx1
  generalize hW7 : (v6.alloc (.cells #[.slice aG0 n0 cG0, .int .i64 (popM cs mcs t)] 27)) = v7 at HP RG0 ⊢
  clear hW7
  have hp := HP.out
  clear HP
  have CP : Hid (v6.heap.size < v7.heap.size) := RG0.out.lt
  have B8 := nxt B7 hp
  have C8 : Hid (v6.heap.size ≤ v7.heap.size) := (hp).size
  have OW0' := Lib.hid (OW0.out.mono hp)
  clear OW0
  have OW0 := OW0'
  clear OW0'
  have OW2' := Lib.hid (OW2.out.mono hp)
  clear OW2
  have OW2 := OW2'
  clear OW2'
  have Ox' := Lib.hid (Ox.out.mono hp)
  clear Ox
  have Ox := Ox'
  clear Ox'
  have OG0' := Lib.hid (OG0.out.mono hp)
  clear OG0
  have OG0 := OG0'
  clear OG0'
  have OG2' := Lib.hid (OG2.out.mono hp)
  clear OG2
  have OG2 := OG2'
  clear OG2'
  have RA' := Lib.hid (RA.out.mono hp RA.out.lt)
  clear RA
  have RA := RA'
  clear RA'
  have RW0' := Lib.hid (RW0.out.mono hp RW0.out.lt)
  clear RW0
  have RW0 := RW0'
  clear RW0'
  have Rx' := Lib.hid (Rx.out.mono hp Rx.out.lt)
  clear Rx
  have Rx := Rx'
  clear Rx'
  clear B7
  clear C8
  have C8 := CP
  clear hp CP
  refine (eqStack_same _ _ (popC cs mcs t) _ OG0.out.ints OW0.out.ints).mono ?_
  rintro e v8 ⟨rfl, hb⟩
  have B9 := nxt B8 hb
  have C9 : Hid (v7.heap.size ≤ v8.heap.size) := (hb).size
  have OW0' := Lib.hid (OW0.out.mono hb)
  clear OW0
  have OW0 := OW0'
  clear OW0'
  have OW2' := Lib.hid (OW2.out.mono hb)
  clear OW2
  have OW2 := OW2'
  clear OW2'
  have Ox' := Lib.hid (Ox.out.mono hb)
  clear Ox
  have Ox := Ox'
  clear Ox'
  have OG0' := Lib.hid (OG0.out.mono hb)
  clear OG0
  have OG0 := OG0'
  clear OG0'
  have OG2' := Lib.hid (OG2.out.mono hb)
  clear OG2
  have OG2 := OG2'
  clear OG2'
  have RA' := Lib.hid (RA.out.mono hb RA.out.lt)
  clear RA
  have RA := RA'
  clear RA'
  have RW0' := Lib.hid (RW0.out.mono hb RW0.out.lt)
  clear RW0
  have RW0 := RW0'
  clear RW0'
  have Rx' := Lib.hid (Rx.out.mono hb Rx.out.lt)
  clear Rx
  have Rx := Rx'
  clear Rx'
  have RG0' := Lib.hid (RG0.out.mono hb RG0.out.lt)
  clear RG0
  have RG0 := RG0'
  clear RG0'
  clear B8
  clear hb
  have kA0 : v8.cell? ⟨w.heap.size, 0, none⟩ = some (.slice adcs cs.length ccs) := RA.out.cell rfl
  have kA1 : v8.cell? ⟨w.heap.size, 1, none⟩ = some (.int .i64 mcs) := RA.out.cell rfl
  have kW00 : v8.cell? ⟨v2.heap.size, 0, none⟩ = some (.slice aW0 n0 cW0) := RW0.out.cell rfl
  have kW01 : v8.cell? ⟨v2.heap.size, 1, none⟩ = some (.int .i64 (popM cs mcs t)) := RW0.out.cell rfl
  have kx0 : v8.cell? ⟨v4.heap.size, 0, none⟩ = some (.slice ax cs.length cx) := Rx.out.cell rfl
  have kx1 : v8.cell? ⟨v4.heap.size, 1, none⟩ = some (.int .i64 (mcs)) := Rx.out.cell rfl
  have kG00 : v8.cell? ⟨v6.heap.size, 0, none⟩ = some (.slice aG0 n0 cG0) := RG0.out.cell rfl
  have kG01 : v8.cell? ⟨v6.heap.size, 1, none⟩ = some (.int .i64 (popM cs mcs t)) := RG0.out.cell rfl
  go_wp2_with fail
  clear kA0 kA1 kW00 kW01 kx0 kx1 kG00 kG01
  refine (eqAccessS_same _ _ (popT cs mcs) _ OG2.out.accs OW2.out.accs).mono ?_
  rintro e v9 ⟨rfl, hb⟩
  have B10 := nxt B9 hb
  have C10 : Hid (v8.heap.size ≤ v9.heap.size) := (hb).size
  have OW0' := Lib.hid (OW0.out.mono hb)
  clear OW0
  have OW0 := OW0'
  clear OW0'
  have OW2' := Lib.hid (OW2.out.mono hb)
  clear OW2
  have OW2 := OW2'
  clear OW2'
  have Ox' := Lib.hid (Ox.out.mono hb)
  clear Ox
  have Ox := Ox'
  clear Ox'
  have OG0' := Lib.hid (OG0.out.mono hb)
  clear OG0
  have OG0 := OG0'
  clear OG0'
  have OG2' := Lib.hid (OG2.out.mono hb)
  clear OG2
  have OG2 := OG2'
  clear OG2'
  have RA' := Lib.hid (RA.out.mono hb RA.out.lt)
  clear RA
  have RA := RA'
  clear RA'
  have RW0' := Lib.hid (RW0.out.mono hb RW0.out.lt)
  clear RW0
  have RW0 := RW0'
  clear RW0'
  have Rx' := Lib.hid (Rx.out.mono hb Rx.out.lt)
  clear Rx
  have Rx := Rx'
  clear Rx'
  have RG0' := Lib.hid (RG0.out.mono hb RG0.out.lt)
  clear RG0
  have RG0 := RG0'
  clear RG0'
  clear B9
  clear hb
  have kA0 : v9.cell? ⟨w.heap.size, 0, none⟩ = some (.slice adcs cs.length ccs) := RA.out.cell rfl
  have kA1 : v9.cell? ⟨w.heap.size, 1, none⟩ = some (.int .i64 mcs) := RA.out.cell rfl
  have kW00 : v9.cell? ⟨v2.heap.size, 0, none⟩ = some (.slice aW0 n0 cW0) := RW0.out.cell rfl
  have kW01 : v9.cell? ⟨v2.heap.size, 1, none⟩ = some (.int .i64 (popM cs mcs t)) := RW0.out.cell rfl
  have kx0 : v9.cell? ⟨v4.heap.size, 0, none⟩ = some (.slice ax cs.length cx) := Rx.out.cell rfl
  have kx1 : v9.cell? ⟨v4.heap.size, 1, none⟩ = some (.int .i64 (mcs)) := Rx.out.cell rfl
  have kG00 : v9.cell? ⟨v6.heap.size, 0, none⟩ = some (.slice aG0 n0 cG0) := RG0.out.cell rfl
  have kG01 : v9.cell? ⟨v6.heap.size, 1, none⟩ = some (.int .i64 (popM cs mcs t)) := RG0.out.cell rfl
  go_wp2
  clear kA0 kA1 kW00 kW01 kx0 kx1 kG00 kG01
  have KH0 : Hid (v9.drew.cell? ⟨v4.heap.size, 0, none⟩ = some (.slice ax cs.length cx) ∧ v9.drew.cell? ⟨v4.heap.size, 1, none⟩ = some (.int .i64 (mcs)) ∧ v9.drew.cell? ⟨w.heap.size, 0, none⟩ = some (.slice adcs cs.length ccs) ∧ v9.drew.cell? ⟨w.heap.size, 1, none⟩ = some (.int .i64 mcs)) := ⟨Rx.out.cell rfl, Rx.out.cell rfl, RA.out.cell rfl, RA.out.cell rfl⟩
  go_region_held3 (fun w' => w'.cell? ⟨v4.heap.size, 0, none⟩ = some (.slice ax cs.length cx) ∧ w'.cell? ⟨v4.heap.size, 1, none⟩ = some (.int .i64 (mcs)) ∧ w'.cell? ⟨w.heap.size, 0, none⟩ = some (.slice adcs cs.length ccs) ∧ w'.cell? ⟨w.heap.size, 1, none⟩ = some (.int .i64 mcs)) ((first | exact KH0.out | exact KH1.out | exact KH2.out)) (first | (go_at_call 9; refine (toStack_own _ cs _ ?_ (by omega)).mono ?_; (exact (Hcs.out.mono B10.out.drew (Nat.le_refl _))); rintro e v10 ⟨vy, by9, rfl, hoy, hfy, hb⟩; have hb1 := (Below.refl v9.heap.size v9).drew.trans hb; have HB1 := Lib.hid hb1; have OY := Lib.hid hoy; have KH1 : Hid (v10.cell? ⟨v4.heap.size, 0, none⟩ = some (.slice ax cs.length cx) ∧ v10.cell? ⟨v4.heap.size, 1, none⟩ = some (.int .i64 (mcs)) ∧ v10.cell? ⟨w.heap.size, 0, none⟩ = some (.slice adcs cs.length ccs) ∧ v10.cell? ⟨w.heap.size, 1, none⟩ = some (.int .i64 mcs)) := ⟨(Rx.out.mono hb1 Rx.out.lt).cell rfl, (Rx.out.mono hb1 Rx.out.lt).cell rfl, (RA.out.mono hb1 RA.out.lt).cell rfl, (RA.out.mono hb1 RA.out.lt).cell rfl⟩; have OX := Lib.hid (Ox.out.mono hb1); clear hb hb1 hoy hfy) | (go_at_call 11; refine (eqStack_same _ _ cs _ OX.out.ints OY.out.ints).mono ?_; rintro e v11 ⟨rfl, hb⟩; have HB2 := Lib.hid (HB1.out.trans (hb.mono HB1.out.size)); have KH2 : Hid (v11.cell? ⟨v4.heap.size, 0, none⟩ = some (.slice ax cs.length cx) ∧ v11.cell? ⟨v4.heap.size, 1, none⟩ = some (.int .i64 (mcs)) ∧ v11.cell? ⟨w.heap.size, 0, none⟩ = some (.slice adcs cs.length ccs) ∧ v11.cell? ⟨w.heap.size, 1, none⟩ = some (.int .i64 mcs)) := ⟨(Rx.out.mono HB2.out Rx.out.lt).cell rfl, (Rx.out.mono HB2.out Rx.out.lt).cell rfl, (RA.out.mono HB2.out RA.out.lt).cell rfl, (RA.out.mono HB2.out RA.out.lt).cell rfl⟩; clear hb))
  have hb := HB2.out
  clear HB1 HB2 KH0 KH1 KH2 OX OY
  have B11 := nxt B10 hb
  have C11 : Hid (v9.heap.size ≤ v11.heap.size) := (hb).size
  have OW0' := Lib.hid (OW0.out.mono hb)
  clear OW0
  have OW0 := OW0'
  clear OW0'
  have OW2' := Lib.hid (OW2.out.mono hb)
  clear OW2
  have OW2 := OW2'
  clear OW2'
  have Ox' := Lib.hid (Ox.out.mono hb)
  clear Ox
  have Ox := Ox'
  clear Ox'
  have OG0' := Lib.hid (OG0.out.mono hb)
  clear OG0
  have OG0 := OG0'
  clear OG0'
  have OG2' := Lib.hid (OG2.out.mono hb)
  clear OG2
  have OG2 := OG2'
  clear OG2'
  have RA' := Lib.hid (RA.out.mono hb RA.out.lt)
  clear RA
  have RA := RA'
  clear RA'
  have RW0' := Lib.hid (RW0.out.mono hb RW0.out.lt)
  clear RW0
  have RW0 := RW0'
  clear RW0'
  have Rx' := Lib.hid (Rx.out.mono hb Rx.out.lt)
  clear Rx
  have Rx := Rx'
  clear Rx'
  have RG0' := Lib.hid (RG0.out.mono hb RG0.out.lt)
  clear RG0
  have RG0 := RG0'
  clear RG0'
  clear B10
  clear hb
  have kA0 : v11.cell? ⟨w.heap.size, 0, none⟩ = some (.slice adcs cs.length ccs) := RA.out.cell rfl
  have kA1 : v11.cell? ⟨w.heap.size, 1, none⟩ = some (.int .i64 mcs) := RA.out.cell rfl
  have kW00 : v11.cell? ⟨v2.heap.size, 0, none⟩ = some (.slice aW0 n0 cW0) := RW0.out.cell rfl
  have kW01 : v11.cell? ⟨v2.heap.size, 1, none⟩ = some (.int .i64 (popM cs mcs t)) := RW0.out.cell rfl
  have kx0 : v11.cell? ⟨v4.heap.size, 0, none⟩ = some (.slice ax cs.length cx) := Rx.out.cell rfl
  have kx1 : v11.cell? ⟨v4.heap.size, 1, none⟩ = some (.int .i64 (mcs)) := Rx.out.cell rfl
  have kG00 : v11.cell? ⟨v6.heap.size, 0, none⟩ = some (.slice aG0 n0 cG0) := RG0.out.cell rfl
  have kG01 : v11.cell? ⟨v6.heap.size, 1, none⟩ = some (.int .i64 (popM cs mcs t)) := RG0.out.cell rfl
  go_wp2_with fail
  clear kA0 kA1 kW00 kW01 kx0 kx1 kG00 kG01
  refine (markStack_any _ _ (cs) (1) _ Ox.out (by omega) (by omega)).mono ?_
  rintro e v12 ⟨rfl, hox, hg⟩
  have B12 := nxtG B11 hg Fx.out
  have C12 : Hid (v11.heap.size ≤ v12.heap.size) := (below_grown hg (From.none 0 |>.mono (Nat.zero_le _) |> fun _ => (fun g h => Nat.zero_le g : From 0 bx)) (Nat.zero_le _)).size
  have OW0' := Lib.hid (OW0.out.grown hg (fun g h1 h2 => by have := C0.out; have := C1.out; have := C2.out; have := C3.out; have := C4.out; have := C5.out; have := C6.out; have := C7.out; have := C8.out; have := C9.out; have := C10.out; have := C11.out; have := IW0.out g h1; have := Ix.out g h2; omega))
  have OW2' := Lib.hid (OW2.out.grown hg (fun g h1 h2 => by have := C0.out; have := C1.out; have := C2.out; have := C3.out; have := C4.out; have := C5.out; have := C6.out; have := C7.out; have := C8.out; have := C9.out; have := C10.out; have := C11.out; have := IW2.out g h1; have := Ix.out g h2; omega))
  have OG0' := Lib.hid (OG0.out.grown hg (fun g h1 h2 => by have := C0.out; have := C1.out; have := C2.out; have := C3.out; have := C4.out; have := C5.out; have := C6.out; have := C7.out; have := C8.out; have := C9.out; have := C10.out; have := C11.out; have := IG0.out g h1; have := Ix.out g h2; omega))
  have OG2' := Lib.hid (OG2.out.grown hg (fun g h1 h2 => by have := C0.out; have := C1.out; have := C2.out; have := C3.out; have := C4.out; have := C5.out; have := C6.out; have := C7.out; have := C8.out; have := C9.out; have := C10.out; have := C11.out; have := IG2.out g h1; have := Ix.out g h2; omega))
  clear OW0
  have OW0 := OW0'
  clear OW0'
  clear OW2
  have OW2 := OW2'
  clear OW2'
  clear OG0
  have OG0 := OG0'
  clear OG0'
  clear OG2
  have OG2 := OG2'
  clear OG2'
  have RA' := Lib.hid (RA.out.grown hg (fun h1 => by have := C0.out; have := C1.out; have := C2.out; have := C3.out; have := C4.out; have := C5.out; have := C6.out; have := C7.out; have := C8.out; have := C9.out; have := C10.out; have := C11.out; have := Ix.out _ h1; omega))
  clear RA
  have RA := RA'
  clear RA'
  have RW0' := Lib.hid (RW0.out.grown hg (fun h1 => by have := C0.out; have := C1.out; have := C2.out; have := C3.out; have := C4.out; have := C5.out; have := C6.out; have := C7.out; have := C8.out; have := C9.out; have := C10.out; have := C11.out; have := Ix.out _ h1; omega))
  clear RW0
  have RW0 := RW0'
  clear RW0'
  have Rx' := Lib.hid (Rx.out.grown hg (fun h1 => by have := C0.out; have := C1.out; have := C2.out; have := C3.out; have := C4.out; have := C5.out; have := C6.out; have := C7.out; have := C8.out; have := C9.out; have := C10.out; have := C11.out; have := Ix.out _ h1; omega))
  clear Rx
  have Rx := Rx'
  clear Rx'
  have RG0' := Lib.hid (RG0.out.grown hg (fun h1 => by have := C0.out; have := C1.out; have := C2.out; have := C3.out; have := C4.out; have := C5.out; have := C6.out; have := C7.out; have := C8.out; have := C9.out; have := C10.out; have := C11.out; have := Ix.out _ h1; omega))
  clear RG0
  have RG0 := RG0'
  clear RG0'
  clear Ox
  have Ox := Lib.hid hox
  clear hox hg B11
  have kA0 : v12.cell? ⟨w.heap.size, 0, none⟩ = some (.slice adcs cs.length ccs) := RA.out.cell rfl
  have kA1 : v12.cell? ⟨w.heap.size, 1, none⟩ = some (.int .i64 mcs) := RA.out.cell rfl
  have kW00 : v12.cell? ⟨v2.heap.size, 0, none⟩ = some (.slice aW0 n0 cW0) := RW0.out.cell rfl
  have kW01 : v12.cell? ⟨v2.heap.size, 1, none⟩ = some (.int .i64 (popM cs mcs t)) := RW0.out.cell rfl
  have kx0 : v12.cell? ⟨v4.heap.size, 0, none⟩ = some (.slice ax cs.length cx) := Rx.out.cell rfl
  have kx1 : v12.cell? ⟨v4.heap.size, 1, none⟩ = some (.int .i64 (mcs)) := Rx.out.cell rfl
  have kG00 : v12.cell? ⟨v6.heap.size, 0, none⟩ = some (.slice aG0 n0 cG0) := RG0.out.cell rfl
  have kG01 : v12.cell? ⟨v6.heap.size, 1, none⟩ = some (.int .i64 (popM cs mcs t)) := RG0.out.cell rfl
  go_wp2_with fail
  clear kA0 kA1 kW00 kW01 kx0 kx1 kG00 kG01
  refine (eqStack_same _ _ (popC cs mcs t) _ OG0.out.ints OW0.out.ints).mono ?_
  rintro e v13 ⟨rfl, hb⟩
  have B13 := nxt B12 hb
  have C13 : Hid (v12.heap.size ≤ v13.heap.size) := (hb).size
  have OW0' := Lib.hid (OW0.out.mono hb)
  clear OW0
  have OW0 := OW0'
  clear OW0'
  have OW2' := Lib.hid (OW2.out.mono hb)
  clear OW2
  have OW2 := OW2'
  clear OW2'
  have Ox' := Lib.hid (Ox.out.mono hb)
  clear Ox
  have Ox := Ox'
  clear Ox'
  have OG0' := Lib.hid (OG0.out.mono hb)
  clear OG0
  have OG0 := OG0'
  clear OG0'
  have OG2' := Lib.hid (OG2.out.mono hb)
  clear OG2
  have OG2 := OG2'
  clear OG2'
  have RA' := Lib.hid (RA.out.mono hb RA.out.lt)
  clear RA
  have RA := RA'
  clear RA'
  have RW0' := Lib.hid (RW0.out.mono hb RW0.out.lt)
  clear RW0
  have RW0 := RW0'
  clear RW0'
  have Rx' := Lib.hid (Rx.out.mono hb Rx.out.lt)
  clear Rx
  have Rx := Rx'
  clear Rx'
  have RG0' := Lib.hid (RG0.out.mono hb RG0.out.lt)
  clear RG0
  have RG0 := RG0'
  clear RG0'
  clear B12
  clear hb
  have kA0 : v13.cell? ⟨w.heap.size, 0, none⟩ = some (.slice adcs cs.length ccs) := RA.out.cell rfl
  have kA1 : v13.cell? ⟨w.heap.size, 1, none⟩ = some (.int .i64 mcs) := RA.out.cell rfl
  have kW00 : v13.cell? ⟨v2.heap.size, 0, none⟩ = some (.slice aW0 n0 cW0) := RW0.out.cell rfl
  have kW01 : v13.cell? ⟨v2.heap.size, 1, none⟩ = some (.int .i64 (popM cs mcs t)) := RW0.out.cell rfl
  have kx0 : v13.cell? ⟨v4.heap.size, 0, none⟩ = some (.slice ax cs.length cx) := Rx.out.cell rfl
  have kx1 : v13.cell? ⟨v4.heap.size, 1, none⟩ = some (.int .i64 (mcs)) := Rx.out.cell rfl
  have kG00 : v13.cell? ⟨v6.heap.size, 0, none⟩ = some (.slice aG0 n0 cG0) := RG0.out.cell rfl
  have kG01 : v13.cell? ⟨v6.heap.size, 1, none⟩ = some (.int .i64 (popM cs mcs t)) := RG0.out.cell rfl
  go_wp2_with fail
  clear kA0 kA1 kW00 kW01 kx0 kx1 kG00 kG01
  refine (eqAccessS_same _ _ (popT cs mcs) _ OG2.out.accs OW2.out.accs).mono ?_
  rintro e v14 ⟨rfl, hb⟩
  have B14 := nxt B13 hb
  have C14 : Hid (v13.heap.size ≤ v14.heap.size) := (hb).size
  have OW0' := Lib.hid (OW0.out.mono hb)
  clear OW0
  have OW0 := OW0'
  clear OW0'
  have OW2' := Lib.hid (OW2.out.mono hb)
  clear OW2
  have OW2 := OW2'
  clear OW2'
  have Ox' := Lib.hid (Ox.out.mono hb)
  clear Ox
  have Ox := Ox'
  clear Ox'
  have OG0' := Lib.hid (OG0.out.mono hb)
  clear OG0
  have OG0 := OG0'
  clear OG0'
  have OG2' := Lib.hid (OG2.out.mono hb)
  clear OG2
  have OG2 := OG2'
  clear OG2'
  have RA' := Lib.hid (RA.out.mono hb RA.out.lt)
  clear RA
  have RA := RA'
  clear RA'
  have RW0' := Lib.hid (RW0.out.mono hb RW0.out.lt)
  clear RW0
  have RW0 := RW0'
  clear RW0'
  have Rx' := Lib.hid (Rx.out.mono hb Rx.out.lt)
  clear Rx
  have Rx := Rx'
  clear Rx'
  have RG0' := Lib.hid (RG0.out.mono hb RG0.out.lt)
  clear RG0
  have RG0 := RG0'
  clear RG0'
  clear B13
  clear hb
  have kA0 : v14.cell? ⟨w.heap.size, 0, none⟩ = some (.slice adcs cs.length ccs) := RA.out.cell rfl
  have kA1 : v14.cell? ⟨w.heap.size, 1, none⟩ = some (.int .i64 mcs) := RA.out.cell rfl
  have kW00 : v14.cell? ⟨v2.heap.size, 0, none⟩ = some (.slice aW0 n0 cW0) := RW0.out.cell rfl
  have kW01 : v14.cell? ⟨v2.heap.size, 1, none⟩ = some (.int .i64 (popM cs mcs t)) := RW0.out.cell rfl
  have kx0 : v14.cell? ⟨v4.heap.size, 0, none⟩ = some (.slice ax cs.length cx) := Rx.out.cell rfl
  have kx1 : v14.cell? ⟨v4.heap.size, 1, none⟩ = some (.int .i64 (mcs)) := Rx.out.cell rfl
  have kG00 : v14.cell? ⟨v6.heap.size, 0, none⟩ = some (.slice aG0 n0 cG0) := RG0.out.cell rfl
  have kG01 : v14.cell? ⟨v6.heap.size, 1, none⟩ = some (.int .i64 (popM cs mcs t)) := RG0.out.cell rfl
  go_wp2_with fail
  clear kA0 kA1 kW00 kW01 kx0 kx1 kG00 kG01
  refine (markStack_any _ _ (popC cs mcs t) (1) _ OG0.out (by omega) (by rw [HL0.out]; omega)).mono ?_
  rw [HL0.out]
  rintro e v15 ⟨rfl, hoG0, hg⟩
  have B15 := nxtG B14 hg FG0.out
  have C15 : Hid (v14.heap.size ≤ v15.heap.size) := (below_grown hg (From.none 0 |>.mono (Nat.zero_le _) |> fun _ => (fun g h => Nat.zero_le g : From 0 bG0)) (Nat.zero_le _)).size
  have OW0' := Lib.hid (OW0.out.grown hg (fun g h1 h2 => by have := C0.out; have := C1.out; have := C2.out; have := C3.out; have := C4.out; have := C5.out; have := C6.out; have := C7.out; have := C8.out; have := C9.out; have := C10.out; have := C11.out; have := C12.out; have := C13.out; have := C14.out; have := IW0.out g h1; have := IG0.out g h2; omega))
  have OW2' := Lib.hid (OW2.out.grown hg (fun g h1 h2 => by have := C0.out; have := C1.out; have := C2.out; have := C3.out; have := C4.out; have := C5.out; have := C6.out; have := C7.out; have := C8.out; have := C9.out; have := C10.out; have := C11.out; have := C12.out; have := C13.out; have := C14.out; have := IW2.out g h1; have := IG0.out g h2; omega))
  have Ox' := Lib.hid (Ox.out.grown hg (fun g h1 h2 => by have := C0.out; have := C1.out; have := C2.out; have := C3.out; have := C4.out; have := C5.out; have := C6.out; have := C7.out; have := C8.out; have := C9.out; have := C10.out; have := C11.out; have := C12.out; have := C13.out; have := C14.out; have := Ix.out g h1; have := IG0.out g h2; omega))
  have OG2' := Lib.hid (OG2.out.grown hg (fun g h1 h2 => HAPG0.out g h2 h1))
  clear OW0
  have OW0 := OW0'
  clear OW0'
  clear OW2
  have OW2 := OW2'
  clear OW2'
  clear Ox
  have Ox := Ox'
  clear Ox'
  clear OG2
  have OG2 := OG2'
  clear OG2'
  have RA' := Lib.hid (RA.out.grown hg (fun h1 => by have := C0.out; have := C1.out; have := C2.out; have := C3.out; have := C4.out; have := C5.out; have := C6.out; have := C7.out; have := C8.out; have := C9.out; have := C10.out; have := C11.out; have := C12.out; have := C13.out; have := C14.out; have := IG0.out _ h1; omega))
  clear RA
  have RA := RA'
  clear RA'
  have RW0' := Lib.hid (RW0.out.grown hg (fun h1 => by have := C0.out; have := C1.out; have := C2.out; have := C3.out; have := C4.out; have := C5.out; have := C6.out; have := C7.out; have := C8.out; have := C9.out; have := C10.out; have := C11.out; have := C12.out; have := C13.out; have := C14.out; have := IG0.out _ h1; omega))
  clear RW0
  have RW0 := RW0'
  clear RW0'
  have Rx' := Lib.hid (Rx.out.grown hg (fun h1 => by have := C0.out; have := C1.out; have := C2.out; have := C3.out; have := C4.out; have := C5.out; have := C6.out; have := C7.out; have := C8.out; have := C9.out; have := C10.out; have := C11.out; have := C12.out; have := C13.out; have := C14.out; have := IG0.out _ h1; omega))
  clear Rx
  have Rx := Rx'
  clear Rx'
  have RG0' := Lib.hid (RG0.out.grown hg (fun h1 => by have := C0.out; have := C1.out; have := C2.out; have := C3.out; have := C4.out; have := C5.out; have := C6.out; have := C7.out; have := C8.out; have := C9.out; have := C10.out; have := C11.out; have := C12.out; have := C13.out; have := C14.out; have := IG0.out _ h1; omega))
  clear RG0
  have RG0 := RG0'
  clear RG0'
  clear OG0
  have OG0 := Lib.hid hoG0
  clear hoG0 hg B14
  have kA0 : v15.cell? ⟨w.heap.size, 0, none⟩ = some (.slice adcs cs.length ccs) := RA.out.cell rfl
  have kA1 : v15.cell? ⟨w.heap.size, 1, none⟩ = some (.int .i64 mcs) := RA.out.cell rfl
  have kW00 : v15.cell? ⟨v2.heap.size, 0, none⟩ = some (.slice aW0 n0 cW0) := RW0.out.cell rfl
  have kW01 : v15.cell? ⟨v2.heap.size, 1, none⟩ = some (.int .i64 (popM cs mcs t)) := RW0.out.cell rfl
  have kx0 : v15.cell? ⟨v4.heap.size, 0, none⟩ = some (.slice ax cs.length cx) := Rx.out.cell rfl
  have kx1 : v15.cell? ⟨v4.heap.size, 1, none⟩ = some (.int .i64 (mcs)) := Rx.out.cell rfl
  have kG00 : v15.cell? ⟨v6.heap.size, 0, none⟩ = some (.slice aG0 n0 cG0) := RG0.out.cell rfl
  have kG01 : v15.cell? ⟨v6.heap.size, 1, none⟩ = some (.int .i64 (popM cs mcs t)) := RG0.out.cell rfl
  go_wp2_with fail
  clear kA0 kA1 kW00 kW01 kx0 kx1 kG00 kG01
  refine (markAccessS_any _ _ (popT cs mcs) (1 + (n0 : Int)) _ OG2.out (by omega) (by rw [HL2.out]; omega)).mono ?_
  rw [HL2.out]
  rintro e v16 ⟨rfl, hoG2, hg⟩
  have B16 := nxtG B15 hg FG2.out
  have C16 : Hid (v15.heap.size ≤ v16.heap.size) := (below_grown hg (From.none 0 |>.mono (Nat.zero_le _) |> fun _ => (fun g h => Nat.zero_le g : From 0 bG2)) (Nat.zero_le _)).size
  have OW0' := Lib.hid (OW0.out.grown hg (fun g h1 h2 => by have := C0.out; have := C1.out; have := C2.out; have := C3.out; have := C4.out; have := C5.out; have := C6.out; have := C7.out; have := C8.out; have := C9.out; have := C10.out; have := C11.out; have := C12.out; have := C13.out; have := C14.out; have := C15.out; have := IW0.out g h1; have := IG2.out g h2; omega))
  have OW2' := Lib.hid (OW2.out.grown hg (fun g h1 h2 => by have := C0.out; have := C1.out; have := C2.out; have := C3.out; have := C4.out; have := C5.out; have := C6.out; have := C7.out; have := C8.out; have := C9.out; have := C10.out; have := C11.out; have := C12.out; have := C13.out; have := C14.out; have := C15.out; have := IW2.out g h1; have := IG2.out g h2; omega))
  have Ox' := Lib.hid (Ox.out.grown hg (fun g h1 h2 => by have := C0.out; have := C1.out; have := C2.out; have := C3.out; have := C4.out; have := C5.out; have := C6.out; have := C7.out; have := C8.out; have := C9.out; have := C10.out; have := C11.out; have := C12.out; have := C13.out; have := C14.out; have := C15.out; have := Ix.out g h1; have := IG2.out g h2; omega))
  have OG0' := Lib.hid (OG0.out.grown hg HAPG0.out)
  clear OW0
  have OW0 := OW0'
  clear OW0'
  clear OW2
  have OW2 := OW2'
  clear OW2'
  clear Ox
  have Ox := Ox'
  clear Ox'
  clear OG0
  have OG0 := OG0'
  clear OG0'
  have RA' := Lib.hid (RA.out.grown hg (fun h1 => by have := C0.out; have := C1.out; have := C2.out; have := C3.out; have := C4.out; have := C5.out; have := C6.out; have := C7.out; have := C8.out; have := C9.out; have := C10.out; have := C11.out; have := C12.out; have := C13.out; have := C14.out; have := C15.out; have := IG2.out _ h1; omega))
  clear RA
  have RA := RA'
  clear RA'
  have RW0' := Lib.hid (RW0.out.grown hg (fun h1 => by have := C0.out; have := C1.out; have := C2.out; have := C3.out; have := C4.out; have := C5.out; have := C6.out; have := C7.out; have := C8.out; have := C9.out; have := C10.out; have := C11.out; have := C12.out; have := C13.out; have := C14.out; have := C15.out; have := IG2.out _ h1; omega))
  clear RW0
  have RW0 := RW0'
  clear RW0'
  have Rx' := Lib.hid (Rx.out.grown hg (fun h1 => by have := C0.out; have := C1.out; have := C2.out; have := C3.out; have := C4.out; have := C5.out; have := C6.out; have := C7.out; have := C8.out; have := C9.out; have := C10.out; have := C11.out; have := C12.out; have := C13.out; have := C14.out; have := C15.out; have := IG2.out _ h1; omega))
  clear Rx
  have Rx := Rx'
  clear Rx'
  have RG0' := Lib.hid (RG0.out.grown hg (fun h1 => by have := C0.out; have := C1.out; have := C2.out; have := C3.out; have := C4.out; have := C5.out; have := C6.out; have := C7.out; have := C8.out; have := C9.out; have := C10.out; have := C11.out; have := C12.out; have := C13.out; have := C14.out; have := C15.out; have := IG2.out _ h1; omega))
  clear RG0
  have RG0 := RG0'
  clear RG0'
  clear OG2
  have OG2 := Lib.hid hoG2
  clear hoG2 hg B15
  have kA0 : v16.cell? ⟨w.heap.size, 0, none⟩ = some (.slice adcs cs.length ccs) := RA.out.cell rfl
  have kA1 : v16.cell? ⟨w.heap.size, 1, none⟩ = some (.int .i64 mcs) := RA.out.cell rfl
  have kW00 : v16.cell? ⟨v2.heap.size, 0, none⟩ = some (.slice aW0 n0 cW0) := RW0.out.cell rfl
  have kW01 : v16.cell? ⟨v2.heap.size, 1, none⟩ = some (.int .i64 (popM cs mcs t)) := RW0.out.cell rfl
  have kx0 : v16.cell? ⟨v4.heap.size, 0, none⟩ = some (.slice ax cs.length cx) := Rx.out.cell rfl
  have kx1 : v16.cell? ⟨v4.heap.size, 1, none⟩ = some (.int .i64 (mcs)) := Rx.out.cell rfl
  have kG00 : v16.cell? ⟨v6.heap.size, 0, none⟩ = some (.slice aG0 n0 cG0) := RG0.out.cell rfl
  have kG01 : v16.cell? ⟨v6.heap.size, 1, none⟩ = some (.int .i64 (popM cs mcs t)) := RG0.out.cell rfl
  go_wp2_with fail
  clear kA0 kA1 kW00 kW01 kx0 kx1 kG00 kG01
  refine (heldStack_any _ n0 (1) _ OG0.out.ints (by omega) (by omega)).mono ?_
  rintro e v17 ⟨rfl, hb⟩
  have B17 := nxt B16 hb
  have C17 : Hid (v16.heap.size ≤ v17.heap.size) := (hb).size
  have OW0' := Lib.hid (OW0.out.mono hb)
  clear OW0
  have OW0 := OW0'
  clear OW0'
  have OW2' := Lib.hid (OW2.out.mono hb)
  clear OW2
  have OW2 := OW2'
  clear OW2'
  have Ox' := Lib.hid (Ox.out.mono hb)
  clear Ox
  have Ox := Ox'
  clear Ox'
  have OG0' := Lib.hid (OG0.out.mono hb)
  clear OG0
  have OG0 := OG0'
  clear OG0'
  have OG2' := Lib.hid (OG2.out.mono hb)
  clear OG2
  have OG2 := OG2'
  clear OG2'
  have RA' := Lib.hid (RA.out.mono hb RA.out.lt)
  clear RA
  have RA := RA'
  clear RA'
  have RW0' := Lib.hid (RW0.out.mono hb RW0.out.lt)
  clear RW0
  have RW0 := RW0'
  clear RW0'
  have Rx' := Lib.hid (Rx.out.mono hb Rx.out.lt)
  clear Rx
  have Rx := Rx'
  clear Rx'
  have RG0' := Lib.hid (RG0.out.mono hb RG0.out.lt)
  clear RG0
  have RG0 := RG0'
  clear RG0'
  clear B16
  clear hb
  have kA0 : v17.cell? ⟨w.heap.size, 0, none⟩ = some (.slice adcs cs.length ccs) := RA.out.cell rfl
  have kA1 : v17.cell? ⟨w.heap.size, 1, none⟩ = some (.int .i64 mcs) := RA.out.cell rfl
  have kW00 : v17.cell? ⟨v2.heap.size, 0, none⟩ = some (.slice aW0 n0 cW0) := RW0.out.cell rfl
  have kW01 : v17.cell? ⟨v2.heap.size, 1, none⟩ = some (.int .i64 (popM cs mcs t)) := RW0.out.cell rfl
  have kx0 : v17.cell? ⟨v4.heap.size, 0, none⟩ = some (.slice ax cs.length cx) := Rx.out.cell rfl
  have kx1 : v17.cell? ⟨v4.heap.size, 1, none⟩ = some (.int .i64 (mcs)) := Rx.out.cell rfl
  have kG00 : v17.cell? ⟨v6.heap.size, 0, none⟩ = some (.slice aG0 n0 cG0) := RG0.out.cell rfl
  have kG01 : v17.cell? ⟨v6.heap.size, 1, none⟩ = some (.int .i64 (popM cs mcs t)) := RG0.out.cell rfl
  go_wp2_with fail
  clear kA0 kA1 kW00 kW01 kx0 kx1 kG00 kG01
  refine (heldAccessS_any _ n2 (1 + (n0 : Int)) _ OG2.out.accs (by omega) (by omega)).mono ?_
  rintro e v18 ⟨rfl, hb⟩
  have B18 := nxt B17 hb
  have C18 : Hid (v17.heap.size ≤ v18.heap.size) := (hb).size
  have OW0' := Lib.hid (OW0.out.mono hb)
  clear OW0
  have OW0 := OW0'
  clear OW0'
  have OW2' := Lib.hid (OW2.out.mono hb)
  clear OW2
  have OW2 := OW2'
  clear OW2'
  have Ox' := Lib.hid (Ox.out.mono hb)
  clear Ox
  have Ox := Ox'
  clear Ox'
  have OG0' := Lib.hid (OG0.out.mono hb)
  clear OG0
  have OG0 := OG0'
  clear OG0'
  have OG2' := Lib.hid (OG2.out.mono hb)
  clear OG2
  have OG2 := OG2'
  clear OG2'
  have RA' := Lib.hid (RA.out.mono hb RA.out.lt)
  clear RA
  have RA := RA'
  clear RA'
  have RW0' := Lib.hid (RW0.out.mono hb RW0.out.lt)
  clear RW0
  have RW0 := RW0'
  clear RW0'
  have Rx' := Lib.hid (Rx.out.mono hb Rx.out.lt)
  clear Rx
  have Rx := Rx'
  clear Rx'
  have RG0' := Lib.hid (RG0.out.mono hb RG0.out.lt)
  clear RG0
  have RG0 := RG0'
  clear RG0'
  clear B17
  clear hb
  clear Ox Fx Ix
  have kA0 : v18.cell? ⟨w.heap.size, 0, none⟩ = some (.slice adcs cs.length ccs) := RA.out.cell rfl
  have kA1 : v18.cell? ⟨w.heap.size, 1, none⟩ = some (.int .i64 mcs) := RA.out.cell rfl
  have kW00 : v18.cell? ⟨v2.heap.size, 0, none⟩ = some (.slice aW0 n0 cW0) := RW0.out.cell rfl
  have kW01 : v18.cell? ⟨v2.heap.size, 1, none⟩ = some (.int .i64 (popM cs mcs t)) := RW0.out.cell rfl
  have kx0 : v18.cell? ⟨v4.heap.size, 0, none⟩ = some (.slice ax cs.length cx) := Rx.out.cell rfl
  have kx1 : v18.cell? ⟨v4.heap.size, 1, none⟩ = some (.int .i64 (mcs)) := Rx.out.cell rfl
  have kG00 : v18.cell? ⟨v6.heap.size, 0, none⟩ = some (.slice aG0 n0 cG0) := RG0.out.cell rfl
  have kG01 : v18.cell? ⟨v6.heap.size, 1, none⟩ = some (.int .i64 (popM cs mcs t)) := RG0.out.cell rfl
  go_wp2_with fail
  clear kA0 kA1 kW00 kW01 kx0 kx1 kG00 kG01
  refine (toStack_own _ cs _ (Hcs.out.mono B18.out (Nat.le_refl _)) (by omega)).mono ?_
  rintro e v19 ⟨vz, bz, rfl, hoz, hfz, hb⟩
  have Fz := Lib.hid (From.up B18 hfz)
  have Iz : Hid (∀ g, bz = some g → v18.heap.size ≤ g ∧ g < v19.heap.size) := fun g h => ⟨hfz g h, hoz.lt g h⟩
  have B19 := nxt B18 hb
  have C19 : Hid (v18.heap.size ≤ v19.heap.size) := (hb).size
  have OW0' := Lib.hid (OW0.out.mono hb)
  clear OW0
  have OW0 := OW0'
  clear OW0'
  have OW2' := Lib.hid (OW2.out.mono hb)
  clear OW2
  have OW2 := OW2'
  clear OW2'
  have OG0' := Lib.hid (OG0.out.mono hb)
  clear OG0
  have OG0 := OG0'
  clear OG0'
  have OG2' := Lib.hid (OG2.out.mono hb)
  clear OG2
  have OG2 := OG2'
  clear OG2'
  have RA' := Lib.hid (RA.out.mono hb RA.out.lt)
  clear RA
  have RA := RA'
  clear RA'
  have RW0' := Lib.hid (RW0.out.mono hb RW0.out.lt)
  clear RW0
  have RW0 := RW0'
  clear RW0'
  have Rx' := Lib.hid (Rx.out.mono hb Rx.out.lt)
  clear Rx
  have Rx := Rx'
  clear Rx'
  have RG0' := Lib.hid (RG0.out.mono hb RG0.out.lt)
  clear RG0
  have RG0 := RG0'
  clear RG0'
  clear B18
  have Oz := Lib.hid hoz
  clear hoz hfz
  clear hb
  have kA0 : v19.cell? ⟨w.heap.size, 0, none⟩ = some (.slice adcs cs.length ccs) := RA.out.cell rfl
  have kA1 : v19.cell? ⟨w.heap.size, 1, none⟩ = some (.int .i64 mcs) := RA.out.cell rfl
  have kW00 : v19.cell? ⟨v2.heap.size, 0, none⟩ = some (.slice aW0 n0 cW0) := RW0.out.cell rfl
  have kW01 : v19.cell? ⟨v2.heap.size, 1, none⟩ = some (.int .i64 (popM cs mcs t)) := RW0.out.cell rfl
  have kx0 : v19.cell? ⟨v4.heap.size, 0, none⟩ = some (.slice ax cs.length cx) := Rx.out.cell rfl
  have kx1 : v19.cell? ⟨v4.heap.size, 1, none⟩ = some (.int .i64 (mcs)) := Rx.out.cell rfl
  have kG00 : v19.cell? ⟨v6.heap.size, 0, none⟩ = some (.slice aG0 n0 cG0) := RG0.out.cell rfl
  have kG01 : v19.cell? ⟨v6.heap.size, 1, none⟩ = some (.int .i64 (popM cs mcs t)) := RG0.out.cell rfl
  go_wp2_with fail
  clear kA0 kA1 kW00 kW01 kx0 kx1 kG00 kG01
  refine (impl_PopStack_own _ cs mcs t _ Oz.out.ints (by omega)).mono ?_
  rintro e v20 ⟨vH0, vH2, bH0, bH2, rfl, hoH0, hfH0, hoH2, hfH2, hapH0, hb⟩
  have FH0 := Lib.hid (From.up B19 hfH0)
  have IH0 : Hid (∀ g, bH0 = some g → v19.heap.size ≤ g ∧ g < v20.heap.size) := fun g h => ⟨hfH0 g h, hoH0.lt g h⟩
  have FH2 := Lib.hid (From.up B19 hfH2)
  have IH2 : Hid (∀ g, bH2 = some g → v19.heap.size ≤ g ∧ g < v20.heap.size) := fun g h => ⟨hfH2 g h, hoH2.lt g h⟩
  have B20 := nxt B19 hb
  have C20 : Hid (v19.heap.size ≤ v20.heap.size) := (hb).size
  have OW0' := Lib.hid (OW0.out.mono hb)
  clear OW0
  have OW0 := OW0'
  clear OW0'
  have OW2' := Lib.hid (OW2.out.mono hb)
  clear OW2
  have OW2 := OW2'
  clear OW2'
  have OG0' := Lib.hid (OG0.out.mono hb)
  clear OG0
  have OG0 := OG0'
  clear OG0'
  have OG2' := Lib.hid (OG2.out.mono hb)
  clear OG2
  have OG2 := OG2'
  clear OG2'
  have Oz' := Lib.hid (Oz.out.mono hb)
  clear Oz
  have Oz := Oz'
  clear Oz'
  have RA' := Lib.hid (RA.out.mono hb RA.out.lt)
  clear RA
  have RA := RA'
  clear RA'
  have RW0' := Lib.hid (RW0.out.mono hb RW0.out.lt)
  clear RW0
  have RW0 := RW0'
  clear RW0'
  have Rx' := Lib.hid (Rx.out.mono hb Rx.out.lt)
  clear Rx
  have Rx := Rx'
  clear Rx'
  have RG0' := Lib.hid (RG0.out.mono hb RG0.out.lt)
  clear RG0
  have RG0 := RG0'
  clear RG0'
  clear B19
  have OH0 := Lib.hid hoH0
  clear hoH0 hfH0
  have OH2 := Lib.hid hoH2
  clear hoH2 hfH2
  clear hb
  have HAPH0 := Lib.hid hapH0
  clear hapH0
  obtain ⟨aH0, cH0, hvH0, _, _⟩ := OH0.out.ints.open
  rw [HL0.out] at hvH0
  subst hvH0
  have HP : Hid (Below v20.heap.size v20 (v20.alloc (.cells #[.slice aH0 n0 cH0, .int .i64 (popM cs mcs t)] 27))) := (Below.refl _ _).alloc (Nat.le_refl _) _
  have RH0 : Hid (Row (v20.alloc (.cells #[.slice aH0 n0 cH0, .int .i64 (popM cs mcs t)] 27)) v20.heap.size 27 [.slice aH0 n0 cH0, .int .i64 (popM cs mcs t)]) := Row.new v20 27 [.slice aH0 n0 cH0, .int .i64 (popM cs mcs t)]
  have eA : ¬ v20.heap.size = w.heap.size := by have := RA.out.lt; omega
  have eW0 : ¬ v20.heap.size = v2.heap.size := by have := RW0.out.lt; omega
  have ex : ¬ v20.heap.size = v4.heap.size := by have := Rx.out.lt; omega
  have eG0 : ¬ v20.heap.size = v6.heap.size := by have := RG0.out.lt; omega
  have zA0 : (v20.alloc (.cells #[.slice aH0 n0 cH0, .int .i64 (popM cs mcs t)] 27)).cell? ⟨w.heap.size, 0, none⟩ = some (.slice adcs cs.length ccs) := (RA.out.mono HP.out RA.out.lt).cell rfl
  have zA1 : (v20.alloc (.cells #[.slice aH0 n0 cH0, .int .i64 (popM cs mcs t)] 27)).cell? ⟨w.heap.size, 1, none⟩ = some (.int .i64 mcs) := (RA.out.mono HP.out RA.out.lt).cell rfl
  have zW00 : (v20.alloc (.cells #[.slice aH0 n0 cH0, .int .i64 (popM cs mcs t)] 27)).cell? ⟨v2.heap.size, 0, none⟩ = some (.slice aW0 n0 cW0) := (RW0.out.mono HP.out RW0.out.lt).cell rfl
  have zW01 : (v20.alloc (.cells #[.slice aH0 n0 cH0, .int .i64 (popM cs mcs t)] 27)).cell? ⟨v2.heap.size, 1, none⟩ = some (.int .i64 (popM cs mcs t)) := (RW0.out.mono HP.out RW0.out.lt).cell rfl
  have zx0 : (v20.alloc (.cells #[.slice aH0 n0 cH0, .int .i64 (popM cs mcs t)] 27)).cell? ⟨v4.heap.size, 0, none⟩ = some (.slice ax cs.length cx) := (Rx.out.mono HP.out Rx.out.lt).cell rfl
  have zx1 : (v20.alloc (.cells #[.slice aH0 n0 cH0, .int .i64 (popM cs mcs t)] 27)).cell? ⟨v4.heap.size, 1, none⟩ = some (.int .i64 (mcs)) := (Rx.out.mono HP.out Rx.out.lt).cell rfl
  have zG00 : (v20.alloc (.cells #[.slice aH0 n0 cH0, .int .i64 (popM cs mcs t)] 27)).cell? ⟨v6.heap.size, 0, none⟩ = some (.slice aG0 n0 cG0) := (RG0.out.mono HP.out RG0.out.lt).cell rfl
  have zG01 : (v20.alloc (.cells #[.slice aH0 n0 cH0, .int .i64 (popM cs mcs t)] 27)).cell? ⟨v6.heap.size, 1, none⟩ = some (.int .i64 (popM cs mcs t)) := (RG0.out.mono HP.out RG0.out.lt).cell rfl
  have kA0 : v20.cell? ⟨w.heap.size, 0, none⟩ = some (.slice adcs cs.length ccs) := RA.out.cell rfl
  have kA1 : v20.cell? ⟨w.heap.size, 1, none⟩ = some (.int .i64 mcs) := RA.out.cell rfl
  have kW00 : v20.cell? ⟨v2.heap.size, 0, none⟩ = some (.slice aW0 n0 cW0) := RW0.out.cell rfl
  have kW01 : v20.cell? ⟨v2.heap.size, 1, none⟩ = some (.int .i64 (popM cs mcs t)) := RW0.out.cell rfl
  have kx0 : v20.cell? ⟨v4.heap.size, 0, none⟩ = some (.slice ax cs.length cx) := Rx.out.cell rfl
  have kx1 : v20.cell? ⟨v4.heap.size, 1, none⟩ = some (.int .i64 (mcs)) := Rx.out.cell rfl
  have kG00 : v20.cell? ⟨v6.heap.size, 0, none⟩ = some (.slice aG0 n0 cG0) := RG0.out.cell rfl
  have kG01 : v20.cell? ⟨v6.heap.size, 1, none⟩ = some (.int .i64 (popM cs mcs t)) := RG0.out.cell rfl
  go_wp2_with fail
  clear kA0 kA1 kW00 kW01 kx0 kx1 kG00 kG01
  clear eA zA0 zA1 eW0 zW00 zW01 ex zx0 zx1 eG0 zG00 zG01
  generalize hW21 : (v20.alloc (.cells #[.slice aH0 n0 cH0, .int .i64 (popM cs mcs t)] 27)) = v21 at HP RH0 ⊢
  clear hW21
  have hp := HP.out
  clear HP
  have CP : Hid (v20.heap.size < v21.heap.size) := RH0.out.lt
  have B21 := nxt B20 hp
  have C21 : Hid (v20.heap.size ≤ v21.heap.size) := (hp).size
  have OW0' := Lib.hid (OW0.out.mono hp)
  clear OW0
  have OW0 := OW0'
  clear OW0'
  have OW2' := Lib.hid (OW2.out.mono hp)
  clear OW2
  have OW2 := OW2'
  clear OW2'
  have OG0' := Lib.hid (OG0.out.mono hp)
  clear OG0
  have OG0 := OG0'
  clear OG0'
  have OG2' := Lib.hid (OG2.out.mono hp)
  clear OG2
  have OG2 := OG2'
  clear OG2'
  have Oz' := Lib.hid (Oz.out.mono hp)
  clear Oz
  have Oz := Oz'
  clear Oz'
  have OH0' := Lib.hid (OH0.out.mono hp)
  clear OH0
  have OH0 := OH0'
  clear OH0'
  have OH2' := Lib.hid (OH2.out.mono hp)
  clear OH2
  have OH2 := OH2'
  clear OH2'
  have RA' := Lib.hid (RA.out.mono hp RA.out.lt)
  clear RA
  have RA := RA'
  clear RA'
  have RW0' := Lib.hid (RW0.out.mono hp RW0.out.lt)
  clear RW0
  have RW0 := RW0'
  clear RW0'
  have Rx' := Lib.hid (Rx.out.mono hp Rx.out.lt)
  clear Rx
  have Rx := Rx'
  clear Rx'
  have RG0' := Lib.hid (RG0.out.mono hp RG0.out.lt)
  clear RG0
  have RG0 := RG0'
  clear RG0'
  clear B20
  clear C21
  have C21 := CP
  clear hp CP
  refine (eqStack_same _ _ (popC cs mcs t) _ OH0.out.ints OW0.out.ints).mono ?_
  rintro e v22 ⟨rfl, hb⟩
  have B22 := nxt B21 hb
  have C22 : Hid (v21.heap.size ≤ v22.heap.size) := (hb).size
  have OW0' := Lib.hid (OW0.out.mono hb)
  clear OW0
  have OW0 := OW0'
  clear OW0'
  have OW2' := Lib.hid (OW2.out.mono hb)
  clear OW2
  have OW2 := OW2'
  clear OW2'
  have OG0' := Lib.hid (OG0.out.mono hb)
  clear OG0
  have OG0 := OG0'
  clear OG0'
  have OG2' := Lib.hid (OG2.out.mono hb)
  clear OG2
  have OG2 := OG2'
  clear OG2'
  have Oz' := Lib.hid (Oz.out.mono hb)
  clear Oz
  have Oz := Oz'
  clear Oz'
  have OH0' := Lib.hid (OH0.out.mono hb)
  clear OH0
  have OH0 := OH0'
  clear OH0'
  have OH2' := Lib.hid (OH2.out.mono hb)
  clear OH2
  have OH2 := OH2'
  clear OH2'
  have RA' := Lib.hid (RA.out.mono hb RA.out.lt)
  clear RA
  have RA := RA'
  clear RA'
  have RW0' := Lib.hid (RW0.out.mono hb RW0.out.lt)
  clear RW0
  have RW0 := RW0'
  clear RW0'
  have Rx' := Lib.hid (Rx.out.mono hb Rx.out.lt)
  clear Rx
  have Rx := Rx'
  clear Rx'
  have RG0' := Lib.hid (RG0.out.mono hb RG0.out.lt)
  clear RG0
  have RG0 := RG0'
  clear RG0'
  have RH0' := Lib.hid (RH0.out.mono hb RH0.out.lt)
  clear RH0
  have RH0 := RH0'
  clear RH0'
  clear B21
  clear hb
  have kA0 : v22.cell? ⟨w.heap.size, 0, none⟩ = some (.slice adcs cs.length ccs) := RA.out.cell rfl
  have kA1 : v22.cell? ⟨w.heap.size, 1, none⟩ = some (.int .i64 mcs) := RA.out.cell rfl
  have kW00 : v22.cell? ⟨v2.heap.size, 0, none⟩ = some (.slice aW0 n0 cW0) := RW0.out.cell rfl
  have kW01 : v22.cell? ⟨v2.heap.size, 1, none⟩ = some (.int .i64 (popM cs mcs t)) := RW0.out.cell rfl
  have kx0 : v22.cell? ⟨v4.heap.size, 0, none⟩ = some (.slice ax cs.length cx) := Rx.out.cell rfl
  have kx1 : v22.cell? ⟨v4.heap.size, 1, none⟩ = some (.int .i64 (mcs)) := Rx.out.cell rfl
  have kG00 : v22.cell? ⟨v6.heap.size, 0, none⟩ = some (.slice aG0 n0 cG0) := RG0.out.cell rfl
  have kG01 : v22.cell? ⟨v6.heap.size, 1, none⟩ = some (.int .i64 (popM cs mcs t)) := RG0.out.cell rfl
  have kH00 : v22.cell? ⟨v20.heap.size, 0, none⟩ = some (.slice aH0 n0 cH0) := RH0.out.cell rfl
  have kH01 : v22.cell? ⟨v20.heap.size, 1, none⟩ = some (.int .i64 (popM cs mcs t)) := RH0.out.cell rfl
  go_wp2_with fail
  clear kA0 kA1 kW00 kW01 kx0 kx1 kG00 kG01 kH00 kH01
  refine (eqAccessS_same _ _ (popT cs mcs) _ OH2.out.accs OW2.out.accs).mono ?_
  rintro e v23 ⟨rfl, hb⟩
  have B23 := nxt B22 hb
  have C23 : Hid (v22.heap.size ≤ v23.heap.size) := (hb).size
  have OW0' := Lib.hid (OW0.out.mono hb)
  clear OW0
  have OW0 := OW0'
  clear OW0'
  have OW2' := Lib.hid (OW2.out.mono hb)
  clear OW2
  have OW2 := OW2'
  clear OW2'
  have OG0' := Lib.hid (OG0.out.mono hb)
  clear OG0
  have OG0 := OG0'
  clear OG0'
  have OG2' := Lib.hid (OG2.out.mono hb)
  clear OG2
  have OG2 := OG2'
  clear OG2'
  have Oz' := Lib.hid (Oz.out.mono hb)
  clear Oz
  have Oz := Oz'
  clear Oz'
  have OH0' := Lib.hid (OH0.out.mono hb)
  clear OH0
  have OH0 := OH0'
  clear OH0'
  have OH2' := Lib.hid (OH2.out.mono hb)
  clear OH2
  have OH2 := OH2'
  clear OH2'
  have RA' := Lib.hid (RA.out.mono hb RA.out.lt)
  clear RA
  have RA := RA'
  clear RA'
  have RW0' := Lib.hid (RW0.out.mono hb RW0.out.lt)
  clear RW0
  have RW0 := RW0'
  clear RW0'
  have Rx' := Lib.hid (Rx.out.mono hb Rx.out.lt)
  clear Rx
  have Rx := Rx'
  clear Rx'
  have RG0' := Lib.hid (RG0.out.mono hb RG0.out.lt)
  clear RG0
  have RG0 := RG0'
  clear RG0'
  have RH0' := Lib.hid (RH0.out.mono hb RH0.out.lt)
  clear RH0
  have RH0 := RH0'
  clear RH0'
  clear B22
  clear hb
  have kA0 : v23.cell? ⟨w.heap.size, 0, none⟩ = some (.slice adcs cs.length ccs) := RA.out.cell rfl
  have kA1 : v23.cell? ⟨w.heap.size, 1, none⟩ = some (.int .i64 mcs) := RA.out.cell rfl
  have kW00 : v23.cell? ⟨v2.heap.size, 0, none⟩ = some (.slice aW0 n0 cW0) := RW0.out.cell rfl
  have kW01 : v23.cell? ⟨v2.heap.size, 1, none⟩ = some (.int .i64 (popM cs mcs t)) := RW0.out.cell rfl
  have kx0 : v23.cell? ⟨v4.heap.size, 0, none⟩ = some (.slice ax cs.length cx) := Rx.out.cell rfl
  have kx1 : v23.cell? ⟨v4.heap.size, 1, none⟩ = some (.int .i64 (mcs)) := Rx.out.cell rfl
  have kG00 : v23.cell? ⟨v6.heap.size, 0, none⟩ = some (.slice aG0 n0 cG0) := RG0.out.cell rfl
  have kG01 : v23.cell? ⟨v6.heap.size, 1, none⟩ = some (.int .i64 (popM cs mcs t)) := RG0.out.cell rfl
  have kH00 : v23.cell? ⟨v20.heap.size, 0, none⟩ = some (.slice aH0 n0 cH0) := RH0.out.cell rfl
  have kH01 : v23.cell? ⟨v20.heap.size, 1, none⟩ = some (.int .i64 (popM cs mcs t)) := RH0.out.cell rfl
  go_wp2_with fail
  clear kA0 kA1 kW00 kW01 kx0 kx1 kG00 kG01 kH00 kH01
  refine (heldStack_any _ n0 (1) _ OG0.out.ints (by omega) (by omega)).mono ?_
  rintro e v24 ⟨rfl, hb⟩
  have B24 := nxt B23 hb
  have C24 : Hid (v23.heap.size ≤ v24.heap.size) := (hb).size
  have OW0' := Lib.hid (OW0.out.mono hb)
  clear OW0
  have OW0 := OW0'
  clear OW0'
  have OW2' := Lib.hid (OW2.out.mono hb)
  clear OW2
  have OW2 := OW2'
  clear OW2'
  have OG0' := Lib.hid (OG0.out.mono hb)
  clear OG0
  have OG0 := OG0'
  clear OG0'
  have OG2' := Lib.hid (OG2.out.mono hb)
  clear OG2
  have OG2 := OG2'
  clear OG2'
  have Oz' := Lib.hid (Oz.out.mono hb)
  clear Oz
  have Oz := Oz'
  clear Oz'
  have OH0' := Lib.hid (OH0.out.mono hb)
  clear OH0
  have OH0 := OH0'
  clear OH0'
  have OH2' := Lib.hid (OH2.out.mono hb)
  clear OH2
  have OH2 := OH2'
  clear OH2'
  have RA' := Lib.hid (RA.out.mono hb RA.out.lt)
  clear RA
  have RA := RA'
  clear RA'
  have RW0' := Lib.hid (RW0.out.mono hb RW0.out.lt)
  clear RW0
  have RW0 := RW0'
  clear RW0'
  have Rx' := Lib.hid (Rx.out.mono hb Rx.out.lt)
  clear Rx
  have Rx := Rx'
  clear Rx'
  have RG0' := Lib.hid (RG0.out.mono hb RG0.out.lt)
  clear RG0
  have RG0 := RG0'
  clear RG0'
  have RH0' := Lib.hid (RH0.out.mono hb RH0.out.lt)
  clear RH0
  have RH0 := RH0'
  clear RH0'
  clear B23
  clear hb
  have kA0 : v24.cell? ⟨w.heap.size, 0, none⟩ = some (.slice adcs cs.length ccs) := RA.out.cell rfl
  have kA1 : v24.cell? ⟨w.heap.size, 1, none⟩ = some (.int .i64 mcs) := RA.out.cell rfl
  have kW00 : v24.cell? ⟨v2.heap.size, 0, none⟩ = some (.slice aW0 n0 cW0) := RW0.out.cell rfl
  have kW01 : v24.cell? ⟨v2.heap.size, 1, none⟩ = some (.int .i64 (popM cs mcs t)) := RW0.out.cell rfl
  have kx0 : v24.cell? ⟨v4.heap.size, 0, none⟩ = some (.slice ax cs.length cx) := Rx.out.cell rfl
  have kx1 : v24.cell? ⟨v4.heap.size, 1, none⟩ = some (.int .i64 (mcs)) := Rx.out.cell rfl
  have kG00 : v24.cell? ⟨v6.heap.size, 0, none⟩ = some (.slice aG0 n0 cG0) := RG0.out.cell rfl
  have kG01 : v24.cell? ⟨v6.heap.size, 1, none⟩ = some (.int .i64 (popM cs mcs t)) := RG0.out.cell rfl
  have kH00 : v24.cell? ⟨v20.heap.size, 0, none⟩ = some (.slice aH0 n0 cH0) := RH0.out.cell rfl
  have kH01 : v24.cell? ⟨v20.heap.size, 1, none⟩ = some (.int .i64 (popM cs mcs t)) := RH0.out.cell rfl
  go_wp2_with fail
  clear kA0 kA1 kW00 kW01 kx0 kx1 kG00 kG01 kH00 kH01
  refine (heldAccessS_any _ n2 (1 + (n0 : Int)) _ OG2.out.accs (by omega) (by omega)).mono ?_
  rintro e v25 ⟨rfl, hb⟩
  have B25 := nxt B24 hb
  have C25 : Hid (v24.heap.size ≤ v25.heap.size) := (hb).size
  have OW0' := Lib.hid (OW0.out.mono hb)
  clear OW0
  have OW0 := OW0'
  clear OW0'
  have OW2' := Lib.hid (OW2.out.mono hb)
  clear OW2
  have OW2 := OW2'
  clear OW2'
  have OG0' := Lib.hid (OG0.out.mono hb)
  clear OG0
  have OG0 := OG0'
  clear OG0'
  have OG2' := Lib.hid (OG2.out.mono hb)
  clear OG2
  have OG2 := OG2'
  clear OG2'
  have Oz' := Lib.hid (Oz.out.mono hb)
  clear Oz
  have Oz := Oz'
  clear Oz'
  have OH0' := Lib.hid (OH0.out.mono hb)
  clear OH0
  have OH0 := OH0'
  clear OH0'
  have OH2' := Lib.hid (OH2.out.mono hb)
  clear OH2
  have OH2 := OH2'
  clear OH2'
  have RA' := Lib.hid (RA.out.mono hb RA.out.lt)
  clear RA
  have RA := RA'
  clear RA'
  have RW0' := Lib.hid (RW0.out.mono hb RW0.out.lt)
  clear RW0
  have RW0 := RW0'
  clear RW0'
  have Rx' := Lib.hid (Rx.out.mono hb Rx.out.lt)
  clear Rx
  have Rx := Rx'
  clear Rx'
  have RG0' := Lib.hid (RG0.out.mono hb RG0.out.lt)
  clear RG0
  have RG0 := RG0'
  clear RG0'
  have RH0' := Lib.hid (RH0.out.mono hb RH0.out.lt)
  clear RH0
  have RH0 := RH0'
  clear RH0'
  clear B24
  clear hb
  have kA0 : v25.cell? ⟨w.heap.size, 0, none⟩ = some (.slice adcs cs.length ccs) := RA.out.cell rfl
  have kA1 : v25.cell? ⟨w.heap.size, 1, none⟩ = some (.int .i64 mcs) := RA.out.cell rfl
  have kW00 : v25.cell? ⟨v2.heap.size, 0, none⟩ = some (.slice aW0 n0 cW0) := RW0.out.cell rfl
  have kW01 : v25.cell? ⟨v2.heap.size, 1, none⟩ = some (.int .i64 (popM cs mcs t)) := RW0.out.cell rfl
  have kx0 : v25.cell? ⟨v4.heap.size, 0, none⟩ = some (.slice ax cs.length cx) := Rx.out.cell rfl
  have kx1 : v25.cell? ⟨v4.heap.size, 1, none⟩ = some (.int .i64 (mcs)) := Rx.out.cell rfl
  have kG00 : v25.cell? ⟨v6.heap.size, 0, none⟩ = some (.slice aG0 n0 cG0) := RG0.out.cell rfl
  have kG01 : v25.cell? ⟨v6.heap.size, 1, none⟩ = some (.int .i64 (popM cs mcs t)) := RG0.out.cell rfl
  have kH00 : v25.cell? ⟨v20.heap.size, 0, none⟩ = some (.slice aH0 n0 cH0) := RH0.out.cell rfl
  have kH01 : v25.cell? ⟨v20.heap.size, 1, none⟩ = some (.int .i64 (popM cs mcs t)) := RH0.out.cell rfl
  go_wp2
  go_ret
  exact ⟨rfl, B25.out⟩
end Go.Proofs.Ytmdjkaghjljbfaa
