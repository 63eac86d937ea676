/- the walk of FnExactCompactTrace -/
import Derived.Test.YtkekacnnjmbelaaCompT
import Derived.Test.YtkekacnnjmbelaaInts
import Derived.Test.YtkekacnnjmbelaaMem
namespace Go.Proofs.Ytkekacnnjmbelaa
open Go.RowKit
set_option maxHeartbeats 1000000 in
theorem walk_FnExactCompactTrace (w : World) (m : Int) (hm : Fit m) :
    Calls Try.prog 5 #[.int .i64 m] w fun e w' => e = .returned (.bool true) ∧ Below w.heap.size w w' := by
  clear hm
  have B0 := Lib.hid (Below.refl w.heap.size w)
  go_enter Try.func5, Try.ntmps5
  have hz0 := traceC_le m
  obtain ⟨n0, hn0⟩ : ∃ n, (traceC m).length = n := ⟨_, rfl⟩
  rw [hn0] at hz0
  have hmb1 : decide ((1 + 3 * (n0 : Int) : Int) < 0) = false := by simp; omega
  go_wp2_with fail
  refine (spec_CompactTrace_own m _ ).mono ?_
  rintro e w1 ⟨vW0, bW0, rfl, hoW0, hfW0, hb⟩
  have FW0 := Lib.hid (From.up B0 hfW0)
  have OW0 := Lib.hid hoW0
  clear hfW0 hoW0
  have B1 := nxt B0 hb
  clear hb B0
  go_wp2_with fail
  refine (impl_CompactTrace_own m _ ).mono ?_
  rintro e w2 ⟨vG0, bG0, rfl, hoG0, hfG0, hb⟩
  have NW0_G0 : ∀ g, bW0 = some g → bG0 ≠ some g := fun g h1 h2 => by have := OW0.out.lt g h1; have := hfG0 g h2; omega
  have HNW0_G0 := Lib.hid NW0_G0
  clear NW0_G0
  have FG0 := Lib.hid (From.up B1 hfG0)
  have OG0 := Lib.hid hoG0
  clear hfG0 hoG0
  have B2 := nxt B1 hb
  have OW0' := Lib.hid (OW0.out.mono hb)
  clear OW0
  have OW0 := OW0'
  clear OW0'
  clear hb B1
  go_wp2_with fail
  refine (eqAccessS_same _ _ (traceC m) _ OG0.out.accs OW0.out.accs).mono ?_
  rintro e w3 ⟨rfl, hb⟩
  have B3 := nxt B2 hb
  have OW0' := Lib.hid (OW0.out.mono hb)
  have OG0' := Lib.hid (OG0.out.mono hb)
  clear OW0
  have OW0 := OW0'
  clear OW0'
  clear OG0
  have OG0 := OG0'
  clear OG0'
  clear hb B2
  go_wp2_with fail
  refine (markAccessS_any _ _ (traceC m) (1) _ OG0.out (by omega) (by rw [hn0]; omega)).mono ?_
  rintro e w4 ⟨rfl, hoG0, hg⟩
  have B4 := nxtG B3 hg FG0.out
  have OW0' := Lib.hid (OW0.out.grown hg HNW0_G0.out)
  clear OW0
  have OW0 := OW0'
  clear OW0'
  clear OG0
  have OG0 := Lib.hid hoG0
  clear hoG0 hg B3
  go_wp2_with fail
  refine (heldAccessS_any _ (traceC m).length (1) _ OG0.out.accs (by omega) (by rw [hn0]; omega)).mono ?_
  rintro e w5 ⟨rfl, hb⟩
  have B5 := nxt B4 hb
  have OW0' := Lib.hid (OW0.out.mono hb)
  have OG0' := Lib.hid (OG0.out.mono hb)
  clear OW0
  have OW0 := OW0'
  clear OW0'
  clear OG0
  have OG0 := OG0'
  clear OG0'
  clear hb B4
  go_wp2_with fail
  refine (impl_CompactTrace_own m _ ).mono ?_
  rintro e w6 ⟨vH0, bH0, rfl, hoH0, hfH0, hb⟩
  have NW0_H0 : ∀ g, bW0 = some g → bH0 ≠ some g := fun g h1 h2 => by have := OW0.out.lt g h1; have := hfH0 g h2; omega
  have HNW0_H0 := Lib.hid NW0_H0
  clear NW0_H0
  have NG0_H0 : ∀ g, bG0 = some g → bH0 ≠ some g := fun g h1 h2 => by have := OG0.out.lt g h1; have := hfH0 g h2; omega
  have HNG0_H0 := Lib.hid NG0_H0
  clear NG0_H0
  have FH0 := Lib.hid (From.up B5 hfH0)
  have OH0 := Lib.hid hoH0
  clear hfH0 hoH0
  have B6 := nxt B5 hb
  have OW0' := Lib.hid (OW0.out.mono hb)
  have OG0' := Lib.hid (OG0.out.mono hb)
  clear OW0
  have OW0 := OW0'
  clear OW0'
  clear OG0
  have OG0 := OG0'
  clear OG0'
  clear hb B5
  go_wp2_with fail
  refine (eqAccessS_same _ _ (traceC m) _ OH0.out.accs OW0.out.accs).mono ?_
  rintro e w7 ⟨rfl, hb⟩
  have B7 := nxt B6 hb
  have OW0' := Lib.hid (OW0.out.mono hb)
  have OG0' := Lib.hid (OG0.out.mono hb)
  have OH0' := Lib.hid (OH0.out.mono hb)
  clear OW0
  have OW0 := OW0'
  clear OW0'
  clear OG0
  have OG0 := OG0'
  clear OG0'
  clear OH0
  have OH0 := OH0'
  clear OH0'
  clear hb B6
  go_wp2_with fail
  refine (heldAccessS_any _ (traceC m).length (1) _ OG0.out.accs (by omega) (by rw [hn0]; omega)).mono ?_
  rintro e w8 ⟨rfl, hb⟩
  have B8 := nxt B7 hb
  have OW0' := Lib.hid (OW0.out.mono hb)
  have OG0' := Lib.hid (OG0.out.mono hb)
  have OH0' := Lib.hid (OH0.out.mono hb)
  clear OW0
  have OW0 := OW0'
  clear OW0'
  clear OG0
  have OG0 := OG0'
  clear OG0'
  clear OH0
  have OH0 := OH0'
  clear OH0'
  clear hb B7
  go_wp2
  go_ret
  exact ⟨rfl, B8.out⟩
end Go.Proofs.Ytkekacnnjmbelaa
