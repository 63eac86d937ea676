/- the walk of FnStackFull -/
import Derived.Test.YtmdjkaghjljbfaaDoorStackDraw3
import Derived.Test.YtmdjkaghjljbfaaDoorSameStack
import Derived.Test.YtmdjkaghjljbfaaDoorTrDraw
import Derived.Test.YtmdjkaghjljbfaaDoorPushSpec
import Derived.Test.YtmdjkaghjljbfaaDoorName
namespace Go.Proofs.YtmdjkaghjljbfaaDoor
open Go.RowKit
theorem full_is {cs : List Int} {m : Int} (h : stackB cs m = true) : pushOk cs m 1 true = decide (m < 8) ∧ popOk cs m true = decide (0 < m) := by
  obtain ⟨_, h0, h8, _⟩ := stackB_at.1 h
  unfold pushOk popOk pushA
  rw [h, inB_true (by omega) (by omega)]
  constructor
  · by_cases e : m = 8
    · subst e; rfl
    · have : m < 8 := by omega
      simp [e, this]
  · by_cases e : m = 0
    · subst e; rfl
    · have : 0 < m := by omega
      simp [e, this]
set_option maxHeartbeats 4000000 in
set_option maxRecDepth 20000 in
theorem walk0_FnStackFull (w : World) (v : Value) (bs : List Int) (h : Bts w v bs) (hR : Resv w) :
    Calls Tryd.prog 5 #[v] w fun e w' => LawOk w e w' := by
  obtain ⟨ad, c, hv, hm⟩ := bts_lit h
  have H := Lib.hid h
  have HR := Lib.hid hR
  clear h hR
  subst hv
  by_cases hbig : 1048576 < bs.length
  · go_enter Tryd.func5, Tryd.ntmps5
    go_wp2
    go_ret
    exact ⟨rfl, Below.refl _ _⟩
  · go_enter Tryd.func5, Tryd.ntmps5
    go_wp2_with fail
    refine (draw_PushStack _ bs w H.out).mono ?_
    rintro e w1 ⟨g, off, ds, m, a, t, rfl, ho, hl, hrow, m1, m9, a1, a2, hb⟩
    have hI1 := ints_drop hrow hl ho
    obtain ⟨cs, hcs⟩ : ∃ cs, ds.drop off = cs := ⟨_, rfl⟩
    obtain ⟨L, hL⟩ : ∃ L, 8 - off = L := ⟨_, rfl⟩
    have hcl : cs.length ≤ 1048576 := by rw [← hcs]; simp; omega
    rw [hcs, hL] at hI1
    rw [hL]
    have IS := Lib.hid hI1
    have B1 := Lib.hid hb
    have HCL := Lib.hid hcl
    clear hb hI1 hrow hl hcs hL H ho hcl
    obtain ⟨C, hC⟩ : ∃ x, pushC cs m a t = x := ⟨_, rfl⟩
    obtain ⟨M, hM⟩ : ∃ x, pushM cs m a t = x := ⟨_, rfl⟩
    obtain ⟨T, hT⟩ : ∃ x, pushT cs m a = x := ⟨_, rfl⟩
    obtain ⟨ok, hok⟩ : ∃ x, pushOk cs m a t = x := ⟨_, rfl⟩
    have hcL : C.length ≤ 1048576 := by rw [← hC]; have := pushC_le cs m a t; omega
    have HC := Lib.hid hC
    have HM := Lib.hid hM
    have HT := Lib.hid hT
    have Hok := Lib.hid hok
    have HCC := Lib.hid hcL
    clear hC hM hT hok hcL
    have htt : (ok != ok) = false := by simp
    have HP : Hid (Below w1.heap.size w1 (w1.alloc (.cells #[.slice (some ⟨g, off, none⟩) L L, .int .i64 m] 25))) := (Below.refl _ _).alloc (Nat.le_refl _) _
    have RS : Hid (Row (w1.alloc (.cells #[.slice (some ⟨g, off, none⟩) L L, .int .i64 m] 25)) w1.heap.size 25 [.slice (some ⟨g, off, none⟩) L L, .int .i64 m]) := Row.new w1 25 [.slice (some ⟨g, off, none⟩) L L, .int .i64 m]
    go_wp2_with fail
    generalize hW : (w1.alloc (.cells #[.slice (some ⟨g, off, none⟩) L L, .int .i64 m] 25)) = w2 at HP RS ⊢
    clear hW
    have hp := HP.out
    clear HP
    have B2 := nxt B1 hp
    have IS' := Lib.hid (IS.out.mono hp (Nat.le_refl _))
    clear IS
    have IS := IS'
    clear IS'
    clear B1
    clear hp
    refine (impl_PushStack_own _ cs m a t _ IS.out HCL.out).mono ?_
    rw [HC.out, HM.out, HT.out, Hok.out]
    rintro e w3 ⟨uX, xX, _, _, rfl, huX, -, hxX, -, -, hb⟩
    have B3 := nxt B2 hb
    have IS' := Lib.hid (IS.out.mono hb (Nat.le_refl _))
    clear IS
    have IS := IS'
    clear IS'
    have RS' := Lib.hid (RS.out.mono hb RS.out.lt)
    clear RS
    have RS := RS'
    clear RS'
    clear B2
    clear hb
    have IX := Lib.hid (huX.ints)
    have AX := Lib.hid (hxX.accs)
    clear huX hxX
    obtain ⟨aX, cX, hvX, _, _⟩ := IX.out.open
    obtain ⟨nX, hnX⟩ : ∃ n, (C).length = n := ⟨_, rfl⟩
    rw [hnX] at hvX
    subst hvX
    have HNX := Lib.hid hnX
    clear hnX
    have HP : Hid (Below w3.heap.size w3 (w3.alloc (.cells #[.slice aX nX cX, .int .i64 M] 25))) := (Below.refl _ _).alloc (Nat.le_refl _) _
    have RX : Hid (Row (w3.alloc (.cells #[.slice aX nX cX, .int .i64 M] 25)) w3.heap.size 25 [.slice aX nX cX, .int .i64 M]) := Row.new w3 25 [.slice aX nX cX, .int .i64 M]
    have eS : ¬ w3.heap.size = w1.heap.size := by have := RS.out.lt; omega
    have zS0 : (w3.alloc (.cells #[.slice aX nX cX, .int .i64 M] 25)).cell? ⟨w1.heap.size, 0, none⟩ = some (.slice (some ⟨g, off, none⟩) L L) := (RS.out.mono HP.out RS.out.lt).cell rfl
    have zS1 : (w3.alloc (.cells #[.slice aX nX cX, .int .i64 M] 25)).cell? ⟨w1.heap.size, 1, none⟩ = some (.int .i64 m) := (RS.out.mono HP.out RS.out.lt).cell rfl
    have kS0 : w3.cell? ⟨w1.heap.size, 0, none⟩ = some (.slice (some ⟨g, off, none⟩) L L) := RS.out.cell rfl
    have kS1 : w3.cell? ⟨w1.heap.size, 1, none⟩ = some (.int .i64 m) := RS.out.cell rfl
    go_wp2_with fail
    clear kS0 kS1
    clear eS zS0 zS1
    generalize hW : (w3.alloc (.cells #[.slice aX nX cX, .int .i64 M] 25)) = w4 at HP RX ⊢
    clear hW
    have hp := HP.out
    clear HP
    have B4 := nxt B3 hp
    have IS' := Lib.hid (IS.out.mono hp (Nat.le_refl _))
    clear IS
    have IS := IS'
    clear IS'
    have IX' := Lib.hid (IX.out.mono hp (Nat.le_refl _))
    clear IX
    have IX := IX'
    clear IX'
    have AX' := Lib.hid (AX.out.mono hp (Nat.le_refl _))
    clear AX
    have AX := AX'
    clear AX'
    have RS' := Lib.hid (RS.out.mono hp RS.out.lt)
    clear RS
    have RS := RS'
    clear RS'
    clear B3
    clear hp
    refine (spec_PushStack_own _ cs m a t _ IS.out HCL.out).mono ?_
    rw [HC.out, HM.out, HT.out, Hok.out]
    rintro e w5 ⟨uY, xY, _, _, rfl, huY, -, hxY, -, -, hb⟩
    have B5 := nxt B4 hb
    have IS' := Lib.hid (IS.out.mono hb (Nat.le_refl _))
    clear IS
    have IS := IS'
    clear IS'
    have IX' := Lib.hid (IX.out.mono hb (Nat.le_refl _))
    clear IX
    have IX := IX'
    clear IX'
    have AX' := Lib.hid (AX.out.mono hb (Nat.le_refl _))
    clear AX
    have AX := AX'
    clear AX'
    have RS' := Lib.hid (RS.out.mono hb RS.out.lt)
    clear RS
    have RS := RS'
    clear RS'
    have RX' := Lib.hid (RX.out.mono hb RX.out.lt)
    clear RX
    have RX := RX'
    clear RX'
    clear B4
    clear hb
    have IY := Lib.hid (huY.ints)
    have AY := Lib.hid (hxY.accs)
    clear huY hxY
    obtain ⟨aY, cY, hvY, _, _⟩ := IY.out.open
    obtain ⟨nY, hnY⟩ : ∃ n, (C).length = n := ⟨_, rfl⟩
    rw [hnY] at hvY
    subst hvY
    have HNY := Lib.hid hnY
    clear hnY
    have HP : Hid (Below w5.heap.size w5 (w5.alloc (.cells #[.slice aY nY cY, .int .i64 M] 25))) := (Below.refl _ _).alloc (Nat.le_refl _) _
    have RY : Hid (Row (w5.alloc (.cells #[.slice aY nY cY, .int .i64 M] 25)) w5.heap.size 25 [.slice aY nY cY, .int .i64 M]) := Row.new w5 25 [.slice aY nY cY, .int .i64 M]
    have eS : ¬ w5.heap.size = w1.heap.size := by have := RS.out.lt; omega
    have zS0 : (w5.alloc (.cells #[.slice aY nY cY, .int .i64 M] 25)).cell? ⟨w1.heap.size, 0, none⟩ = some (.slice (some ⟨g, off, none⟩) L L) := (RS.out.mono HP.out RS.out.lt).cell rfl
    have zS1 : (w5.alloc (.cells #[.slice aY nY cY, .int .i64 M] 25)).cell? ⟨w1.heap.size, 1, none⟩ = some (.int .i64 m) := (RS.out.mono HP.out RS.out.lt).cell rfl
    have eX : ¬ w5.heap.size = w3.heap.size := by have := RX.out.lt; omega
    have zX0 : (w5.alloc (.cells #[.slice aY nY cY, .int .i64 M] 25)).cell? ⟨w3.heap.size, 0, none⟩ = some (.slice aX nX cX) := (RX.out.mono HP.out RX.out.lt).cell rfl
    have zX1 : (w5.alloc (.cells #[.slice aY nY cY, .int .i64 M] 25)).cell? ⟨w3.heap.size, 1, none⟩ = some (.int .i64 M) := (RX.out.mono HP.out RX.out.lt).cell rfl
    have kS0 : w5.cell? ⟨w1.heap.size, 0, none⟩ = some (.slice (some ⟨g, off, none⟩) L L) := RS.out.cell rfl
    have kS1 : w5.cell? ⟨w1.heap.size, 1, none⟩ = some (.int .i64 m) := RS.out.cell rfl
    have kX0 : w5.cell? ⟨w3.heap.size, 0, none⟩ = some (.slice aX nX cX) := RX.out.cell rfl
    have kX1 : w5.cell? ⟨w3.heap.size, 1, none⟩ = some (.int .i64 M) := RX.out.cell rfl
    go_wp2_with fail
    clear kS0 kS1 kX0 kX1
    clear eS zS0 zS1 eX zX0 zX1
    generalize hW : (w5.alloc (.cells #[.slice aY nY cY, .int .i64 M] 25)) = w6 at HP RY ⊢
    clear hW
    have hp := HP.out
    clear HP
    have B6 := nxt B5 hp
    have IS' := Lib.hid (IS.out.mono hp (Nat.le_refl _))
    clear IS
    have IS := IS'
    clear IS'
    have IX' := Lib.hid (IX.out.mono hp (Nat.le_refl _))
    clear IX
    have IX := IX'
    clear IX'
    have AX' := Lib.hid (AX.out.mono hp (Nat.le_refl _))
    clear AX
    have AX := AX'
    clear AX'
    have IY' := Lib.hid (IY.out.mono hp (Nat.le_refl _))
    clear IY
    have IY := IY'
    clear IY'
    have AY' := Lib.hid (AY.out.mono hp (Nat.le_refl _))
    clear AY
    have AY := AY'
    clear AY'
    have RS' := Lib.hid (RS.out.mono hp RS.out.lt)
    clear RS
    have RS := RS'
    clear RS'
    have RX' := Lib.hid (RX.out.mono hp RX.out.lt)
    clear RX
    have RX := RX'
    clear RX'
    clear B5
    clear hp
    refine (sameStack_same _ _ C _ IX.out IY.out).mono ?_
    rintro e w7 ⟨rfl, hb⟩
    have B7 := nxt B6 hb
    have IS' := Lib.hid (IS.out.mono hb (Nat.le_refl _))
    clear IS
    have IS := IS'
    clear IS'
    have IX' := Lib.hid (IX.out.mono hb (Nat.le_refl _))
    clear IX
    have IX := IX'
    clear IX'
    have AX' := Lib.hid (AX.out.mono hb (Nat.le_refl _))
    clear AX
    have AX := AX'
    clear AX'
    have IY' := Lib.hid (IY.out.mono hb (Nat.le_refl _))
    clear IY
    have IY := IY'
    clear IY'
    have AY' := Lib.hid (AY.out.mono hb (Nat.le_refl _))
    clear AY
    have AY := AY'
    clear AY'
    have RS' := Lib.hid (RS.out.mono hb RS.out.lt)
    clear RS
    have RS := RS'
    clear RS'
    have RX' := Lib.hid (RX.out.mono hb RX.out.lt)
    clear RX
    have RX := RX'
    clear RX'
    have RY' := Lib.hid (RY.out.mono hb RY.out.lt)
    clear RY
    have RY := RY'
    clear RY'
    clear B6
    clear hb
    have kS0 : w7.cell? ⟨w1.heap.size, 0, none⟩ = some (.slice (some ⟨g, off, none⟩) L L) := RS.out.cell rfl
    have kS1 : w7.cell? ⟨w1.heap.size, 1, none⟩ = some (.int .i64 m) := RS.out.cell rfl
    have kX0 : w7.cell? ⟨w3.heap.size, 0, none⟩ = some (.slice aX nX cX) := RX.out.cell rfl
    have kX1 : w7.cell? ⟨w3.heap.size, 1, none⟩ = some (.int .i64 M) := RX.out.cell rfl
    have kY0 : w7.cell? ⟨w5.heap.size, 0, none⟩ = some (.slice aY nY cY) := RY.out.cell rfl
    have kY1 : w7.cell? ⟨w5.heap.size, 1, none⟩ = some (.int .i64 M) := RY.out.cell rfl
    go_wp2_with fail
    clear kS0 kS1 kX0 kX1 kY0 kY1
    refine (sameTrace_same _ _ T _ AX.out AY.out).mono ?_
    rintro e w8 ⟨rfl, hb⟩
    have B8 := nxt B7 hb
    have IS' := Lib.hid (IS.out.mono hb (Nat.le_refl _))
    clear IS
    have IS := IS'
    clear IS'
    have IX' := Lib.hid (IX.out.mono hb (Nat.le_refl _))
    clear IX
    have IX := IX'
    clear IX'
    have AX' := Lib.hid (AX.out.mono hb (Nat.le_refl _))
    clear AX
    have AX := AX'
    clear AX'
    have IY' := Lib.hid (IY.out.mono hb (Nat.le_refl _))
    clear IY
    have IY := IY'
    clear IY'
    have AY' := Lib.hid (AY.out.mono hb (Nat.le_refl _))
    clear AY
    have AY := AY'
    clear AY'
    have RS' := Lib.hid (RS.out.mono hb RS.out.lt)
    clear RS
    have RS := RS'
    clear RS'
    have RX' := Lib.hid (RX.out.mono hb RX.out.lt)
    clear RX
    have RX := RX'
    clear RX'
    have RY' := Lib.hid (RY.out.mono hb RY.out.lt)
    clear RY
    have RY := RY'
    clear RY'
    clear B7
    clear hb
    clear IY
    clear AY
    clear IX
    clear AX
    obtain ⟨sv, hsv⟩ : ∃ x, stackB cs m = x := ⟨_, rfl⟩
    have HSV := Lib.hid hsv
    clear hsv
    have kS0 : w8.cell? ⟨w1.heap.size, 0, none⟩ = some (.slice (some ⟨g, off, none⟩) L L) := RS.out.cell rfl
    have kS1 : w8.cell? ⟨w1.heap.size, 1, none⟩ = some (.int .i64 m) := RS.out.cell rfl
    have kX0 : w8.cell? ⟨w3.heap.size, 0, none⟩ = some (.slice aX nX cX) := RX.out.cell rfl
    have kX1 : w8.cell? ⟨w3.heap.size, 1, none⟩ = some (.int .i64 M) := RX.out.cell rfl
    have kY0 : w8.cell? ⟨w5.heap.size, 0, none⟩ = some (.slice aY nY cY) := RY.out.cell rfl
    have kY1 : w8.cell? ⟨w5.heap.size, 1, none⟩ = some (.int .i64 M) := RY.out.cell rfl
    go_wp2_with fail
    clear kS0 kS1 kX0 kX1 kY0 kY1
    refine (impl_StackValid _ cs m _ IS.out).mono ?_
    rw [HSV.out]
    rintro e w9 ⟨rfl, hb⟩
    have B9 := nxt B8 hb
    have IS' := Lib.hid (IS.out.mono hb (Nat.le_refl _))
    clear IS
    have IS := IS'
    clear IS'
    have RS' := Lib.hid (RS.out.mono hb RS.out.lt)
    clear RS
    have RS := RS'
    clear RS'
    have RX' := Lib.hid (RX.out.mono hb RX.out.lt)
    clear RX
    have RX := RX'
    clear RX'
    have RY' := Lib.hid (RY.out.mono hb RY.out.lt)
    clear RY
    have RY := RY'
    clear RY'
    clear B8
    clear hb
    cases sv
    · have kS0 : w9.cell? ⟨w1.heap.size, 0, none⟩ = some (.slice (some ⟨g, off, none⟩) L L) := RS.out.cell rfl
      have kS1 : w9.cell? ⟨w1.heap.size, 1, none⟩ = some (.int .i64 m) := RS.out.cell rfl
      have kX0 : w9.cell? ⟨w3.heap.size, 0, none⟩ = some (.slice aX nX cX) := RX.out.cell rfl
      have kX1 : w9.cell? ⟨w3.heap.size, 1, none⟩ = some (.int .i64 M) := RX.out.cell rfl
      have kY0 : w9.cell? ⟨w5.heap.size, 0, none⟩ = some (.slice aY nY cY) := RY.out.cell rfl
      have kY1 : w9.cell? ⟨w5.heap.size, 1, none⟩ = some (.int .i64 M) := RY.out.cell rfl
      go_wp2_with fail
      clear kS0 kS1 kX0 kX1 kY0 kY1
      have HRR := Lib.hid (HR.out.mono B9.out (Nat.le_refl _))
      refine (alive_any _ HRR.out).mono ?_
      rintro e w' ⟨rfl, rfl⟩
      have kS0 : w9.cell? ⟨w1.heap.size, 0, none⟩ = some (.slice (some ⟨g, off, none⟩) L L) := RS.out.cell rfl
      have kS1 : w9.cell? ⟨w1.heap.size, 1, none⟩ = some (.int .i64 m) := RS.out.cell rfl
      have kX0 : w9.cell? ⟨w3.heap.size, 0, none⟩ = some (.slice aX nX cX) := RX.out.cell rfl
      have kX1 : w9.cell? ⟨w3.heap.size, 1, none⟩ = some (.int .i64 M) := RX.out.cell rfl
      have kY0 : w9.cell? ⟨w5.heap.size, 0, none⟩ = some (.slice aY nY cY) := RY.out.cell rfl
      have kY1 : w9.cell? ⟨w5.heap.size, 1, none⟩ = some (.int .i64 M) := RY.out.cell rfl
      go_wp2
      go_ret
      exact ⟨rfl, B9.out⟩
    · obtain ⟨f1, f2⟩ := full_is HSV.out
      have F1 := Lib.hid f1
      have F2 := Lib.hid f2
      clear f1 f2
      obtain ⟨C2, hC2⟩ : ∃ x, pushC cs m 1 true = x := ⟨_, rfl⟩
      have HC2 := Lib.hid hC2
      clear hC2
      obtain ⟨M2, hM2⟩ : ∃ x, pushM cs m 1 true = x := ⟨_, rfl⟩
      have HM2 := Lib.hid hM2
      clear hM2
      obtain ⟨T2, hT2⟩ : ∃ x, pushT cs m 1 = x := ⟨_, rfl⟩
      have HT2 := Lib.hid hT2
      clear hT2
      obtain ⟨C3, hC3⟩ : ∃ x, popC cs m true = x := ⟨_, rfl⟩
      have HC3 := Lib.hid hC3
      clear hC3
      obtain ⟨M3, hM3⟩ : ∃ x, popM cs m true = x := ⟨_, rfl⟩
      have HM3 := Lib.hid hM3
      clear hM3
      obtain ⟨V3, hV3⟩ : ∃ x, popV cs m true = x := ⟨_, rfl⟩
      have HV3 := Lib.hid hV3
      clear hV3
      obtain ⟨T3, hT3⟩ : ∃ x, popT cs m = x := ⟨_, rfl⟩
      have HT3 := Lib.hid hT3
      clear hT3
      have kS0 : w9.cell? ⟨w1.heap.size, 0, none⟩ = some (.slice (some ⟨g, off, none⟩) L L) := RS.out.cell rfl
      have kS1 : w9.cell? ⟨w1.heap.size, 1, none⟩ = some (.int .i64 m) := RS.out.cell rfl
      have kX0 : w9.cell? ⟨w3.heap.size, 0, none⟩ = some (.slice aX nX cX) := RX.out.cell rfl
      have kX1 : w9.cell? ⟨w3.heap.size, 1, none⟩ = some (.int .i64 M) := RX.out.cell rfl
      have kY0 : w9.cell? ⟨w5.heap.size, 0, none⟩ = some (.slice aY nY cY) := RY.out.cell rfl
      have kY1 : w9.cell? ⟨w5.heap.size, 1, none⟩ = some (.int .i64 M) := RY.out.cell rfl
      go_wp2_with fail
      clear kS0 kS1 kX0 kX1 kY0 kY1
      refine (impl_PushStack_own _ cs m 1 true _ IS.out HCL.out).mono ?_
      rw [HC2.out, HM2.out, HT2.out, F1.out]
      rintro e w10 ⟨uV, xV, _, _, rfl, huV, -, -, -, -, hb⟩
      have B10 := nxt B9 hb
      have IS' := Lib.hid (IS.out.mono hb (Nat.le_refl _))
      clear IS
      have IS := IS'
      clear IS'
      have RS' := Lib.hid (RS.out.mono hb RS.out.lt)
      clear RS
      have RS := RS'
      clear RS'
      have RX' := Lib.hid (RX.out.mono hb RX.out.lt)
      clear RX
      have RX := RX'
      clear RX'
      have RY' := Lib.hid (RY.out.mono hb RY.out.lt)
      clear RY
      have RY := RY'
      clear RY'
      clear B9
      clear hb
      have IV := Lib.hid (huV.ints)
      clear huV
      obtain ⟨aV, cV, hvV, _, _⟩ := IV.out.open
      obtain ⟨nV, hnV⟩ : ∃ n, (C2).length = n := ⟨_, rfl⟩
      rw [hnV] at hvV
      subst hvV
      have HNV := Lib.hid hnV
      clear hnV
      have HP : Hid (Below w10.heap.size w10 (w10.alloc (.cells #[.slice aV nV cV, .int .i64 M2] 25))) := (Below.refl _ _).alloc (Nat.le_refl _) _
      have RV : Hid (Row (w10.alloc (.cells #[.slice aV nV cV, .int .i64 M2] 25)) w10.heap.size 25 [.slice aV nV cV, .int .i64 M2]) := Row.new w10 25 [.slice aV nV cV, .int .i64 M2]
      have eS : ¬ w10.heap.size = w1.heap.size := by have := RS.out.lt; omega
      have zS0 : (w10.alloc (.cells #[.slice aV nV cV, .int .i64 M2] 25)).cell? ⟨w1.heap.size, 0, none⟩ = some (.slice (some ⟨g, off, none⟩) L L) := (RS.out.mono HP.out RS.out.lt).cell rfl
      have zS1 : (w10.alloc (.cells #[.slice aV nV cV, .int .i64 M2] 25)).cell? ⟨w1.heap.size, 1, none⟩ = some (.int .i64 m) := (RS.out.mono HP.out RS.out.lt).cell rfl
      have eX : ¬ w10.heap.size = w3.heap.size := by have := RX.out.lt; omega
      have zX0 : (w10.alloc (.cells #[.slice aV nV cV, .int .i64 M2] 25)).cell? ⟨w3.heap.size, 0, none⟩ = some (.slice aX nX cX) := (RX.out.mono HP.out RX.out.lt).cell rfl
      have zX1 : (w10.alloc (.cells #[.slice aV nV cV, .int .i64 M2] 25)).cell? ⟨w3.heap.size, 1, none⟩ = some (.int .i64 M) := (RX.out.mono HP.out RX.out.lt).cell rfl
      have eY : ¬ w10.heap.size = w5.heap.size := by have := RY.out.lt; omega
      have zY0 : (w10.alloc (.cells #[.slice aV nV cV, .int .i64 M2] 25)).cell? ⟨w5.heap.size, 0, none⟩ = some (.slice aY nY cY) := (RY.out.mono HP.out RY.out.lt).cell rfl
      have zY1 : (w10.alloc (.cells #[.slice aV nV cV, .int .i64 M2] 25)).cell? ⟨w5.heap.size, 1, none⟩ = some (.int .i64 M) := (RY.out.mono HP.out RY.out.lt).cell rfl
      have kS0 : w10.cell? ⟨w1.heap.size, 0, none⟩ = some (.slice (some ⟨g, off, none⟩) L L) := RS.out.cell rfl
      have kS1 : w10.cell? ⟨w1.heap.size, 1, none⟩ = some (.int .i64 m) := RS.out.cell rfl
      have kX0 : w10.cell? ⟨w3.heap.size, 0, none⟩ = some (.slice aX nX cX) := RX.out.cell rfl
      have kX1 : w10.cell? ⟨w3.heap.size, 1, none⟩ = some (.int .i64 M) := RX.out.cell rfl
      have kY0 : w10.cell? ⟨w5.heap.size, 0, none⟩ = some (.slice aY nY cY) := RY.out.cell rfl
      have kY1 : w10.cell? ⟨w5.heap.size, 1, none⟩ = some (.int .i64 M) := RY.out.cell rfl
      go_wp2_with fail
      clear kS0 kS1 kX0 kX1 kY0 kY1
      clear eS zS0 zS1 eX zX0 zX1 eY zY0 zY1
      generalize hW : (w10.alloc (.cells #[.slice aV nV cV, .int .i64 M2] 25)) = w11 at HP RV ⊢
      clear hW
      have hp := HP.out
      clear HP
      have B11 := nxt B10 hp
      have IS' := Lib.hid (IS.out.mono hp (Nat.le_refl _))
      clear IS
      have IS := IS'
      clear IS'
      have IV' := Lib.hid (IV.out.mono hp (Nat.le_refl _))
      clear IV
      have IV := IV'
      clear IV'
      have RS' := Lib.hid (RS.out.mono hp RS.out.lt)
      clear RS
      have RS := RS'
      clear RS'
      have RX' := Lib.hid (RX.out.mono hp RX.out.lt)
      clear RX
      have RX := RX'
      clear RX'
      have RY' := Lib.hid (RY.out.mono hp RY.out.lt)
      clear RY
      have RY := RY'
      clear RY'
      clear B10
      clear hp
      refine (impl_PopStack_own _ cs m true _ IS.out HCL.out).mono ?_
      rw [HC3.out, HM3.out, HV3.out, HT3.out, F2.out]
      rintro e w12 ⟨uZ, xZ, _, _, rfl, huZ, -, -, -, -, hb⟩
      have B12 := nxt B11 hb
      have IS' := Lib.hid (IS.out.mono hb (Nat.le_refl _))
      clear IS
      have IS := IS'
      clear IS'
      have IV' := Lib.hid (IV.out.mono hb (Nat.le_refl _))
      clear IV
      have IV := IV'
      clear IV'
      have RS' := Lib.hid (RS.out.mono hb RS.out.lt)
      clear RS
      have RS := RS'
      clear RS'
      have RX' := Lib.hid (RX.out.mono hb RX.out.lt)
      clear RX
      have RX := RX'
      clear RX'
      have RY' := Lib.hid (RY.out.mono hb RY.out.lt)
      clear RY
      have RY := RY'
      clear RY'
      have RV' := Lib.hid (RV.out.mono hb RV.out.lt)
      clear RV
      have RV := RV'
      clear RV'
      clear B11
      clear hb
      have IZ := Lib.hid (huZ.ints)
      clear huZ
      have hq1 : (decide (m < 8) == decide (m < 8)) = true := by simp
      have hq2 : (decide (0 < m) == decide (0 < m)) = true := by simp
      obtain ⟨aZ, cZ, hvZ, _, _⟩ := IZ.out.open
      obtain ⟨nZ, hnZ⟩ : ∃ n, (C3).length = n := ⟨_, rfl⟩
      rw [hnZ] at hvZ
      subst hvZ
      have HNZ := Lib.hid hnZ
      clear hnZ
      have HP : Hid (Below w12.heap.size w12 (w12.alloc (.cells #[.slice aZ nZ cZ, .int .i64 M3] 25))) := (Below.refl _ _).alloc (Nat.le_refl _) _
      have RZ : Hid (Row (w12.alloc (.cells #[.slice aZ nZ cZ, .int .i64 M3] 25)) w12.heap.size 25 [.slice aZ nZ cZ, .int .i64 M3]) := Row.new w12 25 [.slice aZ nZ cZ, .int .i64 M3]
      have eS : ¬ w12.heap.size = w1.heap.size := by have := RS.out.lt; omega
      have zS0 : (w12.alloc (.cells #[.slice aZ nZ cZ, .int .i64 M3] 25)).cell? ⟨w1.heap.size, 0, none⟩ = some (.slice (some ⟨g, off, none⟩) L L) := (RS.out.mono HP.out RS.out.lt).cell rfl
      have zS1 : (w12.alloc (.cells #[.slice aZ nZ cZ, .int .i64 M3] 25)).cell? ⟨w1.heap.size, 1, none⟩ = some (.int .i64 m) := (RS.out.mono HP.out RS.out.lt).cell rfl
      have eX : ¬ w12.heap.size = w3.heap.size := by have := RX.out.lt; omega
      have zX0 : (w12.alloc (.cells #[.slice aZ nZ cZ, .int .i64 M3] 25)).cell? ⟨w3.heap.size, 0, none⟩ = some (.slice aX nX cX) := (RX.out.mono HP.out RX.out.lt).cell rfl
      have zX1 : (w12.alloc (.cells #[.slice aZ nZ cZ, .int .i64 M3] 25)).cell? ⟨w3.heap.size, 1, none⟩ = some (.int .i64 M) := (RX.out.mono HP.out RX.out.lt).cell rfl
      have eY : ¬ w12.heap.size = w5.heap.size := by have := RY.out.lt; omega
      have zY0 : (w12.alloc (.cells #[.slice aZ nZ cZ, .int .i64 M3] 25)).cell? ⟨w5.heap.size, 0, none⟩ = some (.slice aY nY cY) := (RY.out.mono HP.out RY.out.lt).cell rfl
      have zY1 : (w12.alloc (.cells #[.slice aZ nZ cZ, .int .i64 M3] 25)).cell? ⟨w5.heap.size, 1, none⟩ = some (.int .i64 M) := (RY.out.mono HP.out RY.out.lt).cell rfl
      have eV : ¬ w12.heap.size = w10.heap.size := by have := RV.out.lt; omega
      have zV0 : (w12.alloc (.cells #[.slice aZ nZ cZ, .int .i64 M3] 25)).cell? ⟨w10.heap.size, 0, none⟩ = some (.slice aV nV cV) := (RV.out.mono HP.out RV.out.lt).cell rfl
      have zV1 : (w12.alloc (.cells #[.slice aZ nZ cZ, .int .i64 M3] 25)).cell? ⟨w10.heap.size, 1, none⟩ = some (.int .i64 M2) := (RV.out.mono HP.out RV.out.lt).cell rfl
      have kS0 : w12.cell? ⟨w1.heap.size, 0, none⟩ = some (.slice (some ⟨g, off, none⟩) L L) := RS.out.cell rfl
      have kS1 : w12.cell? ⟨w1.heap.size, 1, none⟩ = some (.int .i64 m) := RS.out.cell rfl
      have kX0 : w12.cell? ⟨w3.heap.size, 0, none⟩ = some (.slice aX nX cX) := RX.out.cell rfl
      have kX1 : w12.cell? ⟨w3.heap.size, 1, none⟩ = some (.int .i64 M) := RX.out.cell rfl
      have kY0 : w12.cell? ⟨w5.heap.size, 0, none⟩ = some (.slice aY nY cY) := RY.out.cell rfl
      have kY1 : w12.cell? ⟨w5.heap.size, 1, none⟩ = some (.int .i64 M) := RY.out.cell rfl
      have kV0 : w12.cell? ⟨w10.heap.size, 0, none⟩ = some (.slice aV nV cV) := RV.out.cell rfl
      have kV1 : w12.cell? ⟨w10.heap.size, 1, none⟩ = some (.int .i64 M2) := RV.out.cell rfl
      go_wp2
      clear kS0 kS1 kX0 kX1 kY0 kY1 kV0 kV1
      clear eS zS0 zS1 eX zX0 zX1 eY zY0 zY1 eV zV0 zV1
      generalize hW : (w12.alloc (.cells #[.slice aZ nZ cZ, .int .i64 M3] 25)) = w13 at HP RZ ⊢
      clear hW
      have hp := HP.out
      clear HP
      have B13 := nxt B12 hp
      have IS' := Lib.hid (IS.out.mono hp (Nat.le_refl _))
      clear IS
      have IS := IS'
      clear IS'
      have IV' := Lib.hid (IV.out.mono hp (Nat.le_refl _))
      clear IV
      have IV := IV'
      clear IV'
      have IZ' := Lib.hid (IZ.out.mono hp (Nat.le_refl _))
      clear IZ
      have IZ := IZ'
      clear IZ'
      have RS' := Lib.hid (RS.out.mono hp RS.out.lt)
      clear RS
      have RS := RS'
      clear RS'
      have RX' := Lib.hid (RX.out.mono hp RX.out.lt)
      clear RX
      have RX := RX'
      clear RX'
      have RY' := Lib.hid (RY.out.mono hp RY.out.lt)
      clear RY
      have RY := RY'
      clear RY'
      have RV' := Lib.hid (RV.out.mono hp RV.out.lt)
      clear RV
      have RV := RV'
      clear RV'
      clear B12
      clear hp
      go_ret
      exact ⟨rfl, B13.out⟩
theorem walk_FnStackFull (w : World) (v : Value) (bs : List Int) (h : View w 1 v bs.length (bs.map (Value.int .u8)) ∧ ∀ b ∈ bs, 0 ≤ b ∧ b ≤ 255) (hR : Resv w) :
    Calls Tryd.prog 5 #[v] w fun e w' => e = .returned (.bool true) ∧ Below w.heap.size w w' := walk0_FnStackFull w v bs h hR
end Go.Proofs.YtmdjkaghjljbfaaDoor
