/- the walk of FnPopStack -/
import Derived.Test.YtmdjkaghjljbfaaDoorStackDraw3
import Derived.Test.YtmdjkaghjljbfaaDoorSameStack
import Derived.Test.YtmdjkaghjljbfaaDoorTrDraw
import Derived.Test.YtmdjkaghjljbfaaDoorPushSpec
import Derived.Test.YtmdjkaghjljbfaaDoorName
namespace Go.Proofs.YtmdjkaghjljbfaaDoor
open Go.RowKit
theorem pop_split (cs : List Int) (m : Int) (t : Bool) : (popOk cs m t = true ∧ t = true ∧ stackB cs m = true ∧ m ≠ 0) ∨ ((popOk cs m t && t) = false ∧ 0 = popV cs m t ∧ ((cs = popC cs m t ∧ m = popM cs m t) ∨ popC cs m t = [])) := by
  unfold popOk popC popM popV popDo
  cases hA : stackB cs m
  · exact .inr ⟨by simp, by simp, .inr (by simp)⟩
  · cases t
    · exact .inr ⟨by simp, by simp, .inl (by simp)⟩
    · by_cases h8 : m = 0
      · subst h8; exact .inr ⟨by simp, by simp, .inl (by simp)⟩
      · exact .inl ⟨by simp [h8], rfl, rfl, h8⟩
theorem pushT_pop {cs ds : List Int} {m k a : Int} (h : stackB cs m = true) (hA : pushA ds k a = true) : pushT ds k a = popT cs m := by
  unfold pushT popT
  rw [h, hA]
set_option maxHeartbeats 4000000 in
set_option maxRecDepth 20000 in
theorem walk0_FnPopStack (w : World) (v : Value) (bs : List Int) (h : Bts w v bs) (hR : Resv w) :
    Calls Tryd.prog 6 #[v] w fun e w' => LawOk w e w' := by
  obtain ⟨ad, c, hv, hm⟩ := bts_lit h
  have H := Lib.hid h
  have HR := Lib.hid hR
  clear h hR
  subst hv
  by_cases hbig : 1048576 < bs.length
  · go_enter Tryd.func6, Tryd.ntmps6
    go_wp2
    go_ret
    exact ⟨rfl, Below.refl _ _⟩
  · go_enter Tryd.func6, Tryd.ntmps6
    go_wp2_with fail
    refine (draw_PopStack _ bs w H.out).mono ?_
    rintro e w1 ⟨g, off, ds, m, t, rfl, ho, hl, hrow, m1, m9, hb⟩
    have hI1 := ints_drop hrow hl ho
    obtain ⟨cs, hcs⟩ : ∃ cs, ds.drop off = cs := ⟨_, rfl⟩
    obtain ⟨L, hL⟩ : ∃ L, 8 - off = L := ⟨_, rfl⟩
    have hcl : cs.length ≤ 1048576 := by rw [← hcs]; simp; omega
    rw [hcs, hL] at hI1
    rw [hL]
    have IS := Lib.hid hI1
    have B1 := Lib.hid hb
    have HCL := Lib.hid hcl
    clear hb hI1 hrow hl hcs hL H ho hcl
    obtain ⟨C, hC⟩ : ∃ x, popC cs m t = x := ⟨_, rfl⟩
    obtain ⟨M, hM⟩ : ∃ x, popM cs m t = x := ⟨_, rfl⟩
    obtain ⟨V, hV⟩ : ∃ x, popV cs m t = x := ⟨_, rfl⟩
    obtain ⟨T, hT⟩ : ∃ x, popT cs m = x := ⟨_, rfl⟩
    obtain ⟨ok, hok⟩ : ∃ x, popOk cs m t = x := ⟨_, rfl⟩
    have hcL : C.length ≤ 1048576 := by rw [← hC]; have := popC_le cs m t; omega
    have HC := Lib.hid hC
    have HM := Lib.hid hM
    have HV := Lib.hid hV
    have HT := Lib.hid hT
    have Hok := Lib.hid hok
    have HCC := Lib.hid hcL
    clear hC hM hV hT hok hcL
    have htt : (ok != ok) = false := by simp
    have hvv : (V != V) = false := by simp
    have HP : Hid (Below w1.heap.size w1 (w1.alloc (.cells #[.slice (some ⟨g, off, none⟩) L L, .int .i64 m] 25))) := (Below.refl _ _).alloc (Nat.le_refl _) _
    have RS : Hid (Row (w1.alloc (.cells #[.slice (some ⟨g, off, none⟩) L L, .int .i64 m] 25)) w1.heap.size 25 [.slice (some ⟨g, off, none⟩) L L, .int .i64 m]) := Row.new w1 25 [.slice (some ⟨g, off, none⟩) L L, .int .i64 m]
    go_wp2_with fail
    generalize hW : (w1.alloc (.cells #[.slice (some ⟨g, off, none⟩) L L, .int .i64 m] 25)) = w2 at HP RS ⊢
    clear hW
    have hp := HP.out
    clear HP
    have B2 := nxt B1 hp
    have IS' := Lib.hid (IS.out.mono hp (Nat.le_refl _))
    clear IS
    have IS := IS'
    clear IS'
    clear B1
    clear hp
    refine (impl_PopStack_own _ cs m t _ IS.out HCL.out).mono ?_
    rw [HC.out, HM.out, HV.out, HT.out, Hok.out]
    rintro e w3 ⟨uX, xX, _, _, rfl, huX, -, hxX, -, -, hb⟩
    have B3 := nxt B2 hb
    have IS' := Lib.hid (IS.out.mono hb (Nat.le_refl _))
    clear IS
    have IS := IS'
    clear IS'
    have RS' := Lib.hid (RS.out.mono hb RS.out.lt)
    clear RS
    have RS := RS'
    clear RS'
    clear B2
    clear hb
    have IX := Lib.hid (huX.ints)
    have AX := Lib.hid (hxX.accs)
    clear huX hxX
    obtain ⟨aX, cX, hvX, _, _⟩ := IX.out.open
    obtain ⟨nX, hnX⟩ : ∃ n, (C).length = n := ⟨_, rfl⟩
    rw [hnX] at hvX
    subst hvX
    have HNX := Lib.hid hnX
    clear hnX
    have HP : Hid (Below w3.heap.size w3 (w3.alloc (.cells #[.slice aX nX cX, .int .i64 M] 25))) := (Below.refl _ _).alloc (Nat.le_refl _) _
    have RX : Hid (Row (w3.alloc (.cells #[.slice aX nX cX, .int .i64 M] 25)) w3.heap.size 25 [.slice aX nX cX, .int .i64 M]) := Row.new w3 25 [.slice aX nX cX, .int .i64 M]
    have eS : ¬ w3.heap.size = w1.heap.size := by have := RS.out.lt; omega
    have zS0 : (w3.alloc (.cells #[.slice aX nX cX, .int .i64 M] 25)).cell? ⟨w1.heap.size, 0, none⟩ = some (.slice (some ⟨g, off, none⟩) L L) := (RS.out.mono HP.out RS.out.lt).cell rfl
    have zS1 : (w3.alloc (.cells #[.slice aX nX cX, .int .i64 M] 25)).cell? ⟨w1.heap.size, 1, none⟩ = some (.int .i64 m) := (RS.out.mono HP.out RS.out.lt).cell rfl
    have kS0 : w3.cell? ⟨w1.heap.size, 0, none⟩ = some (.slice (some ⟨g, off, none⟩) L L) := RS.out.cell rfl
    have kS1 : w3.cell? ⟨w1.heap.size, 1, none⟩ = some (.int .i64 m) := RS.out.cell rfl
    go_wp2_with fail
    clear kS0 kS1
    clear eS zS0 zS1
    generalize hW : (w3.alloc (.cells #[.slice aX nX cX, .int .i64 M] 25)) = w4 at HP RX ⊢
    clear hW
    have hp := HP.out
    clear HP
    have B4 := nxt B3 hp
    have IS' := Lib.hid (IS.out.mono hp (Nat.le_refl _))
    clear IS
    have IS := IS'
    clear IS'
    have IX' := Lib.hid (IX.out.mono hp (Nat.le_refl _))
    clear IX
    have IX := IX'
    clear IX'
    have AX' := Lib.hid (AX.out.mono hp (Nat.le_refl _))
    clear AX
    have AX := AX'
    clear AX'
    have RS' := Lib.hid (RS.out.mono hp RS.out.lt)
    clear RS
    have RS := RS'
    clear RS'
    clear B3
    clear hp
    refine (spec_PopStack_own _ cs m t _ IS.out HCL.out).mono ?_
    rw [HC.out, HM.out, HV.out, HT.out, Hok.out]
    rintro e w5 ⟨uY, xY, _, _, rfl, huY, -, hxY, -, -, hb⟩
    have B5 := nxt B4 hb
    have IS' := Lib.hid (IS.out.mono hb (Nat.le_refl _))
    clear IS
    have IS := IS'
    clear IS'
    have IX' := Lib.hid (IX.out.mono hb (Nat.le_refl _))
    clear IX
    have IX := IX'
    clear IX'
    have AX' := Lib.hid (AX.out.mono hb (Nat.le_refl _))
    clear AX
    have AX := AX'
    clear AX'
    have RS' := Lib.hid (RS.out.mono hb RS.out.lt)
    clear RS
    have RS := RS'
    clear RS'
    have RX' := Lib.hid (RX.out.mono hb RX.out.lt)
    clear RX
    have RX := RX'
    clear RX'
    clear B4
    clear hb
    have IY := Lib.hid (huY.ints)
    have AY := Lib.hid (hxY.accs)
    clear huY hxY
    obtain ⟨aY, cY, hvY, _, _⟩ := IY.out.open
    obtain ⟨nY, hnY⟩ : ∃ n, (C).length = n := ⟨_, rfl⟩
    rw [hnY] at hvY
    subst hvY
    have HNY := Lib.hid hnY
    clear hnY
    have HP : Hid (Below w5.heap.size w5 (w5.alloc (.cells #[.slice aY nY cY, .int .i64 M] 25))) := (Below.refl _ _).alloc (Nat.le_refl _) _
    have RY : Hid (Row (w5.alloc (.cells #[.slice aY nY cY, .int .i64 M] 25)) w5.heap.size 25 [.slice aY nY cY, .int .i64 M]) := Row.new w5 25 [.slice aY nY cY, .int .i64 M]
    have eS : ¬ w5.heap.size = w1.heap.size := by have := RS.out.lt; omega
    have zS0 : (w5.alloc (.cells #[.slice aY nY cY, .int .i64 M] 25)).cell? ⟨w1.heap.size, 0, none⟩ = some (.slice (some ⟨g, off, none⟩) L L) := (RS.out.mono HP.out RS.out.lt).cell rfl
    have zS1 : (w5.alloc (.cells #[.slice aY nY cY, .int .i64 M] 25)).cell? ⟨w1.heap.size, 1, none⟩ = some (.int .i64 m) := (RS.out.mono HP.out RS.out.lt).cell rfl
    have eX : ¬ w5.heap.size = w3.heap.size := by have := RX.out.lt; omega
    have zX0 : (w5.alloc (.cells #[.slice aY nY cY, .int .i64 M] 25)).cell? ⟨w3.heap.size, 0, none⟩ = some (.slice aX nX cX) := (RX.out.mono HP.out RX.out.lt).cell rfl
    have zX1 : (w5.alloc (.cells #[.slice aY nY cY, .int .i64 M] 25)).cell? ⟨w3.heap.size, 1, none⟩ = some (.int .i64 M) := (RX.out.mono HP.out RX.out.lt).cell rfl
    have kS0 : w5.cell? ⟨w1.heap.size, 0, none⟩ = some (.slice (some ⟨g, off, none⟩) L L) := RS.out.cell rfl
    have kS1 : w5.cell? ⟨w1.heap.size, 1, none⟩ = some (.int .i64 m) := RS.out.cell rfl
    have kX0 : w5.cell? ⟨w3.heap.size, 0, none⟩ = some (.slice aX nX cX) := RX.out.cell rfl
    have kX1 : w5.cell? ⟨w3.heap.size, 1, none⟩ = some (.int .i64 M) := RX.out.cell rfl
    go_wp2_with fail
    clear kS0 kS1 kX0 kX1
    clear eS zS0 zS1 eX zX0 zX1
    generalize hW : (w5.alloc (.cells #[.slice aY nY cY, .int .i64 M] 25)) = w6 at HP RY ⊢
    clear hW
    have hp := HP.out
    clear HP
    have B6 := nxt B5 hp
    have IS' := Lib.hid (IS.out.mono hp (Nat.le_refl _))
    clear IS
    have IS := IS'
    clear IS'
    have IX' := Lib.hid (IX.out.mono hp (Nat.le_refl _))
    clear IX
    have IX := IX'
    clear IX'
    have AX' := Lib.hid (AX.out.mono hp (Nat.le_refl _))
    clear AX
    have AX := AX'
    clear AX'
    have IY' := Lib.hid (IY.out.mono hp (Nat.le_refl _))
    clear IY
    have IY := IY'
    clear IY'
    have AY' := Lib.hid (AY.out.mono hp (Nat.le_refl _))
    clear AY
    have AY := AY'
    clear AY'
    have RS' := Lib.hid (RS.out.mono hp RS.out.lt)
    clear RS
    have RS := RS'
    clear RS'
    have RX' := Lib.hid (RX.out.mono hp RX.out.lt)
    clear RX
    have RX := RX'
    clear RX'
    clear B5
    clear hp
    refine (sameStack_same _ _ C _ IX.out IY.out).mono ?_
    rintro e w7 ⟨rfl, hb⟩
    have B7 := nxt B6 hb
    have IS' := Lib.hid (IS.out.mono hb (Nat.le_refl _))
    clear IS
    have IS := IS'
    clear IS'
    have IX' := Lib.hid (IX.out.mono hb (Nat.le_refl _))
    clear IX
    have IX := IX'
    clear IX'
    have AX' := Lib.hid (AX.out.mono hb (Nat.le_refl _))
    clear AX
    have AX := AX'
    clear AX'
    have IY' := Lib.hid (IY.out.mono hb (Nat.le_refl _))
    clear IY
    have IY := IY'
    clear IY'
    have AY' := Lib.hid (AY.out.mono hb (Nat.le_refl _))
    clear AY
    have AY := AY'
    clear AY'
    have RS' := Lib.hid (RS.out.mono hb RS.out.lt)
    clear RS
    have RS := RS'
    clear RS'
    have RX' := Lib.hid (RX.out.mono hb RX.out.lt)
    clear RX
    have RX := RX'
    clear RX'
    have RY' := Lib.hid (RY.out.mono hb RY.out.lt)
    clear RY
    have RY := RY'
    clear RY'
    clear B6
    clear hb
    have kS0 : w7.cell? ⟨w1.heap.size, 0, none⟩ = some (.slice (some ⟨g, off, none⟩) L L) := RS.out.cell rfl
    have kS1 : w7.cell? ⟨w1.heap.size, 1, none⟩ = some (.int .i64 m) := RS.out.cell rfl
    have kX0 : w7.cell? ⟨w3.heap.size, 0, none⟩ = some (.slice aX nX cX) := RX.out.cell rfl
    have kX1 : w7.cell? ⟨w3.heap.size, 1, none⟩ = some (.int .i64 M) := RX.out.cell rfl
    have kY0 : w7.cell? ⟨w5.heap.size, 0, none⟩ = some (.slice aY nY cY) := RY.out.cell rfl
    have kY1 : w7.cell? ⟨w5.heap.size, 1, none⟩ = some (.int .i64 M) := RY.out.cell rfl
    go_wp2_with fail
    clear kS0 kS1 kX0 kX1 kY0 kY1
    refine (sameTrace_same _ _ T _ AX.out AY.out).mono ?_
    rintro e w8 ⟨rfl, hb⟩
    have B8 := nxt B7 hb
    have IS' := Lib.hid (IS.out.mono hb (Nat.le_refl _))
    clear IS
    have IS := IS'
    clear IS'
    have IX' := Lib.hid (IX.out.mono hb (Nat.le_refl _))
    clear IX
    have IX := IX'
    clear IX'
    have AX' := Lib.hid (AX.out.mono hb (Nat.le_refl _))
    clear AX
    have AX := AX'
    clear AX'
    have IY' := Lib.hid (IY.out.mono hb (Nat.le_refl _))
    clear IY
    have IY := IY'
    clear IY'
    have AY' := Lib.hid (AY.out.mono hb (Nat.le_refl _))
    clear AY
    have AY := AY'
    clear AY'
    have RS' := Lib.hid (RS.out.mono hb RS.out.lt)
    clear RS
    have RS := RS'
    clear RS'
    have RX' := Lib.hid (RX.out.mono hb RX.out.lt)
    clear RX
    have RX := RX'
    clear RX'
    have RY' := Lib.hid (RY.out.mono hb RY.out.lt)
    clear RY
    have RY := RY'
    clear RY'
    clear B7
    clear hb
    clear IY
    clear AY
    have hsplit := pop_split cs m t
    rw [Hok.out, HC.out, HM.out, HV.out] at hsplit
    rcases hsplit with ⟨h1, h2, hA, h8⟩ | ⟨hnot, hv0, hsame⟩
    · subst h1
      subst h2
      obtain ⟨p1, p2, p3, p4, p5⟩ := pop_push hA h8
      have p6 := pushT_pop hA p5
      rw [HC.out, HM.out] at p1
      rw [HC.out, HM.out, HV.out] at p2 p3 p4 p6
      rw [HT.out] at p6
      have P1 := Lib.hid p1
      have P2 := Lib.hid p2
      have P3 := Lib.hid p3
      have P4 := Lib.hid p4
      have P6 := Lib.hid p6
      clear p1 p2 p3 p4 p5 p6 hA h8
      have kS0 : w8.cell? ⟨w1.heap.size, 0, none⟩ = some (.slice (some ⟨g, off, none⟩) L L) := RS.out.cell rfl
      have kS1 : w8.cell? ⟨w1.heap.size, 1, none⟩ = some (.int .i64 m) := RS.out.cell rfl
      have kX0 : w8.cell? ⟨w3.heap.size, 0, none⟩ = some (.slice aX nX cX) := RX.out.cell rfl
      have kX1 : w8.cell? ⟨w3.heap.size, 1, none⟩ = some (.int .i64 M) := RX.out.cell rfl
      have kY0 : w8.cell? ⟨w5.heap.size, 0, none⟩ = some (.slice aY nY cY) := RY.out.cell rfl
      have kY1 : w8.cell? ⟨w5.heap.size, 1, none⟩ = some (.int .i64 M) := RY.out.cell rfl
      go_wp2_with fail
      clear kS0 kS1 kX0 kX1 kY0 kY1
      refine (impl_PushStack_own _ C M V true _ IX.out HCC.out).mono ?_
      rw [P3.out, P4.out, P6.out, P2.out]
      rintro e w9 ⟨uZ, xZ, _, _, rfl, huZ, -, hxZ, -, -, hb⟩
      have B9 := nxt B8 hb
      have IS' := Lib.hid (IS.out.mono hb (Nat.le_refl _))
      clear IS
      have IS := IS'
      clear IS'
      have IX' := Lib.hid (IX.out.mono hb (Nat.le_refl _))
      clear IX
      have IX := IX'
      clear IX'
      have AX' := Lib.hid (AX.out.mono hb (Nat.le_refl _))
      clear AX
      have AX := AX'
      clear AX'
      have RS' := Lib.hid (RS.out.mono hb RS.out.lt)
      clear RS
      have RS := RS'
      clear RS'
      have RX' := Lib.hid (RX.out.mono hb RX.out.lt)
      clear RX
      have RX := RX'
      clear RX'
      have RY' := Lib.hid (RY.out.mono hb RY.out.lt)
      clear RY
      have RY := RY'
      clear RY'
      clear B8
      clear hb
      have IZ := Lib.hid (huZ.ints)
      have AZ := Lib.hid (hxZ.accs)
      clear huZ hxZ
      obtain ⟨aZ, cZ, hvZ, _, _⟩ := IZ.out.open
      obtain ⟨nZ, hnZ⟩ : ∃ n, (cs).length = n := ⟨_, rfl⟩
      rw [hnZ] at hvZ
      subst hvZ
      have HNZ := Lib.hid hnZ
      clear hnZ
      have HP : Hid (Below w9.heap.size w9 (w9.alloc (.cells #[.slice aZ nZ cZ, .int .i64 m] 25))) := (Below.refl _ _).alloc (Nat.le_refl _) _
      have RZ : Hid (Row (w9.alloc (.cells #[.slice aZ nZ cZ, .int .i64 m] 25)) w9.heap.size 25 [.slice aZ nZ cZ, .int .i64 m]) := Row.new w9 25 [.slice aZ nZ cZ, .int .i64 m]
      have eS : ¬ w9.heap.size = w1.heap.size := by have := RS.out.lt; omega
      have zS0 : (w9.alloc (.cells #[.slice aZ nZ cZ, .int .i64 m] 25)).cell? ⟨w1.heap.size, 0, none⟩ = some (.slice (some ⟨g, off, none⟩) L L) := (RS.out.mono HP.out RS.out.lt).cell rfl
      have zS1 : (w9.alloc (.cells #[.slice aZ nZ cZ, .int .i64 m] 25)).cell? ⟨w1.heap.size, 1, none⟩ = some (.int .i64 m) := (RS.out.mono HP.out RS.out.lt).cell rfl
      have eX : ¬ w9.heap.size = w3.heap.size := by have := RX.out.lt; omega
      have zX0 : (w9.alloc (.cells #[.slice aZ nZ cZ, .int .i64 m] 25)).cell? ⟨w3.heap.size, 0, none⟩ = some (.slice aX nX cX) := (RX.out.mono HP.out RX.out.lt).cell rfl
      have zX1 : (w9.alloc (.cells #[.slice aZ nZ cZ, .int .i64 m] 25)).cell? ⟨w3.heap.size, 1, none⟩ = some (.int .i64 M) := (RX.out.mono HP.out RX.out.lt).cell rfl
      have eY : ¬ w9.heap.size = w5.heap.size := by have := RY.out.lt; omega
      have zY0 : (w9.alloc (.cells #[.slice aZ nZ cZ, .int .i64 m] 25)).cell? ⟨w5.heap.size, 0, none⟩ = some (.slice aY nY cY) := (RY.out.mono HP.out RY.out.lt).cell rfl
      have zY1 : (w9.alloc (.cells #[.slice aZ nZ cZ, .int .i64 m] 25)).cell? ⟨w5.heap.size, 1, none⟩ = some (.int .i64 M) := (RY.out.mono HP.out RY.out.lt).cell rfl
      have kS0 : w9.cell? ⟨w1.heap.size, 0, none⟩ = some (.slice (some ⟨g, off, none⟩) L L) := RS.out.cell rfl
      have kS1 : w9.cell? ⟨w1.heap.size, 1, none⟩ = some (.int .i64 m) := RS.out.cell rfl
      have kX0 : w9.cell? ⟨w3.heap.size, 0, none⟩ = some (.slice aX nX cX) := RX.out.cell rfl
      have kX1 : w9.cell? ⟨w3.heap.size, 1, none⟩ = some (.int .i64 M) := RX.out.cell rfl
      have kY0 : w9.cell? ⟨w5.heap.size, 0, none⟩ = some (.slice aY nY cY) := RY.out.cell rfl
      have kY1 : w9.cell? ⟨w5.heap.size, 1, none⟩ = some (.int .i64 M) := RY.out.cell rfl
      go_wp2_with fail
      clear kS0 kS1 kX0 kX1 kY0 kY1
      clear eS zS0 zS1 eX zX0 zX1 eY zY0 zY1
      generalize hW : (w9.alloc (.cells #[.slice aZ nZ cZ, .int .i64 m] 25)) = w10 at HP RZ ⊢
      clear hW
      have hp := HP.out
      clear HP
      have B10 := nxt B9 hp
      have IS' := Lib.hid (IS.out.mono hp (Nat.le_refl _))
      clear IS
      have IS := IS'
      clear IS'
      have IX' := Lib.hid (IX.out.mono hp (Nat.le_refl _))
      clear IX
      have IX := IX'
      clear IX'
      have AX' := Lib.hid (AX.out.mono hp (Nat.le_refl _))
      clear AX
      have AX := AX'
      clear AX'
      have IZ' := Lib.hid (IZ.out.mono hp (Nat.le_refl _))
      clear IZ
      have IZ := IZ'
      clear IZ'
      have AZ' := Lib.hid (AZ.out.mono hp (Nat.le_refl _))
      clear AZ
      have AZ := AZ'
      clear AZ'
      have RS' := Lib.hid (RS.out.mono hp RS.out.lt)
      clear RS
      have RS := RS'
      clear RS'
      have RX' := Lib.hid (RX.out.mono hp RX.out.lt)
      clear RX
      have RX := RX'
      clear RX'
      have RY' := Lib.hid (RY.out.mono hp RY.out.lt)
      clear RY
      have RY := RY'
      clear RY'
      clear B9
      clear hp
      refine (impl_StackValid _ C M _ IX.out).mono ?_
      rw [P1.out]
      rintro e w11 ⟨rfl, hb⟩
      have B11 := nxt B10 hb
      have IS' := Lib.hid (IS.out.mono hb (Nat.le_refl _))
      clear IS
      have IS := IS'
      clear IS'
      have IX' := Lib.hid (IX.out.mono hb (Nat.le_refl _))
      clear IX
      have IX := IX'
      clear IX'
      have AX' := Lib.hid (AX.out.mono hb (Nat.le_refl _))
      clear AX
      have AX := AX'
      clear AX'
      have IZ' := Lib.hid (IZ.out.mono hb (Nat.le_refl _))
      clear IZ
      have IZ := IZ'
      clear IZ'
      have AZ' := Lib.hid (AZ.out.mono hb (Nat.le_refl _))
      clear AZ
      have AZ := AZ'
      clear AZ'
      have RS' := Lib.hid (RS.out.mono hb RS.out.lt)
      clear RS
      have RS := RS'
      clear RS'
      have RX' := Lib.hid (RX.out.mono hb RX.out.lt)
      clear RX
      have RX := RX'
      clear RX'
      have RY' := Lib.hid (RY.out.mono hb RY.out.lt)
      clear RY
      have RY := RY'
      clear RY'
      have RZ' := Lib.hid (RZ.out.mono hb RZ.out.lt)
      clear RZ
      have RZ := RZ'
      clear RZ'
      clear B10
      clear hb
      have kS0 : w11.cell? ⟨w1.heap.size, 0, none⟩ = some (.slice (some ⟨g, off, none⟩) L L) := RS.out.cell rfl
      have kS1 : w11.cell? ⟨w1.heap.size, 1, none⟩ = some (.int .i64 m) := RS.out.cell rfl
      have kX0 : w11.cell? ⟨w3.heap.size, 0, none⟩ = some (.slice aX nX cX) := RX.out.cell rfl
      have kX1 : w11.cell? ⟨w3.heap.size, 1, none⟩ = some (.int .i64 M) := RX.out.cell rfl
      have kY0 : w11.cell? ⟨w5.heap.size, 0, none⟩ = some (.slice aY nY cY) := RY.out.cell rfl
      have kY1 : w11.cell? ⟨w5.heap.size, 1, none⟩ = some (.int .i64 M) := RY.out.cell rfl
      have kZ0 : w11.cell? ⟨w9.heap.size, 0, none⟩ = some (.slice aZ nZ cZ) := RZ.out.cell rfl
      have kZ1 : w11.cell? ⟨w9.heap.size, 1, none⟩ = some (.int .i64 m) := RZ.out.cell rfl
      go_wp2_with fail
      clear kS0 kS1 kX0 kX1 kY0 kY1 kZ0 kZ1
      refine (sameStack_same _ _ cs _ IZ.out IS.out).mono ?_
      rintro e w12 ⟨rfl, hb⟩
      have B12 := nxt B11 hb
      have IS' := Lib.hid (IS.out.mono hb (Nat.le_refl _))
      clear IS
      have IS := IS'
      clear IS'
      have IX' := Lib.hid (IX.out.mono hb (Nat.le_refl _))
      clear IX
      have IX := IX'
      clear IX'
      have AX' := Lib.hid (AX.out.mono hb (Nat.le_refl _))
      clear AX
      have AX := AX'
      clear AX'
      have IZ' := Lib.hid (IZ.out.mono hb (Nat.le_refl _))
      clear IZ
      have IZ := IZ'
      clear IZ'
      have AZ' := Lib.hid (AZ.out.mono hb (Nat.le_refl _))
      clear AZ
      have AZ := AZ'
      clear AZ'
      have RS' := Lib.hid (RS.out.mono hb RS.out.lt)
      clear RS
      have RS := RS'
      clear RS'
      have RX' := Lib.hid (RX.out.mono hb RX.out.lt)
      clear RX
      have RX := RX'
      clear RX'
      have RY' := Lib.hid (RY.out.mono hb RY.out.lt)
      clear RY
      have RY := RY'
      clear RY'
      have RZ' := Lib.hid (RZ.out.mono hb RZ.out.lt)
      clear RZ
      have RZ := RZ'
      clear RZ'
      clear B11
      clear hb
      have kS0 : w12.cell? ⟨w1.heap.size, 0, none⟩ = some (.slice (some ⟨g, off, none⟩) L L) := RS.out.cell rfl
      have kS1 : w12.cell? ⟨w1.heap.size, 1, none⟩ = some (.int .i64 m) := RS.out.cell rfl
      have kX0 : w12.cell? ⟨w3.heap.size, 0, none⟩ = some (.slice aX nX cX) := RX.out.cell rfl
      have kX1 : w12.cell? ⟨w3.heap.size, 1, none⟩ = some (.int .i64 M) := RX.out.cell rfl
      have kY0 : w12.cell? ⟨w5.heap.size, 0, none⟩ = some (.slice aY nY cY) := RY.out.cell rfl
      have kY1 : w12.cell? ⟨w5.heap.size, 1, none⟩ = some (.int .i64 M) := RY.out.cell rfl
      have kZ0 : w12.cell? ⟨w9.heap.size, 0, none⟩ = some (.slice aZ nZ cZ) := RZ.out.cell rfl
      have kZ1 : w12.cell? ⟨w9.heap.size, 1, none⟩ = some (.int .i64 m) := RZ.out.cell rfl
      go_wp2_with fail
      clear kS0 kS1 kX0 kX1 kY0 kY1 kZ0 kZ1
      refine (sameTrace_same _ _ T _ AX.out AZ.out).mono ?_
      rintro e w13 ⟨rfl, hb⟩
      have B13 := nxt B12 hb
      have IS' := Lib.hid (IS.out.mono hb (Nat.le_refl _))
      clear IS
      have IS := IS'
      clear IS'
      have IX' := Lib.hid (IX.out.mono hb (Nat.le_refl _))
      clear IX
      have IX := IX'
      clear IX'
      have AX' := Lib.hid (AX.out.mono hb (Nat.le_refl _))
      clear AX
      have AX := AX'
      clear AX'
      have IZ' := Lib.hid (IZ.out.mono hb (Nat.le_refl _))
      clear IZ
      have IZ := IZ'
      clear IZ'
      have AZ' := Lib.hid (AZ.out.mono hb (Nat.le_refl _))
      clear AZ
      have AZ := AZ'
      clear AZ'
      have RS' := Lib.hid (RS.out.mono hb RS.out.lt)
      clear RS
      have RS := RS'
      clear RS'
      have RX' := Lib.hid (RX.out.mono hb RX.out.lt)
      clear RX
      have RX := RX'
      clear RX'
      have RY' := Lib.hid (RY.out.mono hb RY.out.lt)
      clear RY
      have RY := RY'
      clear RY'
      have RZ' := Lib.hid (RZ.out.mono hb RZ.out.lt)
      clear RZ
      have RZ := RZ'
      clear RZ'
      clear B12
      clear hb
      have kS0 : w13.cell? ⟨w1.heap.size, 0, none⟩ = some (.slice (some ⟨g, off, none⟩) L L) := RS.out.cell rfl
      have kS1 : w13.cell? ⟨w1.heap.size, 1, none⟩ = some (.int .i64 m) := RS.out.cell rfl
      have kX0 : w13.cell? ⟨w3.heap.size, 0, none⟩ = some (.slice aX nX cX) := RX.out.cell rfl
      have kX1 : w13.cell? ⟨w3.heap.size, 1, none⟩ = some (.int .i64 M) := RX.out.cell rfl
      have kY0 : w13.cell? ⟨w5.heap.size, 0, none⟩ = some (.slice aY nY cY) := RY.out.cell rfl
      have kY1 : w13.cell? ⟨w5.heap.size, 1, none⟩ = some (.int .i64 M) := RY.out.cell rfl
      have kZ0 : w13.cell? ⟨w9.heap.size, 0, none⟩ = some (.slice aZ nZ cZ) := RZ.out.cell rfl
      have kZ1 : w13.cell? ⟨w9.heap.size, 1, none⟩ = some (.int .i64 m) := RZ.out.cell rfl
      go_wp2
      go_ret
      exact ⟨rfl, B13.out⟩
    · subst hv0
      rcases hsame with ⟨hcs, hms⟩ | hnil
      · subst hcs
        subst hms
        cases ok <;> cases t <;> first | (exfalso; simp at hnot; done) | skip
        all_goals
          have kS0 : w8.cell? ⟨w1.heap.size, 0, none⟩ = some (.slice (some ⟨g, off, none⟩) L L) := RS.out.cell rfl
          have kS1 : w8.cell? ⟨w1.heap.size, 1, none⟩ = some (.int .i64 m) := RS.out.cell rfl
          have kX0 : w8.cell? ⟨w3.heap.size, 0, none⟩ = some (.slice aX nX cX) := RX.out.cell rfl
          have kX1 : w8.cell? ⟨w3.heap.size, 1, none⟩ = some (.int .i64 m) := RX.out.cell rfl
          have kY0 : w8.cell? ⟨w5.heap.size, 0, none⟩ = some (.slice aY nY cY) := RY.out.cell rfl
          have kY1 : w8.cell? ⟨w5.heap.size, 1, none⟩ = some (.int .i64 m) := RY.out.cell rfl
          go_wp2_with fail
          clear kS0 kS1 kX0 kX1 kY0 kY1
          refine (sameStack_same _ _ cs _ IX.out IS.out).mono ?_
          rintro e w9 ⟨rfl, hb⟩
          have B9 := nxt B8 hb
          have IS' := Lib.hid (IS.out.mono hb (Nat.le_refl _))
          clear IS
          have IS := IS'
          clear IS'
          have IX' := Lib.hid (IX.out.mono hb (Nat.le_refl _))
          clear IX
          have IX := IX'
          clear IX'
          have AX' := Lib.hid (AX.out.mono hb (Nat.le_refl _))
          clear AX
          have AX := AX'
          clear AX'
          have RS' := Lib.hid (RS.out.mono hb RS.out.lt)
          clear RS
          have RS := RS'
          clear RS'
          have RX' := Lib.hid (RX.out.mono hb RX.out.lt)
          clear RX
          have RX := RX'
          clear RX'
          have RY' := Lib.hid (RY.out.mono hb RY.out.lt)
          clear RY
          have RY := RY'
          clear RY'
          clear B8
          clear hb
          have kS0 : w9.cell? ⟨w1.heap.size, 0, none⟩ = some (.slice (some ⟨g, off, none⟩) L L) := RS.out.cell rfl
          have kS1 : w9.cell? ⟨w1.heap.size, 1, none⟩ = some (.int .i64 m) := RS.out.cell rfl
          have kX0 : w9.cell? ⟨w3.heap.size, 0, none⟩ = some (.slice aX nX cX) := RX.out.cell rfl
          have kX1 : w9.cell? ⟨w3.heap.size, 1, none⟩ = some (.int .i64 m) := RX.out.cell rfl
          have kY0 : w9.cell? ⟨w5.heap.size, 0, none⟩ = some (.slice aY nY cY) := RY.out.cell rfl
          have kY1 : w9.cell? ⟨w5.heap.size, 1, none⟩ = some (.int .i64 m) := RY.out.cell rfl
          go_wp2_with fail
          clear kS0 kS1 kX0 kX1 kY0 kY1
          have HRR := Lib.hid (HR.out.mono B9.out (Nat.le_refl _))
          refine (alive_any _ HRR.out).mono ?_
          rintro e w' ⟨rfl, rfl⟩
          have kS0 : w9.cell? ⟨w1.heap.size, 0, none⟩ = some (.slice (some ⟨g, off, none⟩) L L) := RS.out.cell rfl
          have kS1 : w9.cell? ⟨w1.heap.size, 1, none⟩ = some (.int .i64 m) := RS.out.cell rfl
          have kX0 : w9.cell? ⟨w3.heap.size, 0, none⟩ = some (.slice aX nX cX) := RX.out.cell rfl
          have kX1 : w9.cell? ⟨w3.heap.size, 1, none⟩ = some (.int .i64 m) := RX.out.cell rfl
          have kY0 : w9.cell? ⟨w5.heap.size, 0, none⟩ = some (.slice aY nY cY) := RY.out.cell rfl
          have kY1 : w9.cell? ⟨w5.heap.size, 1, none⟩ = some (.int .i64 m) := RY.out.cell rfl
          go_wp2
          go_ret
          exact ⟨rfl, B9.out⟩
      · have hn0 : nX = 0 := by have := HNX.out; rw [hnil] at this; exact this.symm
        subst hn0
        have HNIL := Lib.hid hnil
        clear hnil
        cases ok <;> cases t <;> first | (exfalso; simp at hnot; done) | skip
        all_goals
          have kS0 : w8.cell? ⟨w1.heap.size, 0, none⟩ = some (.slice (some ⟨g, off, none⟩) L L) := RS.out.cell rfl
          have kS1 : w8.cell? ⟨w1.heap.size, 1, none⟩ = some (.int .i64 m) := RS.out.cell rfl
          have kX0 : w8.cell? ⟨w3.heap.size, 0, none⟩ = some (.slice aX 0 cX) := RX.out.cell rfl
          have kX1 : w8.cell? ⟨w3.heap.size, 1, none⟩ = some (.int .i64 M) := RX.out.cell rfl
          have kY0 : w8.cell? ⟨w5.heap.size, 0, none⟩ = some (.slice aY nY cY) := RY.out.cell rfl
          have kY1 : w8.cell? ⟨w5.heap.size, 1, none⟩ = some (.int .i64 M) := RY.out.cell rfl
          go_wp2_with fail
          clear kS0 kS1 kX0 kX1 kY0 kY1
          refine (sameStack_some _ _ C cs _ _ _ IX.out IS.out).mono ?_
          rintro e w9 ⟨bq, rfl, hb⟩
          have B9 := nxt B8 hb
          have IS' := Lib.hid (IS.out.mono hb (Nat.le_refl _))
          clear IS
          have IS := IS'
          clear IS'
          have IX' := Lib.hid (IX.out.mono hb (Nat.le_refl _))
          clear IX
          have IX := IX'
          clear IX'
          have AX' := Lib.hid (AX.out.mono hb (Nat.le_refl _))
          clear AX
          have AX := AX'
          clear AX'
          have RS' := Lib.hid (RS.out.mono hb RS.out.lt)
          clear RS
          have RS := RS'
          clear RS'
          have RX' := Lib.hid (RX.out.mono hb RX.out.lt)
          clear RX
          have RX := RX'
          clear RX'
          have RY' := Lib.hid (RY.out.mono hb RY.out.lt)
          clear RY
          have RY := RY'
          clear RY'
          clear B8
          clear hb
          cases bq
          · have kS0 : w9.cell? ⟨w1.heap.size, 0, none⟩ = some (.slice (some ⟨g, off, none⟩) L L) := RS.out.cell rfl
            have kS1 : w9.cell? ⟨w1.heap.size, 1, none⟩ = some (.int .i64 m) := RS.out.cell rfl
            have kX0 : w9.cell? ⟨w3.heap.size, 0, none⟩ = some (.slice aX 0 cX) := RX.out.cell rfl
            have kX1 : w9.cell? ⟨w3.heap.size, 1, none⟩ = some (.int .i64 M) := RX.out.cell rfl
            have kY0 : w9.cell? ⟨w5.heap.size, 0, none⟩ = some (.slice aY nY cY) := RY.out.cell rfl
            have kY1 : w9.cell? ⟨w5.heap.size, 1, none⟩ = some (.int .i64 M) := RY.out.cell rfl
            go_wp2_with fail
            clear kS0 kS1 kX0 kX1 kY0 kY1
            have HRR := Lib.hid (HR.out.mono B9.out (Nat.le_refl _))
            refine (alive_any _ HRR.out).mono ?_
            rintro e w' ⟨rfl, rfl⟩
            have kS0 : w9.cell? ⟨w1.heap.size, 0, none⟩ = some (.slice (some ⟨g, off, none⟩) L L) := RS.out.cell rfl
            have kS1 : w9.cell? ⟨w1.heap.size, 1, none⟩ = some (.int .i64 m) := RS.out.cell rfl
            have kX0 : w9.cell? ⟨w3.heap.size, 0, none⟩ = some (.slice aX 0 cX) := RX.out.cell rfl
            have kX1 : w9.cell? ⟨w3.heap.size, 1, none⟩ = some (.int .i64 M) := RX.out.cell rfl
            have kY0 : w9.cell? ⟨w5.heap.size, 0, none⟩ = some (.slice aY nY cY) := RY.out.cell rfl
            have kY1 : w9.cell? ⟨w5.heap.size, 1, none⟩ = some (.int .i64 M) := RY.out.cell rfl
            go_wp2
            go_ret
            exact ⟨rfl, B9.out⟩
          · have kS0 : w9.cell? ⟨w1.heap.size, 0, none⟩ = some (.slice (some ⟨g, off, none⟩) L L) := RS.out.cell rfl
            have kS1 : w9.cell? ⟨w1.heap.size, 1, none⟩ = some (.int .i64 m) := RS.out.cell rfl
            have kX0 : w9.cell? ⟨w3.heap.size, 0, none⟩ = some (.slice aX 0 cX) := RX.out.cell rfl
            have kX1 : w9.cell? ⟨w3.heap.size, 1, none⟩ = some (.int .i64 M) := RX.out.cell rfl
            have kY0 : w9.cell? ⟨w5.heap.size, 0, none⟩ = some (.slice aY nY cY) := RY.out.cell rfl
            have kY1 : w9.cell? ⟨w5.heap.size, 1, none⟩ = some (.int .i64 M) := RY.out.cell rfl
            go_wp2_with fail
            clear kS0 kS1 kX0 kX1 kY0 kY1
            have HRR := Lib.hid (HR.out.mono B9.out (Nat.le_refl _))
            refine (alive_any _ HRR.out).mono ?_
            rintro e w' ⟨rfl, rfl⟩
            have kS0 : w9.cell? ⟨w1.heap.size, 0, none⟩ = some (.slice (some ⟨g, off, none⟩) L L) := RS.out.cell rfl
            have kS1 : w9.cell? ⟨w1.heap.size, 1, none⟩ = some (.int .i64 m) := RS.out.cell rfl
            have kX0 : w9.cell? ⟨w3.heap.size, 0, none⟩ = some (.slice aX 0 cX) := RX.out.cell rfl
            have kX1 : w9.cell? ⟨w3.heap.size, 1, none⟩ = some (.int .i64 M) := RX.out.cell rfl
            have kY0 : w9.cell? ⟨w5.heap.size, 0, none⟩ = some (.slice aY nY cY) := RY.out.cell rfl
            have kY1 : w9.cell? ⟨w5.heap.size, 1, none⟩ = some (.int .i64 M) := RY.out.cell rfl
            go_wp2
            go_ret
            exact ⟨rfl, B9.out⟩
theorem walk_FnPopStack (w : World) (v : Value) (bs : List Int) (h : View w 1 v bs.length (bs.map (Value.int .u8)) ∧ ∀ b ∈ bs, 0 ≤ b ∧ b ≤ 255) (hR : Resv w) :
    Calls Tryd.prog 6 #[v] w fun e w' => e = .returned (.bool true) ∧ Below w.heap.size w w' := walk0_FnPopStack w v bs h hR
end Go.Proofs.YtmdjkaghjljbfaaDoor
