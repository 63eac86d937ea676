/- the walk of FnRowText -/
import Derived.Test.YtajgghifamebkaaDoorRowDr
import Derived.Test.YtajgghifamebkaaDoorToks
namespace Go.Proofs.YtajgghifamebkaaDoor
set_option linter.unusedSimpArgs false
set_option linter.unusedVariables false
open Go.RowKit
open Go
set_option maxRecDepth 20000 in
set_option maxHeartbeats 2000000 in
theorem walk0_FnRowText (w : World) (v : Value) (bs : List Int) (h : Bts w v bs) (hR : LibW w) :
    Calls Tryd.prog 6 #[v] w fun e w' => LawOk w e w' := by
  obtain ⟨ad, cd, hv, hm⟩ := bts_lit h
  have H := Lib.hid h
  have HR := Lib.hid hR
  clear h hR
  subst hv
  by_cases hbig : 1048576 < bs.length
  · go_enter Tryd.func6, Tryd.ntmps6
    go_wp2
    go_ret
    exact ⟨rfl, Below.refl _ _⟩
  · go_enter Tryd.func6, Tryd.ntmps6
    go_wp2_with fail
    refine (draw_RowText _ bs w H.out).mono ?_
    rintro e w1 ⟨u, xs, rfl, hi, hl7, hb⟩
    obtain ⟨L, hL⟩ : ∃ L, xs.length = L := ⟨_, rfl⟩
    have HL := Lib.hid hL
    obtain ⟨a1, c1, hu, -, -⟩ := hi.open
    subst hu
    rw [hL] at hi hl7 ⊢
    have B1 := nxt (Lib.hid (Below.refl _ _)) hb
    have HR1 := Lib.hid (HR.out.mono B1.out (Nat.le_refl _))
    have I1 := Lib.hid hi
    clear hb hi H hL
    go_wp2_with fail
    refine (impl_RowText _ xs w1 I1.out HR1.out).mono ?_
    rintro e w2 ⟨rfl, hb⟩
    have B2 := nxt B1 hb
    have I2 := Lib.hid (I1.out.mono hb (Nat.le_refl _))
    obtain ⟨tt, htt⟩ : ∃ tt, mkS (rowTx xs) = tt := ⟨_, rfl⟩
    have HTT := Lib.hid htt
    rw [htt]
    clear hb I1 B1 HR1 htt
    go_wp2_with fail
    refine (spec_RowText _ xs w2 I2.out).mono ?_
    rw [HTT.out]
    rintro e w3 ⟨rfl, hb⟩
    have B3 := nxt B2 hb
    have I3 := Lib.hid (I2.out.mono hb (Nat.le_refl _))
    have HR3 := Lib.hid (HR.out.mono B3.out (Nat.le_refl _))
    have hee : (tt.toList == tt.toList) = true := by simp
    clear hb I2 B2
    by_cases hok : RowOk xs
    · have HOK := Lib.hid hok
      have HTX : Hid (tx tt = rowT xs) := by unfold Hid; rw [← HTT.out, tx_mkS, rowTx, if_pos hok]
      have hne : (tt.toList == []) = false := not_nil (fun e => by
        have h1 : (tx tt).length = 0 := by rw [tx_size]; exact e
        rw [HTX.out] at h1
        exact rowT_ne hok (List.length_eq_zero_iff.1 h1))
      clear hok
      go_wp2_with fail
      refine (impl_TokensOf tt xs w3 HOK.out HTX.out).mono ?_
      rintro e w4 ⟨u2, ws, rfl, hwx, hst, hwl, hw48, hb⟩
      have B4 := nxt B3 hb
      have I4 := Lib.hid (I3.out.mono hb (Nat.le_refl _))
      obtain ⟨a2, c2, hu2, -, hop⟩ := hst.open
      subst hu2
      have hwL : ws.length = L := hwl.trans HL.out
      rw [hwL] at hop ⊢
      have HWX := Lib.hid hwx
      have HW48 := Lib.hid hw48
      have HOP := Lib.hid hop
      have HWL := Lib.hid hwL
      clear hb hwx hst hwl hw48 hop hwL I3 B3 hne
      go_wp2_with fail
      go_loopg [7, 8, 9] L (fun gg i _ _ wr => ∃ k : Nat, k ≤ L ∧ L - k ≤ gg ∧ i = .int .i64 (k : Int) ∧ Hid (Below w4.heap.size w4 wr))
      case atStart => exact ⟨0, Nat.zero_le _, Nat.le_refl _, rfl, Below.refl _ _⟩
      case round =>
        obtain ⟨k, hk, hgg, rfl, hB⟩ := hrel
        by_cases hlt : k < L
        · have HLT := Lib.hid hlt
          obtain ⟨b, off, rfl, hcell⟩ := HOP.out k hlt
          obtain ⟨y, hy⟩ : ∃ y, ws[k]? = some y := ⟨_, List.getElem?_eq_getElem (by rw [HWL.out]; exact hlt)⟩
          have h2 : w4.cell? ⟨b, off + k, none⟩ = some (.string y) := by
            have := hcell k hlt
            rw [this]
            unfold sv
            rw [hy]; rfl
          have d0 := (hB.out.cell (p := ⟨b, off + k, none⟩) (World.block_lt_of_cell? w4 _ h2)).trans h2
          obtain ⟨n, hn⟩ : ∃ n, xs[k]? = some n := ⟨_, List.getElem?_eq_getElem (by rw [HL.out]; exact hlt)⟩
          have HTY : Hid (tx y = Lib.itoa n) := by
            have h3 := congrArg (·[k]?) HWX.out
            simp only [txs, List.getElem?_map, hy, hn, Option.map_some, Option.some.injEq] at h3
            exact h3
          have HNO : Hid (NumOk n) := HOK.out.2.2 n (List.mem_of_getElem? hn)
          have hyz : y.size ≤ 4000000 := by have := HW48.out y (List.mem_of_getElem? hy); omega
          have HN := Lib.hid hn
          have HRr := Lib.hid (HR.out.mono (nxt B4 hB.out).out (Nat.le_refl _))
          clear hcell hy h2 hn
          go_wp2_with fail
          refine (impl_ReadNumber y wr HRr.out hyz).mono ?_
          rintro e w6 ⟨hnr, hb⟩
          have hB6 : Hid (Below w4.heap.size w4 w6) := hB.out.trans (hb.mono hB.out.size)
          have hI6 := I4.out.mono hB6.out (Nat.le_refl _)
          obtain ⟨a9, c9, hv9, -, hop9⟩ := hI6.open
          rw [HL.out] at hv9 hop9
          cases hv9
          obtain ⟨b9, off9, rfl, hc9⟩ := hop9 k hlt
          have e0 : w6.cell? ⟨b9, off9 + k, none⟩ = some (.int .i64 n) := by
            rw [hc9 k hlt]
            unfold iv
            rw [HN.out]; rfl
          rcases hnr with ⟨n2, hn2, hi2, rfl⟩ | ⟨hno, -⟩
          · obtain rfl : n2 = n := itoa_inj hn2 HNO.out (hi2.trans HTY.out)
            have hkL : ¬ (L : Int) ≤ (k : Int) := by omega
            clear hb hB hI6 hop9 hc9 d0 hn2 hi2
            go_wp2
            go_roundg (L - (k + 1))
            case rel => exact ⟨k + 1, HLT.out, Nat.le_refl _, by go_num, hB6.out⟩
            case measure => have := HLT.out; omega
          · exact absurd HTY.out.symm (hno n HNO.out)
        · obtain rfl : k = L := by omega
          go_wp2
          go_ret
          exact ⟨rfl, (nxt B4 hB.out).out⟩
    · have HE : Hid (tt = ⟨#[]⟩) := by
        rw [← HTT.out, rowTx, if_neg hok]; rfl
      obtain rfl : tt = ⟨#[]⟩ := HE.out
      clear hok hee
      go_wp2_with (go_at_call 11; refine (alive_any _ HR3.out.res).mono ?_; rintro e w' ⟨rfl, rfl⟩)
      go_ret
      exact ⟨rfl, B3.out⟩
theorem walk_FnRowText (w : World) (v : Value) (bs : List Int) (h : View w 1 v bs.length (bs.map (Value.int .u8)) ∧ ∀ b ∈ bs, 0 ≤ b ∧ b ≤ 255) (hR : LibW w) :
    Calls Tryd.prog 6 #[v] w fun e w' => e = .returned (.bool true) ∧ Below w.heap.size w w' := walk0_FnRowText w v bs h hR
end Go.Proofs.YtajgghifamebkaaDoor
