/- the walk of FnSwitchedTwice -/
import Derived.Test.YtnmkficfbnnakaaDoorRouteDraw
import Derived.Test.YtnmkficfbnnakaaDoorRouteLaw
import Derived.Test.YtnmkficfbnnakaaDoorMarks
import Derived.Test.YtnmkficfbnnakaaDoorLaw
import Derived.Test.YtnmkficfbnnakaaDoorName
namespace Go.Proofs.YtnmkficfbnnakaaDoor
open Go.RowKit
theorem tab_snocS (n : Nat) (f : Nat → Int) (x : Int) (h : f n = x) : ints (tab n f) ++ [.int .i64 x] = ints (tab (n + 1) f) := by simp [ints, tab, List.range_succ, h]
set_option maxHeartbeats 4000000 in
theorem walk0_FnSwitchedTwice (w : World) (v : Value) (bs : List Int) (h : Bts w v bs) (hR : Resv w) :
    Calls Tryd.prog 5 #[v] w fun e w' => LawOk w e w' := by
  obtain ⟨ad, c, hv, hm⟩ := bts_lit h
  have H := Lib.hid h
  have HR := Lib.hid hR
  clear h hR
  subst hv
  by_cases hbig : 1048576 < bs.length
  · go_enter Tryd.func5, Tryd.ntmps5
    go_wp2
    go_ret
    exact ⟨rfl, Below.refl _ _⟩
  · go_enter Tryd.func5, Tryd.ntmps5
    go_wp2_with fail
    refine (draw_RoutePermutation _ bs w H.out).mono ?_
    rintro e w1 ⟨up, p, rfl, hG, hl9, hb⟩
    have P1 : Hid (Ints w1 up p) := hG.view
    have B1 := nxt (Lib.hid (Below.refl _ _)) hb
    clear hb hG H
    go_wp2_with fail
    refine (impl_RoutePermutation _ p _ P1.out).mono ?_
    rintro e w2 ⟨ux, rfl, hg, hb⟩
    have X2 : Hid (Bools w2 ux (routeR p)) := hg.view
    have P2 := Lib.hid (P1.out.mono hb (Nat.le_refl _))
    have B2 := nxt B1 hb
    clear hb hg B1 P1
    go_wp2_with fail
    refine (spec_RoutePermutation _ p _ P2.out (by omega)).mono ?_
    rintro e w3 ⟨uy, rfl, hg, hb⟩
    have Y3 : Hid (Bools w3 uy (routeR p)) := hg.view
    have X3 := Lib.hid (X2.out.mono hb (Nat.le_refl _))
    have P3 := Lib.hid (P2.out.mono hb (Nat.le_refl _))
    have B3 := nxt B2 hb
    clear hb hg B2 P2 X2
    go_wp2_with fail
    refine (sameMarks_same _ _ _ _ X3.out Y3.out).mono ?_
    rintro e w4 ⟨rfl, hb⟩
    have X4 := Lib.hid (X3.out.mono hb (Nat.le_refl _))
    have P4 := Lib.hid (P3.out.mono hb (Nat.le_refl _))
    have B4 := nxt B3 hb
    clear hb B3 P3 X3 Y3
    obtain ⟨t, ht⟩ : ∃ t, permB p = t := ⟨_, rfl⟩
    have HT := Lib.hid ht
    clear ht
    go_wp2_with fail
    refine (spec_PermValid _ p _ P4.out (by omega)).mono ?_
    rw [HT.out]
    rintro e w5 ⟨rfl, hb⟩
    have X5 := Lib.hid (X4.out.mono hb (Nat.le_refl _))
    have P5 := Lib.hid (P4.out.mono hb (Nat.le_refl _))
    have B5 := nxt B4 hb
    have HR5 := Lib.hid (HR.out.mono B5.out (Nat.le_refl _))
    clear hb B4 P4 X4 HR
    cases t
    · clear X5
      go_wp2_with (go_at_call 10; refine (alive_any _ HR5.out).mono ?_; rintro e w' ⟨rfl, rfl⟩)
      go_ret
      exact ⟨rfl, B5.out⟩
    · have hrr : routeR p = routeV p := by unfold routeR; rw [HT.out]; rfl
      obtain ⟨i0, hi, hz0, hz1, hz2⟩ := info_parts Tryd.infoInt
      obtain ⟨n, hn⟩ : ∃ n, p.length = n := ⟨_, rfl⟩
      have P6 := P5.out
      have HX : Hid (Bools w5 ux (routeV p)) := by have := X5.out; rwa [hrr] at this
      obtain ⟨ap, cp, hp, _, hop⟩ := P6.open
      subst hp
      have HN := Lib.hid hn
      have HPM : Hid (PermL n p) := by have := (permB_perm HT.out).1; rwa [hn] at this
      have hnc := (permB_perm HT.out).2
      rw [hn] at hop hl9 hnc ⊢
      have hn1 : 1 ≤ n := by omega
      have CP : Hid (∃ b off, ap = some ⟨b, off, none⟩ ∧ b < w5.heap.size ∧ ∀ j, j < n → w5.cell? ⟨b, off + j, none⟩ = some (.int .i64 ((pF p j : Nat) : Int))) := by
        obtain ⟨b, off, rfl, hcp⟩ := hop 0 (by omega)
        refine ⟨b, off, rfl, World.block_lt_of_cell? w5 _ (hcp 0 (by omega)), fun j hj => ?_⟩
        have := hcp j hj
        rwa [iv_iI, HPM.out.int hj] at this
      clear P6 X5 P5 hrr hn hop hnc HR5
      go_wp2_with (at_make; refine wpList_make_full _ rfl _ _ 24 rfl w5.heap.size 3 i0 (.int .i64 0) 1 Tryd.underlying24 hi hz0 hz1 _ _ _ _ _ rfl rfl rfl rfl ?b2 ?b3 ?b4 ?_)
      case b2 => rw [hz2]; omega
      case b3 => unfold maxLen; omega
      case b4 => exact Nat.le_refl _
      intro w6 hown hgrow
      have hrow := (row_of_own hown).1
      rw [made_tab, bk_zero n p] at hrow
      have M6 := Lib.hid hrow
      have hb : Below w5.heap.size w5 w6 := (Below.refl _ _).grown hgrow (Nat.le_refl _) (by simp)
      have z6 : w5.heap.size < w6.heap.size := hrow.lt
      have B6 := Lib.hid hb
      obtain ⟨m0, hm0⟩ : ∃ m0, w5.heap.size = m0 := ⟨_, rfl⟩
      rw [hm0] at M6 z6
      have HM0 := Lib.hid hm0
      clear hown hgrow hrow hb hi hz0 hz1 hz2
      rw [hm0]
      clear hm0
      have M7 := Lib.hid (M6.out.alloc (.cells #[] 3))
      go_wp2
      go_loopw [6, 7] (fun u i wr => ∃ k : Nat, k ≤ n ∧ i = .int .i64 k ∧ Hid (Row wr m0 3 (tab n (bkR p k))) ∧ Hid (Gr wr w6.heap.size 3 1 u k (ints (tab k fun i => 7 * (i : Int)))) ∧ Hid (Below m0 w5 wr) ∧ w6.heap.size ≤ wr.heap.size) (fun _ i _ => n - (intOf i).toNat)
      case atStart => exact ⟨0, Nat.zero_le _, rfl, M7.out, Gr.none0 _ _ _ _ _, (by have := B6.out; rw [HM0.out] at this; exact this.alloc (Nat.le_of_lt z6) _), by simp⟩
      case round =>
        obtain ⟨k, hk, rfl, hM, hG, hB, hzr⟩ := hrel
        by_cases hlt : k < n
        · obtain ⟨b, off, rfl, hbl, hcp⟩ := CP.out
          rw [HM0.out] at hbl
          have kp := hcp k hlt
          have kp : wr.cell? ⟨b, off + k, none⟩ = some (.int .i64 ((pF p k : Nat) : Int)) := (hB.out.cell (p := ⟨b, off + k, none⟩) hbl).trans kp
          have hy := HPM.out.back.1 k hlt
          have HST := Lib.hid (bk_step HPM.out hlt)
          have km := hM.out.cell (tab_get (bkR p k) hy)
          have fm := hM.out.free (pF p k)
          obtain ⟨y, hyy⟩ : ∃ y, pF p k = y := ⟨_, rfl⟩
          rw [hyy] at kp hy HST km fm
          have hG2 : Hid (Gr (wr.setCell ⟨m0, y, none⟩ (.int .i64 (k : Int))) w6.heap.size 3 1 u6 k (ints (tab k fun i => 7 * (i : Int)))) := hG.out.setOther _ _ _ (fun x hx => by have := (hG.out.lt x hx).1; omega)
          have hV1 := view_one (wr.setCell ⟨m0, y, none⟩ (.int .i64 (k : Int))) (.int .i64 (7 * (k : Int))) 3
          rw [World.size_setCell] at hV1
          have HV1 := Lib.hid hV1
          clear hyy hcp hV1
          go_wp2_with (at_builtin; refine wpList_app _ rfl (.tmp 45) (.tmp 48) 24 rfl w6.heap.size 3 (.int .i64 0) 1 8 Tryd.underlying24 Tryd.infoInt rfl (by omega) u6 k (ints (tab k fun i => 7 * (i : Int))) rfl (hG2.out.alloc _) _ 1 [.int .i64 (7 * (k : Int))] rfl HV1.out (by simp [Value.oneCell']) (by unfold maxLen; omega) (by omega) (by simp; omega) ?_; intro v9 w9 g9 r9 k9; have G9 := Lib.hid g9; have R9 := Lib.hid r9; clear g9 r9 k9)
          go_roundw
          case rel =>
            refine ⟨k + 1, hlt, by go_num, ?_, ?_, ?_, ?_⟩
            · rw [← HST.out]
              exact ((hM.out.set y _).alloc _).grown R9.out (fun e => by have := (hG.out.lt m0 e).1; omega)
            · have := G9.out
              rw [tab_snocS _ _ _ rfl] at this
              exact this
            · exact ((hB.out.setCell (p := ⟨m0, y, none⟩) (Nat.le_refl _) _).alloc (by simp; omega) _).grown R9.out (by simp; omega) (fun g hg => by have := (hG.out.lt g hg).1; omega)
            · have := R9.out.size; simp at this; omega
          case measure => simp [intOf]; omega
        · have hkn : k = n := by omega
          subst hkn
          obtain ⟨L, hL⟩ : ∃ L, (tab k fun i => 7 * (i : Int)) = L := ⟨_, rfl⟩
          have hLl : L.length = k := by rw [← hL]; simp
          have VL : Hid (Ints wr u6 L) := by have := hG.out.view; rw [hL] at this; unfold Hid Ints; rw [hLl]; exact this
          have hB' : Below w5.heap.size w5 wr := by rw [HM0.out]; exact hB.out
          have VX := Lib.hid (HX.out.mono hB' (Nat.le_refl _))
          have hbl : (backL k p).length = k := by unfold backL; simp
          have VB : Hid (Ints wr (.slice (some ⟨m0, 0, none⟩) k k) (backL k p)) := by
            have := hM.out
            rw [bk_end HPM.out] at this
            unfold Hid Ints
            rw [hbl]
            exact View.of_row this (by simp [ints, hbl]) (by unfold maxLen; omega) (Nat.le_refl _)
          obtain ⟨ha, hb, -⟩ := route_send (l := L) HT.out (by rw [hLl, HN.out])
          have HA : Hid (applyOk (routeV p) L = true) := ha
          obtain ⟨Y, hY⟩ : ∃ Y, sendV (routeV p) L = Y := ⟨_, rfl⟩
          have HV : Hid (applyV (routeV p) L = Y) := by unfold Hid applyV; rw [ha]; exact hY
          have htb := there_back (l := L) HT.out (by rw [hLl, HN.out])
          have hpb := backL_permB HT.out
          rw [hY] at htb hb
          rw [HN.out] at htb hpb hb
          have HPB : Hid (routeR (backL k p) = routeV (backL k p)) := by unfold Hid routeR; rw [hpb]; rfl
          have ha2 := (route_send (l := Y) hpb (by rw [hb, hbl])).1
          have HA2 : Hid (applyOk (routeV (backL k p)) Y = true) := ha2
          have HV2 : Hid (applyV (routeV (backL k p)) Y = L) := by unfold Hid applyV; rw [ha2]; exact htb
          have hBw := Lib.hid hB'
          clear hL hLl ha ha2 hb hY hG hk hlt htb hpb hbl hB' hM hB CP
          go_wp2_with fail
          refine (impl_ApplySwitches _ _ _ L _ VX.out VL.out).mono ?_
          rw [HA.out, HV.out]
          rintro e w7 ⟨uz, rfl, hg, hb⟩
          have VY : Hid (Ints w7 uz Y) := hg.view
          have B7 := nxt hBw hb
          have VL7 := Lib.hid (VL.out.mono hb (Nat.le_refl _))
          have VB7 := Lib.hid (VB.out.mono hb (Nat.le_refl _))
          clear hb hg VL VX VB hBw
          go_wp2_with fail
          refine (impl_RoutePermutation _ _ _ VB7.out).mono ?_
          rw [HPB.out]
          rintro e w8 ⟨ur, rfl, hg, hb⟩
          have VR : Hid (Bools w8 ur (routeV (backL k p))) := hg.view
          have B8 := nxt B7 hb
          have VL8 := Lib.hid (VL7.out.mono hb (Nat.le_refl _))
          have VY8 := Lib.hid (VY.out.mono hb (Nat.le_refl _))
          clear hb hg VL7 VY VB7 B7
          go_wp2_with fail
          refine (impl_ApplySwitches _ _ _ Y _ VR.out VY8.out).mono ?_
          rw [HA2.out, HV2.out]
          rintro e w9 ⟨uq, rfl, hg, hb⟩
          have VQ : Hid (Ints w9 uq L) := hg.view
          have B9 := nxt B8 hb
          have VL9 := Lib.hid (VL8.out.mono hb (Nat.le_refl _))
          clear hb hg VL8 VY8 VR B8
          go_wp2_with fail
          refine (sameInts_same _ _ L _ VQ.out VL9.out).mono ?_
          rintro e w10 ⟨rfl, hb⟩
          have B10 := nxt B9 hb
          have BE := nxt B5 B10.out
          clear hb
          go_wp2
          go_ret
          exact ⟨rfl, BE.out⟩
theorem walk_FnSwitchedTwice (w : World) (v : Value) (bs : List Int) (h : View w 1 v bs.length (bs.map (Value.int .u8)) ∧ ∀ b ∈ bs, 0 ≤ b ∧ b ≤ 255) (hR : Resv w) :
    Calls Tryd.prog 5 #[v] w fun e w' => e = .returned (.bool true) ∧ Below w.heap.size w w' := walk0_FnSwitchedTwice w v bs h hR
end Go.Proofs.YtnmkficfbnnakaaDoor
