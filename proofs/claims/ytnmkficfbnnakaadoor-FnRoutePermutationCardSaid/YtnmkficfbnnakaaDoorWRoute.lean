/- the walk of FnRoutePermutation -/
import Derived.Test.YtnmkficfbnnakaaDoorRouteDraw
import Derived.Test.YtnmkficfbnnakaaDoorRouteLaw
import Derived.Test.YtnmkficfbnnakaaDoorMarks
import Derived.Test.YtnmkficfbnnakaaDoorLaw
import Derived.Test.YtnmkficfbnnakaaDoorName
namespace Go.Proofs.YtnmkficfbnnakaaDoor
open Go.RowKit
theorem tab_snocR {n : Nat} {f : Nat → Int} {x : Int} (h : f n = x) : ints (tab n f) ++ [.int .i64 x] = ints (tab (n + 1) f) := by simp [ints, tab, List.range_succ, h]
theorem tab_iI {n i : Nat} (f : Nat → Int) (h : i < n) : iI (tab n f) i = f i := by unfold iI; rw [tab_get _ h]; rfl
set_option maxHeartbeats 4000000 in
theorem walk0_FnRoutePermutation (w : World) (v : Value) (bs : List Int) (h : Bts w v bs) (hR : Resv w) :
    Calls Tryd.prog 4 #[v] w fun e w' => LawOk w e w' := by
  obtain ⟨ad, c, hv, hm⟩ := bts_lit h
  have H := Lib.hid h
  have HR := Lib.hid hR
  clear h hR
  subst hv
  by_cases hbig : 1048576 < bs.length
  · go_enter Tryd.func4, Tryd.ntmps4
    go_wp2
    go_ret
    exact ⟨rfl, Below.refl _ _⟩
  · go_enter Tryd.func4, Tryd.ntmps4
    go_wp2_with fail
    refine (draw_RoutePermutation _ bs w H.out).mono ?_
    rintro e w1 ⟨up, p, rfl, hG, hl9, hb⟩
    have P1 : Hid (Ints w1 up p) := hG.view
    have B1 := nxt (Lib.hid (Below.refl _ _)) hb
    clear hb hG H
    go_wp2_with fail
    refine (impl_RoutePermutation _ p _ P1.out).mono ?_
    rintro e w2 ⟨ux, rfl, hg, hb⟩
    have X2 : Hid (Bools w2 ux (routeR p)) := hg.view
    have P2 := Lib.hid (P1.out.mono hb (Nat.le_refl _))
    have B2 := nxt B1 hb
    clear hb hg B1 P1
    go_wp2_with fail
    refine (spec_RoutePermutation _ p _ P2.out (by omega)).mono ?_
    rintro e w3 ⟨uy, rfl, hg, hb⟩
    have Y3 : Hid (Bools w3 uy (routeR p)) := hg.view
    have X3 := Lib.hid (X2.out.mono hb (Nat.le_refl _))
    have P3 := Lib.hid (P2.out.mono hb (Nat.le_refl _))
    have B3 := nxt B2 hb
    clear hb hg B2 P2 X2
    go_wp2_with fail
    refine (sameMarks_same _ _ _ _ X3.out Y3.out).mono ?_
    rintro e w4 ⟨rfl, hb⟩
    have X4 := Lib.hid (X3.out.mono hb (Nat.le_refl _))
    have P4 := Lib.hid (P3.out.mono hb (Nat.le_refl _))
    have B4 := nxt B3 hb
    clear hb B3 P3 X3 Y3
    obtain ⟨t, ht⟩ : ∃ t, permB p = t := ⟨_, rfl⟩
    have HT := Lib.hid ht
    clear ht
    go_wp2_with fail
    refine (spec_PermValid _ p _ P4.out (by omega)).mono ?_
    rw [HT.out]
    rintro e w5 ⟨rfl, hb⟩
    have X5 := Lib.hid (X4.out.mono hb (Nat.le_refl _))
    have P5 := Lib.hid (P4.out.mono hb (Nat.le_refl _))
    have B5 := nxt B4 hb
    have HR5 := Lib.hid (HR.out.mono B5.out (Nat.le_refl _))
    clear hb B4 P4 X4 HR
    cases t
    · have hr0 : routeR p = [] := by unfold routeR; rw [HT.out]; rfl
      have X6 := X5.out
      rw [hr0] at X6
      obtain ⟨ax, cx, hx, _, _⟩ := X6.open
      subst hx
      clear X6 X5 hr0
      simp only [List.length_nil]
      go_wp2_with (go_at_call 10; refine (alive_any _ HR5.out).mono ?_; rintro e w' ⟨rfl, rfl⟩)
      go_ret
      exact ⟨rfl, B5.out⟩
    · have hrr : routeR p = routeV p := by unfold routeR; rw [HT.out]; rfl
      obtain ⟨n, hn⟩ : ∃ n, p.length = n := ⟨_, rfl⟩
      have X6 := X5.out
      have P6 := P5.out
      rw [hrr] at X6
      have HX := Lib.hid X6
      have hvl : (routeV p).length = (swc n).toNat := by rw [← hn]; exact routeV_len HT.out
      have hsw : ((routeV p).length : Int) = swc n := by
        rw [hvl]
        have := (permB_perm HT.out).2
        rcases this with e | e | e | e <;> rw [← hn, e] <;> rfl
      obtain ⟨m, hm⟩ : ∃ m, (routeV p).length = m := ⟨_, rfl⟩
      rw [hm] at hsw
      have HSW := Lib.hid hsw
      have HMM := Lib.hid hm
      obtain ⟨ax, cx, hx, _, _⟩ := X6.open
      obtain ⟨ap, cp, hp, _, hop⟩ := P6.open
      rw [hm] at hx
      subst hx hp
      have HN := Lib.hid hn
      rw [hn] at hop hl9 ⊢
      have CP := Lib.hid hop
      clear X6 P6 X5 P5 hrr hn hop hvl hsw hm HR5
      have z5 : w5.heap.size ≤ w5.heap.size := Nat.le_refl _
      go_wp2
      go_loopw [5, 6] (fun u i wr => ∃ k : Nat, k ≤ n ∧ i = .int .i64 k ∧ Hid (Gr wr w5.heap.size 3 1 u k (ints (tab k fun i => 100 + (i : Int)))) ∧ Hid (Below w5.heap.size w5 wr)) (fun _ i _ => n - (intOf i).toNat)
      case atStart => exact ⟨0, Nat.zero_le _, rfl, Gr.none0 _ _ _ _ _, (Below.refl _ _).alloc (Nat.le_refl _) _⟩
      case round =>
        obtain ⟨k, hk, rfl, hG, hB⟩ := hrel
        by_cases hlt : k < n
        · have z6 := hB.out.size
          go_wp2_with (at_builtin; refine wpList_app _ rfl (.tmp 38) (.tmp 41) 24 rfl w5.heap.size 3 (.int .i64 0) 1 8 Tryd.underlying24 Tryd.infoInt rfl (by omega) u5 k (ints (tab k fun i => 100 + (i : Int))) rfl (hG.out.alloc _) _ 1 [.int .i64 (100 + (k : Int))] rfl (view_one _ _ _) (by simp [Value.oneCell']) (by unfold maxLen; omega) (by omega) (by simp; omega) ?_; intro v9 w9 g9 r9 k9; have G9 := Lib.hid g9; have R9 := Lib.hid r9; clear g9 r9 k9)
          go_roundw
          case rel =>
            refine ⟨k + 1, hlt, by go_num, ?_, ((hB.out.alloc z6 _).grown R9.out (by simp; omega) (fun g hg => (hG.out.lt g hg).1))⟩
            have := G9.out
            rw [tab_snocR rfl] at this
            exact this
          case measure => simp [intOf]; omega
        · have hkn : k = n := by omega
          subst hkn
          obtain ⟨L, hL⟩ : ∃ L, (tab k fun i => 100 + (i : Int)) = L := ⟨_, rfl⟩
          have hLl : L.length = k := by rw [← hL]; simp
          have VL : Hid (Ints wr u5 L) := by have := hG.out.view; rw [hL] at this; unfold Hid Ints; rw [hLl]; exact this
          have VX := Lib.hid (HX.out.mono hB.out (Nat.le_refl _))
          obtain ⟨ha, hb, hc⟩ := route_send (l := L) HT.out (by rw [hLl, HN.out])
          have HA : Hid (applyOk (routeV p) L = true) := ha
          obtain ⟨Y, hY⟩ : ∃ Y, sendV (routeV p) L = Y := ⟨_, rfl⟩
          have HV : Hid (applyV (routeV p) L = Y) := by unfold Hid applyV; rw [ha]; exact hY
          rw [hY, HN.out] at hb
          have HYL := Lib.hid hb
          have HC : Hid (∀ j, j < k → iI Y j = 100 + iI p j) := fun j hj => by
            have h1 := hc j (by rw [HN.out]; exact hj)
            rw [hY] at h1
            have hq := (permB_perm HT.out).1
            rw [HN.out] at hq
            rw [h1, ← hL, tab_iI _ (hq.back.1 j hj), hq.int hj]
          have HPB : Hid (∀ j, j < k → 0 ≤ iI p j ∧ iI p j < k) := fun j hj => by
            have hq := (permB_perm HT.out).1
            rw [HN.out] at hq
            exact hq.2.1 j hj
          clear hL hLl ha hb hc hY hG hk hlt
          go_wp2_with fail
          refine (impl_ApplySwitches _ _ _ L _ VX.out VL.out).mono ?_
          rw [HA.out, HV.out]
          rintro e w7 ⟨uz, rfl, hg, hb⟩
          have hZ : Ints w7 uz Y := hg.view
          have B7 := nxt hB hb
          obtain ⟨az, cz, hz, _, hopz⟩ := hZ.open
          rw [HYL.out] at hz hopz
          subst hz
          have CZ := Lib.hid hopz
          clear hZ hopz hb hg VL VX hB
          go_wp2
          go_loopw [9] (fun i wr => ∃ j : Nat, j ≤ k ∧ i = .int .i64 j ∧ Hid (Below w7.heap.size w7 wr)) (fun i _ => k - (intOf i).toNat)
          case atStart => exact ⟨0, Nat.zero_le _, rfl, Below.refl _ _⟩
          case round =>
            obtain ⟨j, hj, rfl, hB⟩ := hrel
            by_cases hlt2 : j < k
            · obtain ⟨b, off, rfl, hcp⟩ := CP.out 0 (by omega)
              obtain ⟨b2, off2, rfl, hcz⟩ := CZ.out 0 (by omega)
              have kp := hcp j hlt2
              have B57 := B7.out.trans (hB.out.mono B7.out.size)
              have kp : wr.cell? ⟨b, off + j, none⟩ = some (.int .i64 (iI p j)) := (B57.cell (p := ⟨b, off + j, none⟩) (World.block_lt_of_cell? w5 _ kp)).trans kp
              have kz := hcz j hlt2
              have kz : wr.cell? ⟨b2, off2 + j, none⟩ = some (.int .i64 (iI Y j)) := (hB.out.cell (p := ⟨b2, off2 + j, none⟩) (World.block_lt_of_cell? w7 _ kz)).trans kz
              obtain ⟨y0, y1⟩ := HPB.out j hlt2
              rw [HC.out j hlt2] at kz
              obtain ⟨z, hz⟩ : ∃ z : Nat, iI p j = z := ⟨(iI p j).toNat, by omega⟩
              rw [hz] at kp kz y1
              have hww : IntKind.i64.wrap (100 + (z : Int)) = 100 + (z : Int) := by rw [IntKind.wrap_i64]; omega
              have hzz : ((100 + (z : Int)) != IntKind.i64.wrap (100 + (z : Int))) = false := by rw [hww]; simp
              clear hww
              clear hz y0 hcp hcz B57
              go_wp2
              go_quiet (fail)
              go_wp2
              exact ⟨⟨j + 1, hlt2, by go_num, below_drewN hB.out _⟩, by simp [intOf]; omega⟩
            · have hjk : j = k := by omega
              subst hjk
              have HS2 := HSW
              have HB' := nxt B5 (B7.out.trans (hB.out.mono B7.out.size))
              have q1 : ((j : Int) == (j : Int)) = true := by simp
              have q2 : ((m : Int) == (m : Int)) = true := by simp
              clear hj hlt2
              go_wp2_with (go_at_call 16; refine (impl_sw_any _ _).mono ?_; rw [← HS2.out]; rintro e w' ⟨rfl, rfl⟩)
              go_ret
              exact ⟨rfl, HB'.out⟩
theorem walk_FnRoutePermutation (w : World) (v : Value) (bs : List Int) (h : View w 1 v bs.length (bs.map (Value.int .u8)) ∧ ∀ b ∈ bs, 0 ≤ b ∧ b ≤ 255) (hR : Resv w) :
    Calls Tryd.prog 4 #[v] w fun e w' => e = .returned (.bool true) ∧ Below w.heap.size w w' := walk0_FnRoutePermutation w v bs h hR
end Go.Proofs.YtnmkficfbnnakaaDoor
