/- the draw of permutations -/
import Derived.Test.YtnmkficfbnnakaaDoorRegL
import Derived.Deep.RegionLaw
namespace Go.Proofs.YtnmkficfbnnakaaDoor
open Go.RowKit
theorem view_take {w : World} {ab : Option Addr} {k cb a : Nat} {cs : List Value} (h : View w 1 (.slice ab k cb) k cs) (ha : a ≤ k) : View w 1 (.slice ab a cb) a (cs.take a) := by
  obtain ⟨h1, h2, h3⟩ := h
  refine ⟨by rw [List.length_take]; omega, by omega, ?_⟩
  by_cases h0 : a = 0
  · subst h0; exact .inl ⟨rfl, _, _, rfl⟩
  · rcases h3 with ⟨h3, _⟩ | ⟨h3, b, off, c, hv, hc, hcell⟩
    · omega
    · cases hv
      refine .inr ⟨by omega, b, off, cb, rfl, by omega, fun i u hu => hcell i u ?_⟩
      rw [List.getElem?_take] at hu
      split at hu
      · exact hu
      · cases hu
theorem view_drop {w : World} {ab : Option Addr} {k cb a : Nat} {cs : List Value} (h : View w 1 (.slice ab k cb) k cs) (ha : a ≤ k) : View w 1 (.slice (if cb = a then ab else Option.map (fun x => x.add a) ab) (k - a) (cb - a)) (k - a) (cs.drop a) := by
  obtain ⟨h1, h2, h3⟩ := h
  refine ⟨by rw [List.length_drop]; omega, by omega, ?_⟩
  by_cases h0 : a = k
  · subst h0; exact .inl ⟨by omega, _, _, by rw [Nat.sub_self]⟩
  · rcases h3 with ⟨h3, _⟩ | ⟨h3, b, off, c, hv, hc, hcell⟩
    · omega
    · cases hv
      refine .inr ⟨by omega, b, off + a, cb - a, ?_, by omega, fun i u hu => ?_⟩
      · rw [if_neg (by omega)]
        by_cases e : a = 0
        · subst e; simp [Addr.add]
        · simp [Addr.add, e]
      · rw [List.getElem?_drop] at hu
        have := hcell _ u hu
        rwa [show off + (a + i) = off + a + i by omega] at this
theorem gr_room {w : World} {B : Nat} {e : TypeId} {ab : Option Addr} {k cb : Nat} {cs : List Value} (h : Gr w B e 1 (.slice ab k cb) k cs) : k ≤ cb := by
  by_cases h0 : k = 0
  · omega
  · obtain ⟨g, c, hv, _, hc, _⟩ := h.at (by omega)
    cases hv; exact hc
/-- a place of a row -/
def InRow (g m : Nat) (v : Value) (_ : World) : Prop := ∃ j : Nat, v = .pointer (some ⟨g, j, none⟩) ∧ j < m
theorem stab_r (R g m : Nat) : Stab R (InRow g m) := fun _ _ _ h _ => h
section
variable {ops : Array Oper} {Q : Exit → Act → World → Prop} {a0 : Act} {φ : Nat → Value → World → Prop} {R : Nat} {v : Value} {bs : List Int} {p0 : Nat} {w0 : World} {i : Nat} {o : Oper}
theorem op_pickV {d e : Tmp} {n : Nat} {ts : Array TypeId} {j k : Nat} {oj ok : Oper} (hg : o.guard = none) (ho : o.op = .call { callee := .value (.func 18), args := #[.tmp d, .tmp e], argTypes := ts })
    (hj : ops[j]? = some oj) (hjd : oj.dst = some d) (hdp : depB o j = true) (hk : ops[k]? = some ok) (hkd : ok.dst = some e) (hdk : depB o k = true) (hφj : φ j = IsV (.pointer (some ⟨R, 0, none⟩))) (hφk : φ k = IsV (.int .i64 (n : Int))) (hφ : φ i = IsNat n) (_ : i = i) (hn : 0 < n) (hp : p0 + ops.size ≤ 1000000000) : OpOk Tryd.prog ops Q a0 φ (RdI R v bs p0 w0) (RelR R) i o := by
  intro c a w hc _ _ hI hd hf K hK
  obtain ⟨⟨p, h1, h2, h3⟩, h4⟩ := hI
  have hv := hd j oj d hj hjd hdp
  rw [hφj] at hv
  have hv2 := hd k ok e hk hkd hdk
  rw [hφk] at hv2
  rw [if_pos (by simp [Region.wanted, hg])]
  unfold Oper.wp
  rw [x_pick (ρ := a.eval) (w := w) ho (show a.eval (.tmp d) = _ from hv) (show a.eval (.tmp e) = _ from hv2) rfl]
  refine (pick_nat R v bs n p w h3 (by omega) hn).mono ?_
  rintro e w' ⟨x, rfl, hx, hr, hgr⟩
  exact hK _ _ (by rw [hφ]; exact ⟨x, rfl, hx⟩) hgr ⟨⟨p + 1, by omega, by omega, hr⟩, grown_trans h4 hgr⟩
end
/-- a place is drawn where there is room -/
theorem op_runB' {ops : Array Oper} {Q : Exit → Act → World → Prop} {a0 : Act} {φ : Nat → Value → World → Prop} {R : Nat} {v : Value} {bs : List Int} {p0 : Nat} {w0 : World} {i : Nat} {o : Oper} (hg : o.guard = none) (h : ∀ a w, w0.grownBy w (some R) → Leans ops a0 φ i o a w → ∃ x, (execOp a.eval o).run Tryd.prog w = .ok (.value x) w ∧ φ i x w) : OpOk Tryd.prog ops Q a0 φ (RdI R v bs p0 w0) (RelR R) i o := by
  intro c a w _ _ _ hI hd hf K hK
  obtain ⟨x, hr, hx⟩ := h a w hI.2 ⟨hd, hf⟩
  rw [if_pos (by simp [Region.wanted, hg])]
  unfold Oper.wp
  rw [hr]
  exact hK x w hx (grown_refl _ _) hI.step
def PermPost (R : Nat) (v : Value) (bs : List Int) (p : Nat) (w : World) (e : Ending) (w' : World) : Prop :=
  ∃ u xs p', e = .returned u ∧ Gr w' w.heap.size 3 1 u xs.length (ints xs) ∧ xs.length ≤ 9 ∧ p ≤ p' ∧ p' ≤ p + 40 ∧ Rd w' R v bs ((p' : Nat) : Int) ∧ w.grownBy w' (some R)
set_option maxHeartbeats 4000000 in
theorem perm_any (R : Nat) (v : Value) (bs : List Int) (n p : Nat) (w : World) (h : Rd w R v bs p) (hp : p ≤ 1000000) (hn : 0 < n) (hn2 : n ≤ 100) : Calls Tryd.prog 24 #[.pointer (some ⟨R, 0, none⟩), .int .i64 n] w (PermPost R v bs p w) := by
  have lowR := h.low.1
  have LV := Lib.hid h.low.2
  have hb := ((Below.refl w.heap.size w).alloc (Nat.le_refl _) (.cells #[] 3)).alloc (by simp) (.cells #[.int .i64 1, .int .i64 2, .int .i64 4, .int .i64 8, .int .i64 8] 3)
  have H0 := Lib.hid (h.below hb lowR LV.out)
  have W0 := Lib.hid (grown_below (grown_refl w (some R)) hb)
  clear h hb
  go_enter Tryd.func24, Tryd.ntmps24
  go_wp2_with fail
  refine (pick_nat R v bs 5 p _ H0.out (by omega) (by omega)).mono ?_
  rintro e w1 ⟨x, rfl, hx, hr, hg⟩
  have hrow := (Row.new (w.alloc (.cells #[] 3)) 3 (ints [1, 2, 4, 8, 8])).grown hg (some_ne (by simp; omega))
  obtain ⟨m, hm, hm1, hm8⟩ := row_at hrow (P := fun y => 1 ≤ y ∧ y ≤ 8) (by simp) hx
  obtain ⟨m, rfl⟩ := Int.eq_ofNat_of_zero_le (show 0 ≤ m by omega)
  simp only [World.size_alloc] at hm
  have R1 := Lib.hid hr
  have W1 := Lib.hid (grown_trans W0.out hg)
  have z1 : w.heap.size ≤ w1.heap.size := W1.out.size
  clear hr hg H0 W0 hrow
  go_wp2
  clear hm
  go_loopw [5, 7] (fun u i wr => ∃ (k p' : Nat) (xs : List Int), k ≤ 8 ∧ i = .int .i64 k ∧ xs.length = k ∧ p + 1 ≤ p' ∧ p' ≤ p + 1 + k ∧ Hid (Gr wr w.heap.size 3 1 u k (ints xs)) ∧ Hid (Rd wr R v bs ((p' : Nat) : Int)) ∧ Hid (w.grownBy wr (some R)))
    (fun _ i _ => 8 - (intOf i).toNat)
  case atStart => exact ⟨0, p + 1, [], by omega, rfl, rfl, by omega, by omega, Gr.none0 _ _ _ _ _, R1.out, W1.out⟩
  case round =>
    obtain ⟨k, p', xs, hk, rfl, hxl, hp1, hp2, hG, hR, hW⟩ := hrel
    have HL := Lib.hid hxl
    clear hxl
    by_cases hlt : k < m
    · obtain ⟨ab, cb, hu⟩ := hG.out.lit
      subst hu
      have hroom := gr_room hG.out
      go_wp2_with fail
      refine (pick_any R v bs _ p' _ hR.out (by omega)).mono ?_
      rintro e w2 ⟨y, rfl, hy0, hy1, -, hr, hg, -⟩
      have hy1 := hy1 (by omega)
      obtain ⟨a, rfl⟩ := Int.eq_ofNat_of_zero_le hy0
      have hak : a ≤ k := by omega
      have R2 := Lib.hid (hR.out.next hr hg)
      have W2 := Lib.hid (grown_trans hW.out hg)
      have G2 := Lib.hid (hG.out.kept hg (fun g hg he => by have := (hG.out.lt g hg).1; cases he; omega))
      have z2 : w.heap.size ≤ w2.heap.size := W2.out.size
      clear hr hg hG hR hW hy0 hy1
      go_wp2
      have hac : a ≤ cb := Nat.le_trans hak hroom
      have V1 : Hid (View w2 1 (.slice ab a cb) a (ints (xs.take a))) := by have := view_take G2.out.view hak; simpa [Hid, ints, List.map_take] using this
      have V2 : Hid (View w2 1 (.slice (if cb = a then ab else Option.map (fun x => x.add a) ab) (k - a) (cb - a)) (k - a) (ints (xs.drop a))) := by have := view_drop G2.out.view hak; simpa [Hid, ints, List.map_drop] using this
      go_region_law (first
        | (refine step_app _ rfl (.tmp 25) (.tmp 28) 24 rfl w2.heap.size 3 (.int .i64 0) 1 8 Tryd.underlying24 Tryd.infoInt rfl (by omega) (.slice (some ⟨_, 0, none⟩) 0 0) 0 [] rfl (Gr.none0 _ _ _ _ _) _ a (ints (xs.take a)) rfl (V1.out.mono (by repeat (first | exact Below.refl _ _ | refine Below.drew ?_ | refine Below.alloc ?_ (by simp <;> omega) _)) (Nat.le_refl _)) (one_ints _) (by unfold maxLen; omega) (by omega) (by simp <;> omega) ?_
           intro v3 w3 g1 r1 k1
           have G3 := Lib.hid g1
           have BB3 := Lib.hid ((show Below w2.heap.size w2 _ by repeat (first | exact Below.refl _ _ | refine Below.drew ?_ | refine Below.alloc ?_ (by simp <;> omega) _)).grown r1 (by simp <;> omega) (fun g hg => by simp [gBlock] at hg))
           have KR : Hid (∀ g, Row _ g 3 [.int .i64 k] → Row w3 g 3 [.int .i64 k]) := fun g h => h.grown r1 (by simp [gBlock])
           clear g1 r1 k1)
        | (refine step_app _ rfl (.tmp 32) (.tmp 35) 24 rfl w2.heap.size 3 (.int .i64 0) 1 8 Tryd.underlying24 Tryd.infoInt rfl (by omega) _ (0 + a + 1) _ rfl G4.out _ (k - a) (ints (xs.drop a)) rfl (V2.out.mono BB4.out (Nat.le_refl _)) (one_ints _) (by unfold maxLen; omega) (by omega) BB4.out.size ?_
           intro v5 w5 g1 r1 k1
           have G5 := Lib.hid g1
           have BB5 : Hid (Below w2.heap.size w2 w5) := BB4.out.grown r1 BB4.out.size (fun g hg => (G4.out.lt g hg).1)
           clear g1 r1 k1)
        | (refine step_app _ rfl (.tmp 29) (.tmp 31) 24 rfl w2.heap.size 3 (.int .i64 0) 1 8 Tryd.underlying24 Tryd.infoInt rfl (by omega) _ (0 + a) _ rfl (by first | exact G3.out | exact G3.out.alloc _) _ 1 [.int .i64 k] rfl (by first | exact view_one _ _ _ | exact View.of_row (KR.out _ (by first | exact Row.new _ _ _ | exact (Row.new _ _ _).alloc _ | exact (Row.new _ _ _).drew | exact ((Row.new _ _ _).alloc _).drew | (have := Row.new (w2.alloc (.cells #[] 3)) 3 [.int .i64 (k : Int)]; simp only [World.size_alloc] at this; exact this.drew))) rfl (by unfold maxLen; omega) (Nat.le_refl _)) (by simp [Value.oneCell']) (by unfold maxLen; omega) (by omega) (by have := BB3.out.size; simp; omega) ?_
           intro v4 w4 g1 r1 k1
           have G4 := Lib.hid g1
           have BB4 : Hid (Below w2.heap.size w2 w4) := (by first | exact BB3.out.grown r1 BB3.out.size (fun g hg => (G3.out.lt g hg).1) | exact (BB3.out.alloc BB3.out.size _).grown r1 (by have := BB3.out.size; simp; omega) (fun g hg => (G3.out.lt g hg).1))
           clear g1 r1 k1))
      all_goals
        go_wp2
        go_roundw
        case rel =>
          refine ⟨k + 1, p' + 1, xs.take a ++ (k : Int) :: xs.drop a, by omega, by go_num, by simp [HL.out]; omega, by omega, by omega, ?_, R2.out.below (BB5.out.mono z2) lowR LV.out, grown_below W2.out (BB5.out.mono z2)⟩
          have := G5.out
          rw [show 0 + a + 1 + (k - a) = k + 1 by omega] at this
          have := this.low z2
          simpa [Hid, ints] using this
        case measure => simp [intOf]; omega
    · have hkm : m ≤ k := by omega
      go_wp2_with fail
      refine (odd_any R v bs n p' _ hR.out (by omega) (by omega)).mono ?_
      rintro e w2 ⟨t, p2, rfl, hp3, hp4, hr, hg, -⟩
      have R2 := Lib.hid hr
      have W2 := Lib.hid (grown_trans hW.out hg)
      have G2 := Lib.hid (hG.out.kept hg (fun g hg he => by have := (hG.out.lt g hg).1; cases he; omega))
      have z2 : w.heap.size ≤ w2.heap.size := W2.out.size
      clear hr hg hG hR hW
      cases t
      · go_wp2
        go_ret
        exact ⟨_, xs, p2, rfl, by rw [HL.out]; exact G2.out, by rw [HL.out]; omega, by omega, by omega, R2.out, W2.out⟩
      · go_wp2_with fail
        refine (pick_nat R v bs 3 p2 _ R2.out (by omega) (by omega)).mono ?_
        rintro e w3 ⟨y, rfl, hy, hr, hg⟩
        have R3 := Lib.hid hr
        have W3 := Lib.hid (grown_trans W2.out hg)
        have G3 := Lib.hid (G2.out.kept hg (fun g hg he => by have := (G2.out.lt g hg).1; cases he; omega))
        have z3 : w.heap.size ≤ w3.heap.size := W3.out.size
        clear hr hg G2 R2 W2
        have : y = 0 ∨ y = 1 ∨ y = 2 := by omega
        rcases this with rfl | rfl | rfl
        · go_wp2_with (at_builtin; refine wpList_app _ rfl (.tmp 45) (.tmp 47) 24 rfl w.heap.size 3 (.int .i64 0) 1 8 Tryd.underlying24 Tryd.infoInt rfl (by omega) u5 k (ints xs) rfl (G3.out.alloc _) _ 1 [.int .i64 m] rfl (view_one _ _ _) (by simp [Value.oneCell']) (by unfold maxLen; omega) (by omega) (by simp; omega) ?_; intro v4 w4 g4 r4 k4; have G4 := Lib.hid g4; have R4 := Lib.hid r4; clear g4 r4 k4)
          go_ret
          have hb4 : Below w.heap.size w3 w4 := ((Below.refl _ _).alloc z3 _).grown R4.out (by simp; omega) (fun g hg => (G3.out.lt g hg).1)
          refine ⟨_, xs ++ [(m : Int)], p2 + 1, rfl, ?_, by rw [List.length_append, HL.out]; simp; omega, by omega, by omega, R3.out.below hb4 lowR LV.out, grown_below W3.out hb4⟩
          rw [List.length_append, HL.out]
          have := G4.out
          simpa [Hid, ints] using this
        · obtain ⟨g, c, hu, hgB, hkc, _, hfree, hcell, hset⟩ := G3.out.at (show 0 < k by omega)
          subst hu
          have HC := Lib.hid hcell
          have HS := Lib.hid hset
          have HFR := Lib.hid hfree
          clear hcell hset hfree
          go_wp2
          refine reader_region_last (R := R) (v := v) (bs := bs) (p0 := p2 + 1)
            [IsV (.slice (some ⟨g, 0, none⟩) k c), IsV (.pointer (some ⟨R, 0, none⟩)), IsV (.int .i64 m), IsNat m, IsV (.int .i64 m), IsV (.slice (some ⟨g, 0, none⟩) k c), IsV (.pointer (some ⟨g, 0, none⟩)), IsP (fun _ => True), LitP R 3 (fun _ => True), IsV (.pointer (some ⟨R, 0, none⟩)), IsNat 3, ElemP R (fun _ => True), IsP (fun _ => True), InRow g m]
            66 [51, 52, 53, 54, 55, 56, 57, 58, 59, 60, 61, 62, 63, 64] _ rfl R3.out (by kernel_rfl) (by kernel_rfl) (by kernel_rfl) (by kernel_rfl)
            ⟨stab_v _ _, stab_v _ _, stab_v _ _, stab_n _ _, stab_v _ _, stab_v _ _, stab_v _ _, stab_p _ _, stab_l _ _ _, stab_v _ _, stab_n _ _, stab_e _ _, stab_p _ _, stab_r _ _ _, trivial⟩ rfl rfl rfl (by kernel_rfl) ?_ ?_
          · refine ⟨?_, ?_, ?_, ?_, ?_, ?_, ?_, ?_, ?_, ?_, ?_, ?_, ?_, ?_, trivial⟩
            · exact op_fresh rfl (.inl rfl) (by kernel_rfl) rfl rfl
            · exact op_fresh rfl (.inl rfl) (by kernel_rfl) rfl rfl
            · exact op_fresh rfl (.inl rfl) (by kernel_rfl) rfl rfl
            · exact op_pickV (n := m) (j := 1) (k := 2) rfl rfl rfl rfl (by kernel_rfl) rfl rfl (by kernel_rfl) rfl rfl rfl rfl (by omega) (by show p2 + 1 + 15 ≤ 1000000000; omega)
            · exact op_fresh rfl (.inl rfl) (by kernel_rfl) rfl rfl
            · exact op_fresh rfl (.inl rfl) (by kernel_rfl) rfl rfl
            · exact op_run rfl fun a w' h => ⟨_, x_index (k := 0) (ρ := a.eval) rfl (h.1 5 _ _ rfl rfl (by kernel_rfl)) rfl (by omega), rfl⟩
            · exact op_runB' rfl fun a w' hg h => by
                obtain ⟨x0, hx0⟩ : ∃ x0, xs[0]? = some x0 := ⟨_, List.getElem?_eq_getElem (by rw [HL.out]; omega)⟩
                exact ⟨_, x_load (ρ := a.eval) rfl (h.1 6 _ _ rfl rfl (by kernel_rfl)) ((grown_drew hg).cell (HC.out 0 (.int .i64 x0) (by simp [ints, hx0])) (some_ne (by show g ≠ R; omega))), _, rfl, trivial⟩
            · exact op_alloc rfl fun a w' hR h => by
                obtain ⟨y, hy, _⟩ := h.1 7 _ _ rfl rfl (by kernel_rfl)
                exact ⟨_, _, x_lit3 (ρ := a.eval) rfl rfl (h.1 4 _ _ rfl rfl (by kernel_rfl)) hy, lit_mk hR rfl (by simp)⟩
            · exact op_fresh rfl (.inl rfl) (by kernel_rfl) rfl rfl
            · exact op_pick (n := 3) (j := 9) rfl rfl rfl rfl (by kernel_rfl) rfl rfl (by omega) (by show p2 + 1 + 15 ≤ 1000000000; omega)
            · exact op_index (j := 8) (k := 10) rfl rfl rfl rfl (by kernel_rfl) rfl rfl (by kernel_rfl) rfl rfl (Nat.le_refl _) rfl
            · exact op_load (j := 11) rfl rfl rfl rfl (by kernel_rfl) rfl rfl (fun y w h => ⟨y, rfl, h⟩)
            · exact op_run rfl fun a w' h => by
                obtain ⟨j, hj, hjm⟩ := h.1 3 _ _ rfl rfl (by kernel_rfl)
                exact ⟨_, x_index (k := j) (ρ := a.eval) rfl (h.1 0 _ _ rfl rfl (by kernel_rfl)) hj (by omega), j, rfl, hjm⟩
          · intro U w8 hr hg hφ
            obtain ⟨y, h63, _⟩ : IsP (fun _ => True) (U 63) w8 := hφ 12 _ _ (by decide) rfl rfl
            obtain ⟨j, h64, hjm⟩ : InRow g m (U 64) w8 := hφ 13 _ _ (by decide) rfl rfl
            obtain ⟨p8, hp6, hp7, hrd⟩ := hr
            have hp8 : p8 ≤ p2 + 1 + 15 := hp7
            have G8 : Gr w8 w.heap.size 3 1 (.slice (some ⟨g, 0, none⟩) k c) k (ints xs) := G3.out.kept hg (fun x hx he => by have := (G3.out.lt x hx).1; cases he; omega)
            obtain ⟨g', c', hu, _, _, _, hfree, hcell, hset⟩ := G8.at (show 0 < k by omega)
            cases hu
            have hjk : j < xs.length := by rw [HL.out]; omega
            have hcj := hcell j (.int .i64 xs[j]) (by simp [ints, hjk])
            have hb8 : Below w.heap.size w8 (w8.setCell ⟨g, j, none⟩ (.int .i64 y)) := (Below.refl _ _).setCell (p := ⟨g, j, none⟩) hgB _
            have HEND : Hid (PermPost R v bs p w (.returned (.slice (some ⟨g, 0, none⟩) k c)) (w8.setCell ⟨g, j, none⟩ (.int .i64 y))) := by
              refine ⟨_, xs.set j y, p8, rfl, ?_, by rw [List.length_set, HL.out]; omega, by omega, by omega, hrd.below hb8 lowR LV.out, grown_below (grown_trans W3.out hg) hb8⟩
              have := hset j (.int .i64 y) (by omega)
              rw [List.length_set, HL.out]
              rwa [show (ints xs).set j (.int .i64 y) = ints (xs.set j y) by simp [ints, List.map_set]] at this
            refine ⟨_, x_storeI (u := .int .i64 xs[j]) rfl (by simpa [nf, Act.eval] using h64) (by simpa [nf, Act.eval] using h63) hcj (hfree j), ?_⟩
            clear hset hfree hcell hcj hb8 G8 hrd hg hφ
            generalize w8.setCell ⟨g, j, none⟩ (.int .i64 y) = w9 at HEND ⊢
            simp [nf]
            go_wp2
            go_ret
            exact HEND.out
        · go_wp2
          go_ret
          have hb4 : Below w.heap.size w3 (w3.alloc (.cells #[] 3)) := (Below.refl _ _).alloc z3 _
          exact ⟨_, [], p2 + 1, rfl, Gr.none0 _ _ _ _ _, by simp, by omega, by omega, R3.out.below hb4 lowR LV.out, grown_below W3.out hb4⟩
end Go.Proofs.YtnmkficfbnnakaaDoor
