/- draws of stacks -/
import Derived.Test.YtmdjkaghjljbfaaDoorRegL
namespace Go.Proofs.YtmdjkaghjljbfaaDoor
open Go.RowKit
/-- a list of 8 zeros, new -/
def NewI (B R : Nat) (v : Value) (w : World) : Prop := ∃ g, v = .slice (some ⟨g, 0, none⟩) 8 8 ∧ B ≤ g ∧ g ≠ R ∧ Row w g 3 (ints [0, 0, 0, 0, 0, 0, 0, 0])
/-- a box, new -/
def NewBox (B R : Nat) (v : Value) (w : World) : Prop := ∃ q, v = .pointer (some ⟨q, 0, none⟩) ∧ B ≤ q ∧ q ≠ R ∧ Row w q 25 [.slice none 0 0, .int .i64 0]
/-- the stack that is laid into it -/
def NewS (B R : Nat) (v : Value) (w : World) : Prop := ∃ g, ∃ x : Nat, v = .agg #[.slice (some ⟨g, 0, none⟩) 8 8, .int .i64 x] ∧ x < 9 ∧ B ≤ g ∧ g ≠ R ∧ Row w g 3 (ints [0, 0, 0, 0, 0, 0, 0, 0])
theorem stab_ni (R B : Nat) : Stab R (NewI B R) := fun _ _ _ ⟨g, h1, h2, h3, h4⟩ hg => ⟨g, h1, h2, h3, h4.grown hg (some_ne (fun e => h3 e.symm))⟩
theorem stab_nb (R B : Nat) : Stab R (NewBox B R) := fun _ _ _ ⟨g, h1, h2, h3, h4⟩ hg => ⟨g, h1, h2, h3, h4.grown hg (some_ne (fun e => h3 e.symm))⟩
theorem stab_ns (R B : Nat) : Stab R (NewS B R) := fun _ _ _ ⟨g, x, h1, h2, h3, h4, h5⟩ hg => ⟨g, x, h1, h2, h3, h4, h5.grown hg (some_ne (fun e => h4 e.symm))⟩
section
variable {ops : Array Oper} {Q : Exit → Act → World → Prop} {a0 : Act} {φ : Nat → Value → World → Prop} {R : Nat} {v : Value} {bs : List Int} {p0 : Nat} {w0 : World} {i : Nat} {o : Oper}
theorem op_allocB (hg : o.guard = none) (h : ∀ a w, R < w.heap.size → w0.heap.size ≤ w.heap.size → Leans ops a0 φ i o a w → ∃ x ob, (execOp a.eval o).run Tryd.prog w = .ok (.value x) (w.alloc ob) ∧ φ i x (w.alloc ob)) : OpOk Tryd.prog ops Q a0 φ (RdI R v bs p0 w0) (RelR R) i o := by
  intro c a w _ _ _ hI hd hf K hK
  have hlow : R < w.heap.size := by obtain ⟨⟨p, _, _, h3⟩, _⟩ := hI; exact h3.low.1
  obtain ⟨x, ob, hr, hx⟩ := h a w hlow hI.2.size ⟨hd, hf⟩
  rw [if_pos (by simp [Region.wanted, hg])]
  unfold Oper.wp
  rw [hr]
  exact hK x _ hx (grown_alloc _ _ _) (hI.alloc ob)
theorem op_runB (hg : o.guard = none) (h : ∀ a w, w0.grownBy w (some R) → Leans ops a0 φ i o a w → ∃ x, (execOp a.eval o).run Tryd.prog w = .ok (.value x) w ∧ φ i x w) : OpOk Tryd.prog ops Q a0 φ (RdI R v bs p0 w0) (RelR R) i o := by
  intro c a w _ _ _ hI hd hf K hK
  obtain ⟨x, hr, hx⟩ := h a w hI.2 ⟨hd, hf⟩
  rw [if_pos (by simp [Region.wanted, hg])]
  unfold Oper.wp
  rw [hr]
  exact hK x w hx (grown_refl _ _) hI.step
end
/-- the stack in the box q, its cells in g -/
def StkI (R : Nat) (v : Value) (bs : List Int) (w : World) (q g : Nat) (m : Int) (ds : List Int) (p : Nat) (wr : World) : Prop :=
  Row wr q 25 [.slice (some ⟨g, 0, none⟩) 8 8, .int .i64 m] ∧ Row wr g 3 (ints ds) ∧ ds.length = 8 ∧ Rd wr R v bs ((p : Nat) : Int) ∧ w.grownBy wr (some R) ∧ Row wr w.heap.size 25 [.slice none 0 0, .int .i64 0] ∧ w.heap.size < q ∧ w.heap.size < g ∧ q ≠ g ∧ R < w.heap.size ∧ (0 < bs.length → ∀ g, v.ownBlock = some g → g < w.heap.size)
theorem StkI.cellSet {R : Nat} {v : Value} {bs : List Int} {w : World} {q g : Nat} {m : Int} {ds : List Int} {p : Nat} {wr : World} (h : StkI R v bs w q g m ds p wr) (k : Nat) (y : Int) : StkI R v bs w q g m (ds.set k y) p (wr.setCell ⟨g, k, none⟩ (.int .i64 y)) := by
  obtain ⟨h1, h2, h3, h4, h5, h6, h7, h8, h9, h10, h11⟩ := h
  have hb : Below w.heap.size wr (wr.setCell ⟨g, k, none⟩ (.int .i64 y)) := (Below.refl _ _).setCell (p := ⟨g, k, none⟩) (Nat.le_of_lt h8) _
  refine ⟨h1.setOther h9 _, ?_, by rw [List.length_set]; exact h3, h4.below hb h10 h11, grown_below h5 hb, h6.setOther (by show w.heap.size ≠ g; omega) _, h7, h8, h9, h10, h11⟩
  have := h2.set k (.int .i64 y)
  rwa [show (ints ds).set k (.int .i64 y) = ints (ds.set k y) by simp [ints, List.map_set]] at this
theorem StkI.read {R : Nat} {v : Value} {bs : List Int} {w : World} {q g : Nat} {m : Int} {ds : List Int} {p p' : Nat} {wr w' : World} (h : StkI R v bs w q g m ds p wr) (hr : Rd w' R v bs ((p' : Nat) : Int)) (hg : wr.grownBy w' (some R)) : StkI R v bs w q g m ds p' w' := by
  obtain ⟨h1, h2, h3, h4, h5, h6, h7, h8, h9, h10, h11⟩ := h
  exact ⟨h1.grown hg (some_ne (by omega)), h2.grown hg (some_ne (by omega)), h3, hr, grown_trans h5 hg, h6.grown hg (some_ne (by omega)), h7, h8, h9, h10, h11⟩
/-- a stack: its cells are a list of 8 numbers from the place off on -/
def StackD (R : Nat) (v : Value) (bs : List Int) (p : Nat) (w : World) (e : Ending) (w' : World) : Prop :=
  ∃ (g off : Nat) (ds : List Int) (m : Int) (p' : Nat), e = .returned (.agg #[.slice (some ⟨g, off, none⟩) (8 - off) (8 - off), .int .i64 m]) ∧ off ≤ 1 ∧ ds.length = 8 ∧ w.heap.size ≤ g ∧ Row w' g 3 (ints ds) ∧ -1 ≤ m ∧ m ≤ 9 ∧ p ≤ p' ∧ p' ≤ p + 100 ∧ Rd w' R v bs ((p' : Nat) : Int) ∧ w.grownBy w' (some R)
theorem stack_end {R : Nat} {v : Value} {bs : List Int} {w : World} {q g : Nat} {m0 : Int} {ds : List Int} {p4 p : Nat} {w5 W6 : World} (h : StkI R v bs w q g m0 ds p4 w5) (hb : Below w.heap.size w5 W6) {off : Nat} {ds' : List Int} {m : Int} (hoff : off ≤ 1) (hrow : Row W6 g 3 (ints ds')) (hl : ds'.length = 8) (m1 : -1 ≤ m) (m9 : m ≤ 9) (hp : p ≤ p4) (hp' : p4 ≤ p + 100) :
    StackD R v bs p w (.returned (.agg #[.slice (some ⟨g, off, none⟩) (8 - off) (8 - off), .int .i64 m])) W6 := by
  obtain ⟨h1, h2, h3, h4, h5, h6, h7, h8, h9, h10, h11⟩ := h
  exact ⟨g, off, ds', m, p4, rfl, hoff, hl, by omega, hrow, m1, m9, hp, hp', h4.below hb h10 h11, grown_below h5 hb⟩
set_option maxHeartbeats 4000000 in
theorem stack_any (R : Nat) (v : Value) (bs : List Int) (n p : Nat) (w : World) (h : Rd w R v bs p) (hp : p ≤ 1000000) (hn : 0 < n) (hn2 : n ≤ 100) : Calls Tryd.prog 24 #[.pointer (some ⟨R, 0, none⟩), .int .i64 n] w (StackD R v bs p w) := by
  have lowR := h.low.1
  have LV := Lib.hid h.low.2
  have hbA : Below w.heap.size w (w.alloc (.cells #[.slice none 0 0, .int .i64 0] 25)) := (Below.refl _ _).alloc (Nat.le_refl _) _
  have HR := Lib.hid (h.below hbA lowR h.low.2)
  have HG0 := Lib.hid (grown_alloc w (some R) (.cells #[.slice none 0 0, .int .i64 0] 25))
  have HT := Lib.hid (Row.new w 25 [.slice none 0 0, .int .i64 0])
  have hsz : (w.alloc (.cells #[.slice none 0 0, .int .i64 0] 25)).heap.size = w.heap.size + 1 := by simp
  clear h hbA
  go_enter Tryd.func24, Tryd.ntmps24
  go_wp2
  generalize w.alloc (.cells #[.slice none 0 0, .int .i64 0] 25) = W at HR HG0 HT hsz ⊢
  refine reader_region_last (R := R) (v := v) (bs := bs) (p0 := p) [NewI W.heap.size R, IsV (.pointer (some ⟨R, 0, none⟩)), IsNat 9, NewS W.heap.size R, NewBox W.heap.size R] 57 [5, 7, 8, 9, 10] _ rfl HR.out (by kernel_rfl) (by kernel_rfl) (by kernel_rfl) (by kernel_rfl)
    ⟨stab_ni _ _, stab_v _ _, stab_n _ _, stab_ns _ _, stab_nb _ _, trivial⟩ rfl rfl rfl (by kernel_rfl) ?_ ?_
  · refine ⟨?_, ?_, ?_, ?_, ?_, trivial⟩
    · exact op_allocB rfl fun a w' hR hB h => ⟨_, _, x_make (ρ := a.eval) rfl rfl rfl, _, rfl, hB, by omega, Row.new w' _ _⟩
    · exact op_fresh rfl (.inl rfl) (by kernel_rfl) rfl rfl
    · exact op_pick (n := 9) (j := 1) rfl rfl rfl rfl (by kernel_rfl) rfl rfl (by omega) (by show p + 6 ≤ 1000000000; omega)
    · exact op_run rfl fun a w' h => by
        obtain ⟨g, h1, h2, h3, h4⟩ := h.1 0 _ _ rfl rfl (by kernel_rfl)
        obtain ⟨x, h5, h6⟩ := h.1 2 _ _ rfl rfl (by kernel_rfl)
        exact ⟨_, x_build (ρ := a.eval) rfl h1 h5, g, x, rfl, h6, h2, h3, h4⟩
    · exact op_allocB rfl fun a w' hR hB h => ⟨_, _, x_box (ρ := a.eval) rfl, _, rfl, hB, by omega, Row.new w' _ _⟩
  · intro U w1 hr hg hφ
    obtain ⟨g, x, h10, hx, hg1, hg2, hgr⟩ : NewS W.heap.size R (U 10) w1 := hφ 3 _ _ (by decide) rfl rfl
    obtain ⟨q, h5, hq1, hq2, hqr⟩ : NewBox W.heap.size R (U 5) w1 := hφ 4 _ _ (by decide) rfl rfl
    refine ⟨_, x_storeS (old := [.slice none 0 0, .int .i64 0]) rfl (by simpa [nf, Act.eval] using h5) (by simpa [nf, Act.eval] using h10) hqr rfl, ?_⟩
    obtain ⟨p1, hp1, hp2, hrd⟩ := hr
    have hp2 : p1 ≤ p + 6 := hp2
    have hne : q ≠ g := fun e => by subst e; have := hqr.symm.trans hgr; simp at this
    have hlow := HR.out.low
    have hb2 : Below W.heap.size w1 ((w1.setCell ⟨q, 0, none⟩ (.slice (some ⟨g, 0, none⟩) 8 8)).setCell ⟨q, 1, none⟩ (.int .i64 x)) := ((Below.refl _ _).setCell (p := ⟨q, 0, none⟩) hq1 _).setCell (p := ⟨q, 1, none⟩) hq1 _
    have HI : Hid (StkI R v bs w q g x [0, 0, 0, 0, 0, 0, 0, 0] p1 ((w1.setCell ⟨q, 0, none⟩ (.slice (some ⟨g, 0, none⟩) 8 8)).setCell ⟨q, 1, none⟩ (.int .i64 x))) := by
      refine ⟨(hqr.set 0 _).set 1 _, (hgr.setOther (p := ⟨q, 0, none⟩) (fun e => hne e.symm) _).setOther (p := ⟨q, 1, none⟩) (fun e => hne e.symm) _, rfl, hrd.below hb2 hlow.1 hlow.2, grown_below (grown_trans HG0.out hg) (hb2.mono (by omega)), (HT.out.grown hg (some_ne (by omega))).mono hb2 (by omega), by omega, by omega, hne, lowR, LV.out⟩
    have hp3 : p1 ≤ p + 6 := hp2
    clear hb2 hrd hqr hgr hg hφ hp2 hlow
    simp [nf]
    rw [h5, h10]
    clear h5 h10
    go_wp2
    go_loopw [6] (fun i wr => ∃ (k p2 : Nat) (ds : List Int), k ≤ x ∧ i = .int .i64 k ∧ p ≤ p2 ∧ p2 ≤ p + 6 + 7 * k ∧ Hid (StkI R v bs w q g x ds p2 wr)) (fun i _ => x - (intOf i).toNat)
    case atStart => exact ⟨0, p1, _, Nat.zero_le _, rfl, hp1, by omega, HI⟩
    case round =>
      obtain ⟨k, p2, ds, hk, rfl, hp4, hp5, hI⟩ := hrel
      have kq0 : wr.cell? ⟨q, 0, none⟩ = some (.slice (some ⟨g, 0, none⟩) 8 8) := hI.out.1.cell rfl
      have kq1 : wr.cell? ⟨q, 1, none⟩ = some (.int .i64 x) := hI.out.1.cell rfl
      by_cases hlt : k < x
      · go_wp2
        clear kq0 kq1
        refine reader_region_last (R := R) (v := v) (bs := bs) (p0 := p2) [IsV (.pointer (some ⟨q, 0, none⟩)), IsV (.slice (some ⟨g, 0, none⟩) 8 8), IsV (.int .i64 k), IsV (.pointer (some ⟨R, 0, none⟩)), IsNat 100, IsV (.pointer (some ⟨g, k, none⟩))] 57 [17, 18, 19, 20, 21, 22] _ rfl hI.out.2.2.2.1 (by kernel_rfl) (by kernel_rfl) (by kernel_rfl) (by kernel_rfl)
          ⟨stab_v _ _, stab_v _ _, stab_v _ _, stab_v _ _, stab_n _ _, stab_v _ _, trivial⟩ rfl rfl rfl (by kernel_rfl) ?_ ?_
        · refine ⟨?_, ?_, ?_, ?_, ?_, ?_, trivial⟩
          · exact op_run rfl fun a w' h => ⟨_, x_field (ρ := a.eval) rfl (by omega) (h.2 5 (by kernel_rfl)), rfl⟩
          · exact op_runB rfl fun a w' hg h => ⟨_, x_loadS (ρ := a.eval) rfl (h.1 0 _ _ rfl rfl (by kernel_rfl)) ((hI.out.1.grown (grown_drew hg) (some_ne (by have := hI.out; have := this.2.2.2.2.2.2.1; omega))).cell rfl), rfl⟩
          · exact op_fresh rfl (.inl rfl) (by kernel_rfl) rfl rfl
          · exact op_fresh rfl (.inl rfl) (by kernel_rfl) rfl rfl
          · exact op_pick (n := 100) (j := 3) rfl rfl rfl rfl (by kernel_rfl) rfl rfl (by omega) (by show p2 + 7 ≤ 1000000000; omega)
          · exact op_run rfl fun a w' h => ⟨_, x_index (ρ := a.eval) rfl (h.1 1 _ _ rfl rfl (by kernel_rfl)) (h.1 2 _ _ rfl rfl (by kernel_rfl)) (by omega), rfl⟩
        · intro U w3 hr hg hφ
          obtain ⟨y, h21, _⟩ : IsNat 100 (U 21) w3 := hφ 4 _ _ (by decide) rfl rfl
          have h22 : U 22 = .pointer (some ⟨g, k, none⟩) := hφ 5 _ _ (by decide) rfl rfl
          obtain ⟨p3, hp6, hp7, hrd⟩ := hr
          have hp8 : p3 ≤ p2 + 7 := hp7
          have hI3 := hI.out.read hrd hg
          refine ⟨_, x_storeI (u := (ints ds)[k]'(by rw [ints_length, hI3.2.2.1]; omega)) rfl (by simpa [nf, Act.eval] using h22) (by simpa [nf, Act.eval] using h21) (hI3.2.1.cell (List.getElem?_eq_getElem _)) (hI3.2.1.free k), ?_⟩
          have HI4 := Lib.hid (hI3.cellSet k y)
          clear hI3 hrd hg hφ hI hp7
          simp [nf]
          rw [h21, h22]
          clear h21 h22
          go_wp2
          go_roundw
          case rel => exact ⟨k + 1, p3, _, hlt, by go_num, by omega, by omega, HI4⟩
          case measure => simp [intOf]; omega
      · obtain rfl : k = x := by omega
        have hp9 : p2 ≤ p + 62 := by omega
        clear hp5 hk hp3
        go_wp2_with fail
        refine (odd_any _ v bs n p2 _ hI.out.2.2.2.1 (by omega) (by omega)).mono ?_
        rintro e w4 ⟨t, p4, rfl, hp10, hp11, hr, hg, _⟩
        have HI4 := Lib.hid (hI.out.read hr hg)
        have hp12 : p4 ≤ p + 70 := by omega
        have hp13 : p ≤ p4 := by omega
        clear hr hg hI kq0 kq1 hp10 hp11 hp9 hp4
        have kq0 : w4.cell? ⟨q, 0, none⟩ = some (.slice (some ⟨g, 0, none⟩) 8 8) := HI4.out.1.cell rfl
        have kq1 : w4.cell? ⟨q, 1, none⟩ = some (.int .i64 k) := HI4.out.1.cell rfl
        have kt0 : w4.cell? ⟨w.heap.size, 0, none⟩ = some (.slice none 0 0) := HI4.out.2.2.2.2.2.1.cell rfl
        have kt1 : w4.cell? ⟨w.heap.size, 1, none⟩ = some (.int .i64 0) := HI4.out.2.2.2.2.2.1.cell rfl
        have ft0 := HI4.out.2.2.2.2.2.1.free 0
        have ft1 := HI4.out.2.2.2.2.2.1.free 1
        cases t
        · go_wp2
          refine bodyPost_ret (v := .agg #[.slice (some ⟨g, 0, none⟩) 8 8, .int .i64 k]) (by simp [results, Tryd.results24, go_sem, kt0, kt1]) rfl ?_
          obtain ⟨h1, h2, h3, h4, h5, h6, h7, h8, h9, h10, h11⟩ := HI4.out
          have hb : Below w.heap.size w4 ((w4.setCell ⟨w.heap.size, 0, none⟩ (.slice (some ⟨g, 0, none⟩) 8 8)).setCell ⟨w.heap.size, 1, none⟩ (.int .i64 k)) := ((Below.refl _ _).setCell (p := ⟨w.heap.size, 0, none⟩) (Nat.le_refl _) _).setCell (p := ⟨w.heap.size, 1, none⟩) (Nat.le_refl _) _
          exact ⟨g, 0, ds, k, p4, rfl, by omega, h3, by omega, (h2.setOther (p := ⟨w.heap.size, 0, none⟩) (by show g ≠ w.heap.size; omega) _).setOther (p := ⟨w.heap.size, 1, none⟩) (by show g ≠ w.heap.size; omega) _, by omega, by omega, hp13, by omega, h4.below hb h10 h11, grown_below h5 hb⟩
        · go_wp2_with fail
          refine (pick_nat R v bs 4 p4 _ HI4.out.2.2.2.1 (by omega) (by omega)).mono ?_
          rintro e w5 ⟨z, rfl, hz, hr, hg⟩
          have HI5 := Lib.hid (HI4.out.read hr hg)
          clear hr hg HI4 kq0 kq1 kt0 kt1 ft0 ft1
          have kq0 : w5.cell? ⟨q, 0, none⟩ = some (.slice (some ⟨g, 0, none⟩) 8 8) := HI5.out.1.cell rfl
          have kq1 : w5.cell? ⟨q, 1, none⟩ = some (.int .i64 k) := HI5.out.1.cell rfl
          have fq0 := HI5.out.1.free 0
          have fq1 := HI5.out.1.free 1
          have kt0 : w5.cell? ⟨w.heap.size, 0, none⟩ = some (.slice none 0 0) := HI5.out.2.2.2.2.2.1.cell rfl
          have kt1 : w5.cell? ⟨w.heap.size, 1, none⟩ = some (.int .i64 0) := HI5.out.2.2.2.2.2.1.cell rfl
          have ft0 := HI5.out.2.2.2.2.2.1.free 0
          have ft1 := HI5.out.2.2.2.2.2.1.free 1
          have hgt : w.heap.size < g := by omega
          have hqt : w.heap.size < q := by omega
          have n1 : ¬ q = w.heap.size := by omega
          have n2 : ¬ g = w.heap.size := by omega
          have n3 : ¬ g = q := by omega
          have : z = 0 ∨ z = 1 ∨ z = 2 ∨ z = 3 := by omega
          rcases this with rfl | rfl | rfl | rfl
          · go_wp2_with fail
            have low := HI5.out.2.2.2.1.low
            have HI6 := Lib.hid (HI5.out.read (HI5.out.2.2.2.1.below ((Below.refl w5.heap.size w5).alloc (Nat.le_refl _) (.cells #[.int .i64 (-1), .int .i64 9] 3)) low.1 low.2) (grown_alloc w5 (some R) (.cells #[.int .i64 (-1), .int .i64 9] 3)))
            refine (pick_nat R v bs 2 (p4 + 1) _ HI6.out.2.2.2.1 (by omega) (by omega)).mono ?_
            rintro e w7 ⟨z2, rfl, hz2, hr, hg⟩
            have HI7 := Lib.hid (HI6.out.read hr hg)
            have hrow := (Row.new w5 3 [.int .i64 (-1), .int .i64 9]).grown hg (some_ne (by omega))
            obtain ⟨y, hy, y0, y1⟩ : ∃ y : Int, w7.cell? ⟨w5.heap.size, z2, none⟩ = some (.int .i64 y) ∧ -1 ≤ y ∧ y ≤ 9 := by
              have : z2 = 0 ∨ z2 = 1 := by omega
              rcases this with rfl | rfl
              · exact ⟨-1, hrow.cell rfl, by omega, by omega⟩
              · exact ⟨9, hrow.cell rfl, by omega, by omega⟩
            clear hr hg hrow HI6 low kq0 kq1 fq0 fq1 kt0 kt1 ft0 ft1 HI5
            have kq0 : w7.cell? ⟨q, 0, none⟩ = some (.slice (some ⟨g, 0, none⟩) 8 8) := HI7.out.1.cell rfl
            have kq1 : w7.cell? ⟨q, 1, none⟩ = some (.int .i64 k) := HI7.out.1.cell rfl
            have fq0 := HI7.out.1.free 0
            have fq1 := HI7.out.1.free 1
            have kt0 : w7.cell? ⟨w.heap.size, 0, none⟩ = some (.slice none 0 0) := HI7.out.2.2.2.2.2.1.cell rfl
            have kt1 : w7.cell? ⟨w.heap.size, 1, none⟩ = some (.int .i64 0) := HI7.out.2.2.2.2.2.1.cell rfl
            have ft0 := HI7.out.2.2.2.2.2.1.free 0
            have ft1 := HI7.out.2.2.2.2.2.1.free 1
            go_wp2
            refine bodyPost_ret (v := .agg #[.slice (some ⟨g, 0, none⟩) 8 8, .int .i64 y]) (by simp [results, Tryd.results24, go_sem, kt0, kt1]) rfl ?_
            exact stack_end HI7.out (off := 0) ((((Below.refl _ _).setCell (p := ⟨q, 1, none⟩) (Nat.le_of_lt hqt) _).setCell (p := ⟨w.heap.size, 0, none⟩) (Nat.le_refl _) _).setCell (p := ⟨w.heap.size, 1, none⟩) (Nat.le_refl _) _) (by omega) (((HI7.out.2.1.setOther (p := ⟨q, 1, none⟩) n3 _).setOther (p := ⟨w.heap.size, 0, none⟩) n2 _).setOther (p := ⟨w.heap.size, 1, none⟩) n2 _) HI7.out.2.2.1 (by omega) (by omega) (by omega) (by omega)
          · go_wp2
            clear kq0 kq1 fq0 fq1 kt0 kt1 ft0 ft1
            refine reader_region_last (R := R) (v := v) (bs := bs) (p0 := p4 + 1) [IsV (.pointer (some ⟨q, 0, none⟩)), IsV (.slice (some ⟨g, 0, none⟩) 8 8), LitP R 2 (fun _ => True), IsV (.pointer (some ⟨R, 0, none⟩)), IsNat 2, ElemP R (fun _ => True), IsP (fun _ => True), IsV (.pointer (some ⟨g, 7, none⟩))] 57 [42, 43, 44, 45, 46, 47, 48, 49] _ rfl HI5.out.2.2.2.1 (by kernel_rfl) (by kernel_rfl) (by kernel_rfl) (by kernel_rfl)
              ⟨stab_v _ _, stab_v _ _, stab_l _ _ _, stab_v _ _, stab_n _ _, stab_e _ _, stab_p _ _, stab_v _ _, trivial⟩ rfl rfl rfl (by kernel_rfl) ?_ ?_
            · refine ⟨?_, ?_, ?_, ?_, ?_, ?_, ?_, ?_, trivial⟩
              · exact op_run rfl fun a w' h => ⟨_, x_field (ρ := a.eval) rfl (by omega) (h.2 5 (by kernel_rfl)), rfl⟩
              · exact op_runB rfl fun a w' hg h => ⟨_, x_loadS (ρ := a.eval) rfl (h.1 0 _ _ rfl rfl (by kernel_rfl)) ((HI5.out.1.grown (grown_drew hg) (some_ne (by omega))).cell rfl), rfl⟩
              · exact op_alloc rfl fun a w' hR h => ⟨_, _, x_lit2 (ρ := a.eval) rfl rfl rfl, lit_mk hR rfl (by simp)⟩
              · exact op_fresh rfl (.inl rfl) (by kernel_rfl) rfl rfl
              · exact op_pick (n := 2) (j := 3) rfl rfl rfl rfl (by kernel_rfl) rfl rfl (by omega) (by show p4 + 1 + 9 ≤ 1000000000; omega)
              · exact op_index (j := 2) (k := 4) rfl rfl rfl rfl (by kernel_rfl) rfl rfl (by kernel_rfl) rfl rfl (Nat.le_refl _) rfl
              · exact op_load (j := 5) rfl rfl rfl rfl (by kernel_rfl) rfl rfl (fun y w h => ⟨y, rfl, h⟩)
              · exact op_run rfl fun a w' h => ⟨_, x_index (k := 7) (ρ := a.eval) rfl (h.1 1 _ _ rfl rfl (by kernel_rfl)) rfl (by omega), rfl⟩
            · intro U w8 hr hg hφ
              obtain ⟨y, h48, _⟩ : IsP (fun _ => True) (U 48) w8 := hφ 6 _ _ (by decide) rfl rfl
              have h49 : U 49 = .pointer (some ⟨g, 7, none⟩) := hφ 7 _ _ (by decide) rfl rfl
              obtain ⟨p8, hp6, hp7, hrd⟩ := hr
              have hp14 : p8 ≤ p4 + 1 + 9 := hp7
              have hI8 := HI5.out.read hrd hg
              refine ⟨_, x_storeI (u := (ints ds)[7]'(by rw [ints_length, hI8.2.2.1]; omega)) rfl (by simpa [nf, Act.eval] using h49) (by simpa [nf, Act.eval] using h48) (hI8.2.1.cell (List.getElem?_eq_getElem _)) (hI8.2.1.free 7), ?_⟩
              have HI9 := Lib.hid (hI8.cellSet 7 y)
              clear hI8 hrd hg hφ HI5 hp7
              generalize w8.setCell ⟨g, 7, none⟩ (.int .i64 y) = w9 at HI9 ⊢
              simp [nf]
              rw [h48, h49]
              clear h48 h49
              have kq0 : w9.cell? ⟨q, 0, none⟩ = some (.slice (some ⟨g, 0, none⟩) 8 8) := HI9.out.1.cell rfl
              have kq1 : w9.cell? ⟨q, 1, none⟩ = some (.int .i64 k) := HI9.out.1.cell rfl
              have kt0 : w9.cell? ⟨w.heap.size, 0, none⟩ = some (.slice none 0 0) := HI9.out.2.2.2.2.2.1.cell rfl
              have kt1 : w9.cell? ⟨w.heap.size, 1, none⟩ = some (.int .i64 0) := HI9.out.2.2.2.2.2.1.cell rfl
              have ft0 := HI9.out.2.2.2.2.2.1.free 0
              have ft1 := HI9.out.2.2.2.2.2.1.free 1
              go_wp2
              refine bodyPost_ret (v := .agg #[.slice (some ⟨g, 0, none⟩) 8 8, .int .i64 k]) (by simp [results, Tryd.results24, go_sem, kt0, kt1]) rfl ?_
              exact stack_end HI9.out (off := 0) (((Below.refl _ _).setCell (p := ⟨w.heap.size, 0, none⟩) (Nat.le_refl _) _).setCell (p := ⟨w.heap.size, 1, none⟩) (Nat.le_refl _) _) (by omega) ((HI9.out.2.1.setOther (p := ⟨w.heap.size, 0, none⟩) n2 _).setOther (p := ⟨w.heap.size, 1, none⟩) n2 _) HI9.out.2.2.1 (by omega) (by omega) (by omega) (by omega)
          · go_wp2
            refine bodyPost_ret (v := .agg #[.slice (some ⟨g, 1, none⟩) 7 7, .int .i64 k]) (by simp [results, Tryd.results24, go_sem, kt0, kt1]) rfl ?_
            exact stack_end HI5.out (off := 1) ((((Below.refl _ _).setCell (p := ⟨q, 0, none⟩) (Nat.le_of_lt hqt) _).setCell (p := ⟨w.heap.size, 0, none⟩) (Nat.le_refl _) _).setCell (p := ⟨w.heap.size, 1, none⟩) (Nat.le_refl _) _) (Nat.le_refl _) (((HI5.out.2.1.setOther (p := ⟨q, 0, none⟩) n3 _).setOther (p := ⟨w.heap.size, 0, none⟩) n2 _).setOther (p := ⟨w.heap.size, 1, none⟩) n2 _) HI5.out.2.2.1 (by omega) (by omega) (by omega) (by omega)
          · obtain ⟨y3, kg3⟩ : ∃ y3, w5.cell? ⟨g, 3, none⟩ = some y3 := ⟨_, HI5.out.2.1.cell (List.getElem?_eq_getElem (by rw [ints_length, HI5.out.2.2.1]; omega))⟩
            have fg3 := HI5.out.2.1.free 3
            go_wp2
            refine bodyPost_ret (v := .agg #[.slice (some ⟨g, 0, none⟩) 8 8, .int .i64 0]) (by simp [results, Tryd.results24, go_sem, kt0, kt1]) rfl ?_
            have hrow := (HI5.out.2.1.setOther (p := ⟨q, 1, none⟩) n3 (.int .i64 0)).set 3 (.int .i64 5)
            rw [show (ints ds).set 3 (.int .i64 5) = ints (ds.set 3 5) by simp [ints, List.map_set]] at hrow
            exact stack_end HI5.out (off := 0) (((((Below.refl _ _).setCell (p := ⟨q, 1, none⟩) (Nat.le_of_lt hqt) _).setCell (p := ⟨g, 3, none⟩) (Nat.le_of_lt hgt) _).setCell (p := ⟨w.heap.size, 0, none⟩) (Nat.le_refl _) _).setCell (p := ⟨w.heap.size, 1, none⟩) (Nat.le_refl _) _) (by omega) ((hrow.setOther (p := ⟨w.heap.size, 0, none⟩) n2 _).setOther (p := ⟨w.heap.size, 1, none⟩) n2 _) (by rw [List.length_set]; exact HI5.out.2.2.1) (by omega) (by omega) (by omega) (by omega)
end Go.Proofs.YtmdjkaghjljbfaaDoor
