/- draws of stacks: DrawPushStack, DrawPopStack -/
import Derived.Test.YtmdjkaghjljbfaaDoorStackDraw2
import Derived.Test.YtmdjkaghjljbfaaDoorRegS
namespace Go.Proofs.YtmdjkaghjljbfaaDoor
open Go.RowKit
section
variable {ρ : Operand → Value} {w : World} {o : Oper}
theorem x_loadStk {x : Operand} {q : Nat} {ad : Option Addr} {n c : Nat} {m : Int} (ho : o.op = .load 25 x) (hx : ρ x = .pointer (some ⟨q, 0, none⟩)) (hr : Row w q 25 [.slice ad n c, .int .i64 m]) :
    (execOp ρ o).run Tryd.prog w = .ok (.value (.agg #[.slice ad n c, .int .i64 m])) w := by
  have k0 : w.cell? ⟨q, 0, none⟩ = some (.slice ad n c) := hr.cell rfl
  have k1 : w.cell? ⟨q, 1, none⟩ = some (.int .i64 m) := hr.cell rfl
  unfold execOp
  simp only [ho, hx]
  simp [go_sem, k0, k1]
theorem x_gtr {x y : Operand} {p q : Int} {t u : TypeId} (ho : o.op = .binOp .gtr t x y u) (ht : Tryd.prog.underlying t = some (.int .i64)) (hx : ρ x = .int .i64 p) (hy : ρ y = .int .i64 q) :
    (execOp ρ o).run Tryd.prog w = .ok (.value (.bool (decide (q < p)))) w := by
  unfold execOp
  simp only [ho, hx, hy]
  simp [go_sem, ht]
end
theorem bts_ne {w : World} {v : Value} {bs : List Int} {T e n c : Nat} {ad : Option Addr} {m : Int} (h : Bts w v bs) (hr : Row w T e [.slice ad n c, .int .i64 m]) : 0 < bs.length → ∀ g, v.ownBlock = some g → g ≠ T := by
  intro h0 g hg he
  subst he
  obtain ⟨⟨h1, h2, h3 | ⟨h3, b, off, c', hv, hc, hcell⟩⟩, _⟩ := h
  · omega
  · subst hv
    simp only [Value.ownBlock, Option.some.injEq] at hg
    subst hg
    obtain ⟨x, hx⟩ : ∃ x, bs[0]? = some x := ⟨_, List.getElem?_eq_getElem h0⟩
    have k := hcell 0 (.int .u8 x) (by simp [u8s, hx])
    rw [Nat.add_zero] at k
    unfold Row at hr
    simp only [World.cell?, hr] at k
    match off, k with
    | 0, k => simp at k
    | 1, k => simp at k
    | off + 2, k => simp at k
def AnyBool (v : Value) (_ : World) : Prop := ∃ b, v = .bool b
/-- a stack, a number and a mark drawn -/
def DrawnPush (w : World) (e : Ending) (w' : World) : Prop := ∃ (g off : Nat) (ds : List Int) (m a : Int) (t : Bool), e = .returned (.tuple #[.agg #[.slice (some ⟨g, off, none⟩) (8 - off) (8 - off), .int .i64 m], .int .i64 a, .bool t]) ∧ off ≤ 1 ∧ ds.length = 8 ∧ Row w' g 3 (ints ds) ∧ -1 ≤ m ∧ m ≤ 9 ∧ -1 ≤ a ∧ a ≤ 100001 ∧ Below w.heap.size w w'
/-- a stack and a mark drawn -/
def DrawnPop (w : World) (e : Ending) (w' : World) : Prop := ∃ (g off : Nat) (ds : List Int) (m : Int) (t : Bool), e = .returned (.tuple #[.agg #[.slice (some ⟨g, off, none⟩) (8 - off) (8 - off), .int .i64 m], .bool t]) ∧ off ≤ 1 ∧ ds.length = 8 ∧ Row w' g 3 (ints ds) ∧ -1 ≤ m ∧ m ≤ 9 ∧ Below w.heap.size w w'
def BoxAt (T : Nat) (w : World) : Prop := ∃ ad n c m, Row w T 25 [.slice ad n c, .int .i64 m]
def BoxIs (T : Nat) (ad : Option Addr) (n c : Nat) (m : Int) (w : World) : Prop := Row w T 25 [.slice ad n c, .int .i64 m]
theorem keep_at {R T : Nat} (h : T ≠ R) : KeepR R (BoxAt T) := fun _ _ hg ⟨ad, n, c, m, hr⟩ => ⟨ad, n, c, m, hr.grown hg (some_ne (fun e => h e.symm))⟩
theorem keep_is {R T : Nat} (h : T ≠ R) (ad : Option Addr) (n c : Nat) (m : Int) : KeepR R (BoxIs T ad n c m) := fun _ _ hg hr => Row.grown hr hg (some_ne (fun e => h e.symm))
section
variable {ops : Array Oper} {Q : Exit → Act → World → Prop} {a0 : Act} {φ : Nat → Value → World → Prop} {R T : Nat} {v : Value} {bs : List Int} {p0 : Nat} {w0 : World} {i : Nat} {o : Oper}
/-- the store of the stack into the result's box -/
theorem op2_box {d e : Tmp} {j : Nat} {oj : Oper} {ad : Option Addr} {n c : Nat} {m : Int} (hRT : R ≠ T) (hv : 0 < bs.length → ∀ g, v.ownBlock = some g → g ≠ T) (hg : o.guard = none) (hd : o.dst = none) (ho : o.op = .store 25 (.tmp d) (.tmp e))
    (hf : freshB ops i d = true) (hV : a0.tmps.getD d undef = .pointer (some ⟨T, 0, none⟩)) (hj : ops[j]? = some oj) (hjd : oj.dst = some e) (hdp : depB o j = true) (hφj : φ j = IsV (.agg #[.slice ad n c, .int .i64 m])) (hφ : φ i = IsSt (BoxIs T ad n c m)) :
    OpOk Tryd.prog ops Q a0 φ (RdI2 R T (BoxAt T) v bs p0 w0) (Rel2 R T (BoxIs T ad n c m)) i o :=
  op2_store hg hd hφ fun a w hJ _ h => by
    obtain ⟨ad', n', c', m', hr⟩ := hJ
    have h1 := h.1 j oj e hj hjd hdp
    rw [hφj] at h1
    have h2 := (h.2 d hf).trans hV
    have hrow : Row ((w.setCell ⟨T, 0, none⟩ (.slice ad n c)).setCell ⟨T, 1, none⟩ (.int .i64 m)) T 25 [.slice ad n c, .int .i64 m] := (hr.set 0 _).set 1 _
    exact ⟨_, x_storeS (ρ := a.eval) ho (show a.eval (.tmp d) = _ from h2) (show a.eval (.tmp e) = _ from h1) hr rfl, hrow, (Gr2.set w 0 _).trans (Gr2.set _ 1 _), ⟨_, _, _, _, hrow⟩, fun p hp => (hp.setOther 0 _ hRT hv).setOther 1 _ hRT hv⟩
end
set_option maxHeartbeats 1000000 in
theorem draw_PopStack (v : Value) (bs : List Int) (w : World) (h : Bts w v bs) : Calls Tryd.prog 18 #[v] w (DrawnPop w) := by
  have hbA : Below w.heap.size w (w.alloc (.cells #[.slice none 0 0, .int .i64 0] 25)) := (Below.refl _ _).alloc (Nat.le_refl _) _
  have HT := Lib.hid (Row.new w 25 [.slice none 0 0, .int .i64 0])
  have H := Lib.hid (h.mono hbA (Nat.le_refl _))
  have HA := Lib.hid hbA
  clear h hbA
  go_enter Tryd.func18, Tryd.ntmps18
  go_wp2_with fail
  generalize w.alloc (.cells #[.slice none 0 0, .int .i64 0] 25) = W at HT H HA ⊢
  refine (open_any v bs W H.out).mono ?_
  rintro e w1 ⟨v1, bs1, rfl, hr, hb⟩
  have HR := Lib.hid hr
  have HT1 := Lib.hid (HT.out.mono hb HT.out.lt)
  have z0 : w.heap.size < W.heap.size := HT.out.lt
  have z1 : W.heap.size < w1.heap.size := hr.low.1
  have B1 : Hid (Below w.heap.size w w1) := HA.out.trans (hb.mono (Nat.le_of_lt z0))
  clear hr hb H HT HA
  go_wp2_with fail
  refine (stack_any W.heap.size v1 bs1 9 0 w1 HR.out (by omega) (by omega) (by omega)).mono ?_
  rintro e w2 ⟨g, off, ds, m, p', rfl, ho, hl, hg0, hrow, m1, m9, hp1, hp2, hrd, hg⟩
  obtain ⟨L, hL⟩ : ∃ L, 8 - off = L := ⟨_, rfl⟩
  have HLL := Lib.hid hL
  rw [hL]
  clear hL
  have HT2 := HT1.out.grown hg (some_ne (by omega))
  have B2 := B1.out.trans (below_grown hg (fun g h => by cases h; omega) (by omega))
  have z2 : w1.heap.size ≤ w2.heap.size := hg.size
  have HL := Lib.hid hl
  have hglt := hrow.lt
  have hbX : Below w2.heap.size w2 (w2.alloc (.cells #[.slice (some ⟨g, off, none⟩) L L, .int .i64 m] 25)) := (Below.refl _ _).alloc (Nat.le_refl _) _
  have HQ := Lib.hid (Row.new w2 25 [.slice (some ⟨g, off, none⟩) L L, .int .i64 m])
  have HT3 := Lib.hid (HT2.mono hbX HT2.lt)
  have HROW := Lib.hid (hrow.mono hbX hglt)
  have hlow := hrd.low
  have HR3 := Lib.hid (hrd.below hbX (by omega) hlow.2)
  have B3 := Lib.hid (B2.trans (hbX.mono (by omega)))
  clear hg hrow hl HR HT1 B1 B2 HT2 hrd hlow hbX
  obtain ⟨q, hq⟩ : ∃ q, w2.heap.size = q := ⟨_, rfl⟩
  rw [hq] at HQ hglt z2
  have hne := bts_ne HR3.out.2.1 HT3.out
  go_wp2
  generalize hW3 : w2.alloc (.cells #[.slice (some ⟨g, off, none⟩) L L, .int .i64 m] 25) = W3 at HQ HT3 HROW HR3 B3 ⊢
  clear hW3 hq
  have zW : q < W3.heap.size := HQ.out.lt
  have zg : g < W3.heap.size := by omega
  refine reader_region_store (R := W.heap.size) (T := w.heap.size) (St := BoxIs w.heap.size (some ⟨g, off, none⟩) L L m) (J := BoxAt w.heap.size) (v := v1) (bs := bs1) (p0 := p')
    [IsV (.agg #[.slice (some ⟨g, off, none⟩) L L, .int .i64 m]), IsV (.pointer (some ⟨W.heap.size, 0, none⟩)), IsNat 3, AnyBool, IsSt (BoxIs w.heap.size (some ⟨g, off, none⟩) L L m), AnyBool] 14 [10, 11, 12, 13, 3] rfl HR3.out ⟨_, _, _, _, HT3.out.drew⟩
    (by kernel_rfl) (by kernel_rfl) (by kernel_rfl) (by kernel_rfl) ⟨stab2_v _ _ _ _, stab2_v _ _ _ _, stab2_n _ _ _ _, stab2_any _ _ _ _, stab2_s _ _ _, stab2_any _ _ _ _, trivial⟩ ?_ ?_
  · refine ⟨?_, ?_, ?_, ?_, ?_, ?_, trivial⟩
    · exact op2_run rfl fun a w' hg h => ⟨_, x_loadStk (ρ := a.eval) rfl (h.2 5 (by kernel_rfl)) (HQ.out.gr2 hg.drew (by omega) (by omega)), rfl⟩
    · exact op2_fresh rfl (.inl rfl) (by kernel_rfl) rfl rfl
    · exact op2_pick (keep_at (by omega)) (keep_is (by omega) _ _ _ _) (n := 3) (j := 1) rfl rfl rfl rfl (by kernel_rfl) rfl rfl (by omega) (by show p' + 6 ≤ 1000000000; omega)
    · exact op2_run rfl fun a w' _ h => by
        obtain ⟨x, hx, _⟩ := h.1 2 _ _ rfl rfl (by kernel_rfl)
        exact ⟨_, x_gtr (ρ := a.eval) rfl Tryd.underlying3 hx rfl, _, rfl⟩
    · exact op2_box (j := 0) (by omega) hne rfl rfl rfl (by kernel_rfl) rfl rfl rfl (by kernel_rfl) rfl rfl
    · exact op2_same (j := 3) rfl (.inr rfl) rfl rfl (by kernel_rfl) rfl
  · intro U w9 hr hg hj hφ hact
    obtain ⟨t, h3⟩ : AnyBool (U 3) w9 := hφ 5 _ _ rfl rfl
    obtain ⟨_, hst⟩ : ∃ x, IsSt (BoxIs w.heap.size (some ⟨g, off, none⟩) L L m) x w9 := hact 4 _ rfl rfl
    have hst : Row w9 w.heap.size 25 [.slice (some ⟨g, off, none⟩) L L, .int .i64 m] := hst
    have B9 := Lib.hid (B3.out.trans (hg.below (B := w.heap.size) (by omega) (by omega) (Nat.le_refl _)))
    have ROW9 := Lib.hid (HROW.out.gr2 hg (by omega) (by omega))
    have k0 : w9.cell? ⟨w.heap.size, 0, none⟩ = some (.slice (some ⟨g, off, none⟩) L L) := hst.cell rfl
    have k1 : w9.cell? ⟨w.heap.size, 1, none⟩ = some (.int .i64 m) := hst.cell rfl
    clear hr hg hj hφ hact hst HR3 HT3 HROW B3 HQ
    simp [nf]
    rw [h3]
    clear h3
    go_wp2
    refine bodyPost_ret (v := .tuple #[.agg #[.slice (some ⟨g, off, none⟩) L L, .int .i64 m], .bool t]) (by simp [results, Tryd.results18, go_sem, k0, k1]) rfl ?_
    rw [← HLL.out]
    exact ⟨g, off, ds, m, t, rfl, ho, HL.out, ROW9.out, m1, m9, B9.out⟩
set_option maxHeartbeats 1000000 in
theorem draw_PushStack (v : Value) (bs : List Int) (w : World) (h : Bts w v bs) : Calls Tryd.prog 12 #[v] w (DrawnPush w) := by
  have hbA : Below w.heap.size w (w.alloc (.cells #[.slice none 0 0, .int .i64 0] 25)) := (Below.refl _ _).alloc (Nat.le_refl _) _
  have HT := Lib.hid (Row.new w 25 [.slice none 0 0, .int .i64 0])
  have H := Lib.hid (h.mono hbA (Nat.le_refl _))
  have HA := Lib.hid hbA
  clear h hbA
  go_enter Tryd.func12, Tryd.ntmps12
  go_wp2_with fail
  generalize w.alloc (.cells #[.slice none 0 0, .int .i64 0] 25) = W at HT H HA ⊢
  refine (open_any v bs W H.out).mono ?_
  rintro e w1 ⟨v1, bs1, rfl, hr, hb⟩
  have HR := Lib.hid hr
  have HT1 := Lib.hid (HT.out.mono hb HT.out.lt)
  have z0 : w.heap.size < W.heap.size := HT.out.lt
  have z1 : W.heap.size < w1.heap.size := hr.low.1
  have B1 : Hid (Below w.heap.size w w1) := HA.out.trans (hb.mono (Nat.le_of_lt z0))
  clear hr hb H HT HA
  go_wp2_with fail
  refine (stack_any W.heap.size v1 bs1 9 0 w1 HR.out (by omega) (by omega) (by omega)).mono ?_
  rintro e w2 ⟨g, off, ds, m, p', rfl, ho, hl, hg0, hrow, m1, m9, hp1, hp2, hrd, hg⟩
  obtain ⟨L, hL⟩ : ∃ L, 8 - off = L := ⟨_, rfl⟩
  have HLL := Lib.hid hL
  rw [hL]
  clear hL
  have HT2 := HT1.out.grown hg (some_ne (by omega))
  have B2 := B1.out.trans (below_grown hg (fun g h => by cases h; omega) (by omega))
  have z2 : w1.heap.size ≤ w2.heap.size := hg.size
  have HL := Lib.hid hl
  have hglt := hrow.lt
  have hbX : Below w2.heap.size w2 (w2.alloc (.cells #[.slice (some ⟨g, off, none⟩) L L, .int .i64 m] 25)) := (Below.refl _ _).alloc (Nat.le_refl _) _
  have HQ := Lib.hid (Row.new w2 25 [.slice (some ⟨g, off, none⟩) L L, .int .i64 m])
  have HT3 := Lib.hid (HT2.mono hbX HT2.lt)
  have HROW := Lib.hid (hrow.mono hbX hglt)
  have hlow := hrd.low
  have HR3 := Lib.hid (hrd.below hbX (by omega) hlow.2)
  have B3 := Lib.hid (B2.trans (hbX.mono (by omega)))
  clear hg hrow hl HR HT1 B1 B2 HT2 hrd hlow hbX
  obtain ⟨q, hq⟩ : ∃ q, w2.heap.size = q := ⟨_, rfl⟩
  rw [hq] at HQ hglt z2
  have hne := bts_ne HR3.out.2.1 HT3.out
  go_wp2
  generalize hW3 : w2.alloc (.cells #[.slice (some ⟨g, off, none⟩) L L, .int .i64 m] 25) = W3 at HQ HT3 HROW HR3 B3 ⊢
  clear hW3 hq
  have zW : q < W3.heap.size := HQ.out.lt
  have zg : g < W3.heap.size := by omega
  refine reader_region_store (R := W.heap.size) (T := w.heap.size) (St := BoxIs w.heap.size (some ⟨g, off, none⟩) L L m) (J := BoxAt w.heap.size) (v := v1) (bs := bs1) (p0 := p')
    [IsV (.agg #[.slice (some ⟨g, off, none⟩) L L, .int .i64 m]), IsV (.pointer (some ⟨W.heap.size, 0, none⟩)), IsNat 256, LitB W.heap.size W3.heap.size 4 (fun y => -1 ≤ y ∧ y ≤ 100001), LitB W.heap.size W3.heap.size 7 (fun y => 0 ≤ y ∧ y < (4 : Nat)), IsV (.pointer (some ⟨W.heap.size, 0, none⟩)), IsNat 7, ElemB W.heap.size W3.heap.size (fun y => 0 ≤ y ∧ y < (4 : Nat)), IsNat 4, ElemB W.heap.size W3.heap.size (fun y => -1 ≤ y ∧ y ≤ 100001), IsP (fun y => -1 ≤ y ∧ y ≤ 100001), IsV (.pointer (some ⟨W.heap.size, 0, none⟩)), IsNat 3, AnyBool, IsSt (BoxIs w.heap.size (some ⟨g, off, none⟩) L L m), IsP (fun y => -1 ≤ y ∧ y ≤ 100001), AnyBool] 25 [11, 12, 13, 14, 15, 16, 17, 18, 19, 20, 21, 22, 23, 24, 3, 4] rfl HR3.out ⟨_, _, _, _, HT3.out.drew⟩
    (by kernel_rfl) (by kernel_rfl) (by kernel_rfl) (by kernel_rfl) ⟨stab2_v _ _ _ _, stab2_v _ _ _ _, stab2_n _ _ _ _, stab2_l _ _ _ (by omega) _ _, stab2_l _ _ _ (by omega) _ _, stab2_v _ _ _ _, stab2_n _ _ _ _, stab2_e _ _ _ (by omega) _, stab2_n _ _ _ _, stab2_e _ _ _ (by omega) _, stab2_p _ _ _ _, stab2_v _ _ _ _, stab2_n _ _ _ _, stab2_any _ _ _ _, stab2_s _ _ _, stab2_p _ _ _ _, stab2_any _ _ _ _, trivial⟩ ?_ ?_
  · refine ⟨?_, ?_, ?_, ?_, ?_, ?_, ?_, ?_, ?_, ?_, ?_, ?_, ?_, ?_, ?_, ?_, ?_, trivial⟩
    · exact op2_run rfl fun a w' hg h => ⟨_, x_loadStk (ρ := a.eval) rfl (h.2 6 (by kernel_rfl)) (HQ.out.gr2 hg.drew (by omega) (by omega)), rfl⟩
    · exact op2_fresh rfl (.inl rfl) (by kernel_rfl) rfl rfl
    · exact op2_pick (keep_at (by omega)) (keep_is (by omega) _ _ _ _) (n := 256) (j := 1) rfl rfl rfl rfl (by kernel_rfl) rfl rfl (by omega) (by show p' + 17 ≤ 1000000000; omega)
    · exact op2_alloc (keep_at (by omega)) (keep_is (by omega) _ _ _ _) rfl fun a w' hR hB h => by
        obtain ⟨x, hx, _⟩ := h.1 2 _ _ rfl rfl (by kernel_rfl)
        exact ⟨_, _, x_lit4 (ρ := a.eval) rfl hx rfl rfl rfl, litB_mk hR hB rfl (by simp; omega)⟩
    · exact op2_alloc (keep_at (by omega)) (keep_is (by omega) _ _ _ _) rfl fun a w' hR hB h => ⟨_, _, x_lit7 (ρ := a.eval) rfl rfl rfl rfl rfl rfl rfl rfl, litB_mk hR hB rfl (by simp)⟩
    · exact op2_fresh rfl (.inl rfl) (by kernel_rfl) rfl rfl
    · exact op2_pick (keep_at (by omega)) (keep_is (by omega) _ _ _ _) (n := 7) (j := 5) rfl rfl rfl rfl (by kernel_rfl) rfl rfl (by omega) (by show p' + 17 ≤ 1000000000; omega)
    · exact op2_index (j := 4) (k := 6) rfl rfl rfl rfl (by kernel_rfl) rfl rfl (by kernel_rfl) rfl rfl (Nat.le_refl _) rfl
    · exact op2_load (j := 7) rfl rfl rfl rfl (by kernel_rfl) rfl rfl (fun y w h => nat_of y w h)
    · exact op2_index (j := 3) (k := 8) rfl rfl rfl rfl (by kernel_rfl) rfl rfl (by kernel_rfl) rfl rfl (Nat.le_refl _) rfl
    · exact op2_load (j := 9) rfl rfl rfl rfl (by kernel_rfl) rfl rfl (fun y w h => ⟨y, rfl, h⟩)
    · exact op2_fresh rfl (.inl rfl) (by kernel_rfl) rfl rfl
    · exact op2_pick (keep_at (by omega)) (keep_is (by omega) _ _ _ _) (n := 3) (j := 11) rfl rfl rfl rfl (by kernel_rfl) rfl rfl (by omega) (by show p' + 17 ≤ 1000000000; omega)
    · exact op2_run rfl fun a w' _ h => by
        obtain ⟨x, hx, _⟩ := h.1 12 _ _ rfl rfl (by kernel_rfl)
        exact ⟨_, x_gtr (ρ := a.eval) rfl Tryd.underlying3 hx rfl, _, rfl⟩
    · exact op2_box (j := 0) (by omega) hne rfl rfl rfl (by kernel_rfl) rfl rfl rfl (by kernel_rfl) rfl rfl
    · exact op2_same (j := 10) rfl (.inr rfl) rfl rfl (by kernel_rfl) rfl
    · exact op2_same (j := 13) rfl (.inr rfl) rfl rfl (by kernel_rfl) rfl
  · intro U w9 hr hg hj hφ hact
    obtain ⟨y3, h3, y30, y31⟩ : IsP (fun y => -1 ≤ y ∧ y ≤ 100001) (U 3) w9 := hφ 15 _ _ rfl rfl
    obtain ⟨t, h4⟩ : AnyBool (U 4) w9 := hφ 16 _ _ rfl rfl
    obtain ⟨_, hst⟩ : ∃ x, IsSt (BoxIs w.heap.size (some ⟨g, off, none⟩) L L m) x w9 := hact 14 _ rfl rfl
    have hst : Row w9 w.heap.size 25 [.slice (some ⟨g, off, none⟩) L L, .int .i64 m] := hst
    have B9 := Lib.hid (B3.out.trans (hg.below (B := w.heap.size) (by omega) (by omega) (Nat.le_refl _)))
    have ROW9 := Lib.hid (HROW.out.gr2 hg (by omega) (by omega))
    have k0 : w9.cell? ⟨w.heap.size, 0, none⟩ = some (.slice (some ⟨g, off, none⟩) L L) := hst.cell rfl
    have k1 : w9.cell? ⟨w.heap.size, 1, none⟩ = some (.int .i64 m) := hst.cell rfl
    clear hr hg hj hφ hact hst HR3 HT3 HROW B3 HQ
    simp [nf]
    rw [h3, h4]
    clear h3 h4
    go_wp2
    refine bodyPost_ret (v := .tuple #[.agg #[.slice (some ⟨g, off, none⟩) L L, .int .i64 m], .int .i64 y3, .bool t]) (by simp [results, Tryd.results12, go_sem, k0, k1]) rfl ?_
    rw [← HLL.out]
    exact ⟨g, off, ds, m, y3, t, rfl, ho, HL.out, ROW9.out, m1, m9, y30, y31, B9.out⟩
end Go.Proofs.YtmdjkaghjljbfaaDoor
