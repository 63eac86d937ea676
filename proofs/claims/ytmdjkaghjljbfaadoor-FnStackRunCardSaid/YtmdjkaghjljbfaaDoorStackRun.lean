/- contracts of StackRun, both -/
import Derived.Test.YtmdjkaghjljbfaaDoorPushSpec
import Derived.Deep.RegionHeld3
namespace Go.Proofs.YtmdjkaghjljbfaaDoor
open Go.RowKit
/-- one number -/
def stp (s : List Int × Int × List Int) (n : Int) : Option (List Int × Int × List Int) :=
  if n = -2 then some s
  else if n = -1 then (if popOk s.1 s.2.1 true then some (popC s.1 s.2.1 true, popM s.1 s.2.1 true, s.2.2 ++ [popV s.1 s.2.1 true]) else none)
  else (if pushOk s.1 s.2.1 n true then some (pushC s.1 s.2.1 n true, pushM s.1 s.2.1 n true, s.2.2) else none)
/-- k numbers -/
def runK (xs : List Int) : Nat → Option (List Int × Int × List Int)
  | 0 => some (tab 8 (fun _ => (0 : Int)), 0, [])
  | k + 1 => (runK xs k).bind fun s => stp s (xs[k]?.getD 0)
def runR (xs : List Int) : Option (List Int × Int × List Int) := if xs.length ≤ 40 then runK xs xs.length else none
def runOk (xs : List Int) : Bool := (runR xs).isSome
def runV (xs : List Int) : List Int := match runR xs with
  | some s => s.2.2
  | none => []
theorem runK_none {xs : List Int} {k : Nat} (h : runK xs k = none) : ∀ j, runK xs (k + j) = none
  | 0 => h
  | j + 1 => by show (runK xs (k + j)).bind _ = none; rw [runK_none h j]; rfl
theorem runK_next {xs : List Int} {k : Nat} {s : List Int × Int × List Int} (h : runK xs k = some s) {y : Int} (hy : xs[k]?.getD 0 = y) : runK xs (k + 1) = stp s y := by
  show (runK xs k).bind _ = _; rw [h, ← hy]; rfl
theorem run_stop {xs : List Int} {k : Nat} (h : runK xs k = none) (hk : k ≤ xs.length) : runR xs = none := by
  unfold runR
  split
  · obtain ⟨j, hj⟩ := Nat.exists_eq_add_of_le hk
    rw [hj]; exact runK_none h j
  · rfl
theorem stp_two (s : List Int × Int × List Int) : stp s (-2) = some s := rfl
theorem stp_pop {cs : List Int} {m : Int} {out : List Int} : stp (cs, m, out) (-1) = if popOk cs m true then some (popC cs m true, popM cs m true, out ++ [popV cs m true]) else none := rfl
theorem stp_push {cs : List Int} {m n : Int} {out : List Int} (h1 : n ≠ -2) (h2 : n ≠ -1) : stp (cs, m, out) n = if pushOk cs m n true then some (pushC cs m n true, pushM cs m n true, out) else none := by
  unfold stp; rw [if_neg h1, if_neg h2]
theorem pushOk_in {cs : List Int} {m n : Int} {t : Bool} (h : inB n 0 100000 = false) : pushOk cs m n t = false := by simp [pushOk, pushA, h]
theorem stp_len {s s' : List Int × Int × List Int} {n : Int} (h : stp s n = some s') : s'.2.2.length ≤ s.2.2.length + 1 := by
  obtain ⟨cs, m, out⟩ := s
  unfold stp at h
  split at h
  · cases h; exact Nat.le_succ _
  · split at h
    · split at h
      · cases h; simp
      · cases h
    · split at h
      · cases h; exact Nat.le_succ _
      · cases h
theorem runK_len {xs : List Int} : ∀ {k : Nat} {s : List Int × Int × List Int}, runK xs k = some s → s.2.2.length ≤ k
  | 0, s, h => by cases h; exact Nat.le_refl _
  | k + 1, s, h => by
    cases e : runK xs k with
    | none => rw [show runK xs (k + 1) = none from runK_none e 1] at h; cases h
    | some r => rw [runK_next e rfl] at h; have := stp_len h; have := runK_len e; omega
theorem runV_le (xs : List Int) : (runV xs).length ≤ 40 := by
  unfold runV runR
  split
  · rename_i s h
    split at h
    · have := runK_len h; omega
    · cases h
  · simp
def RunPost (xs : List Int) (w : World) (e : Ending) (w' : World) : Prop := ∃ u, e = .returned (.tuple #[u, .bool (runOk xs)]) ∧ Gr w' w.heap.size 3 1 u (runV xs).length (ints (runV xs)) ∧ Below w.heap.size w w'
theorem run_no {xs : List Int} {w w' : World} (h : runR xs = none) (u : Value) (hu : Gr w' w.heap.size 3 1 u 0 []) (hb : Below w.heap.size w w') : RunPost xs w (.returned (.tuple #[u, .bool false])) w' := by
  unfold RunPost runOk runV; rw [h]; exact ⟨u, rfl, hu, hb⟩
theorem run_yes {xs : List Int} {w w' : World} {cs out : List Int} {m : Int} (h : runK xs xs.length = some (cs, m, out)) (hl : xs.length ≤ 40) (u : Value) (hu : Gr w' w.heap.size 3 1 u out.length (ints out)) (hb : Below w.heap.size w w') : RunPost xs w (.returned (.tuple #[u, .bool true])) w' := by
  have : runR xs = some (cs, m, out) := by unfold runR; rw [if_pos hl, h]
  unfold RunPost runOk runV; rw [this]; exact ⟨u, rfl, hu, hb⟩
/-- the loop's state: the stack in the box g0, the values taken in x -/
def RInv (xs : List Int) (B g0 k : Nat) (x : Value) (wr : World) (cs : List Int) (m : Int) (out : List Int) (u : Value) : Prop :=
  runK xs k = some (cs, m, out) ∧ out.length ≤ k ∧ Gr wr B 3 1 u cs.length (ints cs) ∧ Gr wr B 3 1 x out.length (ints out) ∧ (∀ g, gBlock u = some g → gBlock x ≠ some g) ∧ (∀ g, gBlock u = some g → g ≠ g0) ∧ (∀ g, gBlock x = some g → g ≠ g0) ∧ Row wr g0 25 [u, .int .i64 m]
theorem cell_keep {w1 W' : World} {p : Addr} {x : Value} (h : w1.cell? p = some x) (hW : Below w1.heap.size w1 W') : W'.cell? p = some x := (hW.cell (World.block_lt_of_cell? w1 _ h)).trans h
theorem zeros_ints8 (n : Nat) : tab n (fun _ => Value.int .i64 0) = ints (tab n (fun _ => (0 : Int))) := by simp [tab, ints]
/-- a number that does nothing -/
theorem RInv.skip {xs : List Int} {B g0 k : Nat} {x : Value} {wr : World} {cs : List Int} {m : Int} {out : List Int} {u : Value} (h : RInv xs B g0 k x wr cs m out u) (hy : xs[k]?.getD 0 = -2) : RInv xs B g0 (k + 1) x wr cs m out u :=
  ⟨(runK_next h.1 hy).trans (stp_two _), by have := h.2.1; omega, h.2.2⟩
/-- a stack put in the place of the old one -/
def Put (B g0 : Nat) (x u' : Value) (C out : List Int) (M : Int) (W : World) : Prop :=
  Gr W B 3 1 u' C.length (ints C) ∧ Gr W B 3 1 x out.length (ints out) ∧ (∀ g, gBlock u' = some g → gBlock x ≠ some g) ∧ (∀ g, gBlock u' = some g → g ≠ g0) ∧ Row W g0 25 [u', .int .i64 M]
theorem Put.alloc {B g0 : Nat} {x u' : Value} {C out : List Int} {M : Int} {W : World} (h : Put B g0 x u' C out M W) (o : Obj) : Put B g0 x u' C out M (W.alloc o) := ⟨h.1.alloc o, h.2.1.alloc o, h.2.2.1, h.2.2.2.1, h.2.2.2.2.alloc o⟩
theorem RInv.put {xs : List Int} {B g0 k : Nat} {x : Value} {wr : World} {cs : List Int} {m : Int} {out : List Int} {u : Value} (h : RInv xs B g0 k x wr cs m out u) {w1 : World} (hb : Below wr.heap.size wr w1) (hB : B ≤ wr.heap.size)
    {u' : Value} {C : List Int} (hu : Gr w1 wr.heap.size 3 1 u' C.length (ints C)) (M : Int) : Put B g0 x u' C out M ((w1.setCell ⟨g0, 0, none⟩ u').setCell ⟨g0, 1, none⟩ (.int .i64 M)) := by
  obtain ⟨_, _, hG, hX, _, _, hx0, hR⟩ := h
  have n1 : ∀ g, gBlock u' = some g → g ≠ g0 := fun g hg e => by have := (hu.lt g hg).1; have := hR.lt; omega
  refine ⟨((hu.setOther g0 0 _ n1).setOther g0 1 _ n1).low hB, ((hX.mono hb (Nat.le_refl _)).setOther g0 0 _ hx0).setOther g0 1 _ hx0, (fun g h1 h2 => by have := (hu.lt g h1).1; have := (hX.lt g h2).2; omega), n1, ?_⟩
  have := ((hR.mono hb hR.lt).set 0 u').set 1 (.int .i64 M)
  exact this
/-- a value put on -/
theorem RInv.push {xs : List Int} {B g0 k : Nat} {x : Value} {wr : World} {cs : List Int} {m : Int} {out : List Int} {u : Value} (h : RInv xs B g0 k x wr cs m out u) {y : Int} (hy : xs[k]?.getD 0 = y) (h1 : y ≠ -2) (h2 : y ≠ -1) (hok : pushOk cs m y true = true)
    {u' : Value} {W : World} (hP : Put B g0 x u' (pushC cs m y true) out (pushM cs m y true) W) :
    RInv xs B g0 (k + 1) x W (pushC cs m y true) (pushM cs m y true) out u' := by
  obtain ⟨a1, a2, a3, a4, a5⟩ := hP
  refine ⟨(runK_next h.1 hy).trans ?_, by have := h.2.1; omega, a1, a2, a3, a4, h.2.2.2.2.2.2.1, a5⟩
  rw [stp_push h1 h2, if_pos hok]
/-- one taken -/
theorem RInv.pop {xs : List Int} {B g0 k : Nat} {x : Value} {wr : World} {cs : List Int} {m : Int} {out : List Int} {u : Value} (h : RInv xs B g0 k x wr cs m out u) (hy : xs[k]?.getD 0 = -1) (hok : popOk cs m true = true)
    {u' : Value} {W : World} (hP : Put B g0 x u' (popC cs m true) out (popM cs m true) W)
    {o : Obj} {x' : Value} {w4 : World} (g4 : Gr w4 B 3 1 x' (out.length + 1) (ints out ++ [.int .i64 (popV cs m true)])) (r4 : (W.alloc o).grownBy w4 (gBlock x)) (k4 : gBlock x' = gBlock x ∨ gBlock x' = some (W.alloc o).heap.size) :
    RInv xs B g0 (k + 1) x' w4 (popC cs m true) (popM cs m true) (out ++ [popV cs m true]) u' := by
  have h0 := h.2.2.2.2.2.2.1
  obtain ⟨a1, a2, a3, a4, a5⟩ := hP
  refine ⟨(runK_next h.1 hy).trans ?_, ?_, (a1.alloc o).kept r4 a3, ?_, fun g h1 h2 => ?_, a4, fun g h1 => ?_, (a5.alloc o).grown r4 (fun e => h0 _ e rfl)⟩
  · rw [stp_pop, if_pos hok]
  · have := h.2.1; simp; omega
  · rw [List.length_append]; simpa [ints] using g4
  · rcases k4 with e | e
    · exact a3 g h1 (e ▸ h2)
    · rw [e] at h2; cases h2
      have := (a1.lt _ h1).2
      simp at this
      omega
  · rcases k4 with e | e
    · exact h0 g (e ▸ h1)
    · rw [e] at h1; cases h1
      intro e2
      have := a5.lt
      simp at e2
      omega
set_option maxHeartbeats 4000000 in
theorem impl_StackRun (v : Value) (xs : List Int) (w : World) (h : Ints w v xs) : Calls Tryd.prog 21 #[v] w (RunPost xs w) := by
  obtain ⟨i0, hi, hz0, hz1, hz2⟩ := info_parts Tryd.infoInt
  obtain ⟨ad, c, hv, hmax, _⟩ := h.open
  subst hv
  unfold maxLen at hmax
  have H := Lib.hid h
  clear h
  by_cases hl : xs.length ≤ 40
  case neg =>
    have hl' : decide ((40 : Int) < (xs.length : Int)) = true := by simp; omega
    have HN : Hid (runR xs = none) := by unfold Hid runR; rw [if_neg hl]
    clear hl
    go_enter Tryd.func21, Tryd.ntmps21
    go_wp2
    go_ret2
    exact run_no HN.out _ (Gr.nil _ _ _ _) (Below.refl _ _)
  go_enter Tryd.func21, Tryd.ntmps21
  go_wp2_with (at_make; refine wpList_make_full _ rfl _ _ 23 rfl w.heap.size 3 i0 (.int .i64 0) 1 Tryd.underlying23 hi hz0 hz1 _ _ _ _ 8 rfl rfl rfl rfl ?b2 ?b3 ?b4 ?_)
  case b2 => rw [hz2]; omega
  case b3 => unfold maxLen; omega
  case b4 => exact Nat.le_refl _
  intro w3 hown hgrow
  have hrow := (row_of_own hown).1
  rw [made_tab, zeros_ints8] at hrow
  have HU3 : Hid (Gr w3 w.heap.size 3 1 (.slice (some ⟨w.heap.size, 0, none⟩) 8 8) 8 (ints (tab 8 (fun _ => (0 : Int))))) := Gr.of_made hrow (by rw [ints_length, tab_length]) (by unfold maxLen; omega) (Nat.le_refl _)
  have B3 : Hid (Below w.heap.size w w3) := (Below.refl _ _).grown hgrow (Nat.le_refl _) (by simp)
  have z3 : w.heap.size < w3.heap.size := hrow.lt
  clear hown hgrow hrow
  go_wp2
  go_loopw [5, 17] (fun x i wr => ∃ (k : Nat) (cs : List Int) (m : Int) (out : List Int) (u : Value), k ≤ xs.length ∧ i = .int .i64 k ∧ Hid (RInv xs w.heap.size w3.heap.size k x wr cs m out u) ∧ Hid (Below w.heap.size w wr)) (fun _ i _ => xs.length - (intOf i).toNat)
  case atStart =>
    refine ⟨0, tab 8 (fun _ => (0 : Int)), 0, [], _, Nat.zero_le _, rfl, ⟨rfl, Nat.le_refl _, ?_, Gr.nil _ _ _ _, (fun g _ hx => by simp [gBlock] at hx), (fun g hg => by have := HU3.out.lt g hg; omega), (fun g hg => by simp [gBlock] at hg), Row.new w3 25 [.slice (some ⟨w.heap.size, 0, none⟩) 8 8, .int .i64 0]⟩, B3.out.alloc (by omega) _⟩
    rw [tab_length]
    exact HU3.out.alloc _
  case round =>
    obtain ⟨k, cs, m, out, u, hk, rfl, hI, hB⟩ := hrel
    by_cases hlt : k < xs.length
    · obtain ⟨_, _, hv5, _, hop⟩ := (H.out.mono hB.out (Nat.le_refl _)).open
      cases hv5
      obtain ⟨b, off, rfl, hcell⟩ := hop k hlt
      have hc1 := hcell k hlt
      obtain ⟨y, hy⟩ : ∃ y, xs[k]?.getD 0 = y := ⟨_, rfl⟩
      have hx : iv xs k = .int .i64 y := by rw [iv, hy]
      rw [hx] at hc1
      have HY := Lib.hid hy
      have ho : out.length ≤ k := hI.out.2.1
      have k0 : wr.cell? ⟨w3.heap.size, 0, none⟩ = some u := hI.out.2.2.2.2.2.2.2.cell rfl
      have k1 : wr.cell? ⟨w3.heap.size, 1, none⟩ = some (.int .i64 m) := hI.out.2.2.2.2.2.2.2.cell rfl
      have zr : w.heap.size ≤ wr.heap.size := hB.out.size
      clear hop hcell hx hy
      by_cases e2 : y = -2
      · subst e2
        go_wp2
        go_roundw
        case rel => exact ⟨k + 1, cs, m, out, u, hlt, by go_num, hI.out.skip HY.out, hB⟩
        case measure => simp [intOf]; omega
      by_cases e1 : y = -1
      · subst e1
        clear e2
        obtain ⟨ok, hok⟩ : ∃ ok, popOk cs m true = ok := ⟨_, rfl⟩
        obtain ⟨M, hM⟩ : ∃ M, popM cs m true = M := ⟨_, rfl⟩
        obtain ⟨V, hV⟩ : ∃ V, popV cs m true = V := ⟨_, rfl⟩
        have HOK := Lib.hid hok
        have HM := Lib.hid hM
        have HV := Lib.hid hV
        clear hok hM hV
        go_wp2_with fail
        refine (impl_PopStack _ cs m true _ (Gr.ints hI.out.2.2.1 rfl)).mono ?_
        rw [HOK.out, HM.out, HV.out]
        rintro e w1 ⟨u', x', rfl, hu', -, -, hb⟩
        obtain ⟨au, cu, hue⟩ := hu'.lit
        subst hue
        have hR1 := hI.out.2.2.2.2.2.2.2.mono hb hI.out.2.2.2.2.2.2.2.lt
        have f0 := hR1.free 0
        have f1 := hR1.free 1
        have kb0 : w1.cell? ⟨w3.heap.size, 0, none⟩ = some u := hR1.cell rfl
        have kb1 : w1.cell? ⟨w3.heap.size, 1, none⟩ = some (.int .i64 m) := hR1.cell rfl
        have HBW := Lib.hid hb
        have HU' := Lib.hid hu'
        have z1 : wr.heap.size ≤ w1.heap.size := hb.size
        have zl : w3.heap.size < w1.heap.size := hR1.lt
        have zs : ((w1.setCell ⟨w3.heap.size, 0, none⟩ (.slice au (popC cs m true).length cu)).setCell ⟨w3.heap.size, 1, none⟩ (.int .i64 M)).heap.size = w1.heap.size := by simp [World.setCell]
        have HXA : Hid (Gr ((w1.setCell ⟨w3.heap.size, 0, none⟩ (.slice au (popC cs m true).length cu)).setCell ⟨w3.heap.size, 1, none⟩ (.int .i64 M)) w.heap.size 3 1 u5 out.length (ints out)) := (hI.out.put hb zr hu' M).2.1
        have HVW : Hid (View (((w1.setCell ⟨w3.heap.size, 0, none⟩ (.slice au (popC cs m true).length cu)).setCell ⟨w3.heap.size, 1, none⟩ (.int .i64 M)).alloc (.cells #[.int .i64 V] 3)) 1 (.slice (some ⟨w1.heap.size, 0, none⟩) 1 1) 1 [.int .i64 V]) := by
          have := view_one ((w1.setCell ⟨w3.heap.size, 0, none⟩ (.slice au (popC cs m true).length cu)).setCell ⟨w3.heap.size, 1, none⟩ (.int .i64 M)) (.int .i64 V) 3
          rw [zs] at this
          exact this
        clear hb hu' hR1 k0 k1 hc1
        cases ok
        · go_wp2_with (at_builtin; refine wpList_app _ rfl (.tmp 40) (.tmp 42) 23 rfl w.heap.size 3 (.int .i64 0) 1 8 Tryd.underlying23 Tryd.infoInt rfl (by omega) u5 out.length (ints out) rfl (HXA.out.alloc _) _ 1 [.int .i64 V] rfl HVW.out (by simp [Value.oneCell']) (by unfold maxLen; omega) (by omega) (by rw [World.size_alloc, zs]; omega) ?_; intro v4 w4 g4 r4 k4; have G4 := Lib.hid g4; have R4 := Lib.hid r4; have K4 := Lib.hid k4; clear g4 r4 k4)
          go_ret2
          refine run_no (run_stop (k := k + 1) ((runK_next hI.out.1 HY.out).trans (by rw [stp_pop, HOK.out]; rfl)) hlt) _ (Gr.nil _ _ _ _) ?_
          exact (((hB.out.trans (HBW.out.mono zr)).setCell (p := ⟨w3.heap.size, 0, none⟩) (by show w.heap.size ≤ w3.heap.size; omega) _).setCell (p := ⟨w3.heap.size, 1, none⟩) (by show w.heap.size ≤ w3.heap.size; omega) _).alloc (by rw [zs]; omega) _ |>.grown R4.out (by simp [zs]; omega) (fun g hg => (HXA.out.lt g hg).1)
        · go_wp2_with (at_builtin; refine wpList_app _ rfl (.tmp 40) (.tmp 42) 23 rfl w.heap.size 3 (.int .i64 0) 1 8 Tryd.underlying23 Tryd.infoInt rfl (by omega) u5 out.length (ints out) rfl (HXA.out.alloc _) _ 1 [.int .i64 V] rfl HVW.out (by simp [Value.oneCell']) (by unfold maxLen; omega) (by omega) (by rw [World.size_alloc, zs]; omega) ?_; intro v4 w4 g4 r4 k4; have G4 := Lib.hid g4; have R4 := Lib.hid r4; have K4 := Lib.hid k4; clear g4 r4 k4)
          go_roundw
          case rel =>
            refine ⟨k + 1, popC cs m true, popM cs m true, out ++ [popV cs m true], (.slice au (popC cs m true).length cu), hlt, by go_num, ?_, ?_⟩
            · exact hI.out.pop HY.out HOK.out (by rw [HM.out]; exact hI.out.put HBW.out zr HU'.out M) (by rw [HV.out]; exact G4.out) R4.out K4.out
            · exact (((hB.out.trans (HBW.out.mono zr)).setCell (p := ⟨w3.heap.size, 0, none⟩) (by show w.heap.size ≤ w3.heap.size; omega) _).setCell (p := ⟨w3.heap.size, 1, none⟩) (by show w.heap.size ≤ w3.heap.size; omega) _).alloc (by rw [zs]; omega) _ |>.grown R4.out (by simp [zs]; omega) (fun g hg => (HXA.out.lt g hg).1)
          case measure => simp [intOf]; omega
      · obtain ⟨ok, hok⟩ : ∃ ok, pushOk cs m y true = ok := ⟨_, rfl⟩
        obtain ⟨M, hM⟩ : ∃ M, pushM cs m y true = M := ⟨_, rfl⟩
        have HOK := Lib.hid hok
        have HM := Lib.hid hM
        have h2 : (y == -2) = false := by simpa using e2
        have h1 : (y == -1) = false := by simpa using e1
        have E1 := Lib.hid e1
        have E2 := Lib.hid e2
        clear hok hM e1 e2
        go_wp2_with fail
        refine (impl_PushStack _ cs m y true _ (Gr.ints hI.out.2.2.1 rfl)).mono ?_
        rw [HOK.out, HM.out]
        rintro e w1 ⟨u', x', rfl, hu', -, -, hb⟩
        obtain ⟨au, cu, hue⟩ := hu'.lit
        subst hue
        have hR1 := hI.out.2.2.2.2.2.2.2.mono hb hI.out.2.2.2.2.2.2.2.lt
        have f0 := hR1.free 0
        have f1 := hR1.free 1
        have kb0 : w1.cell? ⟨w3.heap.size, 0, none⟩ = some u := hR1.cell rfl
        have kb1 : w1.cell? ⟨w3.heap.size, 1, none⟩ = some (.int .i64 m) := hR1.cell rfl
        have HBW := Lib.hid hb
        have HU' := Lib.hid hu'
        clear hb hu' hR1 k0 k1 hc1
        cases ok
        · go_wp2
          go_ret2
          refine run_no (run_stop (k := k + 1) ((runK_next hI.out.1 HY.out).trans (by rw [stp_push E2.out E1.out, HOK.out]; rfl)) hlt) _ (Gr.nil _ _ _ _) ?_
          exact ((hB.out.trans (HBW.out.mono zr)).setCell (p := ⟨w3.heap.size, 0, none⟩) (by show w.heap.size ≤ w3.heap.size; omega) _).setCell (p := ⟨w3.heap.size, 1, none⟩) (by show w.heap.size ≤ w3.heap.size; omega) _
        · go_wp2
          go_roundw
          case rel =>
            refine ⟨k + 1, pushC cs m y true, pushM cs m y true, out, (.slice au (pushC cs m y true).length cu), hlt, by go_num, ?_, ?_⟩
            · exact hI.out.push HY.out E2.out E1.out HOK.out (by rw [HM.out]; exact hI.out.put HBW.out zr HU'.out M)
            · exact ((hB.out.trans (HBW.out.mono zr)).setCell (p := ⟨w3.heap.size, 0, none⟩) (by show w.heap.size ≤ w3.heap.size; omega) _).setCell (p := ⟨w3.heap.size, 1, none⟩) (by show w.heap.size ≤ w3.heap.size; omega) _
          case measure => simp [intOf]; omega
    · obtain rfl : k = xs.length := by omega
      go_wp2
      go_ret2
      exact run_yes hI.out.1 hl _ hI.out.2.2.2.1 hB.out
end Go.Proofs.YtmdjkaghjljbfaaDoor
