/- the draw of memories -/
import Derived.Test.YtbnplohlfiefhaaDoorUsesDraw
import Derived.Test.YtbnplohlfiefhaaDoorReg2
namespace Go.Proofs.YtbnplohlfiefhaaDoor
open Go.RowKit
theorem memOk_of {xs ys : List Int} (hx : xs.length = 8) (hy : ys.length = 8) (h1 : ∀ x ∈ xs, -100 ≤ x ∧ x ≤ 155) (h2 : ∀ y ∈ ys, 0 ≤ y ∧ y ≤ 3) : memOk xs ys = true := by
  have hall : allM 7 (fun _ => []) (memB xs ys 8) = memB xs ys 8 := by simp [allM, tab]
  unfold memOk
  rw [hx, hy]
  simp only [decide_true, Bool.true_and]
  refine validB_iff.2 ⟨rfl, ?_, ?_, ?_, fun i _ => ⟨by simp, fun b hb => by cases hb⟩⟩
  · rw [hall]
    intro b hb
    obtain ⟨k, hk, rfl⟩ := List.mem_map.1 hb
    have hk := List.mem_range.1 hk
    have e1 : xs[k]?.getD 0 = xs[k]'(by omega) := by rw [List.getElem?_eq_getElem (by omega)]; rfl
    have e2 : ys[k]?.getD 0 = ys[k]'(by omega) := by rw [List.getElem?_eq_getElem (by omega)]; rfl
    have h3 := h1 _ (List.getElem_mem (l := xs) (n := k) (by omega))
    have h4 := h2 _ (List.getElem_mem (l := ys) (n := k) (by omega))
    unfold blkOk
    simp only [Bool.and_eq_true, inB_iff, e1, e2]
    omega
  · rw [hall]
    have : adrs (memB xs ys 8) = [0, 1, 2, 3, 4, 5, 6, 7] := by simp [adrs, memB, tab, List.range, List.range.loop]
    rw [this]; decide
  · rw [hall]; simp
theorem run_ok : ∀ (us : List (Int × Bool × Int × Int)) (ls : Nat → List (Int × Int × Int)) (vs ws : List Int), (∀ u ∈ us, useIn u = true) → RunOk ls → ∃ X vs' ws', us.foldl runStep (some (ls, vs, ws)) = some (X, vs', ws') ∧ RunOk X
  | [], ls, vs, ws, _, h => ⟨ls, vs, ws, rfl, h⟩
  | u :: us, ls, vs, ws, hu, h => by
    have h0 := hu u (.head _)
    unfold useIn at h0
    rw [Bool.and_eq_true, Bool.and_eq_true] at h0
    have hk : useOk 7 (fun i => ls (i + 2)) (ls 0) u.1 u.2.2.1 u.2.2.2 = true := by
      unfold useOk
      rw [validB_iff.2 h.valid, h0.1.1, h0.1.2, h0.2]; rfl
    rw [List.foldl_cons]
    have hs : runStep (some (ls, vs, ws)) u = some (useLs ls (blkAt (allL ls) u.1).2.2 u.1 u.2.1 u.2.2.1 u.2.2.2, vs ++ [(blkAt (allL ls) u.1).2.1], ws ++ pathL (blkAt (allL ls) u.1).2.2) := by
      unfold runStep
      simp only [hk, if_true]
    rw [hs]
    exact run_ok us _ _ _ (fun y hy => hu y (.tail _ hy)) (h.step hk)
theorem RunOk.short {X : Nat → List (Int × Int × Int)} (h : RunOk X) : (X 0).length ≤ 8 := by
  have h8 : (allL X).length = 8 := h.valid.eight
  rw [allL_eq, List.length_append] at h8
  omega
theorem MB.keptR {w w' : World} {B gx n g : Nat} {bv : Value} {vs : Nat → Value} {ls : Nat → List (Int × Int × Int)} (h : MB w B gx n bv vs ls) (hg : w.grownBy w' (some g)) (h1 : g < B) (h2 : B ≤ gx) : MB w' B gx n bv vs ls :=
  ⟨h.1.grown hg (fun e => by have := Option.some.inj e; omega), h.2.1.kept hg (fun x hx e => by cases e; have := (h.2.1.lt _ hx).1; omega), h.2.2.kept hg (fun i hi x hx e => by cases e; have := ((h.2.2 i hi).1.lt _ hx).1; omega)⟩
/-- the buckets without the first one -/
theorem memIn_drop {w : World} {B gb cb n : Nat} {sv : Value} {vs : Nat → Value} {ls : Nat → List (Int × Int × Int)} (hb : Gr w B 27 1 (.slice (some ⟨gb, 0, none⟩) (n + 1) cb) (n + 1) (tab (n + 1) fun i => vs (i + 2))) (hf : Fam w B (n + 3) vs ls) (hn : 0 < n) (hs : Blks w sv (ls 0)) :
    MemIn w (.agg #[.slice (some ⟨gb, 1, none⟩) n (cb - 1), sv]) n (fun i => ls (i + 3)) (ls 0) := by
  refine ⟨_, _, rfl, ⟨fun i => vs (i + 3), ?_, fun i hi => (hf (i + 3) (by omega)).1.view⟩, hs⟩
  obtain ⟨_, _, hv, _, hc, hm, _, hcell, _⟩ := hb.at (by omega)
  cases hv
  refine ⟨by simp [tab], by unfold maxLen at hm ⊢; omega, .inr ⟨by omega, gb, 1, _, rfl, by omega, fun i u hu => ?_⟩⟩
  have hi : i < n := by
    have := (List.getElem?_eq_some_iff.1 hu).1
    simpa [tab] using this
  rw [tab_get (fun i => vs (i + 3)) hi] at hu
  cases hu
  rw [Nat.add_comm 1 i]
  exact hcell (i + 1) _ (tab_get (fun i => vs (i + 2)) (by omega))
/-- a memory of the call's own, or one without its first bucket -/
def MemK (w : World) (B : Nat) (v : Value) (n : Nat) (f : Nat → List (Int × Int × Int)) (st : List (Int × Int × Int)) : Prop :=
  (∃ ls, MO w B v n ls ∧ f = (fun i => ls (i + 2)) ∧ st = ls 0) ∨
  ∃ gb cb vs ls, v = .agg #[.slice (some ⟨gb, 1, none⟩) 6 (cb - 1), vs 0] ∧ n = 6 ∧ f = (fun i => ls (i + 3)) ∧ st = ls 0 ∧ Gr w B 27 1 (.slice (some ⟨gb, 0, none⟩) 7 cb) 7 (tab 7 fun i => vs (i + 2)) ∧ Fam w B 9 vs ls
theorem MemK.kept {w w' : World} {B n g : Nat} {v : Value} {f : Nat → List (Int × Int × Int)} {st : List (Int × Int × Int)} (h : MemK w B v n f st) (hg : w.grownBy w' (some g)) (hB : g < B) : MemK w' B v n f st := by
  rcases h with ⟨ls, h, rfl, rfl⟩ | ⟨gb, cb, vs, ls, rfl, rfl, rfl, rfl, h1, h2⟩
  · exact .inl ⟨ls, h.kept hg hB, rfl, rfl⟩
  · exact .inr ⟨gb, cb, vs, ls, rfl, rfl, rfl, rfl, h1.kept hg (fun x hx e => by cases e; have := (h1.lt _ hx).1; omega), h2.kept hg (fun i hi x hx e => by cases e; have := ((h2 i hi).1.lt _ hx).1; omega)⟩
theorem MemK.mono {w w' : World} {B n : Nat} {v : Value} {f : Nat → List (Int × Int × Int)} {st : List (Int × Int × Int)} (h : MemK w B v n f st) {B' : Nat} (hb : Below B' w w') (hB : w.heap.size ≤ B') : MemK w' B v n f st := by
  rcases h with ⟨ls, h, rfl, rfl⟩ | ⟨gb, cb, vs, ls, rfl, rfl, rfl, rfl, h1, h2⟩
  · exact .inl ⟨ls, h.mono hb hB, rfl, rfl⟩
  · exact .inr ⟨gb, cb, vs, ls, rfl, rfl, rfl, rfl, h1.mono hb hB, h2.mono hb hB⟩
theorem MemK.low {w : World} {B B' n : Nat} {v : Value} {f : Nat → List (Int × Int × Int)} {st : List (Int × Int × Int)} (h : MemK w B v n f st) (hb : B' ≤ B) : MemK w B' v n f st := by
  rcases h with ⟨ls, h, rfl, rfl⟩ | ⟨gb, cb, vs, ls, rfl, rfl, rfl, rfl, h1, h2⟩
  · exact .inl ⟨ls, h.low hb, rfl, rfl⟩
  · exact .inr ⟨gb, cb, vs, ls, rfl, rfl, rfl, rfl, h1.low hb, h2.low hb⟩
theorem MemK.view {w : World} {B n : Nat} {v : Value} {f : Nat → List (Int × Int × Int)} {st : List (Int × Int × Int)} (h : MemK w B v n f st) : MemIn w v n f st := by
  rcases h with ⟨ls, h, rfl, rfl⟩ | ⟨gb, cb, vs, ls, rfl, rfl, rfl, rfl, h1, h2⟩
  · exact h.view
  · exact memIn_drop h1 h2 (by omega) (h2 0 (by omega)).1.view
def MemDrawn (R : Nat) (v : Value) (bs : List Int) (p : Nat) (w : World) (e : Ending) (w' : World) : Prop :=
  ∃ a c a' c' n f st p', e = .returned (.agg #[.slice a n c, .slice a' st.length c']) ∧ MemK w' w.heap.size (.agg #[.slice a n c, .slice a' st.length c']) n f st ∧ n ≤ 7 ∧ Small n f st ∧ p ≤ p' ∧ p' ≤ p + 100 ∧ Rd w' R v bs ((p' : Nat) : Int) ∧ w.grownBy w' (some R)
set_option maxRecDepth 20000 in
set_option maxHeartbeats 4000000 in
theorem mem_any (R : Nat) (v : Value) (bs : List Int) (m : Int) (p : Nat) (w : World) (h : Rd w R v bs p) (hp : p ≤ 1000000) (hm : m ≤ 100000) (hm2 : -100000 ≤ m) :
    Calls Tryd.prog 42 #[.pointer (some ⟨R, 0, none⟩), .int .i64 m] w (MemDrawn R v bs p w) := by
  obtain ⟨lowR, lowV⟩ := h.low
  have H := Lib.hid h
  have LV := Lib.hid lowV
  clear h lowV
  obtain ⟨W1, hW1⟩ : ∃ W1, W1 = w.alloc (.cells #[.slice none 0 0, .slice none 0 0] 29) := ⟨_, rfl⟩
  have HW1 := Lib.hid hW1
  have HB1 : Hid (Below w.heap.size w W1) := by rw [hW1]; exact (Below.refl _ _).alloc (Nat.le_refl _) _
  have HR1 : Hid (Row W1 w.heap.size 29 [.slice none 0 0, .slice none 0 0]) := by rw [hW1]; exact Row.new w 29 [.slice none 0 0, .slice none 0 0]
  have hz1 : W1.heap.size = w.heap.size + 1 := by rw [hW1]; simp
  clear hW1
  go_enter Tryd.func42, Tryd.ntmps42
  have hb2 := ((Below.refl w.heap.size W1).alloc (by omega) (.cells #[] 3)).alloc (by simp; omega) (.cells #[] 3)
  have HR2 := Lib.hid ((H.out.below HB1.out lowR LV.out).below hb2 lowR LV.out)
  have HW2 := Lib.hid (grown_below (grown_refl W1 (some R)) (((Below.refl W1.heap.size W1).alloc (Nat.le_refl _) (.cells #[] 3)).alloc (by simp) (.cells #[] 3)))
  clear hb2 H
  go_wp2
  rw [← HW1.out]
  obtain ⟨g4, hg4⟩ : ∃ g4, w.heap.size = g4 := ⟨_, rfl⟩
  rw [hg4] at HR1 HB1 lowR LV hz1
  try rw [hg4]
  have HG4 := Lib.hid hg4
  clear hg4 HW1
  go_loopg [5, 6, 7] 8 (fun gg u y i wr => ∃ (k p' : Nat) (xs ys : List Int), k ≤ 8 ∧ 8 - k ≤ gg ∧ i = .int .i64 k ∧ xs.length = k ∧ ys.length = k ∧ p ≤ p' ∧ p' ≤ p + 2 * k ∧ Hid (∀ x ∈ xs, -100 ≤ x ∧ x ≤ 155) ∧ Hid (∀ y ∈ ys, 0 ≤ y ∧ y ≤ 3) ∧ Hid (Gr wr W1.heap.size 3 1 u k (ints xs)) ∧ Hid (Gr wr W1.heap.size 3 1 y k (ints ys)) ∧ Hid (∀ g, gBlock u = some g → gBlock y ≠ some g) ∧ Hid (Rd wr R v bs ((p' : Nat) : Int)) ∧ Hid (W1.grownBy wr (some R)))
  case atStart => exact ⟨0, p, [], [], by omega, Nat.le_refl _, rfl, rfl, rfl, Nat.le_refl _, by omega, (fun x hx => by cases hx), (fun x hx => by cases hx), Gr.none0 _ _ _ _ _, Gr.none0 _ _ _ _ _, (fun g hg => by simp [gBlock] at hg), HR2.out, HW2.out⟩
  case round =>
    clear HR2 HW2
    obtain ⟨k, p', xs, ys, hk, hgg, rfl, hxl, hyl, hp1, hp2, hXI, hYI, hG, hY, hD, hR, hW⟩ := hrel
    have HXL := Lib.hid hxl
    have HYL := Lib.hid hyl
    clear hxl hyl
    obtain ⟨au, cu, hu⟩ := hG.out.lit
    obtain ⟨ay, cy, hy⟩ := hY.out.lit
    subst hu hy
    have zr : W1.heap.size ≤ wr.heap.size := hW.out.size
    by_cases hlt : k < 8
    · go_wp2_with fail
      refine (pick_nat R v bs 256 p' _ hR.out (by omega) (by omega)).mono ?_
      rintro e w2 ⟨x, rfl, hx, hr, hg⟩
      have R2 := Lib.hid hr
      have W2 := Lib.hid (grown_trans hW.out hg)
      have G2 := Lib.hid (hG.out.kept hg (fun g hg he => by have := (hG.out.lt g hg).1; cases he; omega))
      have Y2 := Lib.hid (hY.out.kept hg (fun g hg he => by have := (hY.out.lt g hg).1; cases he; omega))
      have z2 : W1.heap.size ≤ w2.heap.size := W2.out.size
      have hwr : IntKind.i64.wrap ((x : Int) - 100) = (x : Int) - 100 := IntWalk.i64_in _ ⟨by omega, by omega⟩
      clear hr hg hG hY hR hW
      go_wp2_with (at_builtin; refine wpList_app _ rfl (.tmp 18) (.tmp 22) 23 rfl W1.heap.size 3 (.int .i64 0) 1 8 Tryd.underlying23 Tryd.infoInt rfl (by omega) (.slice au k cu) k (ints xs) rfl (G2.out.alloc _) _ 1 [.int .i64 ((x : Int) - 100)] rfl (view_one _ _ _) (by simp [Value.oneCell']) (by unfold maxLen; omega) (by omega) (by simp; omega) ?_; intro v5 w5 g5 r5 k5; have G5 := Lib.hid g5; have R5 := Lib.hid r5; have K5 := Lib.hid k5; clear g5 r5 k5)
      have hb5 : Below W1.heap.size w2 w5 := ((Below.refl _ _).alloc z2 _).grown R5.out (by simp; omega) (fun g hg => (G2.out.lt g hg).1)
      have R5' := Lib.hid (R2.out.below hb5 (by omega) (fun h0 g hg => by have := LV.out h0 g hg; omega))
      have W5 := Lib.hid (grown_below W2.out hb5)
      have Y5 : Hid (Gr w5 W1.heap.size 3 1 (.slice ay k cy) k (ints ys)) := (Y2.out.alloc _).kept R5.out (fun g hg he => hD.out g he hg)
      have D5 : Hid (∀ g, gBlock v5 = some g → gBlock (.slice ay k cy) ≠ some g) := fun g hg he => by
        rcases K5.out with e | e
        · exact hD.out g (e ▸ hg) he
        · rw [e] at hg
          have := (Y2.out.lt g he).2
          cases hg
          rw [World.size_alloc] at this
          omega
      have z5 : W1.heap.size ≤ w5.heap.size := W5.out.size
      clear hb5 R5 K5 G2 Y2 W2 R2 hD hwr
      refine (pick_nat R v bs 4 (p' + 1) _ R5'.out (by omega) (by omega)).mono ?_
      rintro e w6 ⟨x2, rfl, hx2, hr, hg⟩
      have R6 := Lib.hid hr
      have W6 := Lib.hid (grown_trans W5.out hg)
      have G6 := Lib.hid (G5.out.kept hg (fun g hg he => by have := (G5.out.lt g hg).1; cases he; omega))
      have Y6 := Lib.hid (Y5.out.kept hg (fun g hg he => by have := (Y5.out.lt g hg).1; cases he; omega))
      have z6 : W1.heap.size ≤ w6.heap.size := W6.out.size
      clear hr hg G5 Y5 R5' W5
      go_wp2_with (at_builtin; refine wpList_app _ rfl (.tmp 24) (.tmp 27) 23 rfl W1.heap.size 3 (.int .i64 0) 1 8 Tryd.underlying23 Tryd.infoInt rfl (by omega) (.slice ay k cy) k (ints ys) rfl (Y6.out.alloc _) _ 1 [.int .i64 (x2 : Int)] rfl (view_one _ _ _) (by simp [Value.oneCell']) (by unfold maxLen; omega) (by omega) (by simp; omega) ?_; intro v7 w7 g7 r7 k7; have G7 := Lib.hid g7; have R7 := Lib.hid r7; have K7 := Lib.hid k7; clear g7 r7 k7)
      go_roundg (8 - (k + 1))
      case rel =>
        have hb7 : Below W1.heap.size w6 w7 := ((Below.refl _ _).alloc z6 _).grown R7.out (by simp; omega) (fun g hg => (Y6.out.lt g hg).1)
        refine ⟨k + 1, p' + 1 + 1, xs ++ [(x : Int) - 100], ys ++ [(x2 : Int)], by omega, Nat.le_refl _, by go_num, by rw [List.length_append, HXL.out]; rfl, by rw [List.length_append, HYL.out]; rfl, by omega, by omega, ?_, ?_, ?_, ?_, ?_, R6.out.below hb7 (by omega) (fun h0 g hg => by have := LV.out h0 g hg; omega), grown_below W6.out hb7⟩
        · intro z hz
          rcases List.mem_append.1 hz with hz | hz
          · exact hXI.out z hz
          · obtain rfl : z = _ := List.mem_singleton.1 hz
            omega
        · intro z hz
          rcases List.mem_append.1 hz with hz | hz
          · exact hYI.out z hz
          · obtain rfl : z = _ := List.mem_singleton.1 hz
            omega
        · have := (G6.out.alloc (.cells #[.int .i64 (x2 : Int)] 3)).kept R7.out (fun g hg he => D5.out g hg he)
          simpa [Hid, ints] using this
        · have := G7.out
          simpa [Hid, ints] using this
        · intro g hg he
          rcases K7.out with e | e
          · exact D5.out g hg (e ▸ he)
          · rw [e] at he
            have := (G6.out.lt g hg).2
            cases he
            rw [World.size_alloc] at this
            omega
      case measure => omega
    · obtain rfl : k = 8 := by omega
      have hok := memOk_of HXL.out HYL.out hXI.out hYI.out
      have hc : Calls Tryd.prog 12 #[.slice au 8 cu, .slice ay 8 cy] wr (MemoPost 7 (memLs xs ys 8) wr) := by
        have := spec_MemoryOf _ _ xs ys wr (Gr.ints hG.out HXL.out.symm) (Gr.ints hY.out HYL.out.symm) (by rw [HXL.out]; omega)
        rwa [hok] at this
      have HC := Lib.hid hc
      have HRO0 : Hid (RunOk (memLs xs ys 8)) := by
        have h1 := RunOk.start (f := fun _ => []) (st := memB xs ys 8) (by unfold memOk at hok; rw [Bool.and_eq_true, Bool.and_eq_true] at hok; exact hok.2)
        rwa [← memLs_eq] at h1
      clear hok hc hG hY hD hXI hYI HXL HYL
      go_wp2_with fail
      refine HC.out.mono ?_
      clear HC
      rintro e w2 ⟨mv, rfl, hmo, hb⟩
      have R2 := Lib.hid (hR.out.below hb (by omega) (fun h0 g hg => by have := LV.out h0 g hg; omega))
      have W2 := Lib.hid (grown_below hW.out (hb.mono zr))
      have zr2 : wr.heap.size ≤ w2.heap.size := hb.size
      have HMO := Lib.hid hmo
      clear hb hmo hR hW
      go_wp2_with fail
      refine (uses_any R v bs 0 p' w2 R2.out (by omega) (by omega) (by omega)).mono ?_
      rintro e w3 ⟨u, us, p3, rfl, hGu, hul, hin, hq1, hq2, hr, hg⟩
      have R3 := Lib.hid hr
      have W3 := Lib.hid (grown_trans W2.out hg)
      have HMO3 := Lib.hid (HMO.out.kept hg (by omega))
      have HUS : Hid (Uses w3 u us) := hGu.view
      obtain ⟨X, vs', ws', hrun, hro⟩ := run_ok us (memLs xs ys 8) [] [] (hin (Int.le_refl _)) HRO0.out
      have hrl : runL 7 (fun i => memLs xs ys 8 (i + 2)) (memLs xs ys 8 0) us = some (X, vs', ws') := by
        unfold runL
        rw [validB_iff.2 HRO0.out.valid, decide_eq_true (show us.length ≤ 40 by omega), HRO0.out.ls]
        exact hrun
      have hc := spec_Run mv u 7 _ _ us w3 HMO3.out.view (small_valid HRO0.out.valid) HUS.out (by omega)
      rw [hrl] at hc
      have HC := Lib.hid hc
      have HRO := Lib.hid hro
      have zr3 : w2.heap.size ≤ w3.heap.size := hg.size
      clear hGu hul hin hr hg hrun hrl hc hro R2 W2 HMO HMO3 HUS HRO0
      go_wp2_with fail
      refine HC.out.mono ?_
      clear HC
      rintro e w4 ⟨mv2, u1, u2, rfl, hmo, -, -, hb⟩
      obtain ⟨bv, vs, rfl, hbv, hfam⟩ := hmo
      obtain ⟨gb, cb, hbvv, -, -, -, -, -, -⟩ := hbv.at (show 0 < 7 by omega)
      obtain ⟨a0, c0, hv0⟩ := (hfam 0 (by omega)).1.lit
      have hba : Below w4.heap.size w4 (w4.alloc (.cells #[.slice (some ⟨gb, 0, none⟩) 7 cb, .slice a0 (X 0).length c0] 29)) := (Below.refl _ _).alloc (Nat.le_refl _) _
      have z34 : w3.heap.size ≤ w4.heap.size := hb.size
      have HMB : Hid (MB (w4.alloc (.cells #[.slice (some ⟨gb, 0, none⟩) 7 cb, .slice a0 (X 0).length c0] 29)) w3.heap.size w4.heap.size 7 (.slice (some ⟨gb, 0, none⟩) 7 cb) vs X) := by
        refine ⟨?_, ?_, hfam.mono hba (Nat.le_refl _)⟩
        · rw [hv0]; exact Row.new w4 29 [.slice (some ⟨gb, 0, none⟩) 7 cb, .slice a0 (X 0).length c0]
        · have h' := hbv
          rw [hbvv] at h'
          exact h'.mono hba (Nat.le_refl _)
      have hbb : Below w3.heap.size w3 (w4.alloc (.cells #[.slice (some ⟨gb, 0, none⟩) 7 cb, .slice a0 (X 0).length c0] 29)) := hb.trans (hba.mono z34)
      have HV0 := Lib.hid hv0
      have z13 : W1.heap.size ≤ w3.heap.size := W3.out.size
      have R5 := Lib.hid (R3.out.below hbb (by omega) (fun h0 g hg => by have := LV.out h0 g hg; omega))
      have W5 := Lib.hid (grown_below W3.out (hbb.mono z13))
      rw [hbvv, hv0]
      obtain ⟨B, hB⟩ : ∃ B, w3.heap.size = B := ⟨_, rfl⟩
      obtain ⟨gx, hgx⟩ : ∃ gx, w4.heap.size = gx := ⟨_, rfl⟩
      have hBx : Hid (B ≤ gx ∧ W1.heap.size ≤ B) := ⟨by omega, by omega⟩
      rw [hB, hgx] at HMB
      clear hb hbv hfam hbvv hv0 hba hbb z34 R3 W3 z13 zr2 zr3 hB
      go_wp2_with fail
      try rw [hgx]
      generalize (w4.alloc (.cells #[.slice (some ⟨gb, 0, none⟩) 7 cb, .slice a0 (X 0).length c0] 29)) = W at HMB R5 W5 ⊢
      clear hgx
      have HFIN : Hid (∀ (a : Option Addr) (c : Nat) (a' : Option Addr) (c' n m' : Nat) (f : Nat → List (Int × Int × Int)) (st : List (Int × Int × Int)) (p' : Nat) (Wf : World), st.length = m' → n ≤ 7 → Small n f st → MemK Wf B (.agg #[.slice a n c, .slice a' m' c']) n f st → p ≤ p' → p' ≤ p + 100 → Rd Wf R v bs ((p' : Nat) : Int) → W1.grownBy Wf (some R) →
          MemDrawn R v bs p w (.returned (.agg #[.slice a n c, .slice a' m' c'])) ((Wf.setCell ⟨g4, 0, none⟩ (.slice a n c)).setCell ⟨g4, 1, none⟩ (.slice a' m' c'))) := by
        intro a c a' c' n m' f st p' Wf hst hn hs hmi q1 q2 hrd hgw
        subst hst
        have hgB : g4 < B := by have h2 := hBx.out.2; omega
        have hwB : w.heap.size ≤ B := by have h1 : w.heap.size = g4 := HG4.out; omega
        have hsb : Below g4 Wf ((Wf.setCell ⟨g4, 0, none⟩ (.slice a n c)).setCell ⟨g4, 1, none⟩ (.slice a' st.length c')) := ((Below.refl g4 Wf).setCell (p := ⟨g4, 0, none⟩) (Nat.le_refl _) _).setCell (p := ⟨g4, 1, none⟩) (Nat.le_refl _) _
        refine ⟨a, c, a', c', n, f, st, p', rfl, (hmi.kept (grown_set (set_other Wf ⟨g4, 0, none⟩ _ rfl) _ _) hgB).low hwB, hn, hs, q1, q2, hrd.below hsb lowR LV.out, ?_⟩
        exact grown_below (grown_trans (grown_below (grown_refl w (some R)) (by rw [HG4.out]; exact HB1.out)) hgw) (by rw [HG4.out]; exact hsb)
      have HROWF : Hid (∀ Wf, W1.grownBy Wf (some R) → Row Wf g4 29 [.slice none 0 0, .slice none 0 0]) := fun Wf hg => HR1.out.grown hg (fun e => by have := Option.some.inj e; omega)
      have HSML : Hid (Small 7 (fun i => X (i + 2)) (X 0)) := small_valid HRO.out.valid
      have HG4B : Hid (g4 < B ∧ R < B) := ⟨by have := hBx.out.2; omega, by have := hBx.out.2; omega⟩
      refine (odd_any R v bs m p3 W R5.out (by omega) (by omega)).mono ?_
      rintro e w6 ⟨t, p6, rfl, hq3, hq4, hr, hg, -⟩
      have R6 := Lib.hid hr
      have W6 := Lib.hid (grown_trans W5.out hg)
      have M6 := Lib.hid (HMB.out.keptR hg HG4B.out.2 hBx.out.1)
      clear hr hg R5 W5 HMB
      obtain ⟨m0, hm0⟩ : ∃ m0, (X 0).length = m0 := ⟨_, rfl⟩
      have HM0 := Lib.hid hm0
      have HV1 : Hid (vs 0 = .slice a0 m0 c0) := by rw [← hm0]; exact HV0.out
      rw [hm0]
      clear hm0
      cases t
      · have hrow := M6.out.1
        rw [HV1.out] at hrow
        have x0 := hrow.cell (i := 0) rfl
        have x1 := hrow.cell (i := 1) rfl
        have HRF := Lib.hid (HROWF.out _ W6.out)
        have y0 := HRF.out.cell (i := 0) rfl
        have y1 := HRF.out.cell (i := 1) rfl
        have z0 := HRF.out.free 0
        have z1 := HRF.out.free 1
        clear hrow
        go_wp2_with fail
        have hrow := (HRF.out.set 0 (.slice (some ⟨gb, 0, none⟩) 7 cb)).set 1 (.slice a0 m0 c0)
        have f0 := hrow.cell (i := 0) rfl
        have f1 := hrow.cell (i := 1) rfl
        refine bodyPost_ret (v := .agg #[.slice (some ⟨gb, 0, none⟩) 7 cb, .slice a0 m0 c0]) (by simp [results, Tryd.results42, go_sem, f0, f1]) rfl ?_
        refine HFIN.out _ _ _ _ 7 _ (fun i => X (i + 2)) (X 0) p6 _ HM0.out (Nat.le_refl _) HSML.out (.inl ⟨X, ?_, rfl, rfl⟩) (by omega) (by omega) R6.out W6.out
        have : MO w6 B (.agg #[.slice (some ⟨gb, 0, none⟩) 7 cb, vs 0]) 7 X := ⟨_, vs, rfl, M6.out.2.1, M6.out.2.2⟩
        rwa [HV1.out] at this
      · go_wp2_with fail
        refine (pick_nat R v bs 5 p6 w6 R6.out (by omega) (by omega)).mono ?_
        rintro e w7 ⟨y, rfl, hy, hr, hg⟩
        have R7 := Lib.hid hr
        have W7 := Lib.hid (grown_trans W6.out hg)
        have M7 := Lib.hid (M6.out.keptR hg HG4B.out.2 hBx.out.1)
        clear hr hg R6 W6 M6
        have hrow := M7.out.1
        rw [HV1.out] at hrow
        have x0 := hrow.cell (i := 0) rfl
        have x1 := hrow.cell (i := 1) rfl
        have xf0 := hrow.free 0
        have xf1 := hrow.free 1
        have HXR := Lib.hid hrow
        clear hrow
        have hy5 : y = 0 ∨ y = 1 ∨ y = 2 ∨ y = 3 ∨ y = 4 := by omega
        clear hy
        rcases hy5 with rfl | rfl | rfl | rfl | rfl
        · obtain ⟨_, _, hv, -, hc7, -, -, -, -⟩ := M7.out.2.1.at (show 0 < 7 by omega)
          cases hv
          have hcn : ¬ cb = 1 := by omega
          have hcu : 1 ≤ cb := by omega
          have hs8 : w7.grownBy (w7.setCell ⟨gx, 0, none⟩ (.slice (some ⟨gb, 1, none⟩) 6 (cb - 1))) (some gx) := set_other w7 ⟨gx, 0, none⟩ _ rfl
          have HBV8 : Hid (Gr (w7.setCell ⟨gx, 0, none⟩ (.slice (some ⟨gb, 1, none⟩) 6 (cb - 1))) B 27 1 (.slice (some ⟨gb, 0, none⟩) 7 cb) 7 (tab 7 fun i => vs (i + 2))) := M7.out.2.1.kept hs8 (fun g hg he => by cases he; exact M7.out.nexb _ hg rfl)
          have HF8 : Hid (Fam (w7.setCell ⟨gx, 0, none⟩ (.slice (some ⟨gb, 1, none⟩) 6 (cb - 1))) B 9 vs X) := M7.out.2.2.kept hs8 (fun i hi g hg he => by cases he; exact M7.out.nex (i := i) (by omega) _ hg rfl)
          have hr8 := HXR.out.set 0 (.slice (some ⟨gb, 1, none⟩) 6 (cb - 1))
          have HR8 := Lib.hid hr8
          have W8 : Hid (W1.grownBy (w7.setCell ⟨gx, 0, none⟩ (.slice (some ⟨gb, 1, none⟩) 6 (cb - 1))) (some R)) := grown_below W7.out ((Below.refl W1.heap.size w7).setCell (p := ⟨gx, 0, none⟩) (by show W1.heap.size ≤ gx; have := hBx.out; omega) _)
          have R8 := Lib.hid (R7.out.below ((Below.refl g4 w7).setCell (p := ⟨gx, 0, none⟩) (by show g4 ≤ gx; have := hBx.out; omega) (.slice (some ⟨gb, 1, none⟩) 6 (cb - 1))) lowR LV.out)
          have x0' := hr8.cell (i := 0) rfl
          have x1' := hr8.cell (i := 1) rfl
          have HRF := Lib.hid (HROWF.out _ W8.out)
          have y0 := HRF.out.cell (i := 0) rfl
          have y1 := HRF.out.cell (i := 1) rfl
          have z0 := HRF.out.free 0
          have z1 := HRF.out.free 1
          clear hr8 hs8 hc7
          go_wp2_with fail
          have hrow := (HRF.out.set 0 (.slice (some ⟨gb, 1, none⟩) 6 (cb - 1))).set 1 (.slice a0 m0 c0)
          have f0 := hrow.cell (i := 0) rfl
          have f1 := hrow.cell (i := 1) rfl
          refine bodyPost_ret (v := .agg #[.slice (some ⟨gb, 1, none⟩) 6 (cb - 1), .slice a0 m0 c0]) (by simp [results, Tryd.results42, go_sem, f0, f1]) rfl ?_
          refine HFIN.out _ _ _ _ 6 _ (fun i => X (i + 3)) (X 0) (p6 + 1) _ HM0.out (by omega) ⟨by omega, HSML.out.2.1, fun i hi => HSML.out.2.2 (i + 1) (by omega)⟩ (.inr ⟨gb, cb, vs, X, by rw [HV1.out], rfl, rfl, rfl, HBV8.out, HF8.out⟩) (by omega) (by omega) R8.out W8.out
        -- arms
        · have hBs : B ≤ w7.heap.size := Nat.le_trans hBx.out.1 (Nat.le_of_lt HXR.out.lt)
          have HX8 : Hid (m0 ≤ 8) := by rw [← HM0.out]; exact HRO.out.short
          go_wp2_with fail
          go_region_law (first
            | (go_simp
               go_at_call 27
               refine (pick_nat R v bs 9 (p6 + 1) w7.drew (R7.out.below ((Below.refl g4 w7).drew) lowR LV.out) (by omega) (by omega)).mono ?_
               rintro e w8 ⟨q, rfl, hq, hr, hg⟩
               have hg' : w7.grownBy w8 (some R) := grown_drew hg
               have R8 := Lib.hid hr
               have W8 := Lib.hid (grown_trans W7.out hg')
               have M8 := Lib.hid (M7.out.keptR hg' HG4B.out.2 hBx.out.1)
               have hrw := M8.out.1
               rw [HV1.out] at hrw
               have k0 := hrw.cell (i := 0) rfl
               have k1 := hrw.cell (i := 1) rfl
               have hBs8 : B ≤ w8.heap.size := Nat.le_trans hBs hg'.size
               have MA := Lib.hid (M8.out.alloc (.cells #[.int .i64 q, .int .i64 0, .int .i64 0] 56))
               have hG8 := Lib.hid (MA.out.2.2 0 (by omega)).1
               rw [HV1.out, HM0.out] at hG8
               have hrwa := MA.out.1
               rw [HV1.out] at hrwa
               have k1a := hrwa.cell (i := 1) rfl
               clear hr hg hg' hrw hrwa)
            | (refine step_app _ rfl (.tmp 55) (.tmp 59) 27 rfl B 56 (.agg #[.int .i64 0, .int .i64 0, .int .i64 0]) 3 24 Tryd.underlying27 Tryd.infoBlk rfl (by omega) (.slice a0 m0 c0) m0 (blks (X 0)) rfl hG8.out _ 1 (blks [((q : Int), 0, 0)]) rfl (view_blk w8 ((q : Int), 0, 0)) (one_blks _) (by have := HX8.out; unfold maxLen; omega) (by have := HX8.out; omega) (by rw [World.size_alloc]; omega) ?_
               intro v9 w9 g1 r9 k9
               have G9 : Gr w9 B 56 3 v9 (X 0 ++ [((q : Int), 0, 0)]).length (blks (X 0 ++ [((q : Int), 0, 0)])) := by rw [List.length_append, HM0.out, blks_append]; exact g1
               rw [← HV1.out] at r9 k9
               have hap := MA.out.app (j := 0) (by omega) G9 r9 k9
               have M9 := Lib.hid (MB.stash hap.1 hap.2.1 hap.2.2)
               have W9 : Hid (W1.grownBy (w9.setCell ⟨gx, 1, none⟩ v9) (some R)) := grown_below W8.out ((((Below.refl W1.heap.size w8).alloc (by have := hBx.out; omega) _).grown r9 (by rw [World.size_alloc]; have := hBx.out; omega) (fun g hg => by have := ((MA.out.2.2 0 (by omega)).1.lt g hg).1; have := hBx.out; omega)).setCell (p := ⟨gx, 1, none⟩) (by show W1.heap.size ≤ gx; have := hBx.out; omega) _)
               have R9 : Hid (Rd (w9.setCell ⟨gx, 1, none⟩ v9) R v bs ((p6 + 1 + 1 : Nat) : Int)) := R8.out.below ((((Below.refl g4 w8).alloc (by have := hBx.out; omega) _).grown r9 (by rw [World.size_alloc]; have := hBx.out; omega) (fun g hg => by have := ((MA.out.2.2 0 (by omega)).1.lt g hg).1; have := hBx.out; omega)).setCell (p := ⟨gx, 1, none⟩) (by show g4 ≤ gx; have := hBx.out; omega) _) lowR LV.out
               obtain ⟨a9, c9, hv9⟩ := g1.lit
               subst hv9
               have s0 := hap.1.cell (i := 0) rfl
               have s1 := hap.1.cell (i := 1) rfl
               have sf := hap.1.free 1
               have sr0 := M9.out.1.cell (i := 0) rfl
               have sr1 : (w9.setCell ⟨gx, 1, none⟩ (.slice a9 (m0 + 1) c9)).cell? ⟨gx, 1, none⟩ = some (.slice a9 (m0 + 1) c9) := (M9.out.1.cell (i := 1) rfl)
               clear g1 r9 k9 hap))
          all_goals
            clear x0 x1 xf0 xf1 s0 s1 sf
            try clear k0 k1 k1a
            go_simp
            have HRF := Lib.hid (HROWF.out _ W9.out)
            have y0 := HRF.out.cell (i := 0) rfl
            have y1 := HRF.out.cell (i := 1) rfl
            have z0 := HRF.out.free 0
            have z1 := HRF.out.free 1
            go_wp2_with fail
            have hrow := (HRF.out.set 0 (.slice (some ⟨gb, 0, none⟩) 7 cb)).set 1 (.slice a9 (m0 + 1) c9)
            have f0 := hrow.cell (i := 0) rfl
            have f1 := hrow.cell (i := 1) rfl
            refine bodyPost_ret (v := .agg #[.slice (some ⟨gb, 0, none⟩) 7 cb, .slice a9 (m0 + 1) c9]) (by simp [results, Tryd.results42, go_sem, f0, f1]) rfl ?_
            refine HFIN.out _ _ _ _ 7 _ (fun i => upd X 0 (X 0 ++ [((q : Int), 0, 0)]) (i + 2)) (X 0 ++ [((q : Int), 0, 0)]) (p6 + 1 + 1) _ (by rw [List.length_append, HM0.out]; rfl) (by omega) ⟨by omega, by rw [List.length_append, HM0.out]; have := HX8.out; simp; omega, fun i hi => by show (upd X 0 _ (i + 2)).length ≤ 100; rw [upd_other _ _ (by omega)]; exact HSML.out.2.2 i hi⟩ ?_ (by omega) (by omega) R9.out W9.out
            refine .inl ⟨upd X 0 (X 0 ++ [((q : Int), 0, 0)]), ?_, rfl, (upd_same _ _ _).symm⟩
            have : MO _ B _ 7 _ := ⟨_, _, rfl, M9.out.2.1, M9.out.2.2⟩
            rwa [upd_same] at this
        · have hBs : B ≤ w7.heap.size := Nat.le_trans hBx.out.1 (Nat.le_of_lt HXR.out.lt)
          have HPK : Hid (∀ W' p', Rd W' R v bs ((p' : Nat) : Int) → p' ≤ 1000000000000 → Calls Tryd.prog 27 #[.pointer (some ⟨R, 0, none⟩), .int .i64 7] W' (PickN 7 R v bs p' W')) := fun W' p' hr h9 => pick_nat R v bs 7 p' W' hr h9 (by omega)
          have HRA : Hid (Rd w7.drew R v bs ((p6 + 1 : Nat) : Int)) := R7.out.below ((Below.refl g4 w7).drew) lowR LV.out
          have HRB : Hid (Rd (w7.alloc (.cells #[.int .i64 0, .int .i64 0, .int .i64 0, .int .i64 0, .int .i64 0, .int .i64 0, .int .i64 0, .int .i64 0, .int .i64 0] 56)).drew R v bs ((p6 + 1 : Nat) : Int)) := R7.out.below (((Below.refl g4 w7).alloc (by have := hBx.out; omega) (.cells #[.int .i64 0, .int .i64 0, .int .i64 0, .int .i64 0, .int .i64 0, .int .i64 0, .int .i64 0, .int .i64 0, .int .i64 0] 56)).drew) lowR LV.out
          have x0a := (HXR.out.alloc (.cells #[.int .i64 0, .int .i64 0, .int .i64 0, .int .i64 0, .int .i64 0, .int .i64 0, .int .i64 0, .int .i64 0, .int .i64 0] 56)).cell (i := 0) rfl
          go_wp2_with fail
          go_region_law (first
            | (go_simp
               go_at_call 27
               with_reducible refine (HPK.out _ (p6 + 1) HRA.out (by omega)).mono ?_
               rintro e w8 ⟨q, rfl, hq, hr, hg⟩
               have hqz : (q : Int) < 7 := by omega
               have hg' : w7.grownBy w8 (some R) := grown_drew hg
               have hBs8 : B ≤ w8.heap.size := Nat.le_trans hBs hg'.size
               have M8 := M7.out.keptR hg' HG4B.out.2 hBx.out.1
               have hrw := M8.1
               rw [HV1.out] at hrw
               have k0 := hrw.cell (i := 0) rfl
               have hrwa := hrw.alloc (.cells #[.int .i64 0, .int .i64 0, .int .i64 0, .int .i64 0, .int .i64 0, .int .i64 0, .int .i64 0, .int .i64 0, .int .i64 0] 56)
               have k0a := hrwa.cell (i := 0) rfl
               have hGn : Gr (w8.alloc (.cells #[.int .i64 0, .int .i64 0, .int .i64 0, .int .i64 0, .int .i64 0, .int .i64 0, .int .i64 0, .int .i64 0, .int .i64 0] 56)) B 56 3 (.slice (some ⟨w8.heap.size, 0, none⟩) 3 3) [((0 : Int), (0 : Int), (0 : Int)), ((0 : Int), (0 : Int), (0 : Int)), ((0 : Int), (0 : Int), (0 : Int))].length (blks [((0 : Int), (0 : Int), (0 : Int)), ((0 : Int), (0 : Int), (0 : Int)), ((0 : Int), (0 : Int), (0 : Int))]) := Gr.of_made (Row.new w8 56 [.int .i64 0, .int .i64 0, .int .i64 0, .int .i64 0, .int .i64 0, .int .i64 0, .int .i64 0, .int .i64 0, .int .i64 0]) rfl (by unfold maxLen; simp) hBs8
               obtain ⟨ha1, ha2, ha3⟩ := M8.app (j := q + 2) (by omega) hGn (grown_alloc _ _ _) (.inr (by simp [gBlock]))
               have hbf : Below W1.heap.size w8 (w8.alloc (.cells #[.int .i64 0, .int .i64 0, .int .i64 0, .int .i64 0, .int .i64 0, .int .i64 0, .int .i64 0, .int .i64 0, .int .i64 0] 56)) := (Below.refl _ _).alloc (by have := hBx.out; omega) _
               have hgr8 : W1.grownBy (w8.alloc (.cells #[.int .i64 0, .int .i64 0, .int .i64 0, .int .i64 0, .int .i64 0, .int .i64 0, .int .i64 0, .int .i64 0, .int .i64 0] 56)) (some R) := grown_below (grown_trans W7.out hg') hbf
               have hrd8 : Rd (w8.alloc (.cells #[.int .i64 0, .int .i64 0, .int .i64 0, .int .i64 0, .int .i64 0, .int .i64 0, .int .i64 0, .int .i64 0, .int .i64 0] 56)) R v bs ((p6 + 1 + 1 : Nat) : Int) := hr.below ((Below.refl g4 w8).alloc (by have := hBx.out; omega) (.cells #[.int .i64 0, .int .i64 0, .int .i64 0, .int .i64 0, .int .i64 0, .int .i64 0, .int .i64 0, .int .i64 0, .int .i64 0] 56)) lowR LV.out
               have M9 := Lib.hid (MB.bucket (p := q) hq rfl ha1 ha2 ha3)
               obtain ⟨_, _, hv, -, hc7, -, hfb, hcb, -⟩ := ha2.at (show 0 < 7 by omega)
               cases hv
               have t2 := hcb q _ (tab_get (fun i => vs (i + 2)) hq)
               have tf := hfb q
               have hgbB : B ≤ gb := (ha2.lt gb (by simp [gBlock]; omega)).1
               have W9 : Hid (W1.grownBy ((w8.alloc (.cells #[.int .i64 0, .int .i64 0, .int .i64 0, .int .i64 0, .int .i64 0, .int .i64 0, .int .i64 0, .int .i64 0, .int .i64 0] 56)).setCell ⟨gb, q, none⟩ (.slice (some ⟨w8.heap.size, 0, none⟩) 3 3)) (some R)) := grown_below hgr8 ((Below.refl W1.heap.size _).setCell (p := ⟨gb, q, none⟩) (by show W1.heap.size ≤ gb; have := hBx.out; omega) _)
               have R9 : Hid (Rd ((w8.alloc (.cells #[.int .i64 0, .int .i64 0, .int .i64 0, .int .i64 0, .int .i64 0, .int .i64 0, .int .i64 0, .int .i64 0, .int .i64 0] 56)).setCell ⟨gb, q, none⟩ (.slice (some ⟨w8.heap.size, 0, none⟩) 3 3)) R v bs ((p6 + 1 + 1 : Nat) : Int)) := hrd8.below ((Below.refl g4 _).setCell (p := ⟨gb, q, none⟩) (by show g4 ≤ gb; have := hBx.out; omega) _) lowR LV.out
               have hv8 : upd vs (q + 2) (.slice (some ⟨w8.heap.size, 0, none⟩) 3 3) 0 = .slice a0 m0 c0 := by rw [upd_other _ _ (by omega)]; exact HV1.out
               have hrw9 := M9.out.1
               rw [hv8] at hrw9
               have s0 := hrw9.cell (i := 0) rfl
               have s1 := hrw9.cell (i := 1) rfl
               have HV8 := Lib.hid hv8
               clear hr hg hrw hrw9 ha1 ha2 ha3 hfb hcb hgr8 hrd8 hGn hv8)
            | (go_simp
               go_at_call 27
               with_reducible refine (HPK.out _ (p6 + 1) HRB.out (by omega)).mono ?_
               rintro e w8 ⟨q, rfl, hq, hr, hg⟩
               have hqz : (q : Int) < 7 := by omega
               have hga : (w7.alloc (.cells #[.int .i64 0, .int .i64 0, .int .i64 0, .int .i64 0, .int .i64 0, .int .i64 0, .int .i64 0, .int .i64 0, .int .i64 0] 56)).grownBy w8 (some R) := grown_drew hg
               have hGn : Gr (w7.alloc (.cells #[.int .i64 0, .int .i64 0, .int .i64 0, .int .i64 0, .int .i64 0, .int .i64 0, .int .i64 0, .int .i64 0, .int .i64 0] 56)) B 56 3 (.slice (some ⟨w7.heap.size, 0, none⟩) 3 3) [((0 : Int), (0 : Int), (0 : Int)), ((0 : Int), (0 : Int), (0 : Int)), ((0 : Int), (0 : Int), (0 : Int))].length (blks [((0 : Int), (0 : Int), (0 : Int)), ((0 : Int), (0 : Int), (0 : Int)), ((0 : Int), (0 : Int), (0 : Int))]) := Gr.of_made (Row.new w7 56 [.int .i64 0, .int .i64 0, .int .i64 0, .int .i64 0, .int .i64 0, .int .i64 0, .int .i64 0, .int .i64 0, .int .i64 0]) rfl (by unfold maxLen; simp) hBs
               obtain ⟨hb1, hb2, hb3⟩ := M7.out.app (j := q + 2) (by omega) hGn (grown_alloc _ _ _) (.inr (by simp [gBlock]))
               have ha1 := hb1.grown hga (fun e => by have := Option.some.inj e; have := hBx.out; have := HG4B.out; omega)
               have ha2 := hb2.kept hga (fun x hx e => by cases e; have := (hb2.lt _ hx).1; have := HG4B.out; omega)
               have ha3 : Fam w8 B 9 (upd vs (q + 2) (.slice (some ⟨w7.heap.size, 0, none⟩) 3 3)) (upd X (q + 2) [((0 : Int), (0 : Int), (0 : Int)), ((0 : Int), (0 : Int), (0 : Int)), ((0 : Int), (0 : Int), (0 : Int))]) := hb3.kept hga (fun i hi x hx e => by cases e; have := ((hb3 i hi).1.lt _ hx).1; have := HG4B.out; omega)
               have hrw := ha1
               rw [HV1.out] at hrw
               have k0 := hrw.cell (i := 0) rfl
               have hgr8 : W1.grownBy w8 (some R) := grown_trans (grown_below W7.out ((Below.refl W1.heap.size w7).alloc (by have := hBx.out; omega) _)) hga
               have hrd8 : Rd w8 R v bs ((p6 + 1 + 1 : Nat) : Int) := hr
               have M9 := Lib.hid (MB.bucket (p := q) hq rfl ha1 ha2 ha3)
               obtain ⟨_, _, hv, -, hc7, -, hfb, hcb, -⟩ := ha2.at (show 0 < 7 by omega)
               cases hv
               have t2 := hcb q _ (tab_get (fun i => vs (i + 2)) hq)
               have tf := hfb q
               have hgbB : B ≤ gb := (ha2.lt gb (by simp [gBlock]; omega)).1
               have W9 : Hid (W1.grownBy (w8.setCell ⟨gb, q, none⟩ (.slice (some ⟨w7.heap.size, 0, none⟩) 3 3)) (some R)) := grown_below hgr8 ((Below.refl W1.heap.size _).setCell (p := ⟨gb, q, none⟩) (by show W1.heap.size ≤ gb; have := hBx.out; omega) _)
               have R9 : Hid (Rd (w8.setCell ⟨gb, q, none⟩ (.slice (some ⟨w7.heap.size, 0, none⟩) 3 3)) R v bs ((p6 + 1 + 1 : Nat) : Int)) := hrd8.below ((Below.refl g4 _).setCell (p := ⟨gb, q, none⟩) (by show g4 ≤ gb; have := hBx.out; omega) _) lowR LV.out
               have hv8 : upd vs (q + 2) (.slice (some ⟨w7.heap.size, 0, none⟩) 3 3) 0 = .slice a0 m0 c0 := by rw [upd_other _ _ (by omega)]; exact HV1.out
               have hrw9 := M9.out.1
               rw [hv8] at hrw9
               have s0 := hrw9.cell (i := 0) rfl
               have s1 := hrw9.cell (i := 1) rfl
               have HV8 := Lib.hid hv8
               clear hr hg hrw hrw9 ha1 ha2 ha3 hfb hcb hgr8 hrd8 hGn hv8))
          all_goals
            clear x0 x1 xf0 xf1 x0a
            go_simp
            have HRF := Lib.hid (HROWF.out _ W9.out)
            have y0 := HRF.out.cell (i := 0) rfl
            have y1 := HRF.out.cell (i := 1) rfl
            have z0 := HRF.out.free 0
            have z1 := HRF.out.free 1
            go_wp2_with fail
            have hrow := (HRF.out.set 0 (.slice (some ⟨gb, 0, none⟩) 7 cb)).set 1 (.slice a0 m0 c0)
            have f0 := hrow.cell (i := 0) rfl
            have f1 := hrow.cell (i := 1) rfl
            refine bodyPost_ret (v := .agg #[.slice (some ⟨gb, 0, none⟩) 7 cb, .slice a0 m0 c0]) (by simp [results, Tryd.results42, go_sem, f0, f1]) rfl ?_
            refine HFIN.out _ _ _ _ 7 _ (fun i => upd X (q + 2) [((0 : Int), (0 : Int), (0 : Int)), ((0 : Int), (0 : Int), (0 : Int)), ((0 : Int), (0 : Int), (0 : Int))] (i + 2)) (upd X (q + 2) [((0 : Int), (0 : Int), (0 : Int)), ((0 : Int), (0 : Int), (0 : Int)), ((0 : Int), (0 : Int), (0 : Int))] 0) (p6 + 1 + 1) _ (by rw [upd_other _ _ (by omega)]; exact HM0.out) (by omega) ⟨by omega, by rw [upd_other _ _ (by omega)]; exact HSML.out.2.1, fun i hi => by show (upd X (q + 2) _ (i + 2)).length ≤ 100; by_cases e : i = q; (subst e; rw [upd_same]; simp); (rw [upd_other _ _ (by omega)]; exact HSML.out.2.2 i hi)⟩ ?_ (by omega) (by omega) R9.out W9.out
            refine .inl ⟨_, ?_, rfl, rfl⟩
            have : MO _ B _ 7 _ := ⟨_, _, rfl, M9.out.2.1, M9.out.2.2⟩
            rwa [HV8.out] at this
        · have hBs : B ≤ w7.heap.size := Nat.le_trans hBx.out.1 (Nat.le_of_lt HXR.out.lt)
          have hGn : Gr (w7.alloc (.cells #[.int .i64 0, .int .i64 0, .int .i64 2] 56)) B 56 3 (.slice (some ⟨w7.heap.size, 0, none⟩) 1 1) [((0 : Int), (0 : Int), (2 : Int))].length (blks [((0 : Int), (0 : Int), (2 : Int))]) := Gr.of_made (Row.new w7 56 [.int .i64 0, .int .i64 0, .int .i64 2]) rfl (by unfold maxLen; simp) hBs
          have hap := M7.out.app (j := 3 + 2) (by omega) hGn (grown_alloc _ _ _) (.inr (by simp [gBlock]))
          have M8 := Lib.hid (MB.bucket (p := 3) (by omega) rfl hap.1 hap.2.1 hap.2.2)
          obtain ⟨_, _, hv, -, hc7, -, hfb, hcb, -⟩ := hap.2.1.at (show 0 < 7 by omega)
          cases hv
          obtain ⟨u3, hu3⟩ : ∃ u3, (tab 7 fun i => vs (i + 2))[3]? = some u3 := ⟨_, List.getElem?_eq_getElem (by simp [tab])⟩
          have t2 := hcb 3 _ hu3
          have tf := hfb 3
          have x0a := (HXR.out.alloc (.cells #[.int .i64 0, .int .i64 0, .int .i64 2] 56)).cell (i := 0) rfl
          have hgbB : B ≤ gb := (M7.out.2.1.lt gb (by simp [gBlock]; omega)).1
          have W8 : Hid (W1.grownBy ((w7.alloc (.cells #[.int .i64 0, .int .i64 0, .int .i64 2] 56)).setCell ⟨gb, 3, none⟩ (.slice (some ⟨w7.heap.size, 0, none⟩) 1 1)) (some R)) := grown_below W7.out (((Below.refl W1.heap.size w7).alloc (by have := hBx.out; omega) _).setCell (p := ⟨gb, 3, none⟩) (by show W1.heap.size ≤ gb; have := hBx.out; omega) _)
          have R8 : Hid (Rd ((w7.alloc (.cells #[.int .i64 0, .int .i64 0, .int .i64 2] 56)).setCell ⟨gb, 3, none⟩ (.slice (some ⟨w7.heap.size, 0, none⟩) 1 1)) R v bs ((p6 + 1 : Nat) : Int)) := R7.out.below (((Below.refl g4 w7).alloc (by have := hBx.out; omega) _).setCell (p := ⟨gb, 3, none⟩) (by show g4 ≤ gb; have := hBx.out; omega) _) lowR LV.out
          have hv8 : upd vs (3 + 2) (.slice (some ⟨w7.heap.size, 0, none⟩) 1 1) 0 = .slice a0 m0 c0 := by rw [upd_other _ _ (by omega)]; exact HV1.out
          have hrw := M8.out.1
          rw [hv8] at hrw
          have s0 := hrw.cell (i := 0) rfl
          have s1 := hrw.cell (i := 1) rfl
          have HV8 := Lib.hid hv8
          clear hap hfb hcb hGn hrw hv8
          have HRF := Lib.hid (HROWF.out _ W8.out)
          have y0 := HRF.out.cell (i := 0) rfl
          have y1 := HRF.out.cell (i := 1) rfl
          have z0 := HRF.out.free 0
          have z1 := HRF.out.free 1
          go_wp2_with fail
          have hrow := (HRF.out.set 0 (.slice (some ⟨gb, 0, none⟩) 7 cb)).set 1 (.slice a0 m0 c0)
          have f0 := hrow.cell (i := 0) rfl
          have f1 := hrow.cell (i := 1) rfl
          refine bodyPost_ret (v := .agg #[.slice (some ⟨gb, 0, none⟩) 7 cb, .slice a0 m0 c0]) (by simp [results, Tryd.results42, go_sem, f0, f1]) rfl ?_
          refine HFIN.out _ _ _ _ 7 _ (fun i => upd X (3 + 2) [((0 : Int), (0 : Int), (2 : Int))] (i + 2)) (upd X (3 + 2) [((0 : Int), (0 : Int), (2 : Int))] 0) (p6 + 1) _ (by rw [upd_other _ _ (by omega)]; exact HM0.out) (by omega) ⟨by omega, by rw [upd_other _ _ (by omega)]; exact HSML.out.2.1, fun i hi => by show (upd X (3 + 2) _ (i + 2)).length ≤ 100; by_cases e : i = 3; (subst e; rw [upd_same]; simp); (rw [upd_other _ _ (by omega)]; exact HSML.out.2.2 i hi)⟩ ?_ (by omega) (by omega) R8.out W8.out
          refine .inl ⟨_, ?_, rfl, rfl⟩
          have : MO _ B _ 7 _ := ⟨_, _, rfl, M8.out.2.1, M8.out.2.2⟩
          rwa [HV8.out] at this
        · have W8 : Hid (W1.grownBy ((w7.setCell ⟨gx, 0, none⟩ (.slice none 0 0)).setCell ⟨gx, 1, none⟩ (.slice none 0 0)) (some R)) := grown_below W7.out (((Below.refl W1.heap.size w7).setCell (p := ⟨gx, 0, none⟩) (by show W1.heap.size ≤ gx; have := hBx.out; omega) _).setCell (p := ⟨gx, 1, none⟩) (by show W1.heap.size ≤ gx; have := hBx.out; omega) _)
          have R8 := Lib.hid (R7.out.below (((Below.refl g4 w7).setCell (p := ⟨gx, 0, none⟩) (by show g4 ≤ gx; have := hBx.out; omega) (.slice none 0 0)).setCell (p := ⟨gx, 1, none⟩) (by show g4 ≤ gx; have := hBx.out; omega) (.slice none 0 0)) lowR LV.out)
          have hr8 := (HXR.out.set 0 (.slice none 0 0)).set 1 (.slice none 0 0)
          have s0 := hr8.cell (i := 0) rfl
          have s1 := hr8.cell (i := 1) rfl
          clear hr8
          have HRF := Lib.hid (HROWF.out _ W8.out)
          have y0 := HRF.out.cell (i := 0) rfl
          have y1 := HRF.out.cell (i := 1) rfl
          have z0 := HRF.out.free 0
          have z1 := HRF.out.free 1
          go_wp2_with fail
          have hrow := (HRF.out.set 0 (.slice none 0 0)).set 1 (.slice none 0 0)
          have f0 := hrow.cell (i := 0) rfl
          have f1 := hrow.cell (i := 1) rfl
          refine bodyPost_ret (v := .agg #[.slice none 0 0, .slice none 0 0]) (by simp [results, Tryd.results42, go_sem, f0, f1]) rfl ?_
          refine HFIN.out _ _ _ _ 0 _ (fun _ => []) ([]) (p6 + 1) _ rfl (by omega) ⟨by omega, by simp, fun i hi => by omega⟩ ?_ (by omega) (by omega) R8.out W8.out
          exact .inl ⟨_, MO.zero _ B, rfl, rfl⟩
end Go.Proofs.YtbnplohlfiefhaaDoor
