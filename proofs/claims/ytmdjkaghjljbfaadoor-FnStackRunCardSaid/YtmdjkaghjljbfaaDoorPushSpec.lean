/- contracts of PushStack and PopStack: the reference's, and those in the form of the exact laws -/
import Derived.Test.YtmdjkaghjljbfaaDoorPushPop
namespace Go.Proofs.YtmdjkaghjljbfaaDoor
open Go.RowKit
set_option maxHeartbeats 4000000 in
theorem spec_PushStack (v : Value) (cs : List Int) (m a : Int) (t : Bool) (w : World) (h : Ints w v cs) : Calls Tryd.prog 14 #[.agg #[v, .int .i64 m], .int .i64 a, .bool t] w (PushPost (pushC cs m a t) (pushM cs m a t) (pushT cs m a) (pushOk cs m a t) w) := by
  obtain ⟨ad, c, hv, hmax, _⟩ := h.open
  subst hv
  unfold maxLen at hmax
  have hb2 : Below w.heap.size w ((w.alloc (.cells #[.slice ad cs.length c, .int .i64 m] 25)).alloc (.cells #[.slice none 0 0, .int .i64 0] 25)) := ((Below.refl _ _).alloc (Nat.le_refl _) _).alloc (by simp) _
  have r0 := (Row.new w 25 [.slice ad cs.length c, .int .i64 m]).alloc (.cells #[.slice none 0 0, .int .i64 0] 25)
  have r1 := Row.new (w.alloc (.cells #[.slice ad cs.length c, .int .i64 m] 25)) 25 [.slice none 0 0, .int .i64 0]
  simp only [World.size_alloc] at r1
  have H := Lib.hid (h.mono hb2 (Nat.le_refl _))
  have HB2 := Lib.hid hb2
  have R0 := Lib.hid r0
  have R1 := Lib.hid r1
  clear h hb2 r0 r1
  go_enter Tryd.func14, Tryd.ntmps14
  go_wp2_with fail
  generalize (w.alloc (.cells #[.slice ad cs.length c, .int .i64 m] 25)).alloc (.cells #[.slice none 0 0, .int .i64 0] 25) = W at H HB2 R0 R1 ⊢
  refine (spec_StackValid _ cs m _ H.out).mono ?_
  rintro e w1 ⟨rfl, hb⟩
  have H1 := Lib.hid (H.out.mono hb (Nat.le_refl _))
  have HB1 : Hid (Below w.heap.size w w1) := HB2.out.trans (hb.mono HB2.out.size)
  have Q0 := Lib.hid (R0.out.mono hb R0.out.lt)
  have Q1 := Lib.hid (R1.out.mono hb R1.out.lt)
  clear hb H HB2 R0 R1
  have HFN : Hid (∀ w' x, pushA cs m a = false → Gr w' w.heap.size 56 3 x 0 [] → Below w.heap.size w w' → PushPost (pushC cs m a t) (pushM cs m a t) (pushT cs m a) (pushOk cs m a t) w (.returned (.tuple #[.agg #[.slice none 0 0, .int .i64 0], x, .bool false])) w') := fun w' x hp hx hbel => push_no hp x hx hbel
  have ltz : w.heap.size + 1 < w1.heap.size := Q1.out.lt
  have kr0 : w1.cell? ⟨w.heap.size + 1, 0, none⟩ = some (.slice none 0 0) := Q1.out.cell rfl
  have kr1 : w1.cell? ⟨w.heap.size + 1, 1, none⟩ = some (.int .i64 0) := Q1.out.cell rfl
  have f0 := Q1.out.free 0
  have f1 := Q1.out.free 1
  have lt1 : ¬ w1.heap.size = w.heap.size + 1 := by omega
  cases hsv : stackB cs m
  · have HNA : Hid (pushA cs m a = false) := by simp [Hid, pushA, hsv]
    clear hsv
    go_wp2
    refine bodyPost_ret (v := .tuple #[.agg #[.slice none 0 0, .int .i64 0], .slice (some ⟨w1.heap.size, 0, none⟩) 0 0, .bool false]) (by simp [results, Tryd.results14, go_sem, kr0, kr1, ltz]) rfl ?_
    ((first | exact HFN.out _ _ HNA.out (Gr.none0 _ _ _ _ _) (((HB1.out.setCell (p := ⟨w.heap.size + 1, 0, none⟩) (by show w.heap.size ≤ w.heap.size + 1; omega) _).setCell (p := ⟨w.heap.size + 1, 1, none⟩) (by show w.heap.size ≤ w.heap.size + 1; omega) _).alloc (by simp <;> omega) _) | exact HFN.out _ _ HNA.out (Gr.none0 _ _ _ _ _) (((HB1.out.alloc (by omega) _).setCell (p := ⟨w.heap.size + 1, 0, none⟩) (by show w.heap.size ≤ w.heap.size + 1; omega) _).setCell (p := ⟨w.heap.size + 1, 1, none⟩) (by show w.heap.size ≤ w.heap.size + 1; omega) _)))
  cases hia : inB a 0 100000
  · have HNA : Hid (pushA cs m a = false) := by simp [Hid, pushA, hia]
    have HI := Lib.hid hia
    clear hsv hia
    go_wp2_with (go_at_call 27; refine (l1In_any _ _ _ _).mono ?_; rw [HI.out]; rintro e w' ⟨rfl, rfl⟩)
    refine bodyPost_ret (v := .tuple #[.agg #[.slice none 0 0, .int .i64 0], .slice (some ⟨w1.heap.size, 0, none⟩) 0 0, .bool false]) (by simp [results, Tryd.results14, go_sem, kr0, kr1, ltz]) rfl ?_
    ((first | exact HFN.out _ _ HNA.out (Gr.none0 _ _ _ _ _) (((HB1.out.setCell (p := ⟨w.heap.size + 1, 0, none⟩) (by show w.heap.size ≤ w.heap.size + 1; omega) _).setCell (p := ⟨w.heap.size + 1, 1, none⟩) (by show w.heap.size ≤ w.heap.size + 1; omega) _).alloc (by simp <;> omega) _) | exact HFN.out _ _ HNA.out (Gr.none0 _ _ _ _ _) (((HB1.out.alloc (by omega) _).setCell (p := ⟨w.heap.size + 1, 0, none⟩) (by show w.heap.size ≤ w.heap.size + 1; omega) _).setCell (p := ⟨w.heap.size + 1, 1, none⟩) (by show w.heap.size ≤ w.heap.size + 1; omega) _)))
  have HYA : Hid (pushA cs m a = true) := by simp [Hid, pushA, hsv, hia]
  obtain ⟨hl8, him, -⟩ := stackB_iff.1 hsv
  obtain ⟨m0, m1⟩ := inB_iff.1 him
  obtain ⟨M, rfl⟩ := Int.eq_ofNat_of_zero_le m0
  have hl8a : 8 ≤ cs.length := by omega
  have hl8b : cs.length ≤ 8 := by omega
  have HI := Lib.hid hia
  clear hsv hia him hl8 HFN kr0 kr1 f0 f1 lt1
  have k0 : w1.cell? ⟨w.heap.size, 0, none⟩ = some (.slice ad cs.length c) := Q0.out.cell rfl
  have k1 : w1.cell? ⟨w.heap.size, 1, none⟩ = some (.int .i64 (M : Int)) := Q0.out.cell rfl
  go_wp2_with (go_at_call 27; refine (l1In_any _ _ _ _).mono ?_; rw [HI.out]; rintro e w' ⟨rfl, rfl⟩)
  refine (spec_copy _ cs M _ H1.out (by omega)).mono ?_
  rintro e w2 ⟨u, rfl, hg, hb⟩
  obtain ⟨a1, c1, hu⟩ := hg.lit
  subst hu
  have HG2 := Lib.hid hg
  have HB2 : Hid (Below w.heap.size w w2) := HB1.out.trans (hb.mono HB1.out.size)
  have P0 := Lib.hid (Q0.out.mono hb Q0.out.lt)
  have P1 := Lib.hid (Q1.out.mono hb Q1.out.lt)
  have z1 : w.heap.size + 1 < w1.heap.size := Q1.out.lt
  have z2 : w1.heap.size ≤ w2.heap.size := hb.size
  clear hg hb Q0 Q1 HB1 H1 k0 k1
  have n0 : ¬ w2.heap.size = w.heap.size := by omega
  have n1 : ¬ w2.heap.size = w.heap.size + 1 := by omega
  have k0 : w2.cell? ⟨w.heap.size, 0, none⟩ = some (.slice ad cs.length c) := P0.out.cell rfl
  have k1 : w2.cell? ⟨w.heap.size, 1, none⟩ = some (.int .i64 (M : Int)) := P0.out.cell rfl
  have kr0 : w2.cell? ⟨w.heap.size + 1, 0, none⟩ = some (.slice none 0 0) := P1.out.cell rfl
  have kr1 : w2.cell? ⟨w.heap.size + 1, 1, none⟩ = some (.int .i64 0) := P1.out.cell rfl
  have LOW : Hid (w.heap.size ≤ w1.heap.size) := by unfold Hid; omega
  have hA3 : Below w2.heap.size w2 (w2.alloc (.cells #[.slice a1 cs.length c1, .int .i64 (M : Int)] 25)) := (Below.refl _ _).alloc (Nat.le_refl _) _
  have HA3 := Lib.hid hA3
  have K93 : Hid (Row (w2.alloc (.cells #[.slice a1 cs.length c1, .int .i64 (M : Int)] 25)) w2.heap.size 25 [.slice a1 cs.length c1, .int .i64 (M : Int)]) := Row.new w2 25 [.slice a1 cs.length c1, .int .i64 (M : Int)]
  have HNZ : Hid (∀ x, gBlock (.slice a1 cs.length c1) = some x → w.heap.size + 1 < x) := fun x hx => by have := (HG2.out.lt x hx).1; omega
  have kz1 : (w2.alloc (.cells #[.slice a1 cs.length c1, .int .i64 (M : Int)] 25)).cell? ⟨w.heap.size, 1, none⟩ = some (.int .i64 (M : Int)) := (P0.out.mono hA3 P0.out.lt).cell rfl
  clear hA3
  go_wp2_with fail
  generalize (w2.alloc (.cells #[.slice a1 cs.length c1, .int .i64 (M : Int)] 25)) = wz at HA3 K93 kz1 ⊢
  have RZ := Lib.hid (P1.out.mono HA3.out P1.out.lt)
  have RA := Lib.hid (P0.out.mono HA3.out P0.out.lt)
  have HGZ := Lib.hid (HG2.out.mono HA3.out (Nat.le_refl _))
  have HBZ : Hid (Below w.heap.size w wz) := HB2.out.trans (HA3.out.mono HB2.out.size)
  clear k0 k1 kr0 kr1 kz1
  refine (spec_PassTrace 2 8 _).mono ?_
  rintro e w8 ⟨x, rfl, hg, hb⟩
  rw [show passV 2 8 = passN 2 8 from by unfold passV passOk; rw [inB_true (by omega) (by omega), inB_true (by omega) (by omega)]; rfl] at hg
  have HX := Lib.hid hg
  have HB8 := Lib.hid hb
  have HG8 := Lib.hid (HGZ.out.mono hb (Nat.le_refl _))
  have R9 := Lib.hid (K93.out.mono hb K93.out.lt)
  have R8 := Lib.hid (RZ.out.mono hb RZ.out.lt)
  have R7 := Lib.hid (RA.out.mono hb RA.out.lt)
  have hB8 : Hid (Below w.heap.size w w8) := HBZ.out.trans (hb.mono HBZ.out.size)
  have zz : w2.heap.size < wz.heap.size := K93.out.lt
  have HUX : Hid (∀ q9, gBlock (.slice a1 cs.length c1) = some q9 → gBlock x ≠ some q9) := fun q9 e1 e2 => by have := (HGZ.out.lt q9 e1).2; have := (HX.out.lt q9 e2).1; omega
  have k0 : w8.cell? ⟨w.heap.size, 0, none⟩ = some (.slice ad cs.length c) := R7.out.cell rfl
  have k1 : w8.cell? ⟨w.heap.size, 1, none⟩ = some (.int .i64 (M : Int)) := R7.out.cell rfl
  have kr0 : w8.cell? ⟨w.heap.size + 1, 0, none⟩ = some (.slice none 0 0) := R8.out.cell rfl
  have kr1 : w8.cell? ⟨w.heap.size + 1, 1, none⟩ = some (.int .i64 0) := R8.out.cell rfl
  have k90 : w8.cell? ⟨w2.heap.size, 0, none⟩ = some (.slice a1 cs.length c1) := R9.out.cell rfl
  have k91 : w8.cell? ⟨w2.heap.size, 1, none⟩ = some (.int .i64 (M : Int)) := R9.out.cell rfl
  have f0 := R8.out.free 0
  have f1 := R8.out.free 1
  have f90 := R9.out.free 0
  have f91 := R9.out.free 1
  clear hg hb R7 R8 R9 RZ RA K93 HA3 P0 P1
  by_cases hdo : t = true ∧ ¬ M = 8
  case neg =>
    have hst : pushDo M t = false := by
      unfold pushDo
      cases t
      · rfl
      · have : M = 8 := Classical.byContradiction fun e => hdo ⟨rfl, e⟩
        subst this; rfl
    have HC : Hid ((if pushDo (M : Int) t then cs.set (M : Int).toNat a else cs) = cs) := by unfold Hid; rw [hst]; rfl
    have HM : Hid ((if pushDo (M : Int) t then (M : Int) + 1 else (M : Int)) = (M : Int)) := by unfold Hid; rw [hst]; rfl
    cases t
    · clear hdo hst
      go_wp2
      refine bodyPost_ret (v := .tuple #[.agg #[.slice a1 cs.length c1, .int .i64 (M : Int)], x, .bool true]) (by simp [results, Tryd.results14, go_sem, kr0, kr1]) rfl ?_
      have hg8 := ((HG8.out.setOther (w.heap.size + 1) 0 (.slice a1 cs.length c1) (fun y hy => by have := HNZ.out y hy; omega)).setOther (w.heap.size + 1) 1 (.int .i64 (M : Int)) (fun y hy => by have := HNZ.out y hy; omega)).low (B' := w.heap.size) LOW.out
      have hx8 := ((HX.out.setOther (w.heap.size + 1) 0 (.slice a1 cs.length c1) (fun y hy => by have := (HX.out.lt y hy).1; omega)).setOther (w.heap.size + 1) 1 (.int .i64 (M : Int)) (fun y hy => by have := (HX.out.lt y hy).1; omega)).low (B' := w.heap.size) HBZ.out.size
      exact push_yes HYA.out HC.out HM.out rfl _ _ hg8 hx8 HUX.out ((hB8.out.setCell (p := ⟨w.heap.size + 1, 0, none⟩) (by show w.heap.size ≤ w.heap.size + 1; omega) _).setCell (p := ⟨w.heap.size + 1, 1, none⟩) (by show w.heap.size ≤ w.heap.size + 1; omega) _)
    · have hM8 : M = 8 := Classical.byContradiction fun e => hdo ⟨rfl, e⟩
      have hm8 : ((M : Int) == 8) = true := by rw [hM8]; rfl
      have HM8 := Lib.hid hM8
      clear hdo hst hM8
      go_wp2
      refine bodyPost_ret (v := .tuple #[.agg #[.slice a1 cs.length c1, .int .i64 (M : Int)], x, .bool false]) (by simp [results, Tryd.results14, go_sem, kr0, kr1]) rfl ?_
      have hg8 := ((HG8.out.setOther (w.heap.size + 1) 0 (.slice a1 cs.length c1) (fun y hy => by have := HNZ.out y hy; omega)).setOther (w.heap.size + 1) 1 (.int .i64 (M : Int)) (fun y hy => by have := HNZ.out y hy; omega)).low (B' := w.heap.size) LOW.out
      have hx8 := ((HX.out.setOther (w.heap.size + 1) 0 (.slice a1 cs.length c1) (fun y hy => by have := (HX.out.lt y hy).1; omega)).setOther (w.heap.size + 1) 1 (.int .i64 (M : Int)) (fun y hy => by have := (HX.out.lt y hy).1; omega)).low (B' := w.heap.size) HBZ.out.size
      exact push_yes HYA.out HC.out HM.out (by rw [HM8.out]; rfl) _ _ hg8 hx8 HUX.out ((hB8.out.setCell (p := ⟨w.heap.size + 1, 0, none⟩) (by show w.heap.size ≤ w.heap.size + 1; omega) _).setCell (p := ⟨w.heap.size + 1, 1, none⟩) (by show w.heap.size ≤ w.heap.size + 1; omega) _)
  case pos =>
    obtain ⟨rfl, hM8⟩ := hdo
    have hm8 : ((M : Int) == 8) = false := by simp; omega
    have HD : Hid (pushDo (M : Int) true = true) := by simp [Hid, pushDo]; omega
    have HC : Hid ((if pushDo (M : Int) true then cs.set (M : Int).toNat a else cs) = cs.set M a) := by unfold Hid; rw [HD.out]; rfl
    have HM : Hid ((if pushDo (M : Int) true then (M : Int) + 1 else (M : Int)) = (M : Int) + 1) := by unfold Hid; rw [HD.out]; rfl
    have HOK : Hid ((!true || !((M : Int) == 8)) = true) := by unfold Hid; rw [hm8]; rfl
    have hML : M < cs.length := by omega
    obtain ⟨g, c2, hv2, hgb, hgc, hgm, hfr, hcl, hset⟩ := HG8.out.at (by omega)
    cases hv2
    obtain ⟨y, hy⟩ : ∃ y, iv cs M = .int .i64 y := ⟨_, rfl⟩
    have hcM := hcl M _ (ints_get (by omega))
    rw [hy] at hcM
    have hfM := hfr M
    clear hy hM8
    have HS : Hid (Gr (w8.setCell ⟨g, M, none⟩ (.int .i64 a)) w1.heap.size 3 1 (.slice (some ⟨g, 0, none⟩) cs.length c1) (cs.set M a).length (ints (cs.set M a))) := by
      unfold Hid; rw [List.length_set, show ints (cs.set M a) = (ints cs).set M (.int .i64 a) by simp [ints, List.map_set]]
      exact hset M (.int .i64 a) (by omega)
    have HGL : Hid (∀ y, gBlock (.slice (some ⟨g, 0, none⟩) cs.length c1) = some y → y < w2.heap.size ∧ w.heap.size + 1 < y) := fun y hy => ⟨(HG2.out.lt y hy).2, HNZ.out y hy⟩
    have hgl : g < w2.heap.size := (HGL.out g (by simp [gBlock]; omega)).1
    have hng : ¬ w2.heap.size = g := by omega
    have hng0 : ¬ g = w.heap.size := by omega
    have hng1 : ¬ g = w.heap.size + 1 := by omega
    have hng2 : ¬ g = w2.heap.size := by omega
    clear hfr hcl hset hgc hgm
    go_wp2
    refine bodyPost_ret (v := .tuple #[.agg #[.slice (some ⟨g, 0, none⟩) cs.length c1, .int .i64 ((M : Int) + 1)], x, .bool true]) (by simp [results, Tryd.results14, go_sem, kr0, kr1]) rfl ?_
    have hg8 := (((HS.out.setOther w2.heap.size 1 (.int .i64 ((M : Int) + 1)) (fun y hy => by have := HGL.out y hy; omega)).setOther (w.heap.size + 1) 0 (.slice (some ⟨g, 0, none⟩) cs.length c1) (fun y hy => by have := HGL.out y hy; omega)).setOther (w.heap.size + 1) 1 (.int .i64 ((M : Int) + 1)) (fun y hy => by have := HGL.out y hy; omega)).low (B' := w.heap.size) LOW.out
    have hx8 := ((((HX.out.setOther g M (.int .i64 a) (fun y hy => by have := (HX.out.lt y hy).1; omega)).setOther w2.heap.size 1 (.int .i64 ((M : Int) + 1)) (fun y hy => by have := (HX.out.lt y hy).1; omega)).setOther (w.heap.size + 1) 0 (.slice (some ⟨g, 0, none⟩) cs.length c1) (fun y hy => by have := (HX.out.lt y hy).1; omega)).setOther (w.heap.size + 1) 1 (.int .i64 ((M : Int) + 1)) (fun y hy => by have := (HX.out.lt y hy).1; omega)).low (B' := w.heap.size) HBZ.out.size
    exact push_yes HYA.out HC.out HM.out HOK.out _ _ hg8 hx8 HUX.out ((((hB8.out.setCell (p := ⟨g, M, none⟩) (by show w.heap.size ≤ g; omega) _).setCell (p := ⟨w2.heap.size, 1, none⟩) (by show w.heap.size ≤ w2.heap.size; omega) _).setCell (p := ⟨w.heap.size + 1, 0, none⟩) (by show w.heap.size ≤ w.heap.size + 1; omega) _).setCell (p := ⟨w.heap.size + 1, 1, none⟩) (by show w.heap.size ≤ w.heap.size + 1; omega) _)
set_option maxHeartbeats 4000000 in
theorem spec_PopStack (v : Value) (cs : List Int) (m : Int) (t : Bool) (w : World) (h : Ints w v cs) : Calls Tryd.prog 19 #[.agg #[v, .int .i64 m], .bool t] w (PopPost (popC cs m t) (popM cs m t) (popV cs m t) (popT cs m) (popOk cs m t) w) := by
  have H00 := Lib.hid h
  obtain ⟨ad, c, hv, hmax, _⟩ := h.open
  subst hv
  unfold maxLen at hmax
  have hb2 : Below w.heap.size w ((w.alloc (.cells #[.slice ad cs.length c, .int .i64 m] 25)).alloc (.cells #[.slice none 0 0, .int .i64 0] 25)) := ((Below.refl _ _).alloc (Nat.le_refl _) _).alloc (by simp) _
  have r0 := (Row.new w 25 [.slice ad cs.length c, .int .i64 m]).alloc (.cells #[.slice none 0 0, .int .i64 0] 25)
  have r1 := Row.new (w.alloc (.cells #[.slice ad cs.length c, .int .i64 m] 25)) 25 [.slice none 0 0, .int .i64 0]
  simp only [World.size_alloc] at r1
  have H := Lib.hid (h.mono hb2 (Nat.le_refl _))
  have HB2 := Lib.hid hb2
  have R0 := Lib.hid r0
  have R1 := Lib.hid r1
  clear h hb2 r0 r1
  go_enter Tryd.func19, Tryd.ntmps19
  go_wp2_with fail
  generalize (w.alloc (.cells #[.slice ad cs.length c, .int .i64 m] 25)).alloc (.cells #[.slice none 0 0, .int .i64 0] 25) = W at H HB2 R0 R1 ⊢
  refine (spec_StackValid _ cs m _ H.out).mono ?_
  rintro e w1 ⟨rfl, hb⟩
  have H1 := Lib.hid (H.out.mono hb (Nat.le_refl _))
  have HB1 : Hid (Below w.heap.size w w1) := HB2.out.trans (hb.mono HB2.out.size)
  have Q0 := Lib.hid (R0.out.mono hb R0.out.lt)
  have Q1 := Lib.hid (R1.out.mono hb R1.out.lt)
  clear hb H HB2 R0 R1
  have HFN : Hid (∀ w' x, stackB cs m = false → Gr w' w.heap.size 56 3 x 0 [] → Below w.heap.size w w' → PopPost (popC cs m t) (popM cs m t) (popV cs m t) (popT cs m) (popOk cs m t) w (.returned (.tuple #[.agg #[.slice none 0 0, .int .i64 0], .int .i64 0, x, .bool false])) w') := fun w' x hp hx hbel => pop_no hp x hx hbel
  have ltz : w.heap.size + 1 < w1.heap.size := Q1.out.lt
  have kr0 : w1.cell? ⟨w.heap.size + 1, 0, none⟩ = some (.slice none 0 0) := Q1.out.cell rfl
  have kr1 : w1.cell? ⟨w.heap.size + 1, 1, none⟩ = some (.int .i64 0) := Q1.out.cell rfl
  have f0 := Q1.out.free 0
  have f1 := Q1.out.free 1
  have lt1 : ¬ w1.heap.size = w.heap.size + 1 := by omega
  cases hsv : stackB cs m
  · have HNA := Lib.hid hsv
    clear hsv
    go_wp2
    refine bodyPost_ret (v := .tuple #[.agg #[.slice none 0 0, .int .i64 0], .int .i64 0, .slice (some ⟨w1.heap.size, 0, none⟩) 0 0, .bool false]) (by simp [results, Tryd.results19, go_sem, kr0, kr1, ltz]) rfl ?_
    ((first | exact HFN.out _ _ HNA.out (Gr.none0 _ _ _ _ _) (((HB1.out.setCell (p := ⟨w.heap.size + 1, 0, none⟩) (by show w.heap.size ≤ w.heap.size + 1; omega) _).setCell (p := ⟨w.heap.size + 1, 1, none⟩) (by show w.heap.size ≤ w.heap.size + 1; omega) _).alloc (by simp <;> omega) _) | exact HFN.out _ _ HNA.out (Gr.none0 _ _ _ _ _) (((HB1.out.alloc (by omega) _).setCell (p := ⟨w.heap.size + 1, 0, none⟩) (by show w.heap.size ≤ w.heap.size + 1; omega) _).setCell (p := ⟨w.heap.size + 1, 1, none⟩) (by show w.heap.size ≤ w.heap.size + 1; omega) _)))
  have HYA := Lib.hid hsv
  obtain ⟨hl8, him, -⟩ := stackB_iff.1 hsv
  obtain ⟨m0, m1⟩ := inB_iff.1 him
  have hl8a : 8 ≤ cs.length := by omega
  have hl8b : cs.length ≤ 8 := by omega
  clear hsv him hl8 HFN kr0 kr1 f0 f1 lt1
  by_cases hdo : t = true ∧ ¬ m = 0
  case neg =>
    have hst : popDo m t = false := by
      unfold popDo
      cases t
      · rfl
      · have : m = 0 := Classical.byContradiction fun e => hdo ⟨rfl, e⟩
        subst this; rfl
    have HC : Hid ((if popDo m t then cs.set (m - 1).toNat 0 else cs) = cs) := by unfold Hid; rw [hst]; rfl
    have HM : Hid ((if popDo m t then m - 1 else m) = m) := by unfold Hid; rw [hst]; rfl
    have HV : Hid ((if popDo m t then cs[(m - 1).toNat]?.getD 0 else 0) = 0) := by unfold Hid; rw [hst]; rfl
    have k0 : w1.cell? ⟨w.heap.size, 0, none⟩ = some (.slice ad cs.length c) := Q0.out.cell rfl
    have k1 : w1.cell? ⟨w.heap.size, 1, none⟩ = some (.int .i64 m) := Q0.out.cell rfl
    go_wp2_with fail
    refine (spec_copy _ cs m _ H1.out (by omega)).mono ?_
    rintro e w2 ⟨u, rfl, hg, hb⟩
    obtain ⟨a1, c1, hu⟩ := hg.lit
    subst hu
    have HG2 := Lib.hid hg
    have HB2 : Hid (Below w.heap.size w w2) := HB1.out.trans (hb.mono HB1.out.size)
    have P0 := Lib.hid (Q0.out.mono hb Q0.out.lt)
    have P1 := Lib.hid (Q1.out.mono hb Q1.out.lt)
    have z1 : w.heap.size + 1 < w1.heap.size := Q1.out.lt
    have z2 : w1.heap.size ≤ w2.heap.size := hb.size
    clear hg hb Q0 Q1 HB1 H1 k0 k1
    have n0 : ¬ w2.heap.size = w.heap.size := by omega
    have n1 : ¬ w2.heap.size = w.heap.size + 1 := by omega
    have k0 : w2.cell? ⟨w.heap.size, 0, none⟩ = some (.slice ad cs.length c) := P0.out.cell rfl
    have k1 : w2.cell? ⟨w.heap.size, 1, none⟩ = some (.int .i64 m) := P0.out.cell rfl
    have kr0 : w2.cell? ⟨w.heap.size + 1, 0, none⟩ = some (.slice none 0 0) := P1.out.cell rfl
    have kr1 : w2.cell? ⟨w.heap.size + 1, 1, none⟩ = some (.int .i64 0) := P1.out.cell rfl
    have LOW : Hid (w.heap.size ≤ w1.heap.size) := by unfold Hid; omega
    have hA3 : Below w2.heap.size w2 (w2.alloc (.cells #[.slice a1 cs.length c1, .int .i64 m] 25)) := (Below.refl _ _).alloc (Nat.le_refl _) _
    have HA3 := Lib.hid hA3
    have K93 : Hid (Row (w2.alloc (.cells #[.slice a1 cs.length c1, .int .i64 m] 25)) w2.heap.size 25 [.slice a1 cs.length c1, .int .i64 m]) := Row.new w2 25 [.slice a1 cs.length c1, .int .i64 m]
    have HNZ : Hid (∀ x, gBlock (.slice a1 cs.length c1) = some x → w.heap.size + 1 < x) := fun x hx => by have := (HG2.out.lt x hx).1; omega
    have kz1 : (w2.alloc (.cells #[.slice a1 cs.length c1, .int .i64 m] 25)).cell? ⟨w.heap.size, 1, none⟩ = some (.int .i64 m) := (P0.out.mono hA3 P0.out.lt).cell rfl
    clear hA3
    go_wp2_with fail
    generalize (w2.alloc (.cells #[.slice a1 cs.length c1, .int .i64 m] 25)) = wz at HA3 K93 kz1 ⊢
    have RZ := Lib.hid (P1.out.mono HA3.out P1.out.lt)
    have RA := Lib.hid (P0.out.mono HA3.out P0.out.lt)
    have HGZ := Lib.hid (HG2.out.mono HA3.out (Nat.le_refl _))
    have HBZ : Hid (Below w.heap.size w wz) := HB2.out.trans (HA3.out.mono HB2.out.size)
    clear k0 k1 kr0 kr1 kz1
    refine (spec_PassTrace 2 8 _).mono ?_
    rintro e w8 ⟨x, rfl, hg, hb⟩
    rw [show passV 2 8 = passN 2 8 from by unfold passV passOk; rw [inB_true (by omega) (by omega), inB_true (by omega) (by omega)]; rfl] at hg
    have HX := Lib.hid hg
    have HB8 := Lib.hid hb
    have HG8 := Lib.hid (HGZ.out.mono hb (Nat.le_refl _))
    have R9 := Lib.hid (K93.out.mono hb K93.out.lt)
    have R8 := Lib.hid (RZ.out.mono hb RZ.out.lt)
    have R7 := Lib.hid (RA.out.mono hb RA.out.lt)
    have hB8 : Hid (Below w.heap.size w w8) := HBZ.out.trans (hb.mono HBZ.out.size)
    have zz : w2.heap.size < wz.heap.size := K93.out.lt
    have HUX : Hid (∀ q9, gBlock (.slice a1 cs.length c1) = some q9 → gBlock x ≠ some q9) := fun q9 e1 e2 => by have := (HGZ.out.lt q9 e1).2; have := (HX.out.lt q9 e2).1; omega
    have k0 : w8.cell? ⟨w.heap.size, 0, none⟩ = some (.slice ad cs.length c) := R7.out.cell rfl
    have k1 : w8.cell? ⟨w.heap.size, 1, none⟩ = some (.int .i64 m) := R7.out.cell rfl
    have kr0 : w8.cell? ⟨w.heap.size + 1, 0, none⟩ = some (.slice none 0 0) := R8.out.cell rfl
    have kr1 : w8.cell? ⟨w.heap.size + 1, 1, none⟩ = some (.int .i64 0) := R8.out.cell rfl
    have k90 : w8.cell? ⟨w2.heap.size, 0, none⟩ = some (.slice a1 cs.length c1) := R9.out.cell rfl
    have k91 : w8.cell? ⟨w2.heap.size, 1, none⟩ = some (.int .i64 m) := R9.out.cell rfl
    have f0 := R8.out.free 0
    have f1 := R8.out.free 1
    have f90 := R9.out.free 0
    have f91 := R9.out.free 1
    clear hg hb R7 R8 R9 RZ RA K93 HA3 P0 P1
    cases t
    · clear hdo hst
      go_wp2
      refine bodyPost_ret (v := .tuple #[.agg #[.slice a1 cs.length c1, .int .i64 m], .int .i64 0, x, .bool true]) (by simp [results, Tryd.results19, go_sem, kr0, kr1]) rfl ?_
      have hg8 := ((HG8.out.setOther (w.heap.size + 1) 0 (.slice a1 cs.length c1) (fun y hy => by have := HNZ.out y hy; omega)).setOther (w.heap.size + 1) 1 (.int .i64 m) (fun y hy => by have := HNZ.out y hy; omega)).low (B' := w.heap.size) LOW.out
      have hx8 := ((HX.out.setOther (w.heap.size + 1) 0 (.slice a1 cs.length c1) (fun y hy => by have := (HX.out.lt y hy).1; omega)).setOther (w.heap.size + 1) 1 (.int .i64 m) (fun y hy => by have := (HX.out.lt y hy).1; omega)).low (B' := w.heap.size) HBZ.out.size
      exact pop_yes HYA.out HC.out HM.out HV.out rfl _ _ hg8 hx8 HUX.out ((hB8.out.setCell (p := ⟨w.heap.size + 1, 0, none⟩) (by show w.heap.size ≤ w.heap.size + 1; omega) _).setCell (p := ⟨w.heap.size + 1, 1, none⟩) (by show w.heap.size ≤ w.heap.size + 1; omega) _)
    · have hm0' : m = 0 := Classical.byContradiction fun e => hdo ⟨rfl, e⟩
      have hm8 : (m == 0) = true := by rw [hm0']; rfl
      have HM8 := Lib.hid hm0'
      clear hdo hst hm0'
      go_wp2
      refine bodyPost_ret (v := .tuple #[.agg #[.slice a1 cs.length c1, .int .i64 m], .int .i64 0, x, .bool false]) (by simp [results, Tryd.results19, go_sem, kr0, kr1]) rfl ?_
      have hg8 := ((HG8.out.setOther (w.heap.size + 1) 0 (.slice a1 cs.length c1) (fun y hy => by have := HNZ.out y hy; omega)).setOther (w.heap.size + 1) 1 (.int .i64 m) (fun y hy => by have := HNZ.out y hy; omega)).low (B' := w.heap.size) LOW.out
      have hx8 := ((HX.out.setOther (w.heap.size + 1) 0 (.slice a1 cs.length c1) (fun y hy => by have := (HX.out.lt y hy).1; omega)).setOther (w.heap.size + 1) 1 (.int .i64 m) (fun y hy => by have := (HX.out.lt y hy).1; omega)).low (B' := w.heap.size) HBZ.out.size
      exact pop_yes HYA.out HC.out HM.out HV.out (by rw [HM8.out]; rfl) _ _ hg8 hx8 HUX.out ((hB8.out.setCell (p := ⟨w.heap.size + 1, 0, none⟩) (by show w.heap.size ≤ w.heap.size + 1; omega) _).setCell (p := ⟨w.heap.size + 1, 1, none⟩) (by show w.heap.size ≤ w.heap.size + 1; omega) _)
  case pos =>
    obtain ⟨rfl, hM8⟩ := hdo
    obtain ⟨Q, rfl⟩ : ∃ Q : Nat, m = (Q : Int) + 1 := ⟨(m - 1).toNat, by omega⟩
    have hm8 : ((Q : Int) + 1 == 0) = false := by simp; omega
    have HD : Hid (popDo ((Q : Int) + 1) true = true) := by unfold Hid popDo; rw [hm8]; rfl
    have e1 : ((Q : Int) + 1 - 1) = (Q : Int) := by omega
    obtain ⟨y, hy0⟩ : ∃ y, cs[Q]?.getD 0 = y := ⟨_, rfl⟩
    have HC : Hid ((if popDo ((Q : Int) + 1) true then cs.set ((Q : Int) + 1 - 1).toNat 0 else cs) = cs.set Q 0) := by unfold Hid; rw [HD.out, e1]; rfl
    have HM : Hid ((if popDo ((Q : Int) + 1) true then (Q : Int) + 1 - 1 else (Q : Int) + 1) = (Q : Int)) := by unfold Hid; rw [HD.out, e1]; rfl
    have HV : Hid ((if popDo ((Q : Int) + 1) true then cs[((Q : Int) + 1 - 1).toNat]?.getD 0 else 0) = y) := by unfold Hid; rw [HD.out, e1, ← hy0]; rfl
    have HOK : Hid ((!true || !((Q : Int) + 1 == 0)) = true) := by unfold Hid; rw [hm8]; rfl
    have hy : iv cs Q = .int .i64 y := by rw [iv, hy0]
    have HY := Lib.hid hy
    clear e1 hy0 hy hM8
    have k0 : w1.cell? ⟨w.heap.size, 0, none⟩ = some (.slice ad cs.length c) := Q0.out.cell rfl
    have k1 : w1.cell? ⟨w.heap.size, 1, none⟩ = some (.int .i64 ((Q : Int) + 1)) := Q0.out.cell rfl
    go_wp2_with fail
    refine (spec_copy _ cs ((Q : Int) + 1) _ H1.out (by omega)).mono ?_
    rintro e w2 ⟨u, rfl, hg, hb⟩
    obtain ⟨a1, c1, hu⟩ := hg.lit
    subst hu
    have HG2 := Lib.hid hg
    have HB2 : Hid (Below w.heap.size w w2) := HB1.out.trans (hb.mono HB1.out.size)
    have P0 := Lib.hid (Q0.out.mono hb Q0.out.lt)
    have P1 := Lib.hid (Q1.out.mono hb Q1.out.lt)
    have z1 : w.heap.size + 1 < w1.heap.size := Q1.out.lt
    have z2 : w1.heap.size ≤ w2.heap.size := hb.size
    clear hg hb Q0 Q1 HB1 H1 k0 k1
    have n0 : ¬ w2.heap.size = w.heap.size := by omega
    have n1 : ¬ w2.heap.size = w.heap.size + 1 := by omega
    have k0 : w2.cell? ⟨w.heap.size, 0, none⟩ = some (.slice ad cs.length c) := P0.out.cell rfl
    have k1 : w2.cell? ⟨w.heap.size, 1, none⟩ = some (.int .i64 ((Q : Int) + 1)) := P0.out.cell rfl
    have kr0 : w2.cell? ⟨w.heap.size + 1, 0, none⟩ = some (.slice none 0 0) := P1.out.cell rfl
    have kr1 : w2.cell? ⟨w.heap.size + 1, 1, none⟩ = some (.int .i64 0) := P1.out.cell rfl
    have LOW : Hid (w.heap.size ≤ w1.heap.size) := by unfold Hid; omega
    have hA3 : Below w2.heap.size w2 (w2.alloc (.cells #[.slice a1 cs.length c1, .int .i64 ((Q : Int) + 1)] 25)) := (Below.refl _ _).alloc (Nat.le_refl _) _
    have HA3 := Lib.hid hA3
    have K93 : Hid (Row (w2.alloc (.cells #[.slice a1 cs.length c1, .int .i64 ((Q : Int) + 1)] 25)) w2.heap.size 25 [.slice a1 cs.length c1, .int .i64 ((Q : Int) + 1)]) := Row.new w2 25 [.slice a1 cs.length c1, .int .i64 ((Q : Int) + 1)]
    have HNZ : Hid (∀ x, gBlock (.slice a1 cs.length c1) = some x → w.heap.size + 1 < x) := fun x hx => by have := (HG2.out.lt x hx).1; omega
    have kz1 : (w2.alloc (.cells #[.slice a1 cs.length c1, .int .i64 ((Q : Int) + 1)] 25)).cell? ⟨w.heap.size, 1, none⟩ = some (.int .i64 ((Q : Int) + 1)) := (P0.out.mono hA3 P0.out.lt).cell rfl
    clear hA3
    go_wp2_with fail
    generalize (w2.alloc (.cells #[.slice a1 cs.length c1, .int .i64 ((Q : Int) + 1)] 25)) = wz at HA3 K93 kz1 ⊢
    have RZ := Lib.hid (P1.out.mono HA3.out P1.out.lt)
    have RA := Lib.hid (P0.out.mono HA3.out P0.out.lt)
    have HGZ := Lib.hid (HG2.out.mono HA3.out (Nat.le_refl _))
    have HBZ : Hid (Below w.heap.size w wz) := HB2.out.trans (HA3.out.mono HB2.out.size)
    clear k0 k1 kr0 kr1 kz1
    refine (spec_PassTrace 2 8 _).mono ?_
    rintro e w8 ⟨x, rfl, hg, hb⟩
    rw [show passV 2 8 = passN 2 8 from by unfold passV passOk; rw [inB_true (by omega) (by omega), inB_true (by omega) (by omega)]; rfl] at hg
    have HX := Lib.hid hg
    have HB8 := Lib.hid hb
    have HG8 := Lib.hid (HGZ.out.mono hb (Nat.le_refl _))
    have R9 := Lib.hid (K93.out.mono hb K93.out.lt)
    have R8 := Lib.hid (RZ.out.mono hb RZ.out.lt)
    have R7 := Lib.hid (RA.out.mono hb RA.out.lt)
    have hB8 : Hid (Below w.heap.size w w8) := HBZ.out.trans (hb.mono HBZ.out.size)
    have zz : w2.heap.size < wz.heap.size := K93.out.lt
    have HUX : Hid (∀ q9, gBlock (.slice a1 cs.length c1) = some q9 → gBlock x ≠ some q9) := fun q9 e1 e2 => by have := (HGZ.out.lt q9 e1).2; have := (HX.out.lt q9 e2).1; omega
    have k0 : w8.cell? ⟨w.heap.size, 0, none⟩ = some (.slice ad cs.length c) := R7.out.cell rfl
    have k1 : w8.cell? ⟨w.heap.size, 1, none⟩ = some (.int .i64 ((Q : Int) + 1)) := R7.out.cell rfl
    have kr0 : w8.cell? ⟨w.heap.size + 1, 0, none⟩ = some (.slice none 0 0) := R8.out.cell rfl
    have kr1 : w8.cell? ⟨w.heap.size + 1, 1, none⟩ = some (.int .i64 0) := R8.out.cell rfl
    have k90 : w8.cell? ⟨w2.heap.size, 0, none⟩ = some (.slice a1 cs.length c1) := R9.out.cell rfl
    have k91 : w8.cell? ⟨w2.heap.size, 1, none⟩ = some (.int .i64 ((Q : Int) + 1)) := R9.out.cell rfl
    have f0 := R8.out.free 0
    have f1 := R8.out.free 1
    have f90 := R9.out.free 0
    have f91 := R9.out.free 1
    clear hg hb R7 R8 R9 RZ RA K93 HA3 P0 P1
    have hML : Q < cs.length := by omega
    obtain ⟨_, _, hv5, _, hop⟩ := (H00.out.mono hB8.out (Nat.le_refl _)).open
    cases hv5
    obtain ⟨ba, oa, rfl, hac⟩ := hop Q hML
    have hcA := hac Q hML
    rw [HY.out] at hcA
    obtain ⟨g, c2, hv2, hgb, hgc, hgm, hfr, hcl, hset⟩ := HG8.out.at (by omega)
    cases hv2
    have hcM := hcl Q _ (ints_get (by omega))
    rw [HY.out] at hcM
    have hfM := hfr Q
    have HQ1 : Hid ((Q : Int) + 1 - 1 = (Q : Int)) := by unfold Hid; omega
    clear hop hac
    have HS : Hid (Gr (w8.setCell ⟨g, Q, none⟩ (.int .i64 0)) w1.heap.size 3 1 (.slice (some ⟨g, 0, none⟩) cs.length c1) (cs.set Q 0).length (ints (cs.set Q 0))) := by
      unfold Hid; rw [List.length_set, show ints (cs.set Q 0) = (ints cs).set Q (.int .i64 0) by simp [ints, List.map_set]]
      exact hset Q (.int .i64 0) (by omega)
    have HGL : Hid (∀ y, gBlock (.slice (some ⟨g, 0, none⟩) cs.length c1) = some y → y < w2.heap.size ∧ w.heap.size + 1 < y) := fun y hy => ⟨(HG2.out.lt y hy).2, HNZ.out y hy⟩
    have hgl : g < w2.heap.size := (HGL.out g (by simp [gBlock]; omega)).1
    have hng : ¬ w2.heap.size = g := by omega
    have hng0 : ¬ g = w.heap.size := by omega
    have hng1 : ¬ g = w.heap.size + 1 := by omega
    have hng2 : ¬ g = w2.heap.size := by omega
    clear hfr hcl hset hgc hgm
    go_wp2
    refine bodyPost_ret (v := .tuple #[.agg #[.slice (some ⟨g, 0, none⟩) cs.length c1, .int .i64 (Q : Int)], .int .i64 y, x, .bool true]) (by simp [results, Tryd.results19, go_sem, kr0, kr1]) rfl ?_
    have hg8 := (((HS.out.setOther w2.heap.size 1 (.int .i64 (Q : Int)) (fun y hy => by have := HGL.out y hy; omega)).setOther (w.heap.size + 1) 0 (.slice (some ⟨g, 0, none⟩) cs.length c1) (fun y hy => by have := HGL.out y hy; omega)).setOther (w.heap.size + 1) 1 (.int .i64 (Q : Int)) (fun y hy => by have := HGL.out y hy; omega)).low (B' := w.heap.size) LOW.out
    have hx8 := ((((HX.out.setOther g Q (.int .i64 0) (fun y hy => by have := (HX.out.lt y hy).1; omega)).setOther w2.heap.size 1 (.int .i64 (Q : Int)) (fun y hy => by have := (HX.out.lt y hy).1; omega)).setOther (w.heap.size + 1) 0 (.slice (some ⟨g, 0, none⟩) cs.length c1) (fun y hy => by have := (HX.out.lt y hy).1; omega)).setOther (w.heap.size + 1) 1 (.int .i64 (Q : Int)) (fun y hy => by have := (HX.out.lt y hy).1; omega)).low (B' := w.heap.size) HBZ.out.size
    exact pop_yes HYA.out HC.out HM.out HV.out HOK.out _ _ hg8 hx8 HUX.out ((((hB8.out.setCell (p := ⟨g, Q, none⟩) (by show w.heap.size ≤ g; omega) _).setCell (p := ⟨w2.heap.size, 1, none⟩) (by show w.heap.size ≤ w2.heap.size; omega) _).setCell (p := ⟨w.heap.size + 1, 0, none⟩) (by show w.heap.size ≤ w.heap.size + 1; omega) _).setCell (p := ⟨w.heap.size + 1, 1, none⟩) (by show w.heap.size ≤ w.heap.size + 1; omega) _)
theorem push_own {C : List Int} {M : Int} {T : List (Int × Int × Bool)} {t : Bool} {w w' : World} {e : Ending} (h : PushPost C M T t w e w') :
    ∃ u x bu bx, e = .returned (.tuple #[.agg #[u, .int .i64 M], x, .bool t]) ∧ OwnI w' bu u C ∧ From w.heap.size bu ∧ OwnA w' bx x T ∧ From w.heap.size bx ∧ (∀ g, bu = some g → bx ≠ some g) ∧ Below w.heap.size w w' := by
  obtain ⟨u, x, rfl, hu, hx, hne, hb⟩ := h
  obtain ⟨bu, hu1, hu2, hu3⟩ := hu.own
  obtain ⟨bx, hx1, hx2, hx3⟩ := hx.own
  exact ⟨u, x, bu, bx, rfl, hu1, hu2, hx1, hx2, fun g h1 h2 => hne g (hu3 g h1) (hx3 g h2), hb⟩
theorem pop_own {C : List Int} {M V : Int} {T : List (Int × Int × Bool)} {t : Bool} {w w' : World} {e : Ending} (h : PopPost C M V T t w e w') :
    ∃ u x bu bx, e = .returned (.tuple #[.agg #[u, .int .i64 M], .int .i64 V, x, .bool t]) ∧ OwnI w' bu u C ∧ From w.heap.size bu ∧ OwnA w' bx x T ∧ From w.heap.size bx ∧ (∀ g, bu = some g → bx ≠ some g) ∧ Below w.heap.size w w' := by
  obtain ⟨u, x, rfl, hu, hx, hne, hb⟩ := h
  obtain ⟨bu, hu1, hu2, hu3⟩ := hu.own
  obtain ⟨bx, hx1, hx2, hx3⟩ := hx.own
  exact ⟨u, x, bu, bx, rfl, hu1, hu2, hx1, hx2, fun g h1 h2 => hne g (hu3 g h1) (hx3 g h2), hb⟩
theorem impl_PushStack_own (v : Value) (cs : List Int) (m a : Int) (t : Bool) (w : World) (h : Ints w v cs) (_ : cs.length ≤ 1048576) : Calls Tryd.prog 13 #[.agg #[v, .int .i64 m], .int .i64 a, .bool t] w fun e w' => ∃ u x bu bx, e = .returned (.tuple #[.agg #[u, .int .i64 (pushM cs m a t)], x, .bool (pushOk cs m a t)]) ∧ OwnI w' bu u (pushC cs m a t) ∧ From w.heap.size bu ∧ OwnA w' bx x (pushT cs m a) ∧ From w.heap.size bx ∧ (∀ g, bu = some g → bx ≠ some g) ∧ Below w.heap.size w w' :=
  (impl_PushStack v cs m a t w h).mono fun _ _ h => push_own h
theorem impl_PopStack_own (v : Value) (cs : List Int) (m : Int) (t : Bool) (w : World) (h : Ints w v cs) (_ : cs.length ≤ 1048576) : Calls Tryd.prog 17 #[.agg #[v, .int .i64 m], .bool t] w fun e w' => ∃ u x bu bx, e = .returned (.tuple #[.agg #[u, .int .i64 (popM cs m t)], .int .i64 (popV cs m t), x, .bool (popOk cs m t)]) ∧ OwnI w' bu u (popC cs m t) ∧ From w.heap.size bu ∧ OwnA w' bx x (popT cs m) ∧ From w.heap.size bx ∧ (∀ g, bu = some g → bx ≠ some g) ∧ Below w.heap.size w w' :=
  (impl_PopStack v cs m t w h).mono fun _ _ h => pop_own h
theorem spec_PushStack_own (v : Value) (cs : List Int) (m a : Int) (t : Bool) (w : World) (h : Ints w v cs) (_ : cs.length ≤ 1048576) : Calls Tryd.prog 14 #[.agg #[v, .int .i64 m], .int .i64 a, .bool t] w fun e w' => ∃ u x bu bx, e = .returned (.tuple #[.agg #[u, .int .i64 (pushM cs m a t)], x, .bool (pushOk cs m a t)]) ∧ OwnI w' bu u (pushC cs m a t) ∧ From w.heap.size bu ∧ OwnA w' bx x (pushT cs m a) ∧ From w.heap.size bx ∧ (∀ g, bu = some g → bx ≠ some g) ∧ Below w.heap.size w w' :=
  (spec_PushStack v cs m a t w h).mono fun _ _ h => push_own h
theorem spec_PopStack_own (v : Value) (cs : List Int) (m : Int) (t : Bool) (w : World) (h : Ints w v cs) (_ : cs.length ≤ 1048576) : Calls Tryd.prog 19 #[.agg #[v, .int .i64 m], .bool t] w fun e w' => ∃ u x bu bx, e = .returned (.tuple #[.agg #[u, .int .i64 (popM cs m t)], .int .i64 (popV cs m t), x, .bool (popOk cs m t)]) ∧ OwnI w' bu u (popC cs m t) ∧ From w.heap.size bu ∧ OwnA w' bx x (popT cs m) ∧ From w.heap.size bx ∧ (∀ g, bu = some g → bx ≠ some g) ∧ Below w.heap.size w w' :=
  (spec_PopStack v cs m t w h).mono fun _ _ h => pop_own h
end Go.Proofs.YtmdjkaghjljbfaaDoor
