/- MemoryRun of the program -/
import Derived.Test.YtbnplohlfiefhaaDoorRun
namespace Go.Proofs.YtbnplohlfiefhaaDoor
open Go.RowKit
theorem agg2 {a b c d : Value} (h : Value.agg #[a, b] = Value.agg #[c, d]) : a = c ∧ b = d := by
  injection h with h
  have := congrArg Array.toList h
  simp at this
  exact this
theorem MO.lits {w : World} {B : Nat} {bv s0 : Value} {ls : Nat → List (Int × Int × Int)} (h : MO w B (.agg #[bv, s0]) 7 ls) : ∃ a c a' c', bv = .slice a 7 c ∧ s0 = .slice a' (ls 0).length c' := by
  obtain ⟨bv', vs, e, hb, hf⟩ := h
  obtain ⟨rfl, rfl⟩ := agg2 e
  obtain ⟨a, c, h1⟩ := hb.lit
  obtain ⟨a', c', h2⟩ := (hf 0 (by omega)).1.lit
  exact ⟨a, c, a', c', h1, h2⟩
set_option maxRecDepth 40000 in
set_option maxHeartbeats 4000000 in
theorem impl_Run (mv uv : Value) (n : Nat) (f : Nat → List (Int × Int × Int)) (st : List (Int × Int × Int)) (us : List (Int × Bool × Int × Int)) (w : World) (h : MemIn w mv n f st) (hs : Small n f st) (hu : Uses w uv us) (hl : us.length ≤ 100) :
    Calls Tryd.prog 24 #[mv, uv] w (RunPost (runL n f st us) w) := by
  obtain ⟨POST, hpost⟩ : ∃ P, RunPost (runL n f st us) w = P := ⟨_, rfl⟩
  rw [hpost]
  have HPOST := Lib.hid hpost
  have HNO : Hid (runL n f st us = none → ∀ w2, Below w.heap.size w w2 → POST (.returned (.tuple #[.agg #[.slice none 0 0, .slice none 0 0], .slice none 0 0, .slice none 0 0, .bool false])) w2) := fun hn w2 hb => by
    rw [← hpost, hn]
    exact ⟨_, _, rfl, Gr.nil _ _ _ _, Gr.nil _ _ _ _, hb⟩
  clear hpost
  have HM := Lib.hid h
  obtain ⟨bs, sv, rfl, h1, h2⟩ := h
  have HSM := Lib.hid hs
  obtain ⟨ad, cu, rfl, _, hop⟩ := hu.open
  have HOP := Lib.hid hop
  have HUL := Lib.hid hl
  clear h1 h2 hs hu hop hl
  obtain ⟨w1, hw1⟩ : ∃ w1, w1 = (w.alloc (.cells #[bs, sv] 29)).alloc (.cells #[.slice none 0 0, .slice none 0 0] 29) := ⟨_, rfl⟩
  have HW1 := Lib.hid hw1
  have HB1 : Hid (Below w.heap.size w w1) := by rw [hw1]; exact ((Below.refl _ _).alloc (Nat.le_refl _) _).alloc (by simp) _
  have HR0 : Hid (Row w1 w.heap.size 29 [bs, sv]) := by rw [hw1]; exact (Row.new w 29 [bs, sv]).alloc _
  have HR1 : Hid (Row w1 (w.heap.size + 1) 29 [.slice none 0 0, .slice none 0 0]) := by
    have := Row.new (w.alloc (.cells #[bs, sv] 29)) 29 [.slice none 0 0, .slice none 0 0]
    rw [World.size_alloc] at this
    rw [hw1]; exact this
  clear hw1
  go_enter Tryd.func24, Tryd.ntmps24
  go_wp2_with fail
  rw [← HW1.out]
  refine (impl_MemoryValid _ n f st w1 (HM.out.mono HB1.out (Nat.le_refl _)) HSM.out).mono ?_
  cases hv : validB n f st with
  | false =>
    have HN := HNO.out (by unfold runL; rw [hv]; rfl)
    have HN := Lib.hid HN
    rintro e w2 ⟨rfl, hb⟩
    have HB2 : Hid (Below w.heap.size w w2) := HB1.out.trans (hb.mono HB1.out.size)
    have HR2 := Lib.hid (HR1.out.mono hb HR1.out.lt)
    clear hb hv HNO
    have y0 := HR2.out.cell (i := 0) rfl
    have y1 := HR2.out.cell (i := 1) rfl
    have z0 := HR2.out.free 0
    have z1 := HR2.out.free 1
    go_wp2
    have hrow := (HR2.out.set 0 (.slice none 0 0)).set 1 (.slice none 0 0)
    have f0 := hrow.cell (i := 0) rfl
    have f1 := hrow.cell (i := 1) rfl
    have hg1 : w2.grownBy ((w2.setCell ⟨w.heap.size + 1, 0, none⟩ (.slice none 0 0)).setCell ⟨w.heap.size + 1, 1, none⟩ (.slice none 0 0)) (some (w.heap.size + 1)) := grown_set (set_other w2 ⟨w.heap.size + 1, 0, none⟩ _ rfl) _ _
    exact bodyPost_ret (v := .tuple #[.agg #[.slice none 0 0, .slice none 0 0], .slice none 0 0, .slice none 0 0, .bool false]) (by simp [results, Tryd.results24, go_sem, f0, f1]) rfl (HN.out _ (HB2.out.grown hg1 HB2.out.size (fun g hg => by cases hg; omega)))
  | true =>
    by_cases h40 : us.length ≤ 40
    · obtain rfl : n = 7 := (validB_iff.1 hv).seven
      have HRUN : Hid (runL 7 f st us = us.foldl runStep (some (lsOf f st, [], []))) := by unfold Hid runL; rw [hv, decide_eq_true h40]; rfl
      have HRO : Hid (RunOk (lsOf f st)) := RunOk.start hv
      have h40z : decide ((us.length : Int) > 40) = false := decide_eq_false (by omega)
      have h40y : (us.length : Int) ≤ 40 := by omega
      rintro e w2 ⟨rfl, hb⟩
      have HB2 : Hid (Below w.heap.size w w2) := HB1.out.trans (hb.mono HB1.out.size)
      have HR2 := Lib.hid (HR1.out.mono hb HR1.out.lt)
      have HR02 := Lib.hid (HR0.out.mono hb HR0.out.lt)
      have k0 := HR02.out.cell (i := 0) rfl
      have k1 := HR02.out.cell (i := 1) rfl
      clear hb hv HB1 HR0 HR1 HW1
      go_wp2_with fail
      clear k0 k1 h40z h40y
      refine (clone_any' _ f st w2 (HM.out.mono HB2.out (Nat.le_refl _)) HSM.out).mono ?_
      rintro e w3 ⟨cv, rfl, hmo, hb⟩
      obtain ⟨bv, vs, rfl, hbv, hfam⟩ := hmo
      obtain ⟨a4, c4, hv4⟩ := hbv.lit
      obtain ⟨a5, c5, hv5⟩ := (hfam 0 (by omega)).1.lit
      have hgrB : w.heap.size + 1 < w2.heap.size := HR2.out.lt
      have hz23 : w2.heap.size ≤ w3.heap.size := hb.size
      have HRS : Hid (RS w w2.heap.size w3.heap.size (w.heap.size + 1) (.slice a4 7 c4) (.slice a5 (lsOf f st 0).length c5) (.slice none 0 0) (.slice none 0 0) (lsOf f st) [] [] (w3.alloc (.cells #[.slice a4 7 c4, .slice a5 (lsOf f st 0).length c5] 29))) := by
        have hba : Below w3.heap.size w3 (w3.alloc (.cells #[.slice a4 7 c4, .slice a5 (lsOf f st 0).length c5] 29)) := (Below.refl _ _).alloc (Nat.le_refl _) _
        refine ⟨?_, Row.new w3 29 [.slice a4 7 c4, .slice a5 (lsOf f st 0).length c5], Gr.nil _ _ _ _, Gr.nil _ _ _ _, fun g hg => by simp [gBlock] at hg, (HR2.out.mono hb HR2.out.lt).mono hba (by omega), (HB2.out.trans (hb.mono HB2.out.size)).trans (hba.mono (by have := HB2.out.size; omega)), by exact ⟨hz23, HB2.out.size, hgrB⟩⟩
        have : MO w3 w2.heap.size (.agg #[bv, vs 0]) 7 (lsOf f st) := ⟨bv, vs, rfl, hbv, hfam⟩
        rw [hv4, hv5] at this
        exact this.mono hba (Nat.le_refl _)
      rw [hv4, hv5]
      clear hb hbv hfam hv4 hv5 HR02 HR2 HB2 hz23 hgrB HM HSM
      obtain ⟨B, hB⟩ : ∃ B, w2.heap.size = B := ⟨_, rfl⟩
      obtain ⟨gx, hgx⟩ : ∃ gx, w3.heap.size = gx := ⟨_, rfl⟩
      rw [hB, hgx] at HRS
      clear hB
      go_wp2
      try rw [hgx]
      generalize (w3.alloc (.cells #[.slice a4 7 c4, .slice a5 (lsOf f st 0).length c5] 29)) = W5 at HRS ⊢
      clear hgx
      go_loopg [9, 10, 30] us.length (fun gg u1 u2 i wr => ∃ (k : Nat) (ls : Nat → List (Int × Int × Int)) (vs ws : List Int) (bv s0 : Value), k ≤ us.length ∧ us.length - k ≤ gg ∧ i = .int .i64 k ∧ Hid ((us.take k).foldl runStep (some (lsOf f st, [], [])) = some (ls, vs, ws)) ∧ Hid (RunOk ls) ∧ vs.length = k ∧ ws.length = 3 * k ∧ Hid (RS w B gx (w.heap.size + 1) bv s0 u1 u2 ls vs ws wr))
      case atStart => exact ⟨0, lsOf f st, [], [], _, _, Nat.zero_le _, Nat.le_refl _, rfl, rfl, HRO.out, rfl, rfl, HRS.out⟩
      case round =>
        clear HRS HRO
        obtain ⟨k, ls, vs, ws, bv, s0, hk, hgg, rfl, hfold, hro, hvl, hwl, hS⟩ := hrel
        obtain ⟨a4, c4, a5, c5, rfl, rfl⟩ := hS.out.m.lits
        obtain ⟨au, c1, hu1⟩ := hS.out.a.lit
        obtain ⟨av, c2, hu2⟩ := hS.out.b.lit
        rw [hvl] at hu1
        rw [hwl] at hu2
        subst hu1 hu2
        have HVL := Lib.hid hvl
        have HWL := Lib.hid hwl
        clear hvl hwl
        by_cases hlt : k < us.length
        · have HLT := Lib.hid hlt
          obtain ⟨b, off, rfl, hcell⟩ := HOP.out k hlt
          obtain ⟨d0, d1, d2, d3⟩ := hcell k hlt
          have hsucc := run_succ hlt (some (lsOf f st, [], []))
          rw [hfold.out] at hsucc
          obtain ⟨x, hx⟩ : ∃ x, uat us k = x := ⟨_, rfl⟩
          rw [hx] at d0 d1 d2 d3 hsucc
          obtain ⟨ua, ut, uz, ul⟩ := x
          have hbl := hS.out.below
          have e0 := (hbl.cell (p := ⟨b, off + k * 4, none⟩) (World.block_lt_of_cell? w _ d0)).trans d0
          have e1 := (hbl.cell (p := ⟨b, off + k * 4 + 1, none⟩) (World.block_lt_of_cell? w _ d1)).trans d1
          have e2 := (hbl.cell (p := ⟨b, off + k * 4 + 2, none⟩) (World.block_lt_of_cell? w _ d2)).trans d2
          have e3 := (hbl.cell (p := ⟨b, off + k * 4 + 3, none⟩) (World.block_lt_of_cell? w _ d3)).trans d3
          have HSA := Lib.hid (hS.out.alloc (.cells #[.int .i64 ua, .bool ut, .int .i64 uz, .int .i64 ul] 50))
          have x0a := HSA.out.row.cell (i := 0) rfl
          have x1a := HSA.out.row.cell (i := 1) rfl
          have hszw : (wr.alloc (.cells #[.int .i64 ua, .bool ut, .int .i64 uz, .int .i64 ul] 50)).heap.size = wr.heap.size + 1 := by simp
          have HSZ := Lib.hid hszw
          have HMI := Lib.hid HSA.out.m.view
          have HSM := Lib.hid (small_valid hro.out.valid)
          clear hcell d0 d1 d2 d3 hx hbl hfold hszw
          go_wp2_with fail
          clear e0 e1 e2 e3 x0a x1a
          cases hok : useOk 7 (fun i => ls (i + 2)) (ls 0) ua uz ul with
          | true =>
            have hs1 : (us.take (k + 1)).foldl runStep (some (lsOf f st, [], [])) = some (useLs ls (blkAt (allM 7 (fun i => ls (i + 2)) (ls 0)) ua).2.2 ua ut uz ul, vs ++ [(blkAt (allM 7 (fun i => ls (i + 2)) (ls 0)) ua).2.1], ws ++ pathL (blkAt (allM 7 (fun i => ls (i + 2)) (ls 0)) ua).2.2) := by
              rw [hsucc]
              unfold runStep
              simp only [hok, if_true]
              rfl
            have hro1 := hro.out.step (t := ut) hok
            have HC := impl_Use (t := ut) HMI.out HSM.out hok
            rw [hro.out.ls] at HC
            obtain ⟨o, ho⟩ : ∃ o, blkAt (allM 7 (fun i => ls (i + 2)) (ls 0)) ua = o := ⟨_, rfl⟩
            have ho' : blkAt (allL ls) ua = o := ho
            rw [ho] at HC hs1
            rw [ho'] at hro1
            obtain ⟨o0, o1, o2⟩ := o
            obtain ⟨X, hX⟩ : ∃ X, useLs ls o2 ua ut uz ul = X := ⟨_, rfl⟩
            simp only at HC hs1 hro1
            rw [hX] at HC hs1 hro1
            have HS1 := Lib.hid hs1
            have HRO1 := Lib.hid hro1
            refine HC.mono ?_
            clear HC hs1 hro1 hX ho ho' hok hsucc hro HMI HSM
            rintro e w6 ⟨mv', pv, rfl, hmo, hpv, hb⟩
            obtain ⟨bv', vs', rfl, hb1, hf1⟩ := hmo
            obtain ⟨a7, c7, h7⟩ := hb1.lit
            obtain ⟨a8, c8, h8⟩ := (hf1 0 (by omega)).1.lit
            have HMO : Hid (MO w6 (wr.heap.size + 1) (.agg #[.slice a7 7 c7, .slice a8 (X 0).length c8]) 7 X) := by
              have : MO w6 _ (.agg #[bv', vs' 0]) 7 X := ⟨bv', vs', rfl, hb1, hf1⟩
              rw [h7, h8, HSZ.out] at this
              exact this
            have hpl : (pathL o2).length = 3 := rfl
            rw [hpl, HSZ.out] at hpv
            obtain ⟨a9, c9, h9⟩ := hpv.lit
            subst h9
            have HPV := Lib.hid hpv
            have HS6 := Lib.hid (HSA.out.mono hb (Nat.le_refl _))
            rw [h7, h8]
            clear hb1 hf1 h7 h8 hb hpv hpl HSA
            obtain ⟨m8, hm8⟩ : ∃ m, (X 0).length = m := ⟨_, rfl⟩
            rw [hm8] at HMO ⊢
            have HS7 := Lib.hid (HS6.out.alloc (.cells #[.slice a7 7 c7, .slice a8 m8 c8] 29))
            have x0 := HS7.out.row.cell (i := 0) rfl
            have x1 := HS7.out.row.cell (i := 1) rfl
            have z0 := HS7.out.row.free 0
            have z1 := HS7.out.row.free 1
            clear hm8
            obtain ⟨W8, hW8⟩ : ∃ W8, ((w6.alloc (.cells #[.slice a7 7 c7, .slice a8 m8 c8] 29)).setCell ⟨gx, 0, none⟩ (.slice a7 7 c7)).setCell ⟨gx, 1, none⟩ (.slice a8 m8 c8) = W8 := ⟨_, rfl⟩
            have hs8 : (w6.alloc (.cells #[.slice a7 7 c7, .slice a8 m8 c8] 29)).grownBy W8 (some gx) := by rw [← hW8]; exact grown_set (set_other _ ⟨gx, 0, none⟩ _ rfl) _ _
            have HS8 : Hid (RS w B gx (w.heap.size + 1) (.slice a7 7 c7) (.slice a8 m8 c8) (.slice au k c1) (.slice av (3 * k) c2) X vs ws W8) := by
              rw [← hW8]
              exact HS7.out.put (HMO.out.mono ((Below.refl w6.heap.size w6).alloc (Nat.le_refl _) _) (Nat.le_refl _)) (by have := hS.out.size; omega)
            have HPV8 : Hid (Gr W8 (wr.heap.size + 1) 3 1 (.slice a9 3 c9) 3 (ints (pathL o2))) := (HPV.out.alloc _).kept hs8 (fun g hg he => by cases he; exact row_ne (HPV.out.alloc _) HS7.out.row (by decide) gx hg rfl)
            have HD : Hid (∀ g, gBlock (.slice au k c1) = some g → g < wr.heap.size) := fun g hg => (hS.out.a.lt g hg).2
            have HG1 : Hid (Gr W8 B 3 1 (.slice au k c1) k (ints vs)) := by have := HS8.out.a; rwa [HVL.out] at this
            have HSZ8 := Lib.hid HS8.out.size
            have hk40 : k ≤ 40 := by omega
            have HK40 := Lib.hid hk40
            clear HMO HPV HS6 HS7 hs8 hk40
            go_wp2_with (first
              | (at_builtin; (try rw [hW8]); refine wpList_app _ rfl (.tmp 53) (.tmp 55) 23 rfl B 3 (.int .i64 0) 1 8 Tryd.underlying23 Tryd.infoInt rfl (by omega) (.slice au k c1) k (ints vs) rfl (HG1.out.alloc _) _ 1 [.int .i64 o1] rfl (view_one _ _ _) (by simp [Value.oneCell']) (by have := HK40.out; unfold maxLen; omega) (by have := HK40.out; omega) (by rw [World.size_alloc]; have := HSZ8.out; omega) ?_; intro v5 w9 g5 r5 k5; have G5 : Hid (Gr w9 B 3 1 v5 (vs ++ [o1]).length (ints (vs ++ [o1]))) := (by unfold Hid; rw [List.length_append, HVL.out]; simpa [ints] using g5); have HS9 := Lib.hid ((HS8.out.alloc _).app1 G5.out r5 k5); have HPV9 := Lib.hid ((HPV8.out.alloc (.cells #[.int .i64 o1] 3)).kept r5 (fun g hg he => (by have h1 := (HPV8.out.lt g hg).1; have h2 := HD.out g he; omega))); clear g5 r5 k5)
              | (at_builtin; refine wpList_app _ rfl (.tmp 57) (.tmp 58) 23 rfl B 3 (.int .i64 0) 1 8 Tryd.underlying23 Tryd.infoInt rfl (by omega) (.slice av (3 * k) c2) (3 * k) (ints ws) rfl (by have := HS9.out.b; rwa [HWL.out] at this) (.slice a9 3 c9) 3 (ints (pathL o2)) rfl HPV9.out.view (one_ints _) (by have := HK40.out; unfold maxLen; omega) (by have := HK40.out; omega) HS9.out.size ?_; intro v6 w10 g6 r6 k6; have G6 : Hid (Gr w10 B 3 1 v6 (ws ++ pathL o2).length (ints (ws ++ pathL o2))) := (by unfold Hid; rw [List.length_append, HWL.out, show ints (ws ++ pathL o2) = ints ws ++ ints (pathL o2) from List.map_append]; exact g6); have HS10 := Lib.hid (HS9.out.app2 G6.out r6 k6); clear g6 r6 k6))
            go_roundg (us.length - (k + 1))
            case rel => exact ⟨k + 1, X, vs ++ [o1], ws ++ pathL o2, _, _, HLT.out, Nat.le_refl _, by go_num, HS1.out, HRO1.out, by rw [List.length_append, HVL.out]; rfl, by rw [List.length_append, HWL.out]; show 3 * k + 3 = 3 * (k + 1); omega, HS10.out⟩
            case measure => have := HLT.out; omega
          | false =>
            have hs1 : us.foldl runStep (some (lsOf f st, [], [])) = none := by
              refine run_fail (k := k + 1) ?_
              rw [hsucc]
              unfold runStep
              simp [hok]
            have HN := Lib.hid (HNO.out (by rw [HRUN.out]; exact hs1))
            refine (impl_Use_no (t := ut) _ 7 _ _ ua uz ul _ HMI.out HSM.out hok).mono ?_
            clear hs1 hsucc hok hro HMI HSM HNO HRUN
            rintro e w6 ⟨mv', pv, rfl, hmo, hpv, hb⟩
            obtain ⟨bv', vs', rfl, hb1, hf1⟩ := hmo
            obtain ⟨a7, c7, h7⟩ := hb1.lit
            obtain ⟨a8, c8, h8⟩ := (hf1 0 (by omega)).1.lit
            obtain ⟨a9, c9, h9⟩ := hpv.lit
            subst h9
            have HS6 := Lib.hid (HSA.out.mono hb (Nat.le_refl _))
            rw [h7, h8]
            have HS7 := Lib.hid (HS6.out.alloc (.cells #[.slice a7 0 c7, .slice a8 0 c8] 29))
            have y0 := HS7.out.res.cell (i := 0) rfl
            have y1 := HS7.out.res.cell (i := 1) rfl
            have z0 := HS7.out.res.free 0
            have z1 := HS7.out.res.free 1
            clear hb1 hf1 h7 h8 hb hpv HSA
            go_wp2_with fail
            have hrow := (HS7.out.res.set 0 (.slice none 0 0)).set 1 (.slice none 0 0)
            have f0 := hrow.cell (i := 0) rfl
            have f1 := hrow.cell (i := 1) rfl
            have hg1 : (w6.alloc (.cells #[.slice a7 0 c7, .slice a8 0 c8] 29)).grownBy (((w6.alloc (.cells #[.slice a7 0 c7, .slice a8 0 c8] 29)).setCell ⟨w.heap.size + 1, 0, none⟩ (.slice none 0 0)).setCell ⟨w.heap.size + 1, 1, none⟩ (.slice none 0 0)) (some (w.heap.size + 1)) := grown_set (set_other _ ⟨w.heap.size + 1, 0, none⟩ _ rfl) _ _
            exact bodyPost_ret (v := .tuple #[.agg #[.slice none 0 0, .slice none 0 0], .slice none 0 0, .slice none 0 0, .bool false]) (by simp [results, Tryd.results24, go_sem, f0, f1]) rfl (HN.out _ (HS7.out.below.grown hg1 HS7.out.below.size (fun g hg => by cases hg; omega)))
        · obtain rfl : k = us.length := by omega
          have hend : runL 7 f st us = some (ls, vs, ws) := by
            have := hfold.out
            rw [List.take_length] at this
            rw [HRUN.out]; exact this
          have HEND := Lib.hid hend
          obtain ⟨m8, hm8⟩ : ∃ m, (ls 0).length = m := ⟨_, rfl⟩
          rw [hm8] at hS
          have y0 := hS.out.res.cell (i := 0) rfl
          have y1 := hS.out.res.cell (i := 1) rfl
          have z0 := hS.out.res.free 0
          have z1 := hS.out.res.free 1
          have x0 := hS.out.row.cell (i := 0) rfl
          have x1 := hS.out.row.cell (i := 1) rfl
          clear hend hm8 hfold hro HNO HRUN
          go_wp2_with fail
          have hrow := (hS.out.res.set 0 (.slice a4 7 c4)).set 1 (.slice a5 m8 c5)
          have f0 := hrow.cell (i := 0) rfl
          have f1 := hrow.cell (i := 1) rfl
          have hg1 : wr.grownBy ((wr.setCell ⟨w.heap.size + 1, 0, none⟩ (.slice a4 7 c4)).setCell ⟨w.heap.size + 1, 1, none⟩ (.slice a5 m8 c5)) (some (w.heap.size + 1)) := grown_set (set_other wr ⟨w.heap.size + 1, 0, none⟩ _ rfl) _ _
          have HG1 := Lib.hid hg1
          refine bodyPost_ret (v := .tuple #[.agg #[.slice a4 7 c4, .slice a5 m8 c5], .slice au us.length c1, .slice av (3 * us.length) c2, .bool true]) (by simp [results, Tryd.results24, go_sem, f0, f1]) rfl ?_
          rw [← HPOST.out, HEND.out]
          have hge := hS.out.ge
          exact ⟨_, _, _, rfl, (hS.out.m.kept HG1.out hge.2.2).low hge.2.1, (hS.out.a.kept HG1.out (fun g hg he => by cases he; have := (hS.out.a.lt _ hg).1; omega)).low hge.2.1, (hS.out.b.kept HG1.out (fun g hg he => by cases he; have := (hS.out.b.lt _ hg).1; omega)).low hge.2.1, hS.out.below.grown HG1.out hS.out.below.size (fun g hg => by cases hg; omega)⟩
    · have HN := HNO.out (by unfold runL; rw [hv, decide_eq_false h40]; rfl)
      have HN := Lib.hid HN
      have h40z : decide ((us.length : Int) > 40) = true := decide_eq_true (by omega)
      rintro e w2 ⟨rfl, hb⟩
      have HB2 : Hid (Below w.heap.size w w2) := HB1.out.trans (hb.mono HB1.out.size)
      have HR2 := Lib.hid (HR1.out.mono hb HR1.out.lt)
      clear hb hv HNO h40
      have y0 := HR2.out.cell (i := 0) rfl
      have y1 := HR2.out.cell (i := 1) rfl
      have z0 := HR2.out.free 0
      have z1 := HR2.out.free 1
      go_wp2
      have hrow := (HR2.out.set 0 (.slice none 0 0)).set 1 (.slice none 0 0)
      have f0 := hrow.cell (i := 0) rfl
      have f1 := hrow.cell (i := 1) rfl
      have hg1 : w2.grownBy ((w2.setCell ⟨w.heap.size + 1, 0, none⟩ (.slice none 0 0)).setCell ⟨w.heap.size + 1, 1, none⟩ (.slice none 0 0)) (some (w.heap.size + 1)) := grown_set (set_other w2 ⟨w.heap.size + 1, 0, none⟩ _ rfl) _ _
      exact bodyPost_ret (v := .tuple #[.agg #[.slice none 0 0, .slice none 0 0], .slice none 0 0, .slice none 0 0, .bool false]) (by simp [results, Tryd.results24, go_sem, f0, f1]) rfl (HN.out _ (HB2.out.grown hg1 HB2.out.size (fun g hg => by cases hg; omega)))
end Go.Proofs.YtbnplohlfiefhaaDoor
