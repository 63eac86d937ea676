/- the draw of runs -/
import Derived.Test.YtbnplohlfiefhaaDoorLeafDraw
namespace Go.Proofs.YtbnplohlfiefhaaDoor
open Go.RowKit
def zeroU : List (Int × Bool × Int × Int) := List.replicate 41 (0, false, 0, 0)
theorem Tryd.mk41 (w : World) : (Instr.makeSlice 44 (.int .i64 41) (.int .i64 41)).run Tryd.prog w = .ok (.slice (some ⟨w.heap.size, 0, none⟩) 41 41) (w.alloc (.cells (useCs zeroU).toArray 50)) := by kernel_rfl
def DrawnRun (w : World) (e : Ending) (w' : World) : Prop :=
  ∃ a c a' c' n f st u us, e = .returned (.tuple #[.agg #[.slice a n c, .slice a' st.length c'], u]) ∧ MemIn w' (.agg #[.slice a n c, .slice a' st.length c']) n f st ∧ Uses w' u us ∧ us.length ≤ 41 ∧ n ≤ 7 ∧ Small n f st ∧ Below w.heap.size w w'
set_option maxRecDepth 20000 in
set_option maxHeartbeats 2000000 in
theorem draw_MemoryRun (v : Value) (bs : List Int) (w : World) (h : Bts w v bs) : Calls Tryd.prog 23 #[v] w (DrawnRun w) := by
  obtain ⟨W1, hW1⟩ : ∃ W1, W1 = w.alloc (.cells #[.slice none 0 0, .slice none 0 0] 29) := ⟨_, rfl⟩
  have HW1 := Lib.hid hW1
  have HB1 : Hid (Below w.heap.size w W1) := by rw [hW1]; exact (Below.refl _ _).alloc (Nat.le_refl _) _
  have HR1 : Hid (Row W1 w.heap.size 29 [.slice none 0 0, .slice none 0 0]) := by rw [hW1]; exact Row.new w 29 [.slice none 0 0, .slice none 0 0]
  have H := Lib.hid (h.mono HB1.out (Nat.le_refl _))
  clear h hW1
  go_enter Tryd.func23, Tryd.ntmps23
  go_wp2_with fail
  rw [← HW1.out]
  refine (open_any v bs W1 H.out).mono ?_
  rintro e w1 ⟨v1, bs1, rfl, hr, hb⟩
  have hg2 : w.heap.size < W1.heap.size := HR1.out.lt
  have HR := Lib.hid hr
  have lowR := hr.low.1
  have LV := Lib.hid hr.low.2
  have HB2 : Hid (Below w.heap.size w w1) := HB1.out.trans (hb.mono HB1.out.size)
  have HR2 := Lib.hid (HR1.out.mono hb HR1.out.lt)
  have hz1 : W1.heap.size ≤ w1.heap.size := hb.size
  clear hr hb H HB1 HR1 HW1
  obtain ⟨R, hRR⟩ : ∃ R, W1.heap.size = R := ⟨_, rfl⟩
  obtain ⟨g2, hgg⟩ : ∃ g2, w.heap.size = g2 := ⟨_, rfl⟩
  rw [hRR] at HR lowR hg2 hz1
  rw [hgg] at HR2 HB2 hg2
  have HGG := Lib.hid hgg
  go_wp2_with fail
  try rw [hRR]
  clear hRR hgg
  refine (mem_any R v1 bs1 12 0 w1 HR.out (by omega) (by omega) (by omega)).mono ?_
  rintro e w2 ⟨a, c, a', c', n, f, st, p2, rfl, hmk, hn, hs, q1, q2, hr, hg⟩
  have R2 := Lib.hid hr
  have HMK := Lib.hid hmk
  have HN := Lib.hid hn
  have HS := Lib.hid hs
  have HB3 : Hid (Below g2 w w2) := HB2.out.grown hg (by have := HGG.out; have := HB2.out.size; omega) (fun g hg => by cases hg; omega)
  have HR3 := Lib.hid (HR2.out.grown hg (fun e => by have := Option.some.inj e; omega))
  have hz2 : w1.heap.size ≤ w2.heap.size := hg.size
  clear hmk hr hg hn hs HB2 HR2 HR
  obtain ⟨m, hm⟩ : ∃ m, st.length = m := ⟨_, rfl⟩
  have HM := Lib.hid hm
  rw [hm] at HMK ⊢
  clear hm
  have hba : Below w2.heap.size w2 (w2.alloc (.cells #[.slice a n c, .slice a' m c'] 29)) := (Below.refl _ _).alloc (Nat.le_refl _) _
  have HROW : Hid (Row (w2.alloc (.cells #[.slice a n c, .slice a' m c'] 29)) w2.heap.size 29 [.slice a n c, .slice a' m c']) := Row.new w2 29 [.slice a n c, .slice a' m c']
  have R3 := Lib.hid (R2.out.below hba (by omega) (fun h0 g hg => by have := LV.out h0 g hg; omega))
  have HMK3 := Lib.hid (HMK.out.mono hba (Nat.le_refl _))
  have HB4 : Hid (Below g2 w (w2.alloc (.cells #[.slice a n c, .slice a' m c'] 29))) := HB3.out.trans (hba.mono (by omega))
  have HR4 := Lib.hid (HR3.out.alloc (.cells #[.slice a n c, .slice a' m c'] 29))
  obtain ⟨gx, hgx⟩ : ∃ gx, w2.heap.size = gx := ⟨_, rfl⟩
  rw [hgx] at HROW
  clear hba HB3 HR3 R2 HMK
  go_wp2_with fail
  try rw [hgx]
  generalize (w2.alloc (.cells #[.slice a n c, .slice a' m c'] 29)) = W at HROW R3 HMK3 HB4 HR4 ⊢
  have hgR : R < gx := by omega
  have hg2x : g2 < gx := by omega
  clear hgx
  refine (odd_any R v1 bs1 24 p2 W R3.out (by omega) (by omega)).mono ?_
  rintro e w4 ⟨t, p4, rfl, hq1, hq2, hr, hg, -⟩
  have R4 := Lib.hid hr
  have HMK4 := Lib.hid (HMK3.out.kept hg lowR)
  have HB6 : Hid (Below g2 w w4) := HB4.out.grown hg (by have := HGG.out; have := HB4.out.size; omega) (fun g hg => by cases hg; omega)
  have HR6 := Lib.hid (HR4.out.grown hg (fun e => by have := Option.some.inj e; omega))
  have HROW4 := Lib.hid (HROW.out.grown hg (fun e => by have := Option.some.inj e; omega))
  clear hr hg HMK3 HB4 HR4 HROW R3
  have x0 := HROW4.out.cell (i := 0) rfl
  have x1 := HROW4.out.cell (i := 1) rfl
  have hg2w : g2 < w4.heap.size := HR6.out.lt
  have hRw : R < w4.heap.size := R4.out.low.1
  cases t
  · go_wp2_with fail
    go_region_law (first
      | (go_simp
         go_at_call 47
         refine (uses_any R v1 bs1 12 p4 w4.drew (R4.out.below ((Below.refl w4.heap.size w4).drew) R4.out.low.1 R4.out.low.2) (by omega) (by omega) (by omega)).mono ?_
         rintro e w5 ⟨u, us, p5, rfl, hgu, hul, -, hq3, hq4, hr, hg⟩
         have hg' : w4.grownBy w5 (some R) := grown_drew hg
         have HU5 : Hid (Gr w5 w4.heap.size 50 4 u us.length (useCs us)) := hgu
         have HUL : Hid (us.length ≤ 41) := by unfold Hid; omega
         have HMK5 := Lib.hid (HMK4.out.kept hg' lowR)
         have HB5 : Hid (Below g2 w w5) := HB6.out.grown hg' (by have := HGG.out; have := HB6.out.size; omega) (fun g hg => by cases hg; omega)
         have HR5 := Lib.hid (HR6.out.grown hg' (fun e => by have := Option.some.inj e; omega))
         have hrw := HROW4.out.grown hg' (fun e => by have := Option.some.inj e; omega)
         have k0 := hrw.cell (i := 0) rfl
         have k1 := hrw.cell (i := 1) rfl
         have y0 := HR5.out.cell (i := 0) rfl
         have y1 := HR5.out.cell (i := 1) rfl
         have z0 := HR5.out.free 0
         have z1 := HR5.out.free 1
         obtain ⟨ua, uc, hu⟩ := hgu.lit
         subst hu
         clear hr hg hg' hrw hgu))
    all_goals
      clear x0 x1 k0 k1
      go_simp
      go_wp2_with fail
      have hrow := (HR5.out.set 0 (.slice a n c)).set 1 (.slice a' m c')
      have f0 := hrow.cell (i := 0) rfl
      have f1 := hrow.cell (i := 1) rfl
      have hs5 : w5.grownBy ((w5.setCell ⟨g2, 0, none⟩ (.slice a n c)).setCell ⟨g2, 1, none⟩ (.slice a' m c')) (some g2) := grown_set (set_other w5 ⟨g2, 0, none⟩ _ rfl) _ _
      refine bodyPost_ret (v := .tuple #[.agg #[.slice a n c, .slice a' m c'], .slice ua us.length uc]) (by simp [results, Tryd.results23, go_sem, f0, f1]) rfl ?_
      refine ⟨a, c, a', c', n, f, st, _, us, by rw [HM.out], ?_, (HU5.out.kept hs5 (fun x hx e => by cases e; have := (HU5.out.lt _ hx).1; omega)).view, HUL.out, HN.out, HS.out, ?_⟩
      · rw [HM.out]; exact (HMK5.out.kept hs5 (by omega)).view
      · rw [HGG.out]; exact (HB5.out.setCell (p := ⟨g2, 0, none⟩) (Nat.le_refl _) _).setCell (p := ⟨g2, 1, none⟩) (Nat.le_refl _) _
  · have hmk := Tryd.mk41 w4.drew
    obtain ⟨w5, hw5⟩ : ∃ w5, w4.drew.alloc (.cells (useCs zeroU).toArray 50) = w5 := ⟨_, rfl⟩
    have HU5 : Hid (Gr w5 w4.heap.size 50 4 (.slice (some ⟨w4.heap.size, 0, none⟩) 41 41) zeroU.length (useCs zeroU)) := by
      rw [← hw5]
      exact Gr.of_made (Row.new w4.drew 50 (useCs zeroU)) (by rw [useCs_length]; rfl) (by show 41 ≤ maxLen; unfold maxLen; omega) (Nat.le_refl _)
    have HUL : Hid (zeroU.length ≤ 41) := Nat.le_refl _
    have hb5 : Below w4.heap.size w4 w5 := by rw [← hw5]; exact ((Below.refl w4.heap.size w4).drew).alloc (Nat.le_refl _) _
    have HMK5 := Lib.hid (HMK4.out.mono hb5 (Nat.le_refl _))
    have HB5 : Hid (Below g2 w w5) := HB6.out.trans (hb5.mono (by omega))
    have HR5 := Lib.hid (HR6.out.mono hb5 HR6.out.lt)
    have hrw := HROW4.out.mono hb5 HROW4.out.lt
    have k0 := hrw.cell (i := 0) rfl
    have k1 := hrw.cell (i := 1) rfl
    have y0 := HR5.out.cell (i := 0) rfl
    have y1 := HR5.out.cell (i := 1) rfl
    have z0 := HR5.out.free 0
    have z1 := HR5.out.free 1
    rw [hw5] at hmk
    have hmk' : (Instr.makeSlice 44 (.int .i64 41) (.int .i64 41)).run Tryd.prog w4.drew = .ok (.slice (some ⟨w4.heap.size, 0, none⟩) 41 41) w5 := hmk
    clear hw5 hb5 hrw hmk
    have yb0 := HR6.out.cell (i := 0) rfl
    have yb1 := HR6.out.cell (i := 1) rfl
    have zb0 := HR6.out.free 0
    have zb1 := HR6.out.free 1
    obtain ⟨W6, hW6⟩ : ∃ W6, ((w4.setCell ⟨g2, 0, none⟩ (.slice a n c)).setCell ⟨g2, 1, none⟩ (.slice a' m c')).drew = W6 := ⟨_, rfl⟩
    have hs6 : w4.grownBy ((w4.setCell ⟨g2, 0, none⟩ (.slice a n c)).setCell ⟨g2, 1, none⟩ (.slice a' m c')) (some g2) := grown_set (set_other w4 ⟨g2, 0, none⟩ _ rfl) _ _
    have hs6' : w4.grownBy W6 (some g2) := by rw [← hW6]; exact ⟨hs6.os, hs6.tape, hs6.output, hs6.size, hs6.block⟩
    have HR7 : Hid (Row W6 g2 29 [.slice a n c, .slice a' m c']) := by rw [← hW6]; exact (HR6.out.set 0 _).set 1 _
    have hmk6 := Tryd.mk41 W6
    obtain ⟨w7, hw7⟩ : ∃ w7, W6.alloc (.cells (useCs zeroU).toArray 50) = w7 := ⟨_, rfl⟩
    have hb7 : Below W6.heap.size W6 w7 := by rw [← hw7]; exact (Below.refl _ _).alloc (Nat.le_refl _) _
    have HU7 : Hid (Gr w7 W6.heap.size 50 4 (.slice (some ⟨W6.heap.size, 0, none⟩) 41 41) zeroU.length (useCs zeroU)) := by
      rw [← hw7]
      exact Gr.of_made (Row.new W6 50 (useCs zeroU)) (by rw [useCs_length]; rfl) (by show 41 ≤ maxLen; unfold maxLen; omega) (Nat.le_refl _)
    have HMK7 := Lib.hid ((HMK4.out.kept hs6' (by omega)).mono hb7 (Nat.le_refl _))
    have hz67 : w4.heap.size ≤ W6.heap.size := hs6'.size
    have HB7 : Hid (Below g2 w w7) := (HB6.out.grown hs6' (by have := HGG.out; have := HB6.out.size; omega) (fun g hg => by cases hg; omega)).trans (hb7.mono (by omega))
    have HR8 := Lib.hid (HR7.out.mono hb7 HR7.out.lt)
    rw [hw7] at hmk6
    clear hw7 hb7 hs6 hs6'
    go_wp2_with fail
    go_region
    all_goals
      clear x0 x1 k0 k1 hmk' hmk6
      go_simp
      go_wp2_with fail
      first
        | (have hrow := (HR5.out.set 0 (.slice a n c)).set 1 (.slice a' m c')
           have f0 := hrow.cell (i := 0) rfl
           have f1 := hrow.cell (i := 1) rfl
           have hs5 : w5.grownBy ((w5.setCell ⟨g2, 0, none⟩ (.slice a n c)).setCell ⟨g2, 1, none⟩ (.slice a' m c')) (some g2) := grown_set (set_other w5 ⟨g2, 0, none⟩ _ rfl) _ _
           refine bodyPost_ret (v := .tuple #[.agg #[.slice a n c, .slice a' m c'], .slice (some ⟨w4.heap.size, 0, none⟩) 41 41]) (by simp [results, Tryd.results23, go_sem, f0, f1]) rfl ?_
           refine ⟨a, c, a', c', n, f, st, _, zeroU, by rw [HM.out], ?_, (HU5.out.kept hs5 (fun x hx e => by cases e; have := (HU5.out.lt _ hx).1; omega)).view, HUL.out, HN.out, HS.out, ?_⟩
           · rw [HM.out]; exact (HMK5.out.kept hs5 (by omega)).view
           · rw [HGG.out]; exact (HB5.out.setCell (p := ⟨g2, 0, none⟩) (Nat.le_refl _) _).setCell (p := ⟨g2, 1, none⟩) (Nat.le_refl _) _)
        | (have f0 := HR8.out.cell (i := 0) rfl
           have f1 := HR8.out.cell (i := 1) rfl
           refine bodyPost_ret (v := .tuple #[.agg #[.slice a n c, .slice a' m c'], .slice (some ⟨W6.heap.size, 0, none⟩) 41 41]) (by simp [results, Tryd.results23, go_sem, f0, f1]) rfl ?_
           refine ⟨a, c, a', c', n, f, st, _, zeroU, by rw [HM.out], ?_, HU7.out.view, HUL.out, HN.out, HS.out, ?_⟩
           · rw [HM.out]; exact HMK7.out.view
           · rw [HGG.out]; exact HB7.out)
end Go.Proofs.YtbnplohlfiefhaaDoor
