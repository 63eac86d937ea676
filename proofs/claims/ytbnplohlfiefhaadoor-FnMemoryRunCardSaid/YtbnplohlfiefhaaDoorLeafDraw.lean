/- the draw of a memory and an address -/
import Derived.Test.YtbnplohlfiefhaaDoorMemDraw
namespace Go.Proofs.YtbnplohlfiefhaaDoor
open Go.RowKit
def DrawnLeaf (w : World) (e : Ending) (w' : World) : Prop :=
  ∃ a c a' c' n f st x, e = .returned (.tuple #[.agg #[.slice a n c, .slice a' st.length c'], .int .i64 x]) ∧ MemIn w' (.agg #[.slice a n c, .slice a' st.length c']) n f st ∧ n ≤ 7 ∧ Small n f st ∧ -1 ≤ x ∧ x ≤ 8 ∧ Below w.heap.size w w'
set_option maxRecDepth 20000 in
set_option maxHeartbeats 2000000 in
theorem draw_LeafOf (v : Value) (bs : List Int) (w : World) (h : Bts w v bs) : Calls Tryd.prog 17 #[v] w (DrawnLeaf w) := by
  obtain ⟨W1, hW1⟩ : ∃ W1, W1 = w.alloc (.cells #[.slice none 0 0, .slice none 0 0] 29) := ⟨_, rfl⟩
  have HW1 := Lib.hid hW1
  have HB1 : Hid (Below w.heap.size w W1) := by rw [hW1]; exact (Below.refl _ _).alloc (Nat.le_refl _) _
  have HR1 : Hid (Row W1 w.heap.size 29 [.slice none 0 0, .slice none 0 0]) := by rw [hW1]; exact Row.new w 29 [.slice none 0 0, .slice none 0 0]
  have H := Lib.hid (h.mono HB1.out (Nat.le_refl _))
  clear h hW1
  go_enter Tryd.func17, Tryd.ntmps17
  go_wp2_with fail
  rw [← HW1.out]
  refine (open_any v bs W1 H.out).mono ?_
  rintro e w1 ⟨v1, bs1, rfl, hr, hb⟩
  have hg2 : w.heap.size < W1.heap.size := HR1.out.lt
  have HR := Lib.hid hr
  have lowR := hr.low.1
  have LV := Lib.hid hr.low.2
  have HB2 : Hid (Below w.heap.size w w1) := HB1.out.trans (hb.mono HB1.out.size)
  have HR2 := Lib.hid (HR1.out.mono hb HR1.out.lt)
  have hz1 : W1.heap.size ≤ w1.heap.size := hb.size
  clear hr hb H HB1 HR1 HW1
  obtain ⟨R, hRR⟩ : ∃ R, W1.heap.size = R := ⟨_, rfl⟩
  obtain ⟨g2, hgg⟩ : ∃ g2, w.heap.size = g2 := ⟨_, rfl⟩
  rw [hRR] at HR lowR hg2 hz1
  rw [hgg] at HR2 HB2 hg2
  have HGG := Lib.hid hgg
  go_wp2_with fail
  try rw [hRR]
  clear hRR hgg
  refine (mem_any R v1 bs1 9 0 w1 HR.out (by omega) (by omega) (by omega)).mono ?_
  rintro e w2 ⟨a, c, a', c', n, f, st, p2, rfl, hmk, hn, hs, q1, q2, hr, hg⟩
  have R2 := Lib.hid hr
  have HMK := Lib.hid hmk
  have HN := Lib.hid hn
  have HS := Lib.hid hs
  have HB3 : Hid (Below g2 w w2) := HB2.out.grown hg (by have := HGG.out; have := HB2.out.size; omega) (fun g hg => by cases hg; omega)
  have HR3 := Lib.hid (HR2.out.grown hg (fun e => by have := Option.some.inj e; omega))
  have hz2 : w1.heap.size ≤ w2.heap.size := hg.size
  clear hmk hr hg hn hs HB2 HR2 HR
  obtain ⟨m, hm⟩ : ∃ m, st.length = m := ⟨_, rfl⟩
  have HM := Lib.hid hm
  rw [hm] at HMK ⊢
  clear hm
  have hba : Below w2.heap.size w2 (w2.alloc (.cells #[.slice a n c, .slice a' m c'] 29)) := (Below.refl _ _).alloc (Nat.le_refl _) _
  have HROW : Hid (Row (w2.alloc (.cells #[.slice a n c, .slice a' m c'] 29)) w2.heap.size 29 [.slice a n c, .slice a' m c']) := Row.new w2 29 [.slice a n c, .slice a' m c']
  have R3 := Lib.hid (R2.out.below hba (by omega) (fun h0 g hg => by have := LV.out h0 g hg; omega))
  have HMK3 := Lib.hid (HMK.out.mono hba (Nat.le_refl _))
  have HB4 : Hid (Below g2 w (w2.alloc (.cells #[.slice a n c, .slice a' m c'] 29))) := HB3.out.trans (hba.mono (by omega))
  have HR4 := Lib.hid (HR3.out.alloc (.cells #[.slice a n c, .slice a' m c'] 29))
  obtain ⟨gx, hgx⟩ : ∃ gx, w2.heap.size = gx := ⟨_, rfl⟩
  rw [hgx] at HROW
  clear hba HB3 HR3 R2 HMK
  go_wp2_with fail
  try rw [hgx]
  generalize (w2.alloc (.cells #[.slice a n c, .slice a' m c'] 29)) = W at HROW R3 HMK3 HB4 HR4 ⊢
  have x0 := HROW.out.cell (i := 0) rfl
  have x1 := HROW.out.cell (i := 1) rfl
  have hneR : R ≠ gx := by omega
  have hne2 : g2 ≠ gx := by omega
  clear hgx
  go_region_law (first
    | (go_simp
       go_at_call 27
       refine (pick_nat R v1 bs1 10 p2 W.drew (R3.out.below ((Below.refl W.heap.size W).drew) R3.out.low.1 R3.out.low.2) (by omega) (by omega)).mono ?_
       rintro e w5 ⟨x, rfl, hx, hr, hg⟩
       have hg' : W.grownBy w5 (some R) := grown_drew hg
       have HMK5 := Lib.hid (HMK3.out.kept hg' lowR)
       have HB5 : Hid (Below g2 w w5) := HB4.out.grown hg' (by have := HGG.out; have := HB4.out.size; omega) (fun g hg => by cases hg; omega)
       have HR5 := Lib.hid (HR4.out.grown hg' (fun e => by have := Option.some.inj e; omega))
       have hrw := HROW.out.grown hg' (fun e => hneR (Option.some.inj e))
       have k0 := hrw.cell (i := 0) rfl
       have k1 := hrw.cell (i := 1) rfl
       have y0 := HR5.out.cell (i := 0) rfl
       have y1 := HR5.out.cell (i := 1) rfl
       have z0 := HR5.out.free 0
       have z1 := HR5.out.free 1
       have hwr : IntKind.i64.wrap ((x : Int) - 1) = (x : Int) - 1 := IntWalk.i64_in _ ⟨by omega, by omega⟩
       clear hr hg hg' hrw))
  all_goals
    clear x0 x1 k0 k1
    go_simp
    go_wp2_with fail
    have hrow := (HR5.out.set 0 (.slice a n c)).set 1 (.slice a' m c')
    have f0 := hrow.cell (i := 0) rfl
    have f1 := hrow.cell (i := 1) rfl
    have hs5 : w5.grownBy ((w5.setCell ⟨g2, 0, none⟩ (.slice a n c)).setCell ⟨g2, 1, none⟩ (.slice a' m c')) (some g2) := grown_set (set_other w5 ⟨g2, 0, none⟩ _ rfl) _ _
    refine bodyPost_ret (v := .tuple #[.agg #[.slice a n c, .slice a' m c'], .int .i64 ((x : Int) - 1)]) (by simp [results, Tryd.results17, go_sem, f0, f1]) rfl ?_
    refine ⟨a, c, a', c', n, f, st, (x : Int) - 1, by rw [HM.out], ?_, HN.out, HS.out, by omega, by omega, ?_⟩
    · rw [HM.out]; exact (HMK5.out.kept hs5 (by omega)).view
    · rw [HGG.out]; exact (HB5.out.setCell (p := ⟨g2, 0, none⟩) (Nat.le_refl _) _).setCell (p := ⟨g2, 1, none⟩) (Nat.le_refl _) _
end Go.Proofs.YtbnplohlfiefhaaDoor
