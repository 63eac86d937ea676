/- copies of tables of the specification -/
import Derived.Test.YtiiipaemplihnaaDoorTabC
namespace Go.Proofs.YtiiipaemplihnaaDoor
open Go.RowKit
theorem l1Copy_any (v : Value) (xs : List Int) (w : World) (h : Ints w v xs) (hn : xs.length ≤ 1048576) : Calls Tryd.prog 30 #[v] w (IntsPost xs w) := by
  have H := Lib.hid h
  obtain ⟨ad, c, rfl, -, -⟩ := h.open
  have HF : Hid (∀ u w', Gr w' w.heap.size 3 1 u (0 + xs.length) ([] ++ ints xs) → Below w.heap.size w w' → IntsPost xs w (.returned u) w') := fun u w' hg hb => ⟨u, rfl, by simpa using hg, hb⟩
  have HB0 : Hid (Below w.heap.size w (w.alloc (.cells #[] 3))) := (Below.refl w.heap.size w).alloc (Nat.le_refl _) (.cells #[] 3)
  clear h
  go_enter Tryd.func30, Tryd.ntmps30
  go_wp2_with (at_builtin; refine wpList_app _ rfl (.tmp 3) (.tmp 4) 58 rfl w.heap.size 3 (.int .i64 0) 1 8 Tryd.underlying58 Tryd.infoInt rfl (by omega) (.slice (some ⟨w.heap.size, 0, none⟩) 0 0) 0 [] rfl (Gr.none0 _ _ _ _ _) _ xs.length (ints xs) rfl (H.out.mono HB0.out (Nat.le_refl _)) (one_ints _) (by unfold maxLen; omega) (by omega) (by simp) ?_; intro v1 w1 g1 r1 k1; have G1 := Lib.hid g1; have R1 := Lib.hid r1; clear g1 r1 k1)
  go_ret
  exact HF.out _ _ G1.out (HB0.out.grown R1.out (by simp) (fun g hg => by simp [gBlock] at hg))
structure L5 (w : World) (B gt gr gx : Nat) (tn tr nv rv : Value) (ns : List ByteArray) (k : Nat) (vs : Nat → Value) (f : Nat → List Int) (wr : World) : Prop where
  t : Row wr gt 29 [tn, tr]
  r : Row wr gr 29 [.slice none 0 0, .slice none 0 0]
  x : Row wr gx 29 [nv, rv]
  n : Gr wr B 9 1 nv ns.length (strs ns)
  o : RowsO wr B rv k vs f
  below : Below w.heap.size w wr
  ge : w.heap.size ≤ B ∧ gt < B ∧ gr < B ∧ B ≤ gx
section
variable {w wr w1 w2 : World} {B gt gr gx : Nat} {tn tr nv rv : Value} {ns : List ByteArray} {k : Nat} {vs : Nat → Value} {f : Nat → List Int}
theorem L5.mono (h : L5 w B gt gr gx tn tr nv rv ns k vs f wr) {B' : Nat} (hb : Below B' wr w1) (hB : wr.heap.size ≤ B') : L5 w B gt gr gx tn tr nv rv ns k vs f w1 :=
  ⟨h.t.mono hb (Nat.lt_of_lt_of_le h.t.lt hB), h.r.mono hb (Nat.lt_of_lt_of_le h.r.lt hB), h.x.mono hb (Nat.lt_of_lt_of_le h.x.lt hB), h.n.mono hb hB, h.o.mono hb hB, h.below.trans (hb.mono (Nat.le_trans h.below.size hB)), h.ge⟩
theorem L5.size (h : L5 w B gt gr gx tn tr nv rv ns k vs f wr) : B ≤ wr.heap.size := Nat.le_trans h.ge.2.2.2 (Nat.le_of_lt h.x.lt)
/-- behind the append, ahead of the store -/
theorem L5.mid (h : L5 w B gt gr gx tn tr nv rv ns k vs f wr) (r2 : wr.grownBy w2 (gBlock rv)) : Row w2 gt 29 [tn, tr] ∧ Row w2 gr 29 [.slice none 0 0, .slice none 0 0] ∧ Row w2 gx 29 [nv, rv] ∧ Gr w2 B 9 1 nv ns.length (strs ns) ∧ Below w.heap.size w w2 :=
  ⟨h.t.grown r2 (fun e => row_ne h.o.1 h.t (by decide) _ e rfl), h.r.grown r2 (fun e => row_ne h.o.1 h.r (by decide) _ e rfl), h.x.grown r2 (fun e => row_ne h.o.1 h.x (by decide) _ e rfl), h.n.kept r2 (gBlock_type h.n h.o.1 (by decide)), h.below.grown r2 h.below.size (fun g hg => Nat.le_trans h.ge.1 (h.o.1.lt g hg).1)⟩
theorem L5.app (h : L5 w B gt gr gx tn tr nv rv ns k vs f wr) {v1 rv' : Value} {xs : List Int} (g1 : Gr wr B 3 1 v1 xs.length (ints xs)) (hb : Below wr.heap.size wr w1) (g2 : Gr w2 B 58 1 rv' (k + 1) (tab k vs ++ [v1])) (r2 : w1.grownBy w2 (gBlock rv)) :
    L5 w B gt gr gx tn tr nv rv' ns (k + 1) (upd vs k v1) (upd f k xs) (w2.setCell ⟨gx, 1, none⟩ rv') := by
  have h1 := h.mono hb (Nat.le_refl _)
  obtain ⟨a1, a2, a3, a4, a5⟩ := h1.mid r2
  have ho := h.o.app g1 hb g2 r2
  have hs : w2.grownBy (w2.setCell ⟨gx, 1, none⟩ rv') (some gx) := set_other w2 ⟨gx, 1, none⟩ rv' rfl
  have hne : gt ≠ gx ∧ gr ≠ gx := by have := h.ge; omega
  exact ⟨a1.grown hs (fun e => hne.1 (Option.some.inj e).symm), a2.grown hs (fun e => hne.2 (Option.some.inj e).symm), a3.set 1 rv', a4.kept hs (fun g hg he => by cases he; exact row_ne a4 a3 (by decide) _ hg rfl),
    ho.kept hs (fun g hg he => by cases he; exact row_ne ho.1 a3 (by decide) _ hg rfl) (fun i hi g hg he => by cases he; exact row_ne (ho.2 i hi) a3 (by decide) _ hg rfl), a5.grown hs a5.size (fun g he => by cases he; exact Nat.le_trans h.ge.1 h.ge.2.2.2), h.ge⟩
end
set_option maxRecDepth 20000 in
set_option maxHeartbeats 1000000 in
theorem l5Copy_any (v : Value) (ns : List ByteArray) (n : Nat) (f : Nat → List Int) (w : World) (h : TabIn w v ns n f) (hns : ns.length ≤ 1000) (hn : n ≤ 1000) (hf : ∀ i, i < n → (f i).length ≤ 1000) : Calls Tryd.prog 16 #[v] w (TabPost ns n f w) := by
  obtain ⟨nv, rv, rfl, h1, h2⟩ := h
  obtain ⟨ad, c, hu, -, -⟩ := h1.open
  subst hu
  obtain ⟨ad2, c2, hu, -, hop⟩ := h2.open
  subst hu
  have HOP := Lib.hid hop
  have HFL := Lib.hid hf
  obtain ⟨m, hm⟩ : ∃ m, ns.length = m := ⟨_, rfl⟩
  have HM := Lib.hid hm
  rw [hm] at h1 hns
  rw [hm]
  obtain ⟨W, hW⟩ : ∃ W, W = ((w.alloc (.cells #[.slice ad m c, .slice ad2 n c2] 29)).alloc (.cells #[.slice none 0 0, .slice none 0 0] 29)).alloc (.cells #[] 9) := ⟨_, rfl⟩
  have HB : Hid (Below w.heap.size w W) := by rw [hW]; exact (((Below.refl _ _).alloc (Nat.le_refl _) _).alloc (by simp) _).alloc (by simp; omega) _
  have HR1 : Hid (Row W w.heap.size 29 [.slice ad m c, .slice ad2 n c2]) := by rw [hW]; exact ((Row.new w 29 [.slice ad m c, .slice ad2 n c2]).alloc _).alloc _
  have HR2 : Hid (Row W (w.heap.size + 1) 29 [.slice none 0 0, .slice none 0 0]) := by
    rw [hW]
    have := Row.new (w.alloc (.cells #[.slice ad m c, .slice ad2 n c2] 29)) 29 [.slice none 0 0, .slice none 0 0]
    rw [World.size_alloc] at this
    exact this.alloc _
  have HSZ : Hid (W.heap.size = w.heap.size + 3) := by rw [hW]; simp [Hid]
  have H1 : Hid (View W 1 (.slice ad m c) m (strs ns)) := by have := h1.mono HB.out (Nat.le_refl _); unfold Strs at this; rw [hm] at this; exact this
  have x0 := HR1.out.cell (i := 0) rfl
  have x1 := HR1.out.cell (i := 1) rfl
  have HW := Lib.hid hW
  clear h1 h2 hW hf hop hm
  go_enter Tryd.func16, Tryd.ntmps16
  go_wp2_with (at_builtin; rw [← HW.out]; refine wpList_app _ rfl (.tmp 5) (.tmp 7) 26 rfl (w.heap.size + 2) 9 (.string ByteArray.empty) 1 16 Tryd.underlying26 Tryd.infoStr rfl (by omega) (.slice (some ⟨w.heap.size + 1 + 1, 0, none⟩) 0 0) 0 [] rfl (Gr.none0 _ _ _ _ _) (.slice ad m c) m (strs ns) rfl H1.out (one_strs _) (by unfold maxLen; omega) (by omega) (by have := HSZ.out; omega) ?_; intro v1 w1 g1 r1 k1; have G1 := Lib.hid g1; have R1 := Lib.hid r1; obtain ⟨p1, q1, hv1⟩ := g1.lit; subst hv1; clear g1 r1 k1)
  obtain ⟨gx, hgx⟩ : ∃ gx, w1.heap.size = gx := ⟨_, rfl⟩
  have HL : Hid (L5 w (w.heap.size + 2) w.heap.size (w.heap.size + 1) gx (.slice ad m c) (.slice ad2 n c2) (.slice p1 m q1) (.slice none 0 0) ns 0 (fun _ => undef) (fun _ => []) (w1.alloc (.cells #[.slice p1 m q1, .slice none 0 0] 29))) := by
    have hz : w.heap.size + 3 ≤ w1.heap.size := by have := R1.out.size; have := HSZ.out; omega
    have hnn : ∀ g : Nat, gBlock (.slice (some ⟨w.heap.size + 1 + 1, 0, none⟩) 0 0) ≠ some g := fun g e => by simp [gBlock] at e
    refine ⟨(HR1.out.grown R1.out (hnn _)).alloc _, (HR2.out.grown R1.out (hnn _)).alloc _, by rw [← hgx]; exact Row.new w1 29 [.slice p1 m q1, .slice none 0 0], ?_, ⟨Gr.nil _ _ _ _, fun i hi => absurd hi (Nat.not_lt_zero _)⟩, (HB.out.grown R1.out HB.out.size (fun g hg => absurd hg (hnn g))).alloc (by omega) _, by omega⟩
    have := G1.out
    rw [Nat.zero_add, List.nil_append] at this
    rw [HM.out]
    exact this.alloc _
  clear HR1 HR2 H1 HW HB G1 R1 x0 x1 HSZ
  try rw [hgx]
  generalize (w1.alloc (.cells #[.slice p1 m q1, .slice none 0 0] 29)) = W1 at HL ⊢
  clear hgx
  go_loopg [4] n (fun gg i wr => ∃ (k : Nat) (vs : Nat → Value) (g : Nat → List Int) (rv : Value), k ≤ n ∧ n - k ≤ gg ∧ i = .int .i64 k ∧ Hid (L5 w (w.heap.size + 2) w.heap.size (w.heap.size + 1) gx (.slice ad m c) (.slice ad2 n c2) (.slice p1 m q1) rv ns k vs g wr) ∧ Hid (∀ i, i < k → g i = f i))
  case atStart => exact ⟨0, _, _, _, Nat.zero_le _, Nat.le_refl _, rfl, HL.out, fun i hi => absurd hi (Nat.not_lt_zero _)⟩
  case round =>
    clear HL
    obtain ⟨k, vs, g, rv, hk, hgg, rfl, hL, hE⟩ := hrel
    obtain ⟨ar, cr, hr⟩ := hL.out.o.1.lit
    subst hr
    have x0 := hL.out.t.cell (i := 0) rfl
    have x1 := hL.out.t.cell (i := 1) rfl
    have y0 := hL.out.x.cell (i := 0) rfl
    have y1 := hL.out.x.cell (i := 1) rfl
    by_cases hlt : k < n
    · have HLT := Lib.hid hlt
      obtain ⟨b, off, rfl, hcell⟩ := HOP.out k hlt
      obtain ⟨a', c', hc1, hi⟩ := hcell k hlt
      have hc2 := (hL.out.below.cell (p := ⟨b, off + k, none⟩) (World.block_lt_of_cell? w _ hc1)).trans hc1
      have HI := Lib.hid ((hi.mono hL.out.below (Nat.le_refl _)).mono (Below.refl _ _).drew (Nat.le_refl _))
      have HXL := Lib.hid (HFL.out k hlt)
      obtain ⟨xs, hxs⟩ : ∃ xs, f k = xs := ⟨_, rfl⟩
      rw [hxs] at hc2 HI HXL
      obtain ⟨l, hl⟩ : ∃ l, xs.length = l := ⟨_, rfl⟩
      have HLL := Lib.hid hl
      rw [hl] at hc2 HI
      have HXS := Lib.hid hxs
      have hsz := hL.out.size
      have hgz : w.heap.size + 2 ≤ gx := hL.out.ge.2.2.2
      clear hcell hc1 hi hxs hl
      go_wp2_with fail
      go_region_law (first
        | (go_simp
           go_at_call 30
           refine (l1Copy_any _ xs _ HI.out (by have := HXL.out; omega)).mono ?_
           rintro e w5 ⟨u1, rfl, hg1, hb1⟩
           have hb5 : Below wr.heap.size wr w5 := ((Below.refl _ _).drew).trans hb1
           rw [HLL.out] at hg1
           obtain ⟨a1, c1, hu1⟩ := hg1.lit
           subst hu1
           have G5 : Hid (Gr w5 (w.heap.size + 2) 3 1 (.slice a1 l c1) l (ints xs)) := hg1.low hsz
           have HL5 := Lib.hid (hL.out.mono hb5 (Nat.le_refl _))
           have k1 := HL5.out.x.cell (i := 1) rfl
           have k2 := (HL5.out.mono ((Below.refl w5.heap.size w5).alloc (Nat.le_refl _) (.cells #[.slice a1 l c1] 58)) (Nat.le_refl _)).x.cell (i := 1) rfl
           have hsz5 := HL5.out.size
           clear hg1 hb1 hb5)
        | (refine step_app _ rfl (.tmp 18) (.tmp 25) 27 rfl (w.heap.size + 2) 58 (.slice none 0 0) 1 24 Tryd.underlying27 Tryd.infoInts rfl (by omega) (.slice ar k cr) k (tab k vs) rfl (HL5.out.o.1.alloc _) _ 1 [.slice a1 l c1] rfl (view_one _ _ _) (by simp [Value.oneCell']) (by unfold maxLen; omega) (by omega) (by rw [World.size_alloc]; omega) ?_
           intro v2 w6 g2 r2 k2
           have hba : Below w5.heap.size w5 (w5.alloc (.cells #[.slice a1 l c1] 58)) := (Below.refl _ _).alloc (Nat.le_refl _) _
           have HN : Hid (L5 w (w.heap.size + 2) w.heap.size (w.heap.size + 1) gx (.slice ad m c) (.slice (some ⟨b, off, none⟩) n c2) (.slice p1 m q1) v2 ns (k + 1) (upd vs k (.slice a1 l c1)) (upd g k xs) (w6.setCell ⟨gx, 1, none⟩ v2)) := HL5.out.app (by rw [HLL.out]; exact G5.out) hba g2 r2
           have HM6 := Lib.hid ((HL5.out.mono hba (Nat.le_refl _)).mid r2).2.2.1
           obtain ⟨a2, c2', hv2⟩ := g2.lit
           subst hv2
           have s1 := HM6.out.cell (i := 1) rfl
           have sf := HM6.out.free 1
           clear g2 r2 k2 hba))
      all_goals
        have HE2 : Hid (∀ i, i < k + 1 → upd g k xs i = f i) := fun i hi => by
          by_cases e : i = k
          · subst e; rw [upd_same, HXS.out]
          · rw [upd_other _ _ e]; exact hE.out i (by omega)
        go_wp2
        go_roundg (n - (k + 1))
        case rel => exact ⟨k + 1, _, _, _, HLT.out, Nat.le_refl _, by go_num, HN.out, HE2.out⟩
        case measure => have := HLT.out; omega
    · obtain rfl : k = n := by omega
      have r0 := hL.out.r.cell (i := 0) rfl
      have r1 := hL.out.r.cell (i := 1) rfl
      have rf0 := hL.out.r.free 0
      have rf1 := hL.out.r.free 1
      go_wp2
      have hs : wr.grownBy ((wr.setCell ⟨w.heap.size + 1, 0, none⟩ (.slice p1 m q1)).setCell ⟨w.heap.size + 1, 1, none⟩ (.slice ar k cr)) (some (w.heap.size + 1)) := grown_set (set_other wr ⟨w.heap.size + 1, 0, none⟩ _ rfl) _ _
      have hr3 := (hL.out.r.set 0 (.slice p1 m q1)).set 1 (.slice ar k cr)
      have f0 := hr3.cell (i := 0) rfl
      have f1 := hr3.cell (i := 1) rfl
      have hT : TabO wr (w.heap.size + 2) (.agg #[.slice p1 m q1, .slice ar k cr]) ns k f := ⟨_, _, vs, rfl, by rw [HM.out]; have := hL.out.n; rw [HM.out] at this; exact this, hL.out.o.ext hE.out⟩
      have HT3 := Lib.hid ((hT.keptB hs (by omega)).low (show w.heap.size ≤ w.heap.size + 2 by omega))
      have HB3 := Lib.hid (hL.out.below.grown hs hL.out.below.size (fun g he => by cases he; omega))
      clear hs hr3 hT r0 r1 rf0 rf1 x0 x1 y0 y1
      exact bodyPost_ret (v := .agg #[.slice p1 m q1, .slice ar k cr]) (by simp [results, Tryd.results16, go_sem, f0, f1]) rfl ⟨_, rfl, HT3.out, HB3.out⟩
end Go.Proofs.YtiiipaemplihnaaDoor
