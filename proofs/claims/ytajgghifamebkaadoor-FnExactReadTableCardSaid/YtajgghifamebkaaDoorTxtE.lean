/- the exact law's helpers on tables: equal, marked, held -/
import Derived.Test.YtajgghifamebkaaDoorTxtD
namespace Go.Proofs.YtajgghifamebkaaDoor
set_option linter.unusedSimpArgs false
set_option linter.unusedVariables false
open Go.RowKit
open Go
theorem row_type {w : World} {g : Nat} {e e' : TypeId} {cs cs' : List Value} (h : Row w g e cs) (h' : Row w g e' cs') (hne : e ≠ e') : False := by
  unfold Row at h h'
  rw [h] at h'
  simp at h'
  exact hne h'.2
set_option maxRecDepth 20000 in
theorem eqTable_same (v u : Value) (ns : List ByteArray) (n : Nat) (f : Nat → List Int) (w : World) (h : TabIn w v ns n f) (g : TabIn w u ns n f) :
    Calls Tryd.prog 16 #[v, u] w fun e w' => e = .returned (.bool true) ∧ Below w.heap.size w w' := by
  obtain ⟨nv, rv, rfl, h1, h2⟩ := h
  obtain ⟨nv2, rv2, rfl, g1, g2⟩ := g
  obtain ⟨W, hW⟩ : ∃ W, W = (w.alloc (.cells #[nv, rv] 26)).alloc (.cells #[nv2, rv2] 26) := ⟨_, rfl⟩
  have HB : Hid (Below w.heap.size w W) := by rw [hW]; exact ((Below.refl _ _).alloc (Nat.le_refl _) _).alloc (by simp) _
  have HR1 : Hid (Row W w.heap.size 26 [nv, rv]) := by rw [hW]; exact (Row.new w 26 [nv, rv]).alloc _
  have HR2 : Hid (Row W (w.heap.size + 1) 26 [nv2, rv2]) := by
    rw [hW]
    have := Row.new (w.alloc (.cells #[nv, rv] 26)) 26 [nv2, rv2]
    rwa [World.size_alloc] at this
  have H1 := Lib.hid (h1.mono HB.out (Nat.le_refl _))
  have H2 := Lib.hid (h2.mono HB.out (Nat.le_refl _))
  have G1 := Lib.hid (g1.mono HB.out (Nat.le_refl _))
  have G2 := Lib.hid (g2.mono HB.out (Nat.le_refl _))
  have HW := Lib.hid hW
  obtain ⟨ad, c, hu, _, _⟩ := h1.open
  subst hu
  obtain ⟨ad2, c2, hu, _, _⟩ := h2.open
  subst hu
  obtain ⟨ad3, c3, hu, _, _⟩ := g1.open
  subst hu
  obtain ⟨ad4, c4, hu, _, _⟩ := g2.open
  subst hu
  clear h1 h2 g1 g2 hW
  go_enter Tryd.func16, Tryd.ntmps16
  go_wp2_with fail
  rw [← HW.out]
  refine (eqStringS_same _ _ ns _ H1.out G1.out).mono ?_
  rintro e w1 ⟨rfl, q, rfl⟩
  have HB1 : Hid (Below w.heap.size w (W.drewN q)) := below_drewN HB.out q
  have HR1' := Lib.hid (HR1.out.mono (below_drewN (Below.refl W.heap.size W) q) HR1.out.lt)
  have HR2' := Lib.hid (HR2.out.mono (below_drewN (Below.refl W.heap.size W) q) HR2.out.lt)
  have H2' := Lib.hid (H2.out.mono (below_drewN (Below.refl W.heap.size W) q) (Nat.le_refl _))
  have G2' := Lib.hid (G2.out.mono (below_drewN (Below.refl W.heap.size W) q) (Nat.le_refl _))
  generalize W.drewN q = W1 at HB1 HR1' HR2' H2' G2' ⊢
  have k0 := HR1'.out.cell (i := 0) rfl
  have k1 := HR1'.out.cell (i := 1) rfl
  have m0 := HR2'.out.cell (i := 0) rfl
  have m1 := HR2'.out.cell (i := 1) rfl
  go_wp2_with fail
  refine (eqIntSS_same _ _ n f _ H2'.out G2'.out).mono ?_
  rintro e w2 ⟨rfl, hb⟩
  have HB2 := nxt HB1 hb
  clear hb
  go_wp2
  go_ret
  exact ⟨rfl, HB2.out⟩
set_option maxRecDepth 20000 in
theorem markTable_any (u : Value) (B : Nat) (ns : List ByteArray) (n : Nat) (f : Nat → List Int) (w : World) (h : TabX w B u ns n f) (hB : B ≤ w.heap.size) (hl : ns.length ≤ 6) (hp : preL f n ≤ 1000) :
    Calls Tryd.prog 17 #[u, .int .i64 1] w fun e w' => e = .returned (.int .i64 (((1 + ns.length : Nat) : Int) + preL f n)) ∧ TabIn w' u (marksT 1 ns.length) n (marksSS ((1 + ns.length : Nat) : Int) f) ∧ (∀ g cs, Row w g 26 cs → Row w' g 26 cs) ∧ Below B w w' := by
  obtain ⟨nv, rv, vs, rfl, h1, h2, h3⟩ := h
  obtain ⟨W, hW⟩ : ∃ W, W = w.alloc (.cells #[nv, rv] 26) := ⟨_, rfl⟩
  have hba : Below w.heap.size w W := by rw [hW]; exact (Below.refl _ _).alloc (Nat.le_refl _) _
  have HB : Hid (Below B w W) := hba.mono hB
  have HR1 : Hid (Row W w.heap.size 26 [nv, rv]) := by rw [hW]; exact Row.new w 26 [nv, rv]
  have H1 := Lib.hid (h1.mono hba (Nat.le_refl _))
  have H2 := Lib.hid (h2.mono hba (Nat.le_refl _))
  have HD := Lib.hid h3
  have HW := Lib.hid hW
  have HBW : Hid (B ≤ W.heap.size) := Nat.le_trans hB hba.size
  have HRW : Hid (∀ g cs, Row w g 26 cs → Row W g 26 cs) := fun g cs h => by rw [hW]; exact h.alloc _
  obtain ⟨ad, c, hu⟩ := h1.lit
  subst hu
  obtain ⟨ad2, c2, hu⟩ := h2.1.lit
  subst hu
  clear h1 h2 h3 hW hba
  obtain ⟨l, hl0⟩ : ∃ l, ns.length = l := ⟨_, rfl⟩
  have HL := Lib.hid hl0
  have hK : ((1 + l : Nat) : Int) ≤ 7 := by omega
  rw [hl0] at HW ⊢
  have H1 : Hid (Gr W B 9 1 (.slice ad l c) ns.length (strs ns)) := by have := H1.out; unfold Hid; rw [hl0] at this ⊢; exact this
  clear hl0
  go_enter Tryd.func17, Tryd.ntmps17
  go_wp2_with fail
  rw [← HW.out]
  refine (markStringS_any _ B 1 ns W H1.out (by omega) (by omega)).mono ?_
  rintro e w2 ⟨rfl, hg, hr⟩
  have HR2 := Lib.hid (HR1.out.grown hr (fun e => row_ne H1.out HR1.out (by decide) _ e rfl))
  have O2 := Lib.hid (H2.out.kept hr (fun g hg he => gBlock_type H2.out.1 H1.out (by decide) g hg he) (fun i hi g hg he => gBlock_type (H2.out.2 i hi) H1.out (by decide) g hg he))
  have HB2 : Hid (Below B w w2) := HB.out.grown hr HBW.out (fun g e => (H1.out.lt g e).1)
  have G2 := Lib.hid hg
  have HR9 : Hid (∀ g cs, Row w g 26 cs → Row w2 g 26 cs) := fun g cs h => (HRW.out g cs h).grown hr (fun e => row_ne H1.out (HRW.out g cs h) (by decide) _ e rfl)
  have HBW2 : Hid (B ≤ w2.heap.size) := Nat.le_trans HBW.out hr.size
  rw [HL.out] at HR2 G2 ⊢
  have x0 := HR2.out.cell (i := 0) rfl
  have x1 := HR2.out.cell (i := 1) rfl
  clear hg hr H1 H2 HR1
  go_wp2_with fail
  refine (markIntSS_keep _ B n f ((1 + l : Nat) : Int) w2 (ownSS_of O2.out HD.out) (fun wz => Gr wz B 9 1 (.slice ad l c) l (strs (marksT 1 l)) ∧ ∀ g cs, Row w g 26 cs → Row wz g 26 cs) ⟨G2.out, HR9.out⟩ ?hP HBW2.out (by omega) (by omega)).mono ?_
  case hP =>
    intro w3 w4 gt ut lt hp ho hfb hgr
    refine ⟨hp.1.kept hgr (fun g hg1 he => ?_), fun g cs h => (hp.2 g cs h).grown hgr (fun he => ?_)⟩
    · subst he
      obtain ⟨-, -, ⟨-, h8, -⟩ | ⟨-, g9, c9, tail, h8, -, -, hrow⟩⟩ := ho
      · cases h8
      · cases h8
        exact row_ne hp.1 hrow (by decide) g hg1 rfl
    · subst he
      obtain ⟨-, -, ⟨-, h8, -⟩ | ⟨-, g9, c9, tail, h8, -, -, hrow⟩⟩ := ho
      · cases h8
      · cases h8
        exact row_type hrow (hp.2 g cs h) (by decide)
  rintro e w3 ⟨rfl, hss, ⟨hn3, hr3⟩, hb⟩
  have HS := Lib.hid hss.view
  have HN := Lib.hid hn3.view
  have HB3 : Hid (Below B w w3) := HB2.out.trans hb
  have HR3 := Lib.hid hr3
  clear hss hn3 hr3 hb x0 x1
  go_wp2
  go_ret
  refine ⟨rfl, ⟨_, _, rfl, ?_, HS.out⟩, HR3.out, HB3.out⟩
  unfold Strs
  rw [marksT_length]
  exact HN.out
set_option maxRecDepth 20000 in
theorem heldTable_any (u : Value) (l n : Nat) (f : Nat → List Int) (w : World) (h : TabIn w u (marksT 1 l) n (marksSS ((1 + l : Nat) : Int) f)) (hl : l ≤ 6) (hp : preL f n ≤ 1000) :
    Calls Tryd.prog 18 #[u, .int .i64 1] w fun e w' => e = .returned (.int .i64 (((1 + l : Nat) : Int) + preL f n)) ∧ Below w.heap.size w w' := by
  obtain ⟨nv, rv, rfl, h1, h2⟩ := h
  obtain ⟨W, hW⟩ : ∃ W, W = w.alloc (.cells #[nv, rv] 26) := ⟨_, rfl⟩
  have hba : Below w.heap.size w W := by rw [hW]; exact (Below.refl _ _).alloc (Nat.le_refl _) _
  have HB := Lib.hid hba
  have HR1 : Hid (Row W w.heap.size 26 [nv, rv]) := by rw [hW]; exact Row.new w 26 [nv, rv]
  have H1 := Lib.hid (h1.mono hba (Nat.le_refl _))
  have H2 := Lib.hid (h2.mono hba (Nat.le_refl _))
  have HW := Lib.hid hW
  obtain ⟨ad, c, hu, _, _⟩ := h1.open
  subst hu
  obtain ⟨ad2, c2, hu, _, _⟩ := h2.open
  subst hu
  rw [marksT_length] at *
  clear h1 h2 hW hba
  have hK : ((1 + l : Nat) : Int) ≤ 7 := by omega
  have hK1 : decide (((1 + l : Nat) : Int) < 0) = false := decide_eq_false (by omega)
  have hK2 : decide (((1 + l : Nat) : Int) + (preL f n : Int) < 0) = false := decide_eq_false (by omega)
  have hK3 : ¬ ((1 : Int) + (l : Int) < 0) := by omega
  have hK4 : ¬ ((1 : Int) + (l : Int) + (preL f n : Int) < 0) := by omega
  go_enter Tryd.func18, Tryd.ntmps18
  go_wp2_with fail
  rw [← HW.out]
  refine (heldStringS_any _ 1 l W H1.out (by omega) (by omega)).mono ?_
  rintro e w2 ⟨rfl, hb⟩
  have HB2 := nxt HB hb
  have HR2 := Lib.hid (HR1.out.mono hb HR1.out.lt)
  have H22 := Lib.hid (H2.out.mono hb (Nat.le_refl _))
  have x0 := HR2.out.cell (i := 0) rfl
  have x1 := HR2.out.cell (i := 1) rfl
  clear hb HR1 H2 H1
  go_wp2_with fail
  refine (heldIntSS_any _ n f ((1 + l : Nat) : Int) w2 H22.out (by omega) (by omega)).mono ?_
  rintro e w3 ⟨rfl, hb⟩
  have HB3 := nxt HB2 hb
  clear hb x0 x1
  go_wp2
  go_ret
  exact ⟨rfl, HB3.out⟩
theorem TabX.mono {w w' : World} {B : Nat} {v : Value} {ns : List ByteArray} {n : Nat} {f : Nat → List Int} (h : TabX w B v ns n f) {B' : Nat} (hb : Below B' w w') (hB : w.heap.size ≤ B') : TabX w' B v ns n f := by
  obtain ⟨nv, rv, vs, rfl, h1, h2, h3⟩ := h
  exact ⟨nv, rv, vs, rfl, h1.mono hb hB, h2.mono hb hB, h3⟩
end Go.Proofs.YtajgghifamebkaaDoor
