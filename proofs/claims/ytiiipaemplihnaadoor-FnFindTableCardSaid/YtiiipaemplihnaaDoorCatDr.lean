/- the draw of a catalog -/
import Derived.Test.YtiiipaemplihnaaDoorTabTb
import Derived.Test.YtiiipaemplihnaaDoorCatO
import Derived.BigQuiet
import Derived.Deep.CutRange
namespace Go.Proofs.YtiiipaemplihnaaDoor
open Go.RowKit
theorem Tryd.infoNamed : (Tryd.prog.info? 34).map (fun i => (i.zero, i.size, i.bytes)) = some (some (.agg #[.string ByteArray.empty, .slice none 0 0, .slice none 0 0]), 3, 64) := by kernel_rfl
theorem view_new (w : World) (l : List Value) (t : TypeId) (m : Nat) (hl : l.length = m * 3) (hm : m ≤ 10) : View (w.alloc (.cells l.toArray t)) 3 (.slice (some ⟨w.heap.size, 0, none⟩) m m) m l :=
  View.of_row (Row.new w t l) hl (by unfold maxLen; omega) (Nat.le_refl _)
theorem Tryd.mk5 (w : World) : (Instr.makeSlice 23 (.int .i64 5) (.int .i64 5)).run Tryd.prog w = .ok (.slice (some ⟨w.heap.size, 0, none⟩) 5 5) (w.alloc (.cells (tab 5 fun _ => catC ByteArray.empty (.slice none 0 0) (.slice none 0 0)).flatten.toArray 34)) := by kernel_rfl
theorem TabO.take2 {w : World} {B : Nat} {nv : Value} {ad : Option Addr} {n c k : Nat} {ns : List ByteArray} {f : Nat → List Int} (h : TabO w B (.agg #[nv, .slice ad n c]) ns n f) (hk : k ≤ n) : TabO w B (.agg #[nv, .slice ad k c]) ns k f := by
  obtain ⟨a, b, vs, hv, h1, h2⟩ := h
  cases hv
  exact ⟨_, _, vs, rfl, h1, h2.take hk⟩
theorem TabO.rowsAt {w : World} {B : Nat} {nv : Value} {ad : Option Addr} {n c : Nat} {ns : List ByteArray} {f : Nat → List Int} (h : TabO w B (.agg #[nv, .slice ad n c]) ns n f) (hn : 0 < n) : (∃ g, ad = some ⟨g, 0, none⟩) ∧ n ≤ c := by
  obtain ⟨a, b, vs, hv, h1, h2⟩ := h
  cases hv
  obtain ⟨g, c', hv, -, hc, -⟩ := h2.1.at hn
  cases hv
  exact ⟨⟨_, rfl⟩, hc⟩
theorem CS.cut {w wr : World} {R p gc k k' d : Nat} {v a b c : Value} {ad : Option Addr} {bs : List Int} {nm nm' : ByteArray} {ns ns' : List ByteArray} {f f' : Nat → List Int} (hr : Row wr gc 34 [.string nm, a, b, .string nm', c, .slice ad k' d]) (hg : w.heap.size ≤ gc)
    (ht : TabO wr w.heap.size (.agg #[a, b]) ns k f) (ht' : TabO wr w.heap.size (.agg #[c, .slice ad k' d]) ns' k' f') (hs : nm.size ≤ 4000000 ∧ SmallS ns) (hs' : nm'.size ≤ 4000000 ∧ SmallS ns') (rd : Rd wr R v bs ((p : Nat) : Int)) (gw : w.grownBy wr (some R)) (lt : R < w.heap.size) (lv : 0 < bs.length → ∀ g, v.ownBlock = some g → g < w.heap.size) (h2 : 2 ≤ k') :
    ∃ en nv rv, CS w R v bs p (.slice (some ⟨gc, 0, none⟩) 2 2) 2 en nv rv (wr.setCell ⟨gc, 5, none⟩ (.slice ad 2 d)) := by
  have hc := (CS.two hr hg ht ht' hs hs' rd gw lt lv).c
  have hg2 : wr.grownBy (wr.setCell ⟨gc, 5, none⟩ (.slice ad 2 d)) (some gc) := set_other wr ⟨gc, 5, none⟩ (.slice ad 2 d) rfl
  have hb : Below w.heap.size wr (wr.setCell ⟨gc, 5, none⟩ (.slice ad 2 d)) := (Below.refl _ _).setCell (p := ⟨gc, 5, none⟩) hg _
  exact ⟨_, _, _, CS.two (hr.set 5 (.slice ad 2 d)) hg (ht.keptT hc hg2) ((ht'.keptT hc hg2).take2 h2) hs hs' (rd.below hb lt lv) (grown_below gw hb) lt lv⟩
theorem wrap_mul17 {a b : Nat} (ha : a ≤ 17) (hb : b ≤ 17) : IntKind.i64.wrap ((a : Int) * (b : Int)) = (a : Int) * (b : Int) := by
  have h1 : a * b ≤ 17 * 17 := Nat.mul_le_mul ha hb
  have e : ((a : Int) * b) = ((a * b : Nat) : Int) := (Int.natCast_mul a b).symm
  rw [e]
  exact IntWalk.i64_in _ ⟨by omega, by omega⟩
set_option maxRecDepth 40000 in
set_option maxHeartbeats 4000000 in
theorem catalog_any (R : Nat) (v : Value) (bs : List Int) (m : Int) (p : Nat) (w : World) (h : Rd w R v bs p) (hp : p ≤ 1000000) (hm : -1000 ≤ m ∧ m ≤ 1000) :
    Calls Tryd.prog 11 #[.pointer (some ⟨R, 0, none⟩), .int .i64 m] w (CatDr R v bs p w) := by
  obtain ⟨lowR, lowV⟩ := h.low
  have LV := Lib.hid lowV
  have H := Lib.hid h
  clear h lowV
  go_enter Tryd.func11, Tryd.ntmps11
  go_wp2_with fail
  refine (table_any R v bs 0 0 p _ H.out (by omega) (by omega) (by omega)).mono ?_
  rintro e w1 ⟨u1, ns1, n1, f1, p1, rfl, hT, hl, hs, hB, qa1, qb1, hr, hg⟩
  obtain ⟨a1, c1, b1, d1, rfl⟩ := hT.lits
  have S1 : Hid (SmallS ns1) := fun s hs' => by have := hs s hs'; omega
  have N1 : n1 ≤ 17 := hB.1
  have R1 := Lib.hid hr
  have G1 := Lib.hid hg
  obtain ⟨k1, hk1⟩ : ∃ k, ns1.length = k := ⟨_, rfl⟩
  rw [hk1] at hT ⊢
  have T1 := Lib.hid hT
  clear hT hl hs hB hr hg hk1 H
  go_wp2_with fail
  refine (table_any R v bs 1 0 p1 _ R1.out (by omega) (by omega) (by omega)).mono ?_
  rintro e w2 ⟨u2, ns2, n2, f2, p2, rfl, hT, hl, hs, hB, qa2, qb2, hr, hg⟩
  obtain ⟨a2, c2, b2, d2, rfl⟩ := hT.lits
  have S2 : Hid (SmallS ns2) := fun s hs' => by have := hs s hs'; omega
  have N2 : n2 ≤ 17 := hB.1
  have hz1 : w.heap.size ≤ w1.heap.size := G1.out.size
  have T12 := Lib.hid (T1.out.keptB hg lowR)
  have hT2 := hT.low hz1
  have R2 := Lib.hid hr
  have G2 := Lib.hid (grown_trans G1.out hg)
  have HZ2 : Hid (w.heap.size ≤ w2.heap.size) := G2.out.size
  obtain ⟨k2, hk2⟩ : ∃ k, ns2.length = k := ⟨_, rfl⟩
  rw [hk2] at hT2 ⊢
  have T2 := Lib.hid hT2
  clear hT hT2 hl hs hB hr hg hk2 hz1 T1 R1 G1
  obtain ⟨cs3, hcs3⟩ : ∃ cs : List Value, [.string ⟨#[111, 110, 101]⟩, .slice a1 k1 c1, .slice b1 n1 d1, .string ⟨#[116, 119, 111]⟩, .slice a2 k2 c2, .slice b2 n2 d2] = cs := ⟨_, rfl⟩
  obtain ⟨W3, hW3⟩ : ∃ W3, w2.alloc (.cells #[.string ⟨#[111, 110, 101]⟩, .slice a1 k1 c1, .slice b1 n1 d1, .string ⟨#[116, 119, 111]⟩, .slice a2 k2 c2, .slice b2 n2 d2] 34) = W3 := ⟨_, rfl⟩
  obtain ⟨gc, hgc⟩ : ∃ gc, w2.heap.size = gc := ⟨_, rfl⟩
  have HR3 : Hid (Row W3 gc 34 [.string ⟨#[111, 110, 101]⟩, .slice a1 k1 c1, .slice b1 n1 d1, .string ⟨#[116, 119, 111]⟩, .slice a2 k2 c2, .slice b2 n2 d2]) := by rw [← hW3, ← hgc]; exact Row.new w2 34 [.string ⟨#[111, 110, 101]⟩, .slice a1 k1 c1, .slice b1 n1 d1, .string ⟨#[116, 119, 111]⟩, .slice a2 k2 c2, .slice b2 n2 d2]
  have hba : Below w2.heap.size w2 W3 := by rw [← hW3]; exact (Below.refl _ _).alloc (Nat.le_refl _) _
  have T13 := Lib.hid (T12.out.mono hba (Nat.le_refl _))
  have T23 := Lib.hid (T2.out.mono hba (Nat.le_refl _))
  have R3 := Lib.hid (R2.out.below (hba.mono HZ2.out) lowR LV.out)
  have G3 := Lib.hid (grown_below G2.out (hba.mono HZ2.out))
  have HGC : Hid (w.heap.size ≤ gc) := by rw [← hgc]; exact HZ2.out
  clear hcs3 cs3 hba T12 T2 R2 G2 HZ2
  go_wp2_with fail
  try rw [hgc]
  try rw [hW3]
  clear hgc hW3
  have x2 := HR3.out.cell (i := 2) rfl
  have x5 := HR3.out.cell (i := 5) rfl
  have xf := HR3.out.free 5
  have hm9 := wrap_mul17 N1 N2
  go_quiet (fail)
  clear x2 hm9
  have C3 := Lib.hid (CS.two HR3.out HGC.out T13.out T23.out ⟨by decide, S1.out⟩ ⟨by decide, S2.out⟩ R3.out G3.out lowR LV.out)
  go_upto_if 26 with (fail)
  go_cut [] from 27 to 36 (fun wx => ∃ en nv rv, CS w R v bs p2 (.slice (some ⟨gc, 0, none⟩) 2 2) 2 en nv rv wx)
  case first =>
    by_cases hgt : (40 : Int) < (n1 : Int) * (n2 : Int)
    · have hn2 : 2 ≤ n2 := by
        have h1 := Nat.mul_le_mul_right n2 N1
        have e : ((n1 : Int) * n2) = ((n1 * n2 : Nat) : Int) := (Int.natCast_mul n1 n2).symm
        rw [e] at hgt
        omega
      obtain ⟨⟨gr, hgr⟩, hd2⟩ := T23.out.rowsAt (by omega)
      subst hgr
      have hd3 : 2 ≤ d2 := by omega
      go_wp2_with fail
      go_meet
      have hb0 := below_drewN (Below.refl W3.heap.size W3) nq
      have hb1 := hb0.mono (G3.out.size)
      exact CS.cut (HR3.out.mono hb0 HR3.out.lt) HGC.out (T13.out.mono hb0 (Nat.le_refl _)) (T23.out.mono hb0 (Nat.le_refl _)) ⟨by decide, S1.out⟩ ⟨by decide, S2.out⟩ (R3.out.below hb1 lowR LV.out) (grown_below G3.out hb1) lowR LV.out hn2
    · go_wp2_with fail
      go_meet
      exact ⟨_, _, _, C3.out.below (below_drewN (Below.refl _ _) _)⟩
  case rest =>
  obtain ⟨en, nv, rv, hc⟩ := hcut
  have C4 := Lib.hid hc
  clear hc C3 T13 T23 R3 G3 HR3 S1 S2 HGC x5 xf
  go_wp2_with fail
  refine (pick_nat R v bs 6 p2 _ C4.out.rd (by omega) (by omega)).mono ?_
  rintro e w4 ⟨x, rfl, hx, hr, hg⟩
  have C5 := Lib.hid (C4.out.read hr hg)
  clear hr hg C4
  go_upto_if 39 with (fail)
  go_cut [5] from 40 to 43 (fun s wx => ∃ k p', s = .slice (some ⟨gc, 0, none⟩) k 2 ∧ k ≤ 2 ∧ p2 + 1 ≤ p' ∧ p' ≤ p2 + 2 ∧ CS w R v bs p' (.slice (some ⟨gc, 0, none⟩) k 2) k en nv rv wx)
  case first =>
    by_cases hx0 : x = 0
    · subst hx0
      go_wp2_with fail
      refine (pick_nat R v bs 2 (p2 + 1) _ C5.out.rd (by omega) (by omega)).mono ?_
      rintro e w5 ⟨y, rfl, hy, hr, hg⟩
      have C6 := Lib.hid (C5.out.read hr hg)
      have hy2 : y ≤ 2 := by omega
      clear hr hg C5
      go_wp2_with fail
      go_meet
      exact ⟨y, p2 + 1 + 1, rfl, by omega, by omega, by omega, C6.out.take (by omega)⟩
    · have hx1 : ((x : Int) == 0) = false := by simp [hx0]
      go_wp2_with fail
      go_meet
      exact ⟨2, p2 + 1, rfl, by omega, by omega, by omega, C5.out⟩
  case rest =>
  obtain ⟨k, p4, rfl, hk, q5, q6, hc⟩ := hcut
  have C6 := Lib.hid hc
  clear hc C5
  go_wp2_with fail
  refine (odd_any R v bs m p4 _ C6.out.rd (by omega) (by omega)).mono ?_
  rintro e w6 ⟨t, p6, rfl, q7, q8, hr, hg, -⟩
  have C7 := Lib.hid (C6.out.read hr hg)
  clear hr hg C6
  cases t
  · go_wp2
    go_ret
    exact C7.out.fin (by omega) (by omega)
  · go_wp2_with fail
    refine (pick_nat R v bs 4 p6 _ C7.out.rd (by omega) (by omega)).mono ?_
    rintro e w7 ⟨x, rfl, hx, hr, hg⟩
    have C8 := Lib.hid (C7.out.read hr hg)
    clear hr hg C7
    have hxc : x = 0 ∨ x = 1 ∨ x = 2 ∨ x = 3 := by omega
    rcases hxc with rfl | rfl | rfl | rfl
    · clear hx
      go_wp2_with fail
      refine (table_any R v bs 0 0 (p6 + 1) _ C8.out.rd (by omega) (by omega) (by omega)).mono ?_
      rintro e w8 ⟨u3, ns3, n3, f3, p3, rfl, hT, hl, hs, hB, qa3, qb3, hr, hg⟩
      obtain ⟨a3, c3, b3, d3, rfl⟩ := hT.lits
      have S3 : Hid (SmallS ns3) := fun s hs' => by have := hs s hs'; omega
      have hT' := hT.low C8.out.size
      obtain ⟨k3, hk3⟩ : ∃ k, ns3.length = k := ⟨_, rfl⟩
      rw [hk3] at hT' ⊢
      have T3 := Lib.hid hT'
      have C9 := Lib.hid (C8.out.read hr hg)
      clear hT hT' hl hs hB hr hg hk3 C8
      go_wp2_with fail
      refine (table_any R v bs 0 0 p3 _ C9.out.rd (by omega) (by omega) (by omega)).mono ?_
      rintro e w10 ⟨u4, ns4, n4, f4, p4, rfl, hT, hl, hs, hB, qa4, qb4, hr, hg⟩
      obtain ⟨a4, c4, b4, d4, rfl⟩ := hT.lits
      have S4 : Hid (SmallS ns4) := fun s hs' => by have := hs s hs'; omega
      have hT' := hT.low C9.out.size
      obtain ⟨k4, hk4⟩ : ∃ k, ns4.length = k := ⟨_, rfl⟩
      rw [hk4] at hT' ⊢
      have T4 := Lib.hid hT'
      have C10 := Lib.hid (C9.out.read hr hg)
      have T3b := Lib.hid (T3.out.keptB hg lowR)
      clear hT hT' hl hs hB hr hg hk4 C9 T3
      go_wp2_with (at_builtin; refine wpList_app _ rfl (.tmp 52) (.tmp 59) 23 rfl w.heap.size 34 (.agg #[.string ByteArray.empty, .slice none 0 0, .slice none 0 0]) 3 64 Tryd.underlying23 Tryd.infoNamed rfl (by omega) (.slice (some ⟨gc, 0, none⟩) k 2) k _ rfl (C10.out.c.alloc _) _ 2 [.string ⟨#[111, 110, 101]⟩, .slice a3 k3 c3, .slice b3 n3 d3, .string ⟨#[111, 110, 101]⟩, .slice a4 k4 c4, .slice b4 n4 d4] rfl (view_new _ [.string ⟨#[111, 110, 101]⟩, .slice a3 k3 c3, .slice b3 n3 d3, .string ⟨#[111, 110, 101]⟩, .slice a4 k4 c4, .slice b4 n4 d4] _ 2 rfl (by omega)) (by simp [Value.oneCell']) (by unfold maxLen; omega) (by omega) (by have := C10.out.size; simp; omega) ?_; intro v9 w9 g9 r9 k9; have C12 := Lib.hid (C10.out.app2 ((Below.refl _ _).alloc (Nat.le_refl _) _) (T3b.out.mono ((Below.refl _ _).alloc (Nat.le_refl _) _) (Nat.le_refl _)) (T4.out.mono ((Below.refl _ _).alloc (Nat.le_refl _) _) (Nat.le_refl _)) ⟨by decide, S3.out⟩ ⟨by decide, S4.out⟩ g9 r9); obtain ⟨a9, c9, hv9⟩ := g9.lit; subst hv9; clear g9 r9 k9)
      go_ret
      exact C12.out.fin (by omega) (by omega)
    · clear hx
      go_wp2_with fail
      refine (name_any R v bs 1 (p6 + 1) _ C8.out.rd (by omega) (by omega)).mono ?_
      rintro e w8 ⟨s, p8, rfl, hs, qc, qd, hr, hg⟩
      have hs4 : s.size ≤ 4000000 := by omega
      have HSN := Lib.hid hs4
      have C9 := Lib.hid (C8.out.read hr hg)
      clear hr hg C8 hs hs4
      go_wp2_with fail
      refine (table_any R v bs 0 0 p8 _ C9.out.rd (by omega) (by omega) (by omega)).mono ?_
      rintro e w10 ⟨u3, ns3, n3, f3, p3, rfl, hT, hl, hs, hB, qa3, qb3, hr, hg⟩
      obtain ⟨a3, c3, b3, d3, rfl⟩ := hT.lits
      have S3 : Hid (SmallS ns3) := fun s hs' => by have := hs s hs'; omega
      have hT' := hT.low C9.out.size
      obtain ⟨k3, hk3⟩ : ∃ k, ns3.length = k := ⟨_, rfl⟩
      rw [hk3] at hT' ⊢
      have T3 := Lib.hid hT'
      have C10 := Lib.hid (C9.out.read hr hg)
      clear hT hT' hl hs hB hr hg hk3 C9
      go_wp2_with (at_builtin; refine wpList_app _ rfl (.tmp 63) (.tmp 69) 23 rfl w.heap.size 34 (.agg #[.string ByteArray.empty, .slice none 0 0, .slice none 0 0]) 3 64 Tryd.underlying23 Tryd.infoNamed rfl (by omega) (.slice (some ⟨gc, 0, none⟩) k 2) k _ rfl (C10.out.c.alloc _) _ 1 [.string s, .slice a3 k3 c3, .slice b3 n3 d3] rfl (view_new _ [.string s, .slice a3 k3 c3, .slice b3 n3 d3] _ 1 rfl (by omega)) (by simp [Value.oneCell']) (by unfold maxLen; omega) (by omega) (by have := C10.out.size; simp; omega) ?_; intro v9 w9 g9 r9 k9; have C12 := Lib.hid (C10.out.app ((Below.refl _ _).alloc (Nat.le_refl _) _) (T3.out.mono ((Below.refl _ _).alloc (Nat.le_refl _) _) (Nat.le_refl _)) ⟨HSN.out, S3.out⟩ g9 r9); obtain ⟨a9, c9, hv9⟩ := g9.lit; subst hv9; clear g9 r9 k9)
      go_ret
      exact C12.out.fin (by omega) (by omega)
    · clear hx
      go_wp2_with fail
      refine (table_any R v bs 0 1 (p6 + 1) _ C8.out.rd (by omega) (by omega) (by omega)).mono ?_
      rintro e w8 ⟨u3, ns3, n3, f3, p3, rfl, hT, hl, hs, hB, qa3, qb3, hr, hg⟩
      obtain ⟨a3, c3, b3, d3, rfl⟩ := hT.lits
      have S3 : Hid (SmallS ns3) := fun s hs' => by have := hs s hs'; omega
      have hT' := hT.low C8.out.size
      obtain ⟨k3, hk3⟩ : ∃ k, ns3.length = k := ⟨_, rfl⟩
      rw [hk3] at hT' ⊢
      have T3 := Lib.hid hT'
      have C9 := Lib.hid (C8.out.read hr hg)
      clear hT hT' hl hs hB hr hg hk3 C8
      go_wp2_with (at_builtin; refine wpList_app _ rfl (.tmp 73) (.tmp 77) 23 rfl w.heap.size 34 (.agg #[.string ByteArray.empty, .slice none 0 0, .slice none 0 0]) 3 64 Tryd.underlying23 Tryd.infoNamed rfl (by omega) (.slice (some ⟨gc, 0, none⟩) k 2) k _ rfl (C9.out.c.alloc _) _ 1 [.string ⟨#[120]⟩, .slice a3 k3 c3, .slice b3 n3 d3] rfl (view_new _ [.string ⟨#[120]⟩, .slice a3 k3 c3, .slice b3 n3 d3] _ 1 rfl (by omega)) (by simp [Value.oneCell']) (by unfold maxLen; omega) (by omega) (by have := C9.out.size; simp; omega) ?_; intro v9 w9 g9 r9 k9; have C12 := Lib.hid (C9.out.app ((Below.refl _ _).alloc (Nat.le_refl _) _) (T3.out.mono ((Below.refl _ _).alloc (Nat.le_refl _) _) (Nat.le_refl _)) ⟨by decide, S3.out⟩ g9 r9); obtain ⟨a9, c9, hv9⟩ := g9.lit; subst hv9; clear g9 r9 k9)
      go_ret
      exact C12.out.fin (by omega) (by omega)
    · clear hx
      have hmk := Tryd.mk5 w7
      obtain ⟨W9, hW9⟩ : ∃ W9, w7.alloc (.cells (tab 5 fun _ => catC ByteArray.empty (.slice none 0 0) (.slice none 0 0)).flatten.toArray 34) = W9 := ⟨_, rfl⟩
      have hb : Below w7.heap.size w7 W9 := by rw [← hW9]; exact (Below.refl _ _).alloc (Nat.le_refl _) _
      have HR9 : Row W9 w7.heap.size 34 (tab 5 fun _ => catC ByteArray.empty (.slice none 0 0) (.slice none 0 0)).flatten := by rw [← hW9]; exact Row.new w7 _ _
      have C12 := Lib.hid (CS.five HR9 C8.out.size (C8.out.rd.below (hb.mono C8.out.size) lowR LV.out) (grown_below C8.out.gw (hb.mono C8.out.size)) lowR LV.out)
      rw [hW9] at hmk
      clear hW9 hb HR9 C8
      go_wp2
      go_ret
      exact C12.out.fin (by omega) (by omega)
end Go.Proofs.YtiiipaemplihnaaDoor
