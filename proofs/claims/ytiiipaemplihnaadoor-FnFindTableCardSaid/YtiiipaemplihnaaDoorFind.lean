/- FindTable of the program and of the specification -/
import Derived.Test.YtiiipaemplihnaaDoorCatS
import Derived.Test.YtiiipaemplihnaaDoorTabD
namespace Go.Proofs.YtiiipaemplihnaaDoor
open Go.RowKit
def findR (n : Nat) (en : Nat → Ent) (x : ByteArray) : Option Nat := if catB n en = true ∧ 0 ≤ indexS (nmL n en) (tx x) then some (indexS (nmL n en) (tx x)).toNat else none
def FindV (r : Option Nat) (en : Nat → Ent) (w : World) (e : Ending) (w' : World) : Prop :=
  match r with
  | none => e = .returned (.tuple #[.agg #[.slice none 0 0, .slice none 0 0], .bool false]) ∧ Below w.heap.size w w'
  | some k => ∃ a1 c1 a2 c2, e = .returned (.tuple #[.agg #[.slice a1 (en k).2.1.length c1, .slice a2 (en k).2.2.1 c2], .bool true]) ∧ TabIn w' (.agg #[.slice a1 (en k).2.1.length c1, .slice a2 (en k).2.2.1 c2]) (en k).2.1 (en k).2.2.1 (en k).2.2.2 ∧ Below w.heap.size w w'
theorem findR_bad {n : Nat} {en : Nat → Ent} {x : ByteArray} (h : catB n en = false) : findR n en x = none := by unfold findR; rw [if_neg]; rw [h]; simp
theorem findR_none {n : Nat} {en : Nat → Ent} {x : ByteArray} (h : tx x ∉ nmL n en) : findR n en x = none := by unfold findR; rw [indexS_none h, if_neg]; simp
theorem findR_some {n k : Nat} {en : Nat → Ent} {x : ByteArray} (h : catB n en = true) (hk : (nmL n en)[k]? = some (tx x)) (hn : tx x ∉ (nmL n en).take k) : findR n en x = some k := by
  unfold findR
  rw [indexS_at hk hn, if_pos ⟨h, by omega⟩]; simp
theorem indexS_cases (ss : List (List UInt8)) (x : List UInt8) : (x ∉ ss ∧ indexS ss x = -1) ∨ ∃ k : Nat, ss[k]? = some x ∧ x ∉ ss.take k ∧ indexS ss x = k := by
  by_cases h : x ∈ ss
  · have hlt := List.idxOf_lt_length_of_mem h
    refine .inr ⟨ss.idxOf x, ?_, ?_, if_pos h⟩
    · rw [List.getElem?_eq_getElem hlt, List.getElem_idxOf hlt]
    · intro hm
      have := indexS_ne hm
      exact this (if_pos h)
  · exact .inl ⟨h, if_neg h⟩
set_option maxRecDepth 20000 in
set_option maxHeartbeats 400000 in
theorem impl_FindTable (v : Value) (n : Nat) (en : Nat → Ent) (x : ByteArray) (w : World) (h : CatIn w v n en) (hR : Resv w) (hs : SmallC n en) :
    Calls Tryd.prog 5 #[v, .string x] w (FindV (findR n en x) en w) := by
  obtain ⟨W, hW⟩ : ∃ W, W = w.alloc (.cells #[.slice none 0 0, .slice none 0 0] 29) := ⟨_, rfl⟩
  have HB : Hid (Below w.heap.size w W) := by rw [hW]; exact (Below.refl _ _).alloc (Nat.le_refl _) _
  have HX : Hid (Row W w.heap.size 29 [.slice none 0 0, .slice none 0 0]) := by rw [hW]; exact Row.new w 29 [.slice none 0 0, .slice none 0 0]
  have HZ : Hid (W.heap.size = w.heap.size + 1) := by rw [hW]; simp [Hid]
  have HW := Lib.hid hW
  have H := Lib.hid (h.mono HB.out (Nat.le_refl _))
  have HR := Lib.hid (hR.mono HB.out (Nat.le_refl _))
  have HS := Lib.hid hs
  obtain ⟨ad, c, rfl, hmax, -⟩ := h.open
  unfold maxLen at hmax
  clear h hR hs hW
  obtain ⟨R, hRR⟩ : ∃ R, findR n en x = R := ⟨_, rfl⟩
  rw [hRR]
  have HRR := Lib.hid hRR
  clear hRR
  go_enter Tryd.func5, Tryd.ntmps5
  go_wp2_with fail
  rw [← HW.out]
  clear HW
  refine (tableAt_any _ n en x _ H.out).mono ?_
  rintro e w1 ⟨rfl, hb⟩
  have HB1 := Lib.hid (HB.out.trans (hb.mono HB.out.size))
  have HX1 := Lib.hid (HX.out.mono hb HX.out.lt)
  have H1 := Lib.hid (H.out.mono hb (Nat.le_refl _))
  have HR1 := Lib.hid (HR.out.mono hb (Nat.le_refl _))
  have HZ1 : Hid (w.heap.size + 1 ≤ w1.heap.size) := by have := hb.size; have := HZ.out; unfold Hid; omega
  clear hb HX H HR HB HZ
  obtain ⟨at1, hat⟩ : ∃ a, indexS (nmL n en) (tx x) = a := ⟨_, rfl⟩
  have HAT := Lib.hid hat
  rw [hat]
  clear hat
  obtain ⟨t, ht⟩ : ∃ t, catB n en = t := ⟨_, rfl⟩
  have HT := Lib.hid ht
  clear ht
  go_wp2_with fail
  refine (impl_CatalogValid _ n en _ H1.out HR1.out HS.out).mono ?_
  rw [HT.out]
  rintro e w2 ⟨rfl, hb⟩
  have HB2 := Lib.hid (HB1.out.trans (hb.mono HB1.out.size))
  have HX2 := Lib.hid (HX1.out.mono hb HX1.out.lt)
  have H2 := Lib.hid (H1.out.mono hb (Nat.le_refl _))
  have HZ2 : Hid (w.heap.size + 1 ≤ w2.heap.size) := by have := hb.size; have := HZ1.out; unfold Hid; omega
  have y0 := HX2.out.cell (i := 0) rfl
  have y1 := HX2.out.cell (i := 1) rfl
  have z0 := HX2.out.free 0
  have z1 := HX2.out.free 1
  clear hb HX1 H1 HR1 HB1 HZ1
  have HZERO : Hid (R = none → FindV R en w (.returned (.tuple #[.agg #[.slice none 0 0, .slice none 0 0], .bool false])) ((w2.setCell ⟨w.heap.size, 0, none⟩ (.slice none 0 0)).setCell ⟨w.heap.size, 1, none⟩ (.slice none 0 0))) := fun e => by
    subst e
    exact ⟨rfl, (HB2.out.setCell (p := ⟨w.heap.size, 0, none⟩) (Nat.le_refl _) _).setCell (p := ⟨w.heap.size, 1, none⟩) (Nat.le_refl _) _⟩
  have hr3 := (HX2.out.set 0 (.slice none 0 0)).set 1 (.slice none 0 0)
  have f0 := hr3.cell (i := 0) rfl
  have f1 := hr3.cell (i := 1) rfl
  clear hr3
  cases t
  · have HN : Hid (R = none) := by rw [← HRR.out]; exact findR_bad HT.out
    go_wp2
    exact bodyPost_ret (v := .tuple #[.agg #[.slice none 0 0, .slice none 0 0], .bool false]) (by simp [results, Tryd.results5, go_sem, f0, f1]) rfl (HZERO.out HN.out)
  · rcases indexS_cases (nmL n en) (tx x) with ⟨hm, he⟩ | ⟨k, hk, hn, he⟩
    · have HN : Hid (R = none) := by rw [← HRR.out]; exact findR_none hm
      obtain rfl : at1 = -1 := HAT.out.symm.trans he
      clear hm he
      go_wp2
      exact bodyPost_ret (v := .tuple #[.agg #[.slice none 0 0, .slice none 0 0], .bool false]) (by simp [results, Tryd.results5, go_sem, f0, f1]) rfl (HZERO.out HN.out)
    · have HN : Hid (R = some k) := by rw [← HRR.out]; exact findR_some HT.out hk hn
      obtain rfl : at1 = k := HAT.out.symm.trans he
      have hkn : k < n := by have := (List.getElem?_eq_some_iff.1 hk).1; simpa using this
      obtain ⟨h61, h62, h63⟩ := tabB_small (catB_at HT.out hkn).2.2
      obtain ⟨ad', c', hv, -, hop⟩ := H2.out.open
      cases hv
      obtain ⟨b, off, rfl, hcell⟩ := hop k hkn
      obtain ⟨a1, c1, a2, c2, d0, d1, d2, htab⟩ := hcell k hkn
      have hd0 : ¬ (k : Int) < 0 := by omega
      have hd1 : (k : Int) < (n : Int) := by omega
      obtain ⟨l1, hl1⟩ : ∃ l, (en k).2.1.length = l := ⟨_, rfl⟩
      obtain ⟨l2, hl2⟩ : ∃ l, (en k).2.2.1 = l := ⟨_, rfl⟩
      have HL1 := Lib.hid hl1
      have HL2 := Lib.hid hl2
      have HTAB := Lib.hid htab
      have H6 := Lib.hid (And.intro h61 (And.intro h62 h63))
      rw [hl1] at d1 HTAB
      rw [hl2] at d2 HTAB
      have HTB : Hid (TabIn w2 (.agg #[.slice a1 l1 c1, .slice a2 l2 c2]) (en k).2.1 l2 (en k).2.2.2) := HTAB.out
      clear hop hcell hk hn he htab hl1 hl2 h61 h62 h63 f0 f1 HZERO d0 HTAB
      go_wp2_with fail
      refine (tabClone_any _ (en k).2.1 l2 (en k).2.2.2 _ HTB.out (by have := H6.out.1; omega) (by have := H6.out.2.1; have := HL2.out; omega) (fun i hi => by have := H6.out.2.2 i (by rw [HL2.out]; exact hi); omega)).mono ?_
      rintro e w3 ⟨u, rfl, ht3, hb⟩
      obtain ⟨p1, q1, p2, q2, rfl⟩ := ht3.lits
      rw [HL1.out] at ht3 ⊢
      have HX3 := Lib.hid (HX2.out.mono hb HX2.out.lt)
      have y0 := HX3.out.cell (i := 0) rfl
      have y1 := HX3.out.cell (i := 1) rfl
      have z0 := HX3.out.free 0
      have z1 := HX3.out.free 1
      have hs : w3.grownBy ((w3.setCell ⟨w.heap.size, 0, none⟩ (.slice p1 l1 q1)).setCell ⟨w.heap.size, 1, none⟩ (.slice p2 l2 q2)) (some w.heap.size) := grown_set (set_other w3 ⟨w.heap.size, 0, none⟩ _ rfl) _ _
      have hr3 := (HX3.out.set 0 (.slice p1 l1 q1)).set 1 (.slice p2 l2 q2)
      have f0 := hr3.cell (i := 0) rfl
      have f1 := hr3.cell (i := 1) rfl
      have HT3 : Hid (TabIn ((w3.setCell ⟨w.heap.size, 0, none⟩ (.slice p1 l1 q1)).setCell ⟨w.heap.size, 1, none⟩ (.slice p2 l2 q2)) (.agg #[.slice p1 l1 q1, .slice p2 l2 q2]) (en k).2.1 l2 (en k).2.2.2) := (ht3.keptB hs (by have := HZ2.out; omega)).view
      have HB3 := Lib.hid ((HB2.out.trans (hb.mono HB2.out.size)).grown hs (by have := HB2.out.size; have := hb.size; omega) (fun g hg => by cases hg; exact Nat.le_refl _))
      clear hs hr3 ht3 hb d1 d2
      go_wp2
      refine bodyPost_ret (v := .tuple #[.agg #[.slice p1 l1 q1, .slice p2 l2 q2], .bool true]) (by simp [results, Tryd.results5, go_sem, f0, f1]) rfl ?_
      rw [HN.out]
      refine ⟨p1, q1, p2, q2, by rw [HL1.out, HL2.out], ?_, HB3.out⟩
      rw [HL1.out, HL2.out]
      exact HT3.out
set_option maxRecDepth 20000 in
set_option maxHeartbeats 400000 in
theorem spec_FindTable (v : Value) (n : Nat) (en : Nat → Ent) (x : ByteArray) (w : World) (h : CatIn w v n en) (hs : SmallC n en) :
    Calls Tryd.prog 6 #[v, .string x] w (FindV (findR n en x) en w) := by
  obtain ⟨W, hW⟩ : ∃ W, W = w.alloc (.cells #[.slice none 0 0, .slice none 0 0] 29) := ⟨_, rfl⟩
  have HB : Hid (Below w.heap.size w W) := by rw [hW]; exact (Below.refl _ _).alloc (Nat.le_refl _) _
  have HX : Hid (Row W w.heap.size 29 [.slice none 0 0, .slice none 0 0]) := by rw [hW]; exact Row.new w 29 [.slice none 0 0, .slice none 0 0]
  have HZ : Hid (w.heap.size + 1 ≤ W.heap.size) := by rw [hW]; simp [Hid]
  have HW := Lib.hid hW
  have H := Lib.hid h
  have HS := Lib.hid hs
  obtain ⟨ad, c, rfl, hmax, hop⟩ := h.open
  have HOP := Lib.hid hop
  unfold maxLen at hmax
  clear h hs hW hop
  obtain ⟨R, hRR⟩ : ∃ R, findR n en x = R := ⟨_, rfl⟩
  rw [hRR]
  have HRR := Lib.hid hRR
  clear hRR
  obtain ⟨t, ht⟩ : ∃ t, catB n en = t := ⟨_, rfl⟩
  have HT := Lib.hid ht
  clear ht
  go_enter Tryd.func6, Tryd.ntmps6
  go_wp2
  rw [← HW.out]
  clear HW
  go_loopg [6] n (fun gg i wr => ∃ k : Nat, k ≤ n ∧ n - k ≤ gg ∧ i = .int .i64 k ∧ Hid (tx x ∉ (nmL n en).take k) ∧ Hid (Below w.heap.size w wr) ∧ Hid (Row wr w.heap.size 29 [.slice none 0 0, .slice none 0 0]) ∧ Hid (w.heap.size + 1 ≤ wr.heap.size))
  case atStart => exact ⟨0, Nat.zero_le _, Nat.le_refl _, rfl, by simp [Hid], HB.out, HX.out, HZ.out⟩
  case round =>
    clear HB HX HZ
    obtain ⟨k, hk, hgg, rfl, hN, hB, hX, hZ⟩ := hrel
    by_cases hlt : k < n
    · have HLT := Lib.hid hlt
      go_wp2_with fail
      refine (spec_CatalogValid _ n en _ (H.out.mono hB.out (Nat.le_refl _)) HS.out).mono ?_
      rw [HT.out]
      rintro e w2 ⟨rfl, hb⟩
      have HB2 := Lib.hid (hB.out.trans (hb.mono hB.out.size))
      have HX2 := Lib.hid (hX.out.mono hb hX.out.lt)
      have HZ2 : Hid (w.heap.size + 1 ≤ w2.heap.size) := by have := hb.size; have := hZ.out; unfold Hid; omega
      clear hb hB hX hZ
      cases t
      · have HN : Hid (R = none) := by rw [← HRR.out]; exact findR_bad HT.out
        have y0 := HX2.out.cell (i := 0) rfl
        have y1 := HX2.out.cell (i := 1) rfl
        have z0 := HX2.out.free 0
        have z1 := HX2.out.free 1
        have hr3 := (HX2.out.set 0 (.slice none 0 0)).set 1 (.slice none 0 0)
        have f0 := hr3.cell (i := 0) rfl
        have f1 := hr3.cell (i := 1) rfl
        clear hr3
        go_wp2
        refine bodyPost_ret (v := .tuple #[.agg #[.slice none 0 0, .slice none 0 0], .bool false]) (by simp [results, Tryd.results6, go_sem, f0, f1]) rfl ?_
        rw [HN.out]
        exact ⟨rfl, (HB2.out.setCell (p := ⟨w.heap.size, 0, none⟩) (Nat.le_refl _) _).setCell (p := ⟨w.heap.size, 1, none⟩) (Nat.le_refl _) _⟩
      · obtain ⟨b, off, rfl, hcell⟩ := HOP.out k hlt
        obtain ⟨a1, c1, a2, c2, d0, d1, d2, htab⟩ := hcell k hlt
        have hbk := World.block_lt_of_cell? w _ d0
        have d0 := (HB2.out.cell (p := ⟨b, off + k * 3, none⟩) hbk).trans d0
        have d1 := (HB2.out.cell (p := ⟨b, off + k * 3 + 1, none⟩) hbk).trans d1
        have d2 := (HB2.out.cell (p := ⟨b, off + k * 3 + 2, none⟩) hbk).trans d2
        have hyk := nmL_get en hlt
        obtain ⟨y, hy⟩ : ∃ y, (en k).1 = y := ⟨_, rfl⟩
        rw [hy] at d0 hyk
        have HYK := Lib.hid hyk
        have hd1 : (k : Int) < (n : Int) := by omega
        obtain ⟨l1, hl1⟩ : ∃ l, (en k).2.1.length = l := ⟨_, rfl⟩
        obtain ⟨l2, hl2⟩ : ∃ l, (en k).2.2.1 = l := ⟨_, rfl⟩
        have HL1 := Lib.hid hl1
        have HL2 := Lib.hid hl2
        rw [hl1] at d1 htab
        rw [hl2] at d2 htab
        have HTB : Hid (TabIn w2 (.agg #[.slice a1 l1 c1, .slice a2 l2 c2]) (en k).2.1 l2 (en k).2.2.2) := htab.mono HB2.out (Nat.le_refl _)
        clear hcell hbk hyk hl1 hl2 htab hy
        by_cases hxy : tx x = tx y
        · have hxx : (y.toList == x.toList) = true := by rw [tx_eq]; simp [hxy]
          have HN : Hid (R = some k) := by rw [← HRR.out]; exact findR_some HT.out (by rw [hxy]; exact HYK.out) hN.out
          have H6 := Lib.hid (tabB_small (catB_at HT.out hlt).2.2)
          clear hxy
          go_wp2_with fail
          refine (l5Copy_any _ (en k).2.1 l2 (en k).2.2.2 _ HTB.out (by have := H6.out.1; omega) (by have := H6.out.2.1; have := HL2.out; omega) (fun i hi => by have := H6.out.2.2 i (by rw [HL2.out]; exact hi); omega)).mono ?_
          rintro e w3 ⟨u, rfl, ht3, hb⟩
          obtain ⟨p1, q1, p2, q2, rfl⟩ := ht3.lits
          rw [HL1.out] at ht3 ⊢
          have HX3 := Lib.hid (HX2.out.mono hb HX2.out.lt)
          have y0 := HX3.out.cell (i := 0) rfl
          have y1 := HX3.out.cell (i := 1) rfl
          have z0 := HX3.out.free 0
          have z1 := HX3.out.free 1
          have hs : w3.grownBy ((w3.setCell ⟨w.heap.size, 0, none⟩ (.slice p1 l1 q1)).setCell ⟨w.heap.size, 1, none⟩ (.slice p2 l2 q2)) (some w.heap.size) := grown_set (set_other w3 ⟨w.heap.size, 0, none⟩ _ rfl) _ _
          have hr3 := (HX3.out.set 0 (.slice p1 l1 q1)).set 1 (.slice p2 l2 q2)
          have f0 := hr3.cell (i := 0) rfl
          have f1 := hr3.cell (i := 1) rfl
          have HT3 : Hid (TabIn ((w3.setCell ⟨w.heap.size, 0, none⟩ (.slice p1 l1 q1)).setCell ⟨w.heap.size, 1, none⟩ (.slice p2 l2 q2)) (.agg #[.slice p1 l1 q1, .slice p2 l2 q2]) (en k).2.1 l2 (en k).2.2.2) := (ht3.keptB hs (by have := HZ2.out; omega)).view
          have HB3 := Lib.hid ((HB2.out.trans (hb.mono HB2.out.size)).grown hs (by have := HB2.out.size; have := hb.size; omega) (fun g hg => by cases hg; exact Nat.le_refl _))
          clear hs hr3 ht3 hb d0 d1 d2
          go_wp2
          refine bodyPost_ret (v := .tuple #[.agg #[.slice p1 l1 q1, .slice p2 l2 q2], .bool true]) (by simp [results, Tryd.results6, go_sem, f0, f1]) rfl ?_
          rw [HN.out]
          refine ⟨p1, q1, p2, q2, by rw [HL1.out, HL2.out], ?_, HB3.out⟩
          rw [HL1.out, HL2.out]
          exact HT3.out
        · have hxx : (y.toList == x.toList) = false := by rw [tx_eq]; simpa using fun e => hxy e.symm
          have HF : Hid (tx x ∉ (nmL n en).take (k + 1)) := not_take_succS HYK.out hN.out hxy
          clear hxy
          go_wp2
          go_roundg (n - (k + 1))
          case rel => exact ⟨k + 1, HLT.out, Nat.le_refl _, by go_num, HF.out, HB2.out, HX2.out, HZ2.out⟩
          case measure => have := HLT.out; omega
    · obtain rfl : k = n := by omega
      have HN : Hid (R = none) := by rw [← HRR.out]; exact findR_none (by have := hN.out; rwa [List.take_of_length_le (by simp)] at this)
      have y0 := hX.out.cell (i := 0) rfl
      have y1 := hX.out.cell (i := 1) rfl
      have z0 := hX.out.free 0
      have z1 := hX.out.free 1
      have hr3 := (hX.out.set 0 (.slice none 0 0)).set 1 (.slice none 0 0)
      have f0 := hr3.cell (i := 0) rfl
      have f1 := hr3.cell (i := 1) rfl
      clear hr3
      go_wp2
      refine bodyPost_ret (v := .tuple #[.agg #[.slice none 0 0, .slice none 0 0], .bool false]) (by simp [results, Tryd.results6, go_sem, f0, f1]) rfl ?_
      rw [HN.out]
      exact ⟨rfl, (hB.out.setCell (p := ⟨w.heap.size, 0, none⟩) (Nat.le_refl _) _).setCell (p := ⟨w.heap.size, 1, none⟩) (Nat.le_refl _) _⟩
end Go.Proofs.YtiiipaemplihnaaDoor
