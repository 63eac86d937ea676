/- the walk of FnFindTable -/
import Derived.Test.YtiiipaemplihnaaDoorFindDr
import Derived.Test.YtiiipaemplihnaaDoorFind
import Derived.Test.YtiiipaemplihnaaDoorCatS
import Derived.StillTailTactics
namespace Go.Proofs.YtiiipaemplihnaaDoor
open Go.RowKit
def tabR (r : Option Nat) (en : Nat → Ent) : List ByteArray × Nat × (Nat → List Int) :=
  match r with
  | none => ([], 0, fun _ => [])
  | some k => (en k).2
theorem FindV.norm {r : Option Nat} {en : Nat → Ent} {w w' : World} {e : Ending} (h : FindV r en w e w') : ∃ a1 c1 a2 c2 l m ns f, e = .returned (.tuple #[.agg #[.slice a1 l c1, .slice a2 m c2], .bool r.isSome]) ∧ tabR r en = (ns, m, f) ∧ ns.length = l ∧
    TabIn w' (.agg #[.slice a1 l c1, .slice a2 m c2]) ns m f ∧ Below w.heap.size w w' := by
  cases r with
  | none =>
    obtain ⟨h1, h2⟩ := h
    exact ⟨none, 0, none, 0, 0, 0, [], fun _ => [], h1, rfl, rfl, (TabO.zero w' 0).view, h2⟩
  | some k =>
    obtain ⟨a1, c1, a2, c2, h1, h2, h3⟩ := h
    exact ⟨a1, c1, a2, c2, _, _, _, _, h1, rfl, rfl, h2, h3⟩
theorem find_at {n i : Nat} {en : Nat → Ent} {x : ByteArray} (hi : i < n) (hx : tx (en i).1 = tx x) (hc : catB n en = true) : findR n en x = some i :=
  findR_some hc (by rw [nmL_get en hi, hx]) (by rw [← hx]; exact (catB_at hc hi).2.1)
theorem find_isSome (n : Nat) (en : Nat → Ent) (x : ByteArray) : (findR n en x).isSome = (catB n en && decide (tx x ∈ (nmL n en).take n)) := by
  have ht : (nmL n en).take n = nmL n en := List.take_of_length_le (by simp [nmL])
  rw [ht]
  cases hc : catB n en with
  | false => rw [findR_bad hc]; rfl
  | true =>
    by_cases hm : tx x ∈ nmL n en
    · obtain ⟨i, hi⟩ := List.getElem?_of_mem hm
      have hin : i < n := by
        have := (List.getElem?_eq_some_iff.1 hi).1
        simpa [nmL] using this
      have he := nmL_get en hin
      rw [hi] at he
      rw [find_at hin (Option.some.inj he).symm hc]
      simp [hm]
    · rw [findR_none hm]
      simp [hm]
theorem take_memS {ss : List (List UInt8)} {k : Nat} {y x : List UInt8} (h : ss[k]? = some y) : x ∈ ss.take (k + 1) ↔ (x ∈ ss.take k ∨ y = x) := by
  rw [List.take_add_one, h]
  simp [eq_comm]
set_option maxRecDepth 20000 in
set_option maxHeartbeats 2000000 in
theorem walk0_FnFindTable (w : World) (v : Value) (bs : List Int) (h : Bts w v bs) (hR : Resv w) :
    Calls Tryd.prog 3 #[v] w fun e w' => LawOk w e w' := by
  obtain ⟨ad, cd, hv, hm⟩ := bts_lit h
  have H := Lib.hid h
  have HR := Lib.hid hR
  clear h hR
  subst hv
  by_cases hbig : 1048576 < bs.length
  · go_enter Tryd.func3, Tryd.ntmps3
    go_wp2
    go_ret
    exact ⟨rfl, Below.refl _ _⟩
  · go_enter Tryd.func3, Tryd.ntmps3
    go_wp2_with fail
    refine (draw_FindTable _ bs w H.out).mono ?_
    rintro e w1 ⟨u, x, n, en, rfl, hc, hs, hb⟩
    obtain ⟨ac, cc, rfl, hmax, -⟩ := hc.open
    unfold maxLen at hmax
    have C1 := Lib.hid hc
    have SC := Lib.hid hs
    have B1 := nxt (Lib.hid (Below.refl _ _)) hb
    have HR1 := Lib.hid (HR.out.mono B1.out (Nat.le_refl _))
    clear hc hs hb H
    obtain ⟨r, hr⟩ : ∃ r, findR n en x = r := ⟨_, rfl⟩
    have HRR := Lib.hid hr
    obtain ⟨ok, hok⟩ : ∃ ok, r.isSome = ok := ⟨_, rfl⟩
    have HOK := Lib.hid hok
    clear hr hok
    go_wp2_with fail
    refine (impl_FindTable _ n en x w1 C1.out HR1.out SC.out).mono ?_
    intro e w2 hf
    rw [HRR.out] at hf
    obtain ⟨a1, c1, a2, c2, l, m, ns, f, rfl, hT, hl, ht, hb⟩ := hf.norm
    rw [HOK.out]
    have HT := Lib.hid hT
    have HL := Lib.hid hl
    have hba : Below w2.heap.size w2 (w2.alloc (.cells #[.slice a1 l c1, .slice a2 m c2] 29)) := (Below.refl _ _).alloc (Nat.le_refl _) _
    have X5 : Hid (Row (w2.alloc (.cells #[.slice a1 l c1, .slice a2 m c2] 29)) w2.heap.size 29 [.slice a1 l c1, .slice a2 m c2]) := Row.new w2 29 [.slice a1 l c1, .slice a2 m c2]
    have C2 := Lib.hid ((C1.out.mono hb (Nat.le_refl _)).mono hba (Nat.le_refl _))
    have T2 := Lib.hid (ht.mono hba (Nat.le_refl _))
    have B2 := nxt (nxt B1 hb) hba
    obtain ⟨g5, hg5⟩ : ∃ g5, w2.heap.size = g5 := ⟨_, rfl⟩
    rw [hg5] at X5
    clear hf hT hl ht hb hba C1 B1 HR1
    go_wp2_with fail
    try rw [hg5]
    generalize (w2.alloc (.cells #[.slice a1 l c1, .slice a2 m c2] 29)) = W2 at X5 C2 T2 B2 ⊢
    clear hg5
    refine (spec_FindTable _ n en x W2 C2.out SC.out).mono ?_
    intro e w4 hf
    rw [HRR.out] at hf
    obtain ⟨a3, c3, a4, c4, l', m', ns', f', rfl, hT, hl, ht, hb⟩ := hf.norm
    rw [HOK.out]
    rw [HT.out] at hT
    cases hT
    rw [HL.out] at hl
    subst hl
    have hba : Below w4.heap.size w4 (w4.alloc (.cells #[.slice a3 l c3, .slice a4 m c4] 29)) := (Below.refl _ _).alloc (Nat.le_refl _) _
    have X7 : Hid (Row (w4.alloc (.cells #[.slice a3 l c3, .slice a4 m c4] 29)) w4.heap.size 29 [.slice a3 l c3, .slice a4 m c4]) := Row.new w4 29 [.slice a3 l c3, .slice a4 m c4]
    have X6 := Lib.hid ((X5.out.mono hb X5.out.lt).mono hba (Nat.lt_of_lt_of_le X5.out.lt hb.size))
    have C4 := Lib.hid ((C2.out.mono hb (Nat.le_refl _)).mono hba (Nat.le_refl _))
    have T4 := Lib.hid ((T2.out.mono hb (Nat.le_refl _)).mono hba (Nat.le_refl _))
    have T5 := Lib.hid (ht.mono hba (Nat.le_refl _))
    have B4 := nxt (nxt B2 hb) hba
    obtain ⟨g7, hg7⟩ : ∃ g7, w4.heap.size = g7 := ⟨_, rfl⟩
    rw [hg7] at X7
    have x50 := X6.out.cell (i := 0) rfl
    have x51 := X6.out.cell (i := 1) rfl
    have x70 := X7.out.cell (i := 0) rfl
    have x71 := X7.out.cell (i := 1) rfl
    clear hf ht hb hba C2 B2 T2 X5
    go_wp2_with fail
    try rw [hg7]
    generalize (w4.alloc (.cells #[.slice a3 l c3, .slice a4 m c4] 29)) = W4 at X6 X7 C4 T4 T5 B4 x50 x51 x70 x71 ⊢
    clear hg7
    refine (sameTable_same _ _ ns m f W4 T4.out T5.out).mono ?_
    rintro e w5 ⟨rfl, hb⟩
    have X8 := Lib.hid (X6.out.mono hb X6.out.lt)
    have C5 := Lib.hid (C4.out.mono hb (Nat.le_refl _))
    have T6 := Lib.hid (T4.out.mono hb (Nat.le_refl _))
    have B5 := nxt B4 hb
    have hoo : (ok != ok) = false := by simp
    clear hb X6 X7 C4 T4 T5 B4 x50 x51 x70 x71
    go_wp2
    go_loopg [2, 9, 10] n (fun gg _ fd i wr => ∃ (k : Nat) (b : Bool), k ≤ n ∧ n - k ≤ gg ∧ i = .int .i64 k ∧ fd = .bool b ∧ Hid (b = (catB n en && decide (tx x ∈ (nmL n en).take k))) ∧ Hid (Row wr g5 29 [.slice a1 l c1, .slice a2 m c2]) ∧ Hid (CatIn wr (.slice ac n cc) n en) ∧ Hid (TabIn wr (.agg #[.slice a1 l c1, .slice a2 m c2]) ns m f) ∧ Hid (Below w.heap.size w wr))
    case atStart => exact ⟨0, false, Nat.zero_le _, Nat.le_refl _, rfl, rfl, by simp [Hid], X8.out, C5.out, T6.out, B5.out⟩
    case round =>
      clear X8 C5 T6 B5
      obtain ⟨k, b, hk, hgg, rfl, rfl, hB, hX, hC, hT, hW⟩ := hrel
      by_cases hlt : k < n
      · have HLT := Lib.hid hlt
        obtain ⟨ad9, c9, hv9, -, hcell⟩ := hC.out.open
        cases hv9
        obtain ⟨b0, off, rfl, hcell2⟩ := hcell k hlt
        obtain ⟨a5, c5, a6, c6, d0, d1, d2, htk⟩ := hcell2 k hlt
        obtain ⟨⟨y, nsk, mk, fk⟩, he⟩ : ∃ e, en k = e := ⟨_, rfl⟩
        have HE := Lib.hid he
        have HYK := Lib.hid (nmL_get en hlt)
        rw [he] at d0 d1 d2 htk
        simp only at d0 d1 d2 htk
        clear hcell hcell2 he
        by_cases hxy : tx y = tx x
        · have hxx : (y.toList == x.toList) = true := by rw [tx_eq]; simp [hxy]
          have HXY := Lib.hid hxy
          have HRr := Lib.hid (HR.out.mono hW.out (Nat.le_refl _))
          clear hxy
          cases hcb : catB n en with
          | false =>
            have HCB := Lib.hid hcb
            clear hcb d1 d2 htk
            go_wp2_with fail
            refine (impl_CatalogValid _ n en wr hC.out HRr.out SC.out).mono ?_
            rw [HCB.out]
            rintro e w6 ⟨rfl, hb⟩
            have hW6 := nxt hW hb
            have hX6 := Lib.hid (hX.out.mono hb hX.out.lt)
            have hC6 := Lib.hid (hC.out.mono hb (Nat.le_refl _))
            have hT6 := Lib.hid (hT.out.mono hb (Nat.le_refl _))
            clear hb hX hC hT hW d0
            go_wp2
            go_roundg (n - (k + 1))
            case rel => exact ⟨k + 1, b, HLT.out, Nat.le_refl _, by go_num, rfl, by rw [hB.out, HCB.out]; rfl, hX6.out, hC6.out, hT6.out, hW6.out⟩
            case measure => have := HLT.out; omega
          | true =>
            have HCB := Lib.hid hcb
            have hfa : findR n en x = some k := find_at hlt (by rw [HE.out]; exact HXY.out) hcb
            rw [HRR.out] at hfa
            have hTT := HT.out
            rw [hfa] at hTT
            have hTT : (en k).2 = (ns, m, f) := hTT
            rw [HE.out] at hTT
            cases hTT
            rw [HL.out] at d1 htk
            have HTK := Lib.hid htk
            have D1 := Lib.hid d1
            have D2 := Lib.hid d2
            have hbk := World.block_lt_of_cell? _ _ d1
            clear hcb d1 d2 htk hfa
            go_wp2_with fail
            refine (impl_CatalogValid _ n en wr hC.out HRr.out SC.out).mono ?_
            rw [HCB.out]
            rintro e w6 ⟨rfl, hb⟩
            have hW6 := nxt hW hb
            have hX6 := Lib.hid (hX.out.mono hb hX.out.lt)
            have hC6 := Lib.hid (hC.out.mono hb (Nat.le_refl _))
            have hT6 := Lib.hid (hT.out.mono hb (Nat.le_refl _))
            have hTK6 := Lib.hid (HTK.out.mono hb (Nat.le_refl _))
            have e1 := (hb.cell (p := ⟨b0, off + k * 3 + 1, none⟩) hbk).trans D1.out
            have e2 := (hb.cell (p := ⟨b0, off + k * 3 + 2, none⟩) hbk).trans D2.out
            have x50 := hX6.out.cell (i := 0) rfl
            have x51 := hX6.out.cell (i := 1) rfl
            clear hb hX hC hT hW d0 HTK D1 D2 hbk
            go_wp2
            go_still_tail 6, (by kernel_rfl)
            change wpList _ _ _ _ _ w6.drew
            have hbd : Below w6.heap.size w6 w6.drew := (Below.refl _ _).drew
            have hW7 := nxt hW6 hbd
            have hX7 := Lib.hid (hX6.out.mono hbd hX6.out.lt)
            have hC7 := Lib.hid (hC6.out.mono hbd (Nat.le_refl _))
            have hT7 := Lib.hid (hT6.out.mono hbd (Nat.le_refl _))
            have hTK7 := Lib.hid (hTK6.out.mono hbd (Nat.le_refl _))
            clear hbd e1 e2 x50 x51 hX6 hC6 hT6 hTK6 hW6
            generalize w6.drew = w7 at hW7 hX7 hC7 hT7 hTK7 ⊢
            go_wp2_with fail
            refine (sameTable_same _ _ ns m f w7 hTK7.out hT7.out).mono ?_
            rintro e w8 ⟨rfl, hb⟩
            have hW8 := nxt hW7 hb
            have hX8 := Lib.hid (hX7.out.mono hb hX7.out.lt)
            have hC8 := Lib.hid (hC7.out.mono hb (Nat.le_refl _))
            have hT8 := Lib.hid (hT7.out.mono hb (Nat.le_refl _))
            clear hb hX7 hC7 hT7 hTK7 hW7
            go_wp2
            go_roundg (n - (k + 1))
            case rel => exact ⟨k + 1, true, HLT.out, Nat.le_refl _, by go_num, rfl, by rw [HCB.out, decide_eq_true ((take_memS HYK.out).2 (.inr (by rw [HE.out]; exact HXY.out)))]; rfl, hX8.out, hC8.out, hT8.out, hW8.out⟩
            case measure => have := HLT.out; omega
        · have hxx : (y.toList == x.toList) = false := by rw [tx_eq]; simpa using hxy
          have HB2 : Hid (b = (catB n en && decide (tx x ∈ (nmL n en).take (k + 1)))) := by
            have : (tx x ∈ (nmL n en).take (k + 1)) ↔ tx x ∈ (nmL n en).take k := by
              rw [take_memS HYK.out, HE.out]
              exact ⟨fun h => h.elim id (fun h => absurd h hxy), .inl⟩
            unfold Hid
            rw [decide_eq_decide.2 this]
            exact hB.out
          clear hxy d1 d2 htk
          go_wp2
          go_roundg (n - (k + 1))
          case rel => exact ⟨k + 1, b, HLT.out, Nat.le_refl _, by go_num, rfl, HB2.out, hX.out, hC.out, hT.out, hW.out⟩
          case measure => have := HLT.out; omega
      · obtain rfl : k = n := by omega
        have hbo : ok = b := by rw [hB.out, ← HOK.out, ← HRR.out, find_isSome]
        subst hbo
        have hoo : (ok == ok) = true := by simp
        have HRr := Lib.hid (HR.out.mono hW.out (Nat.le_refl _))
        go_wp2_with (go_at_call 9; refine (alive_any _ HRr.out).mono ?_; rintro e w' ⟨rfl, rfl⟩)
        go_ret
        exact ⟨rfl, hW.out⟩
theorem walk_FnFindTable (w : World) (v : Value) (bs : List Int) (h : View w 1 v bs.length (bs.map (Value.int .u8)) ∧ ∀ b ∈ bs, 0 ≤ b ∧ b ≤ 255) (hR : Resv w) :
    Calls Tryd.prog 3 #[v] w fun e w' => e = .returned (.bool true) ∧ Below w.heap.size w w' := walk0_FnFindTable w v bs h hR
end Go.Proofs.YtiiipaemplihnaaDoor
