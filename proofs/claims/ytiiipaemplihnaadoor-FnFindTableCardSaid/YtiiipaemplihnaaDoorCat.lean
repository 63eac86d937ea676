/- catalogs: views; CatalogValid and tableAt of the program -/
import Derived.Test.YtiiipaemplihnaaDoorTabO
import Derived.Test.YtiiipaemplihnaaDoorTab
import Derived.Test.YtiiipaemplihnaaDoorRec
import Derived.Deep.LoopGhost
namespace Go.Proofs.YtiiipaemplihnaaDoor
open Go.RowKit
/-- an entry: its name, the table's names, how many rows, the rows -/
abbrev Ent := ByteArray × List ByteArray × Nat × (Nat → List Int)
def catC (nm : ByteArray) (nv rv : Value) : List Value := [.string nm, nv, rv]
def CatIn (w : World) (v : Value) (n : Nat) (en : Nat → Ent) : Prop := ∃ nv rv : Nat → Value, View w 3 v n (tab n fun i => catC (en i).1 (nv i) (rv i)).flatten ∧ ∀ i, i < n → Strs w (nv i) (en i).2.1 ∧ IntSS w (rv i) (en i).2.2.1 (en i).2.2.2
theorem CatIn.mono {w w' : World} {v : Value} {n : Nat} {en : Nat → Ent} (h : CatIn w v n en) {B : Nat} (hb : Below B w w') (hB : w.heap.size ≤ B) : CatIn w' v n en := by
  obtain ⟨nv, rv, h1, h2⟩ := h
  exact ⟨nv, rv, h1.mono hb hB, fun i hi => ⟨(h2 i hi).1.mono hb hB, (h2 i hi).2.mono hb hB⟩⟩
theorem catC_get {n i j : Nat} (en : Nat → Ent) (nv rv : Nat → Value) (hi : i < n) (hj : j < 3) : (tab n fun i => catC (en i).1 (nv i) (rv i)).flatten[i * 3 + j]? = (catC (en i).1 (nv i) (rv i))[j]? :=
  flat_get (sz := 3) _ i j _ (fun c hc => by obtain ⟨k, _, rfl⟩ := tab_mem hc; rfl) (tab_get _ hi) hj
theorem CatIn.open {w : World} {v : Value} {n : Nat} {en : Nat → Ent} (h : CatIn w v n en) : ∃ ad c, v = .slice ad n c ∧ n ≤ maxLen ∧ ∀ i, i < n → ∃ b off, ad = some ⟨b, off, none⟩ ∧ ∀ i, i < n → ∃ a1 c1 a2 c2,
    w.cell? ⟨b, off + i * 3, none⟩ = some (.string (en i).1) ∧ w.cell? ⟨b, off + i * 3 + 1, none⟩ = some (.slice a1 (en i).2.1.length c1) ∧ w.cell? ⟨b, off + i * 3 + 2, none⟩ = some (.slice a2 (en i).2.2.1 c2) ∧
    TabIn w (.agg #[.slice a1 (en i).2.1.length c1, .slice a2 (en i).2.2.1 c2]) (en i).2.1 (en i).2.2.1 (en i).2.2.2 := by
  obtain ⟨nv, rv, ⟨h1, h2, ⟨h3, a, c, hv⟩ | ⟨h3, b, off, c, hv, hc, hcell⟩⟩, h4⟩ := h
  · rw [h3]; exact ⟨a, c, hv, Nat.zero_le _, fun i hi => by omega⟩
  · refine ⟨_, c, hv, h2, fun i hi => ⟨b, off, rfl, fun i hi => ?_⟩⟩
    obtain ⟨hs, hr⟩ := h4 i hi
    obtain ⟨a1, c1, e1, _⟩ := hs.open
    obtain ⟨a2, c2, e2, _⟩ := hr.open
    have d0 := hcell (i * 3 + 0) _ ((catC_get en nv rv hi (by omega)).trans rfl)
    have d1 := hcell (i * 3 + 1) _ ((catC_get en nv rv hi (by omega)).trans rfl)
    have d2 := hcell (i * 3 + 2) _ ((catC_get en nv rv hi (by omega)).trans rfl)
    rw [e1] at d1 hs
    rw [e2] at d2 hr
    exact ⟨a1, c1, a2, c2, d0, d1, d2, _, _, rfl, hs, hr⟩
/-- texts of moderate size in all entries -/
def SmallC (n : Nat) (en : Nat → Ent) : Prop := ∀ i, i < n → (en i).1.size ≤ 4000000 ∧ SmallS (en i).2.1
def nmL (n : Nat) (en : Nat → Ent) : List (List UInt8) := tab n fun i => tx (en i).1
@[simp] theorem nmL_length (n : Nat) (en : Nat → Ent) : (nmL n en).length = n := by simp [nmL]
theorem nmL_get {n i : Nat} (en : Nat → Ent) (h : i < n) : (nmL n en)[i]? = some (tx (en i).1) := tab_get _ h
/-- the entry at place i is good -/
def gdC (n : Nat) (en : Nat → Ent) (i : Nat) : Bool := nameB (tx (en i).1) && (!decide (tx (en i).1 ∈ (nmL n en).take i) && tabB (txs (en i).2.1) (en i).2.2.1 (en i).2.2.2)
def catB (n : Nat) (en : Nat → Ent) : Bool := (List.range n).all (gdC n en) && decide (n ≤ 4)
theorem catB_bad {n i : Nat} {en : Nat → Ent} (h : i < n) (hb : gdC n en i = false) : catB n en = false := by
  unfold catB
  have : (List.range n).all (gdC n en) = false := by rw [List.all_eq_false]; exact ⟨i, List.mem_range.2 h, by simp [hb]⟩
  rw [this, Bool.false_and]
theorem catB_end {n : Nat} {en : Nat → Ent} (h : ∀ i, i < n → gdC n en i = true) : catB n en = decide (n ≤ 4) := by
  unfold catB
  have : (List.range n).all (gdC n en) = true := by rw [List.all_eq_true]; intro x hx; exact h x (List.mem_range.1 hx)
  rw [this, Bool.true_and]
theorem catB_at {n : Nat} {en : Nat → Ent} (h : catB n en = true) {i : Nat} (hi : i < n) : nameB (tx (en i).1) = true ∧ tx (en i).1 ∉ (nmL n en).take i ∧ tabB (txs (en i).2.1) (en i).2.2.1 (en i).2.2.2 = true := by
  unfold catB at h
  rw [Bool.and_eq_true, List.all_eq_true] at h
  have := h.1 i (List.mem_range.2 hi)
  unfold gdC at this
  simpa [Bool.and_eq_true] using this
/-- a valid table is small -/
theorem tabB_small {ns : List ByteArray} {n : Nat} {f : Nat → List Int} (h : tabB (txs ns) n f = true) : ns.length ≤ 6 ∧ n ≤ 16 ∧ ∀ i, i < n → (f i).length ≤ 6 := by
  unfold tabB at h
  rw [Bool.and_eq_true, Bool.and_eq_true, decide_eq_true_eq, txs_length] at h
  obtain ⟨h1, h2, h3⟩ := h
  have := (colB_nodup h1).2.2.2
  rw [txs_length] at this
  exact ⟨this, h2, fun i hi => by rw [(rowsB_at h3 hi).1]; exact this⟩
theorem tableAt1_any (nm x : ByteArray) (nv rv : Value) (q : Nat) (w : World) (hl : ∃ a k c, nv = .slice a k c) (hl2 : ∃ a k c, rv = .slice a k c) (hc : w.cell? ⟨q, 0, none⟩ = some (.string x)) :
    Calls Tryd.prog 25 #[.agg #[.string nm, nv, rv], .pointer (some ⟨q, 0, none⟩)] w fun e w' => e = .returned (.bool (tx nm == tx x)) ∧ Below w.heap.size w w' := by
  obtain ⟨a, k, c, rfl⟩ := hl
  obtain ⟨a2, k2, c2, rfl⟩ := hl2
  have hq := World.block_lt_of_cell? w _ hc
  have hb := (Below.refl w.heap.size w).alloc (Nat.le_refl _) (.cells #[.string nm, .slice a k c, .slice a2 k2 c2] 34)
  have hc2 : (w.alloc (.cells #[.string nm, .slice a k c, .slice a2 k2 c2] 34)).cell? ⟨q, 0, none⟩ = some (.string x) := (hb.cell (p := ⟨q, 0, none⟩) hq).trans hc
  have HB := Lib.hid hb
  obtain ⟨t, ht⟩ : ∃ t, (tx nm == tx x) = t := ⟨_, rfl⟩
  have hxx : (nm.toList == x.toList) = t := by rw [tx_eq]; exact ht
  rw [ht]
  clear hb hc ht
  go_enter Tryd.func25, Tryd.ntmps25
  go_wp2
  go_ret
  exact ⟨rfl, HB.out⟩
theorem indexS_ne {ss : List (List UInt8)} {x : List UInt8} {k : Nat} (h : x ∈ ss.take k) : indexS ss x ≠ k := by
  have e : ss = ss.take k ++ ss.drop k := (List.take_append_drop k ss).symm
  have hm : x ∈ ss := List.mem_of_mem_take h
  unfold indexS
  rw [if_pos hm, e, List.idxOf_append, if_pos h]
  have h1 := List.idxOf_lt_length_of_mem h
  rw [List.length_take] at h1
  omega
set_option maxRecDepth 20000 in
theorem indexNamed_any (v : Value) (n : Nat) (en : Nat → Ent) (x : ByteArray) (q : Nat) (w : World) (h : CatIn w v n en) (hc : w.cell? ⟨q, 0, none⟩ = some (.string x)) :
    Calls Tryd.prog 24 #[v, .func (.func 25) #[] #[.pointer (some ⟨q, 0, none⟩)]] w fun e w' => e = .returned (.int .i64 (indexS (nmL n en) (tx x))) ∧ Below w.heap.size w w' := by
  obtain ⟨ad, c, rfl, hmax, hop⟩ := h.open
  unfold maxLen at hmax
  have HOP := Lib.hid hop
  have HC := Lib.hid hc
  clear hop h hc
  go_enter Tryd.func24, Tryd.ntmps24
  go_wp2
  go_loopg [5, 8] n (fun gg _ i wr => ∃ k : Nat, k ≤ n ∧ n - k ≤ gg ∧ i = .int .i64 k ∧ Hid (tx x ∉ (nmL n en).take k) ∧ Hid (Below w.heap.size w wr))
  case atStart => exact ⟨0, Nat.zero_le _, Nat.le_refl _, rfl, by simp [Hid], Below.refl _ _⟩
  case round =>
    obtain ⟨k, hk, hgg, rfl, hN, hB⟩ := hrel
    by_cases hlt : k < n
    · have HLT := Lib.hid hlt
      obtain ⟨b, off, rfl, hcell⟩ := HOP.out k hlt
      obtain ⟨a1, c1, a2, c2, d0, d1, d2, -⟩ := hcell k hlt
      have hbk := World.block_lt_of_cell? w _ d0
      have d0 := (hB.out.cell (p := ⟨b, off + k * 3, none⟩) hbk).trans d0
      have d1 := (hB.out.cell (p := ⟨b, off + k * 3 + 1, none⟩) hbk).trans d1
      have d2 := (hB.out.cell (p := ⟨b, off + k * 3 + 2, none⟩) hbk).trans d2
      have HCQ : Hid (wr.cell? ⟨q, 0, none⟩ = some (.string x)) := (hB.out.cell (p := ⟨q, 0, none⟩) (World.block_lt_of_cell? w _ HC.out)).trans HC.out
      obtain ⟨y, hy⟩ : ∃ y, (en k).1 = y := ⟨_, rfl⟩
      obtain ⟨l1, hl1⟩ : ∃ l, (en k).2.1.length = l := ⟨_, rfl⟩
      obtain ⟨l2, hl2⟩ : ∃ l, (en k).2.2.1 = l := ⟨_, rfl⟩
      have HY : Hid ((nmL n en)[k]? = some (tx y)) := by rw [← hy]; exact nmL_get en hlt
      rw [hy] at d0
      rw [hl1] at d1
      rw [hl2] at d2
      clear hcell hbk hy hl1 hl2
      cases hp : (tx y == tx x) with
      | true =>
        have HP := Lib.hid hp
        have HF : Hid (indexS (nmL n en) (tx x) = k) := by
          have e : tx y = tx x := by simpa using hp
          exact indexS_at (by rw [← e]; exact HY.out) hN.out
        clear hp
        go_wp2_with (go_at_call 25; refine (tableAt1_any y x _ _ q _ ⟨_, _, _, rfl⟩ ⟨_, _, _, rfl⟩ HCQ.out).mono ?_; rw [HP.out]; rintro e w' ⟨rfl, hb⟩; have HB2 := Lib.hid (hB.out.trans (hb.mono hB.out.size)); clear hb)
        go_ret
        exact ⟨ret_int HF.out.symm, HB2.out⟩
      | false =>
        have HP := Lib.hid hp
        have HF : Hid (tx x ∉ (nmL n en).take (k + 1)) := not_take_succS HY.out hN.out (fun e => by rw [e] at hp; simp at hp)
        clear hp
        go_wp2_with (go_at_call 25; refine (tableAt1_any y x _ _ q _ ⟨_, _, _, rfl⟩ ⟨_, _, _, rfl⟩ HCQ.out).mono ?_; rw [HP.out]; rintro e w' ⟨rfl, hb⟩; have HB2 := Lib.hid (hB.out.trans (hb.mono hB.out.size)); clear hb)
        go_roundg (n - (k + 1))
        case rel => exact ⟨k + 1, HLT.out, Nat.le_refl _, by go_num, HF.out, HB2.out⟩
        case measure => have := HLT.out; omega
    · obtain rfl : k = n := by omega
      have HF : Hid (indexS (nmL k en) (tx x) = -1) := indexS_none (by have := hN.out; rwa [List.take_of_length_le (by simp)] at this)
      go_wp2
      go_ret
      exact ⟨ret_int HF.out.symm, hB.out⟩
theorem tableAt_any (v : Value) (n : Nat) (en : Nat → Ent) (x : ByteArray) (w : World) (h : CatIn w v n en) :
    Calls Tryd.prog 13 #[v, .string x] w fun e w' => e = .returned (.int .i64 (indexS (nmL n en) (tx x))) ∧ Below w.heap.size w w' := by
  have hb := (Below.refl w.heap.size w).alloc (Nat.le_refl _) (.cells #[.string x] 9)
  have H := Lib.hid (h.mono hb (Nat.le_refl _))
  have HC : Hid ((w.alloc (.cells #[.string x] 9)).cell? ⟨w.heap.size, 0, none⟩ = some (.string x)) := (Row.new w 9 [.string x]).cell (i := 0) rfl
  have HB := Lib.hid hb
  clear hb h
  go_enter Tryd.func13, Tryd.ntmps13
  go_wp2_with (go_at_call 24; refine (indexNamed_any _ n en x _ _ H.out HC.out).mono ?_; rintro e w' ⟨rfl, hb⟩; have HB2 := Lib.hid (HB.out.trans (hb.mono HB.out.size)); clear hb)
  go_ret
  exact ⟨rfl, HB2.out⟩
set_option maxRecDepth 20000 in
set_option maxHeartbeats 400000 in
theorem impl_CatalogValid (v : Value) (n : Nat) (en : Nat → Ent) (w : World) (h : CatIn w v n en) (hR : Resv w) (hs : SmallC n en) :
    Calls Tryd.prog 8 #[v] w fun e w' => e = .returned (.bool (catB n en)) ∧ Below w.heap.size w w' := by
  have H := Lib.hid h
  obtain ⟨ad, c, rfl, hmax, hop⟩ := h.open
  unfold maxLen at hmax
  have HOP := Lib.hid hop
  have HR := Lib.hid hR
  have HS := Lib.hid hs
  clear hop h hR hs
  go_enter Tryd.func8, Tryd.ntmps8
  go_wp2
  go_loopg [3, 4, 7] n (fun gg _ _ i wr => ∃ k : Nat, k ≤ n ∧ n - k ≤ gg ∧ i = .int .i64 k ∧ Hid (∀ j, j < k → gdC n en j = true) ∧ Hid (Below w.heap.size w wr))
  case atStart => exact ⟨0, Nat.zero_le _, Nat.le_refl _, rfl, (fun j hj => by omega), Below.refl _ _⟩
  case round =>
    obtain ⟨k, hk, hgg, rfl, hG, hB⟩ := hrel
    by_cases hlt : k < n
    · have HLT := Lib.hid hlt
      obtain ⟨b, off, rfl, hcell⟩ := HOP.out k hlt
      obtain ⟨a1, c1, a2, c2, d0, d1, d2, ht⟩ := hcell k hlt
      have hbk := World.block_lt_of_cell? w _ d0
      have d0 := (hB.out.cell (p := ⟨b, off + k * 3, none⟩) hbk).trans d0
      have d1 := (hB.out.cell (p := ⟨b, off + k * 3 + 1, none⟩) hbk).trans d1
      have d2 := (hB.out.cell (p := ⟨b, off + k * 3 + 2, none⟩) hbk).trans d2
      obtain ⟨hs1, hs2⟩ := HS.out k hlt
      have hgd : gdC n en k = (nameB (tx (en k).1) && (!decide (tx (en k).1 ∈ (nmL n en).take k) && tabB (txs (en k).2.1) (en k).2.2.1 (en k).2.2.2)) := rfl
      have hyk := nmL_get en hlt
      obtain ⟨⟨y, ns, m, f⟩, he⟩ : ∃ e, en k = e := ⟨_, rfl⟩
      rw [he] at d0 d1 d2 ht hs1 hs2 hgd hyk
      simp only at d0 d1 d2 ht hs1 hs2 hgd hyk
      obtain ⟨l1, hl1⟩ : ∃ l, ns.length = l := ⟨_, rfl⟩
      rw [hl1] at d1 ht
      have HT := Lib.hid ht
      have HYZ : Hid (y.size ≤ 9223372036854775807) := by unfold Hid; omega
      have HS2 := Lib.hid hs2
      have HGD := Lib.hid hgd
      have HYK := Lib.hid hyk
      have HX : Hid (Row (wr.alloc (.cells #[.string y, .slice a1 l1 c1, .slice a2 m c2] 34)) wr.heap.size 34 [.string y, .slice a1 l1 c1, .slice a2 m c2]) := Row.new wr 34 [.string y, .slice a1 l1 c1, .slice a2 m c2]
      have HB1 : Hid (Below w.heap.size w (wr.alloc (.cells #[.string y, .slice a1 l1 c1, .slice a2 m c2] 34))) := hB.out.alloc hB.out.size _
      obtain ⟨gx, hgx⟩ : ∃ gx, wr.heap.size = gx := ⟨_, rfl⟩
      rw [hgx] at HX
      clear hcell hbk hs1 hs2 he hl1 ht hgd hyk
      go_wp2_with fail
      try rw [hgx]
      generalize (wr.alloc (.cells #[.string y, .slice a1 l1 c1, .slice a2 m c2] 34)) = W1 at HX HB1 ⊢
      clear hgx d0 d1 d2 hB
      cases hn : nameB (tx y) with
      | false =>
        have HN := Lib.hid hn
        have HF : Hid (catB n en = false) := catB_bad HLT.out (by rw [HGD.out, hn]; rfl)
        clear hn
        refine (impl_NameValid _ _ (HR.out.mono HB1.out (Nat.le_refl _)) HYZ.out).mono ?_
        rw [HN.out]
        rintro e w' ⟨rfl, rfl⟩
        go_wp2
        go_ret
        exact ⟨ret_bool HF.out.symm, HB1.out⟩
      | true =>
        have HN := Lib.hid hn
        clear hn
        refine (impl_NameValid _ _ (HR.out.mono HB1.out (Nat.le_refl _)) HYZ.out).mono ?_
        rw [HN.out]
        rintro e w' ⟨rfl, rfl⟩
        have x0 := HX.out.cell (i := 0) rfl
        go_wp2_with fail
        refine (tableAt_any _ n en y _ (H.out.mono HB1.out (Nat.le_refl _))).mono ?_
        rintro e w2 ⟨rfl, hb⟩
        have HX2 := Lib.hid (HX.out.mono hb HX.out.lt)
        have HB2 := Lib.hid (HB1.out.trans (hb.mono HB1.out.size))
        have x1 := HX2.out.cell (i := 1) rfl
        have x2 := HX2.out.cell (i := 2) rfl
        clear hb x0 HX HB1
        by_cases hm : tx y ∈ (nmL n en).take k
        · have hne : (indexS (nmL n en) (tx y) != (k : Int)) = true := by simpa using indexS_ne hm
          have HF : Hid (catB n en = false) := catB_bad HLT.out (by rw [HGD.out, decide_eq_true hm]; simp)
          clear hm
          go_wp2
          go_ret
          exact ⟨ret_bool HF.out.symm, HB2.out⟩
        · have hne : (indexS (nmL n en) (tx y) != (k : Int)) = false := by simpa using indexS_at HYK.out hm
          have HM : Hid (decide (tx y ∈ (nmL n en).take k) = false) := decide_eq_false hm
          obtain ⟨t, htt⟩ : ∃ t, tabB (txs ns) m f = t := ⟨_, rfl⟩
          have HTT := Lib.hid htt
          clear hm htt
          go_wp2_with fail
          refine (impl_TableValid _ ns m f _ (HT.out.mono HB2.out (Nat.le_refl _)) (HR.out.mono HB2.out (Nat.le_refl _)) HS2.out).mono ?_
          rw [HTT.out]
          rintro e w3 ⟨rfl, hb⟩
          have HB3 := Lib.hid (HB2.out.trans (hb.mono HB2.out.size))
          clear hb x1 x2 HX2 HB2
          cases t
          · have HF : Hid (catB n en = false) := catB_bad HLT.out (by rw [HGD.out, HTT.out]; simp)
            go_wp2
            go_ret
            exact ⟨ret_bool HF.out.symm, HB3.out⟩
          · have HF : Hid (∀ j, j < k + 1 → gdC n en j = true) := fun j hj => by
              by_cases e : j = k
              · subst e; rw [HGD.out, HN.out, HM.out, HTT.out]; rfl
              · exact hG.out j (by omega)
            go_wp2
            go_roundg (n - (k + 1))
            case rel => exact ⟨k + 1, HLT.out, Nat.le_refl _, by go_num, HF.out, HB3.out⟩
            case measure => have := HLT.out; omega
    · obtain rfl : k = n := by omega
      have HF : Hid (catB k en = decide (k ≤ 4)) := catB_end hG.out
      have hz : decide ((k : Int) ≤ 4) = decide (k ≤ 4) := by rw [Bool.eq_iff_iff, decide_eq_true_eq, decide_eq_true_eq]; omega
      have HZ := Lib.hid hz
      clear hz
      go_wp2
      go_ret
      exact ⟨ret_bool (by rw [HF.out]; first | rfl | exact HZ.out | (rw [Bool.eq_iff_iff, decide_eq_true_eq, decide_eq_true_eq]; omega)), hB.out⟩
end Go.Proofs.YtiiipaemplihnaaDoor
