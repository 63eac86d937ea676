/- the walk of FnLookupAnswer -/
import Derived.Test.YtgapjgmkkmdadaaDoorLookDraw
import Derived.Test.YtgapjgmkkmdadaaDoorLaw
namespace Go.Proofs.YtgapjgmkkmdadaaDoor
open Go.RowKit
theorem foldX_diff {xs : List Int} {st ts : List Bool} {a : Nat} (h : ∀ j, j ≠ a → st[j]?.getD false = ts[j]?.getD false) (hd : st[a]?.getD false = !(ts[a]?.getD false)) :
    ∀ k, foldX xs st k ^^^ foldX xs ts k = if a < k then (xs[a]?.getD 0).toNat else 0
  | 0 => by simp [foldX]
  | k + 1 => by
    have ih := foldX_diff (xs := xs) h hd k
    by_cases e : k = a
    · subst e
      rw [if_neg (Nat.lt_irrefl _)] at ih
      have ih' : foldX xs st k = foldX xs ts k := by
        have := congrArg (· ^^^ foldX xs ts k) ih
        simpa [Nat.xor_assoc] using this
      rw [if_pos (Nat.lt_succ_self _)]
      unfold foldX
      rw [hd]
      cases ts[k]?.getD false
      · simp only [Bool.not_false, if_true, Bool.false_eq_true, if_false]
        rw [ih', Nat.xor_comm (foldX xs ts k), Nat.xor_assoc, Nat.xor_self, Nat.xor_zero]
      · simp only [Bool.not_true, if_true, Bool.false_eq_true, if_false]
        rw [ih', ← Nat.xor_assoc, Nat.xor_self, Nat.zero_xor]
    · unfold foldX
      rw [h k e]
      have e2 : (a < k + 1) = (a < k) := by apply propext; omega
      simp only [e2]
      rw [← ih]
      split
      · rw [Nat.xor_assoc, Nat.xor_comm (xs[k]?.getD 0).toNat, Nat.xor_assoc, Nat.xor_self, Nat.xor_zero]
      · rfl
theorem ans_cases (xs : List Int) (st : List Bool) : ansV xs st = -1 ∨ (xs.length = st.length ∧ xs.length ≤ 32 ∧ (∀ k, k < xs.length → okV xs k = true) ∧ ansV xs st = foldX xs st xs.length ∧ foldX xs st xs.length < 131072) := by
  by_cases h : xs.length = st.length ∧ xs.length ≤ 32 ∧ (List.range xs.length).all (okV xs) = true
  · have h3 : ∀ k, k < xs.length → okV xs k = true := fun k hk => List.all_eq_true.1 h.2.2 k (by simpa using hk)
    exact .inr ⟨h.1, h.2.1, h3, if_pos h, foldX_lt _ h3⟩
  · exact .inl (if_neg h)
/-- two sets that differ in one place tell its value -/
theorem ans_diff {xs : List Int} {st ts : List Bool} {a : Nat} (h : ∀ j, j ≠ a → st[j]?.getD false = ts[j]?.getD false) (hd : st[a]?.getD false = !(ts[a]?.getD false)) (ha : a < xs.length)
    (hok : ∀ k, k < xs.length → okV xs k = true) : lookV (foldX xs st xs.length) (foldX xs ts xs.length) = xs[a]?.getD 0 := by
  have h1 := foldX_lt (st := st) xs.length hok
  have h2 := foldX_lt (st := ts) xs.length hok
  unfold lookV
  rw [inB_true (by omega) (by omega), inB_true (by omega) (by omega)]
  simp only [Bool.and_self, if_true]
  unfold xorI
  have := foldX_diff (xs := xs) h hd xs.length
  rw [if_pos ha] at this
  simp only [Int.toNat_natCast]
  rw [this]
  have := inB_iff.1 (hok a ha)
  omega
set_option maxHeartbeats 1000000 in
theorem walk0_FnLookupAnswer (w : World) (v : Value) (bs : List Int) (h : Bts w v bs) (hR : Resv w) :
    Calls Tryd.prog 6 #[v] w fun e w' => LawOk w e w' := by
  obtain ⟨ad, c, hv, hm⟩ := bts_lit h
  have H := Lib.hid h
  have HR := Lib.hid hR
  clear h hR
  subst hv
  by_cases hbig : 1048576 < bs.length
  · go_enter Tryd.func6, Tryd.ntmps6
    go_wp2
    go_ret
    exact ⟨rfl, Below.refl _ _⟩
  · go_enter Tryd.func6, Tryd.ntmps6
    go_wp2_with fail
    refine (draw_LookupAnswer _ bs w H.out).mono ?_
    rintro e w1 ⟨u, v2, xs, st, rfl, hG, hM, hxl, hsl, _, hb⟩
    have HU : Hid (Ints w1 u xs) := Gr.ints hG rfl
    have HV : Hid (Bools w1 v2 st) := hM.view
    have HB := Lib.hid hb
    have HR1 := Lib.hid (HR.out.mono hb (Nat.le_refl _))
    have z1 := hb.size
    clear hb H HR hG hM
    obtain ⟨ad2, c2, hu, _, hop⟩ := HU.out.open
    obtain ⟨ad3, c3, hv, _, _⟩ := HV.out.open
    subst hu hv
    have HOP := Lib.hid hop
    clear hop
    have hss : ∀ z : Int, (z != z) = false := by simp
    have hse : ∀ z : Int, (z == z) = true := by simp
    rcases ans_cases xs st with hx | ⟨h1, h2, h3, hx, hfl⟩
    · have HX := Lib.hid hx
      clear hx
      go_wp2_with (first | (go_at_call 20; refine (impl_LookupAnswer _ _ xs st _ HU.out HV.out).mono ?_; rw [HX.out]; rintro e w' ⟨rfl, rfl⟩) | (go_at_call 21; refine (spec_LookupAnswer _ _ xs st _ HU.out HV.out).mono ?_; rw [HX.out]; rintro e w' ⟨rfl, rfl⟩) | (go_at_call 12; refine (alive_any _ HR1.out).mono ?_; rintro e w' ⟨rfl, rfl⟩))
      go_ret
      exact ⟨rfl, HB.out⟩
    · obtain ⟨n, hn⟩ : ∃ n, foldX xs st xs.length = n := ⟨_, rfl⟩
      rw [hn] at hx hfl
      have HX := Lib.hid hx
      have HN := Lib.hid hn
      have H3 := Lib.hid h3
      have H1 := Lib.hid h1
      clear hx hn h3
      by_cases h0 : xs.length = 0
      · have hd : ((xs.length : Int) == 0) = true := by rw [h0]; rfl
        clear h0 h1
        go_wp2_with (first | (go_at_call 20; refine (impl_LookupAnswer _ _ xs st _ HU.out HV.out).mono ?_; rw [HX.out]; rintro e w' ⟨rfl, rfl⟩) | (go_at_call 21; refine (spec_LookupAnswer _ _ xs st _ HU.out HV.out).mono ?_; rw [HX.out]; rintro e w' ⟨rfl, rfl⟩) | (go_at_call 12; refine (alive_any _ HR1.out).mono ?_; rintro e w' ⟨rfl, rfl⟩))
        go_ret
        exact ⟨rfl, HB.out⟩
      · have hd : ((xs.length : Int) == 0) = false := beq_eq_false_iff_ne.2 (by omega)
        obtain ⟨a, ha⟩ : ∃ a : Nat, bs.length % xs.length = a := ⟨_, rfl⟩
        have hal : a < xs.length := by rw [← ha]; exact Nat.mod_lt _ (by omega)
        have hai : (bs.length : Int) % (xs.length : Int) = (a : Int) := by rw [← ha]; simp
        obtain ⟨t, ht⟩ : ∃ t, st[a]? = some t := ⟨_, List.getElem?_eq_getElem (by omega)⟩
        have HT := Lib.hid ht
        obtain ⟨b, off, rfl, hcell⟩ := HOP.out a hal
        obtain ⟨y, hy⟩ : ∃ y, xs[a]?.getD 0 = y := ⟨_, rfl⟩
        have HY := Lib.hid hy
        have hc1 := hcell a hal
        have hxi : iv xs a = .int .i64 y := by rw [iv, hy]
        rw [hxi] at hc1
        clear ha ht hcell hxi hy h1
        go_wp2_with (first
          | (go_at_call 20; refine (impl_LookupAnswer _ _ xs st _ HU.out HV.out).mono ?_; rw [HX.out]; rintro e w' ⟨rfl, rfl⟩)
          | (go_at_call 21; refine (spec_LookupAnswer _ _ xs st _ HU.out HV.out).mono ?_; rw [HX.out]; rintro e w' ⟨rfl, rfl⟩)
          | (at_builtin; refine wpList_app _ rfl (.tmp 41) (.tmp 42) 33 rfl w1.heap.size 4 (.bool false) 1 1 Tryd.underlying33 Tryd.infoBool rfl (by omega) (.slice (some ⟨w1.heap.size, 0, none⟩) 0 0) 0 [] rfl (Gr.none0 _ _ _ _ _) _ st.length (bools st) rfl (HV.out.mono ((Below.refl _ _).alloc (Nat.le_refl _) _) (Nat.le_refl _)) (one_bools st) (by unfold maxLen; omega) (by omega) (by simp) ?_; intro v1 w2 g1 r1 k1; have G1 := Lib.hid g1; have R1 := Lib.hid r1; clear g1 r1 k1))
        have hsl0 : 0 < st.length := by have := H1.out; omega
        have hasl : a < st.length := by have := H1.out; omega
        have g1 : Gr w2 w1.heap.size 4 1 v1 st.length (bools st) := by have := G1.out; simpa using this
        have b1 : Below w1.heap.size w1 w2 := ((Below.refl _ _).alloc (Nat.le_refl _) _).grown R1.out (by simp) (fun g hg => by simp [gBlock] at hg)
        obtain ⟨g, c4, rfl, hgB, _, hmax4, hfz, hcell4, hset⟩ := g1.at hsl0
        have hc4 := hcell4 a (.bool t) (by simp [bools, HT.out])
        have hf4 := hfz a
        have hs4 := hset a (.bool (!t)) hasl
        have e4 : (bools st).set a (.bool (!t)) = bools (st.set a (!t)) := by simp [bools, List.map_set]
        rw [e4] at hs4
        have b2 := b1.setCell (p := ⟨g, a, none⟩) hgB (.bool (!t))
        have HV3 : Hid (Bools (w2.setCell ⟨g, a, none⟩ (.bool (!t))) (.slice (some ⟨g, 0, none⟩) st.length c4) (st.set a (!t))) := Gr.bools hs4 (by simp)
        have HU3 : Hid (Ints (w2.setCell ⟨g, a, none⟩ (.bool (!t))) (.slice (some ⟨b, off, none⟩) xs.length c2) xs) := HU.out.mono b2 (Nat.le_refl _)
        have HB3 := nxt HB b2
        have hcx := (b2.cell (p := ⟨b, off + a, none⟩) (World.block_lt_of_cell? w1 _ hc1)).trans hc1
        have HCX := Lib.hid hcx
        obtain ⟨m, hm2⟩ : ∃ m, foldX xs (st.set a (!t)) xs.length = m := ⟨_, rfl⟩
        have HX2 : Hid (ansV xs (st.set a (!t)) = (m : Int)) := by rw [← hm2]; exact ansV_end (by simp; exact H1.out) h2 H3.out
        have HL : Hid (lookV n m = y) := by
          rw [← hm2, ← HN.out, ← HY.out]
          refine ans_diff (fun j hj => by simp [List.getElem?_set, Ne.symm hj]) ?_ hal H3.out
          rw [HT.out, List.getElem?_set_self hasl]; simp
        have hml : m < 131072 := by rw [← hm2]; exact foldX_lt _ H3.out
        clear hc1 hcell4 hset hs4 b1 b2 hfz e4 g1 G1 R1 hcx hm2
        go_wp2
        go_simp
        go_wp2
        generalize hW : w2.setCell ⟨g, a, none⟩ (.bool (!t)) = w3 at *
        have HW := Lib.hid hW
        have hcx := HCX.out
        clear hW hc4 hf4
        go_quiet (first | exact quiet_of (impl_LookupAnswer _ _ xs (st.set a (!t)) _ (HU3.out.drewN _) (HV3.out.drewN _)) (congrArg _ HX2.out) | exact quiet_of (impl_LookupValue n m _) (congrArg _ HL.out))
        go_wp2
        go_ret
        exact ⟨rfl, below_drewN HB3.out _⟩
theorem walk_FnLookupAnswer (w : World) (v : Value) (bs : List Int) (h : View w 1 v bs.length (bs.map (Value.int .u8)) ∧ ∀ b ∈ bs, 0 ≤ b ∧ b ≤ 255) (hR : Resv w) :
    Calls Tryd.prog 6 #[v] w fun e w' => e = .returned (.bool true) ∧ Below w.heap.size w w' := walk0_FnLookupAnswer w v bs h hR
end Go.Proofs.YtgapjgmkkmdadaaDoor
