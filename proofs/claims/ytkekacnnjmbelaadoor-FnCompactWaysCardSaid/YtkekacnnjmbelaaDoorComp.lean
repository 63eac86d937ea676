/- contracts of CompactWays and CompactRows, both -/
import Derived.Test.YtkekacnnjmbelaaDoorRes
import Derived.Test.YtkekacnnjmbelaaDoorScal
namespace Go.Proofs.YtkekacnnjmbelaaDoor
open Go.RowKit
/-- how many of the first k marks are not set -/
def freeN (st : List Bool) : Nat → Nat
  | 0 => 0
  | k + 1 => if st[k]?.getD false then freeN st k else freeN st k + 1
theorem freeN_le (st : List Bool) : ∀ k, freeN st k ≤ k
  | 0 => Nat.le_refl _
  | k + 1 => by
    have := freeN_le st k
    unfold freeN
    split <;> omega
def wayAt (st : List Bool) (k : Nat) : Int := if st[k]?.getD false then (freeN st k : Int) else 0
def waysV (st : List Bool) : List Int := if st.length ≤ 256 then tab st.length (wayAt st) else []
theorem waysV_le (st : List Bool) : (waysV st).length ≤ 256 := by unfold waysV; split <;> simp; assumption
theorem impl_CompactWays (v : Value) (st : List Bool) (w : World) (h : Bools w v st) : Calls Tryd.prog 16 #[v] w (IntsPost (waysV st) w) := by
  obtain ⟨ad, c, rfl, hmax, hop⟩ := h.open
  unfold maxLen at hmax
  have HOP := Lib.hid hop
  clear hop h
  by_cases hbig : 256 < st.length
  · have HF : Hid (IntsPost (waysV st) w (.returned (.slice none 0 0)) w) := by
      unfold waysV; rw [if_neg (by omega)]; exact ⟨_, rfl, Gr.nil _ _ _ _, Below.refl _ _⟩
    go_enter Tryd.func16, Tryd.ntmps16
    go_wp2
    go_ret
    exact HF.out
  · have HF : Hid (∀ u w', Gr w' w.heap.size 3 1 u st.length (ints (tab st.length (wayAt st))) → Below w.heap.size w w' → IntsPost (waysV st) w (.returned u) w') := fun u w' hg hb => by
      unfold waysV; rw [if_pos (by omega)]; exact ⟨u, rfl, by rw [tab_length]; exact hg, hb⟩
    go_enter Tryd.func16, Tryd.ntmps16
    go_wp2
    go_loopw [3, 4, 12] (fun u f i wr => ∃ k : Nat, k ≤ st.length ∧ i = .int .i64 k ∧ f = .int .i64 (freeN st k) ∧ Hid (Gr wr w.heap.size 3 1 u k (ints (tab k (wayAt st)))) ∧ Hid (Below w.heap.size w wr)) (fun _ _ i _ => st.length - (intOf i).toNat)
    case atStart => exact ⟨0, Nat.zero_le _, rfl, rfl, Gr.nil _ _ _ _, Below.refl _ _⟩
    case round =>
      obtain ⟨k, hk, rfl, rfl, hG, hB⟩ := hrel
      have hfl := freeN_le st k
      by_cases hlt : k < st.length
      · obtain ⟨b, off, rfl, hcell⟩ := HOP.out k hlt
        have hc1 := hcell k hlt
        have hc1 : wr.cell? ⟨b, off + k, none⟩ = some (bv st k) := (hB.out.cell (p := ⟨b, off + k, none⟩) (World.block_lt_of_cell? w _ hc1)).trans hc1
        obtain ⟨t, ht⟩ : ∃ t, st[k]?.getD false = t := ⟨_, rfl⟩
        have hx2 : bv st k = .bool t := by rw [bv, ht]
        rw [hx2] at hc1
        obtain ⟨f, hf⟩ : ∃ f, freeN st k = f := ⟨_, rfl⟩
        rw [hf] at hfl ⊢
        have hsz := hB.out.size
        cases t
        · have HA : Hid (ints (tab k (wayAt st)) ++ [.int .i64 0] = ints (tab (k + 1) (wayAt st))) := tabI_snoc (by unfold wayAt; rw [ht]; rfl)
          have HFr : Hid (freeN st (k + 1) = f + 1) := by unfold Hid freeN; rw [ht, hf]; rfl
          clear hcell hx2 ht hf
          go_wp2_with (at_builtin; refine wpList_app _ rfl (.tmp 21) (.tmp 22) 31 rfl w.heap.size 3 (.int .i64 0) 1 8 Tryd.underlying31 Tryd.infoInt rfl (by omega) u3 k (ints (tab k (wayAt st))) rfl (hG.out.alloc _) _ 1 [.int .i64 0] rfl (view_one _ _ _) (by simp [Value.oneCell']) (by unfold maxLen; omega) (by omega) (by simp; omega) ?_; intro v1 w1 g1 r1 k1; have G1 := Lib.hid g1; have R1 := Lib.hid r1; clear g1 r1 k1)
          go_roundw
          case rel => exact ⟨k + 1, hlt, by go_num, by rw [HFr.out]; go_num, by rw [← HA.out]; exact G1.out, (hB.out.alloc hsz _).grown R1.out (by simp; omega) (fun g hg => (hG.out.lt g hg).1)⟩
          case measure => simp [intOf]; omega
        · have HA : Hid (ints (tab k (wayAt st)) ++ [.int .i64 f] = ints (tab (k + 1) (wayAt st))) := tabI_snoc (by unfold wayAt; rw [ht, hf]; rfl)
          have HFr : Hid (freeN st (k + 1) = f) := by unfold Hid freeN; rw [ht, hf]; rfl
          clear hcell hx2 ht hf
          go_wp2_with (at_builtin; refine wpList_app _ rfl (.tmp 17) (.tmp 19) 31 rfl w.heap.size 3 (.int .i64 0) 1 8 Tryd.underlying31 Tryd.infoInt rfl (by omega) u3 k (ints (tab k (wayAt st))) rfl (hG.out.alloc _) _ 1 [.int .i64 f] rfl (view_one _ _ _) (by simp [Value.oneCell']) (by unfold maxLen; omega) (by omega) (by simp; omega) ?_; intro v1 w1 g1 r1 k1; have G1 := Lib.hid g1; have R1 := Lib.hid r1; clear g1 r1 k1)
          go_roundw
          case rel => exact ⟨k + 1, hlt, by go_num, by rw [HFr.out], by rw [← HA.out]; exact G1.out, (hB.out.alloc hsz _).grown R1.out (by simp; omega) (fun g hg => (hG.out.lt g hg).1)⟩
          case measure => simp [intOf]; omega
      · obtain rfl : k = st.length := by omega
        go_wp2
        go_ret
        exact HF.out _ _ hG.out hB.out
theorem impl_CompactWays_own (v : Value) (st : List Bool) (w : World) (h : Bools w v st) (_ : st.length ≤ 1048576) : Calls Tryd.prog 16 #[v] w fun e w' => ∃ v b, e = .returned v ∧ OwnI w' b v (waysV st) ∧ From w.heap.size b ∧ Below w.heap.size w w' :=
  (impl_CompactWays v st w h).mono fun _ _ h => ints_own h
theorem spec_CompactWays (v : Value) (st : List Bool) (w : World) (h : Bools w v st) : Calls Tryd.prog 18 #[v] w (IntsPost (waysV st) w) := by
  obtain ⟨ad, c, rfl, hmax, hop⟩ := h.open
  unfold maxLen at hmax
  have HOP := Lib.hid hop
  clear hop h
  have hb0 := (Below.refl w.heap.size w).alloc (Nat.le_refl _) (.cells #[] 3)
  have HB0 := Lib.hid hb0
  clear hb0
  by_cases hbig : 256 < st.length
  · have HF : Hid (IntsPost (waysV st) w (.returned (.slice (some ⟨w.heap.size, 0, none⟩) 0 0)) (w.alloc (.cells #[] 3))) := by
      unfold waysV; rw [if_neg (by omega)]; exact ⟨_, rfl, Gr.none0 _ _ _ _ _, HB0.out⟩
    have h1 : decide (0 < st.length) = true := by simp; omega
    have h2 : decide (st.length ≤ 256) = false := by simp; omega
    have h3 : decide ((st.length : Int) ≤ 256) = false := by simp; omega
    go_enter Tryd.func18, Tryd.ntmps18
    go_wp2
    go_loopw [3, 4, 5] (fun u f i wr => u = .slice (some ⟨w.heap.size, 0, none⟩) 0 0 ∧ i = .int .i64 0 ∧ wr = w.alloc (.cells #[] 3)) (fun _ _ _ _ => 0)
    case atStart => exact ⟨rfl, rfl, rfl⟩
    case round =>
      obtain ⟨rfl, rfl, rfl⟩ := hrel
      go_wp2
      go_ret
      exact HF.out
  · have HF : Hid (∀ u w', Gr w' w.heap.size 3 1 u st.length (ints (tab st.length (wayAt st))) → Below w.heap.size w w' → IntsPost (waysV st) w (.returned u) w') := fun u w' hg hb => by
      unfold waysV; rw [if_pos (by omega)]; exact ⟨u, rfl, by rw [tab_length]; exact hg, hb⟩
    have h3 : decide ((st.length : Int) ≤ 256) = true := by simp; omega
    go_enter Tryd.func18, Tryd.ntmps18
    go_wp2
    go_loopw [3, 4, 5] (fun u f i wr => ∃ k : Nat, k ≤ st.length ∧ i = .int .i64 k ∧ f = .int .i64 (freeN st k) ∧ Hid (Gr wr w.heap.size 3 1 u k (ints (tab k (wayAt st)))) ∧ Hid (Below w.heap.size w wr)) (fun _ _ i _ => st.length - (intOf i).toNat)
    case atStart => exact ⟨0, Nat.zero_le _, rfl, rfl, Gr.none0 _ _ _ _ _, HB0.out⟩
    case round =>
      obtain ⟨k, hk, rfl, rfl, hG, hB⟩ := hrel
      have hfl := freeN_le st k
      by_cases hlt : k < st.length
      · obtain ⟨b, off, rfl, hcell⟩ := HOP.out k hlt
        have hc1 := hcell k hlt
        have hc1 : wr.cell? ⟨b, off + k, none⟩ = some (bv st k) := (hB.out.cell (p := ⟨b, off + k, none⟩) (World.block_lt_of_cell? w _ hc1)).trans hc1
        obtain ⟨t, ht⟩ : ∃ t, st[k]?.getD false = t := ⟨_, rfl⟩
        have hx2 : bv st k = .bool t := by rw [bv, ht]
        rw [hx2] at hc1
        obtain ⟨f, hf⟩ : ∃ f, freeN st k = f := ⟨_, rfl⟩
        rw [hf] at hfl ⊢
        have hsz := hB.out.size
        cases t
        · have HA : Hid (ints (tab k (wayAt st)) ++ [.int .i64 0] = ints (tab (k + 1) (wayAt st))) := tabI_snoc (by unfold wayAt; rw [ht]; rfl)
          have HFr : Hid (freeN st (k + 1) = f + 1) := by unfold Hid freeN; rw [ht, hf]; rfl
          clear hcell hx2 ht hf
          go_wp2_with (at_builtin; refine wpList_app _ rfl (.tmp 26) (.tmp 27) 31 rfl w.heap.size 3 (.int .i64 0) 1 8 Tryd.underlying31 Tryd.infoInt rfl (by omega) u3 k (ints (tab k (wayAt st))) rfl (hG.out.alloc _) _ 1 [.int .i64 0] rfl (view_one _ _ _) (by simp [Value.oneCell']) (by unfold maxLen; omega) (by omega) (by simp; omega) ?_; intro v1 w1 g1 r1 k1; have G1 := Lib.hid g1; have R1 := Lib.hid r1; clear g1 r1 k1)
          go_roundw
          case rel => exact ⟨k + 1, hlt, by go_num, by rw [HFr.out]; go_num, by rw [← HA.out]; exact G1.out, (hB.out.alloc hsz _).grown R1.out (by simp; omega) (fun g hg => (hG.out.lt g hg).1)⟩
          case measure => simp [intOf]; omega
        · have HA : Hid (ints (tab k (wayAt st)) ++ [.int .i64 f] = ints (tab (k + 1) (wayAt st))) := tabI_snoc (by unfold wayAt; rw [ht, hf]; rfl)
          have HFr : Hid (freeN st (k + 1) = f) := by unfold Hid freeN; rw [ht, hf]; rfl
          clear hcell hx2 ht hf
          go_wp2_with (at_builtin; refine wpList_app _ rfl (.tmp 22) (.tmp 24) 31 rfl w.heap.size 3 (.int .i64 0) 1 8 Tryd.underlying31 Tryd.infoInt rfl (by omega) u3 k (ints (tab k (wayAt st))) rfl (hG.out.alloc _) _ 1 [.int .i64 f] rfl (view_one _ _ _) (by simp [Value.oneCell']) (by unfold maxLen; omega) (by omega) (by simp; omega) ?_; intro v1 w1 g1 r1 k1; have G1 := Lib.hid g1; have R1 := Lib.hid r1; clear g1 r1 k1)
          go_roundw
          case rel => exact ⟨k + 1, hlt, by go_num, by rw [HFr.out], by rw [← HA.out]; exact G1.out, (hB.out.alloc hsz _).grown R1.out (by simp; omega) (fun g hg => (hG.out.lt g hg).1)⟩
          case measure => simp [intOf]; omega
      · obtain rfl : k = st.length := by omega
        go_wp2
        go_ret
        exact HF.out _ _ hG.out hB.out
theorem spec_CompactWays_own (v : Value) (st : List Bool) (w : World) (h : Bools w v st) (_ : st.length ≤ 1048576) : Calls Tryd.prog 18 #[v] w fun e w' => ∃ v b, e = .returned v ∧ OwnI w' b v (waysV st) ∧ From w.heap.size b ∧ Below w.heap.size w w' :=
  (spec_CompactWays v st w h).mono fun _ _ h => ints_own h
/-- the marked ones of the first k values -/
def marked (xs : List Int) (st : List Bool) : Nat → List Int
  | 0 => []
  | k + 1 => if st[k]?.getD false then marked xs st k ++ [xs[k]?.getD 0] else marked xs st k
theorem marked_length (xs : List Int) (st : List Bool) : ∀ k, (marked xs st k).length + freeN st k = k
  | 0 => rfl
  | k + 1 => by
    have := marked_length xs st k
    unfold marked freeN
    split
    · simp; omega
    · omega
def padAt (l : List Int) (p : Nat) : Value := .int .i64 (l[p]?.getD 0)
def rowsOk (xs : List Int) (st : List Bool) : Bool := decide (xs.length ≤ 256) && decide (st.length = xs.length)
def rowsV (xs : List Int) (st : List Bool) : List Int := if rowsOk xs st then tab xs.length (fun p => (marked xs st xs.length)[p]?.getD 0) else []
theorem rowsV_le (xs : List Int) (st : List Bool) : (rowsV xs st).length ≤ 256 := by
  unfold rowsV rowsOk; split
  · rename_i h; simp at h; simp; omega
  · simp
theorem pad_zero (n : Nat) : tab n (fun _ => Value.int .i64 0) = tab n (padAt []) := tab_congr fun i _ => by simp [padAt]
theorem pad_step {n : Nat} {l : List Int} {x : Int} : (tab n (padAt l)).set l.length (.int .i64 x) = tab n (padAt (l ++ [x])) := by
  rw [tab_set]
  refine tab_congr fun i _ => ?_
  unfold padAt
  rcases Nat.lt_trichotomy i l.length with h | h | h
  · rw [if_neg (by omega), List.getElem?_append_left h]
  · subst h; simp
  · rw [if_neg (by omega), List.getElem?_eq_none (by omega), List.getElem?_eq_none (by simp; omega)]
theorem impl_CompactRows (v : Value) (xs : List Int) (u : Value) (st : List Bool) (w : World) (h : Ints w v xs) (g : Bools w u st) :
    Calls Tryd.prog 23 #[v, u] w (IntsBoolPost (rowsV xs st) (rowsOk xs st) w) := by
  obtain ⟨i0, hi, hz0, hz1, hz2⟩ := info_parts Tryd.infoInt
  have HG := Lib.hid g
  obtain ⟨ad, c, rfl, hmax, hop⟩ := h.open
  obtain ⟨ad2, c2, rfl, hmax2, hop2⟩ := g.open
  unfold maxLen at hmax hmax2
  have HOP := Lib.hid hop
  have HOP2 := Lib.hid hop2
  clear hop hop2 h g
  by_cases hbig : 256 < xs.length
  · have HF : Hid (IntsBoolPost (rowsV xs st) (rowsOk xs st) w (.returned (.tuple #[.slice none 0 0, .bool false])) w) := by
      have : rowsOk xs st = false := by simp [rowsOk]; omega
      unfold rowsV; rw [this]; exact ⟨_, rfl, Gr.nil _ _ _ _, Below.refl _ _⟩
    go_enter Tryd.func23, Tryd.ntmps23
    go_wp2
    go_ret2
    exact HF.out
  have hbig' : decide ((256 : Int) < (xs.length : Int)) = false := by simp; omega
  by_cases hl : st.length = xs.length
  case neg =>
    have HF : Hid (IntsBoolPost (rowsV xs st) (rowsOk xs st) w (.returned (.tuple #[.slice none 0 0, .bool false])) w) := by
      have : rowsOk xs st = false := by simp [rowsOk, hl]
      unfold rowsV; rw [this]; exact ⟨_, rfl, Gr.nil _ _ _ _, Below.refl _ _⟩
    have hl' : ((st.length : Int) != (xs.length : Int)) = true := by simp; omega
    clear hl
    go_enter Tryd.func23, Tryd.ntmps23
    go_wp2
    go_ret2
    exact HF.out
  case pos =>
    have HF : Hid (∀ w', Row w' w.heap.size 3 (tab xs.length (padAt (marked xs st xs.length))) → Below w.heap.size w w' → IntsBoolPost (rowsV xs st) (rowsOk xs st) w (.returned (.tuple #[.slice (some ⟨w.heap.size, 0, none⟩) xs.length xs.length, .bool true])) w') := fun w' hr hb => by
      have : rowsOk xs st = true := by simp [rowsOk, hl]; omega
      unfold rowsV; rw [this]
      refine ⟨_, rfl, ?_, hb⟩
      simp only [if_true]
      rw [tab_length]
      exact Gr.of_made (by rw [ints_tabf]; exact hr) (by simp) (by unfold maxLen; omega) (Nat.le_refl _)
    have hl' : ((st.length : Int) != (xs.length : Int)) = false := by simp; omega
    have HW : Hid (waysV st = tab xs.length (wayAt st)) := by unfold Hid waysV; rw [if_pos (by omega), hl]
    have hle : xs.length ≤ st.length := by omega
    clear hl
    go_enter Tryd.func23, Tryd.ntmps23
    go_wp2_with (at_make; refine wpList_make_full _ rfl _ _ 31 rfl w.heap.size 3 i0 (.int .i64 0) 1 Tryd.underlying31 hi hz0 hz1 _ _ _ _ _ rfl rfl rfl rfl ?b2 ?b3 ?b4 ?_)
    case b2 => rw [hz2]; omega
    case b3 => unfold maxLen; omega
    case b4 => exact Nat.le_refl _
    · intro w1 hown hgrow
      have hrow := (row_of_own hown).1
      rw [made_tab, pad_zero] at hrow
      have HR := Lib.hid hrow
      have HB : Hid (Below w.heap.size w w1) := (Below.refl _ _).grown hgrow (Nat.le_refl _) (by simp)
      clear hown hgrow hrow
      go_wp2_with fail
      refine (impl_CompactWays _ st _ (HG.out.mono HB.out (Nat.le_refl _))).mono ?_
      rintro e w2 ⟨x, rfl, hg, hb⟩
      rw [HW.out, tab_length] at hg
      have hgi : Ints w2 x (tab xs.length (wayAt st)) := Gr.ints hg (by simp)
      obtain ⟨ad3, c3, hx, _, hop3⟩ := hgi.open
      have HG3 : Hid (0 < xs.length → ∀ a n c, x = .slice (some a) n c → w1.heap.size ≤ a.block) := fun h0 => hg.block h0
      rw [tab_length] at hx hop3
      have HR2 := Lib.hid (HR.out.mono hb (HR.out.lt))
      have HB2 := nxt HB hb
      have HOP3 := Lib.hid hop3
      have hz := HR.out.lt
      clear hg hb hgi hop3 HR HB
      subst hx
      go_wp2
      go_loopw [25] (fun i wr => ∃ k : Nat, k ≤ xs.length ∧ i = .int .i64 k ∧ Hid (Row wr w.heap.size 3 (tab xs.length (padAt (marked xs st k)))) ∧ Hid (Below w.heap.size w wr) ∧ Hid (w2.grownBy wr (some w.heap.size))) (fun i _ => xs.length - (intOf i).toNat)
      case atStart => exact ⟨0, Nat.zero_le _, rfl, HR2.out, HB2.out, grown_refl _ _⟩
      case round =>
        obtain ⟨k, hk, rfl, hR, hB, hW⟩ := hrel
        by_cases hlt : k < xs.length
        · obtain ⟨b, off, rfl, hcell⟩ := HOP.out k hlt
          obtain ⟨b2, off2, rfl, hcell2⟩ := HOP2.out k (by omega)
          obtain ⟨b3, off3, rfl, hcell3⟩ := HOP3.out k hlt
          have hc1 := hcell k hlt
          have hc1 : wr.cell? ⟨b, off + k, none⟩ = some (iv xs k) := (hB.out.cell (p := ⟨b, off + k, none⟩) (World.block_lt_of_cell? w _ hc1)).trans hc1
          have hc2 := hcell2 k (by omega)
          have hc2 : wr.cell? ⟨b2, off2 + k, none⟩ = some (bv st k) := (hB.out.cell (p := ⟨b2, off2 + k, none⟩) (World.block_lt_of_cell? w _ hc2)).trans hc2
          have hc3 := hcell3 k hlt
          have hne : b3 ≠ w.heap.size := by
            have := HG3.out (by omega) _ _ _ rfl
            simp only at this
            omega
          have hc3 : wr.cell? ⟨b3, off3 + k, none⟩ = some (iv (tab xs.length (wayAt st)) k) := hW.out.cell hc3 (fun e => hne (by cases e; rfl))
          rw [iv_tab _ hlt] at hc3
          have hlt2 : k < st.length := by omega
          obtain ⟨y, hy⟩ : ∃ y, xs[k]?.getD 0 = y := ⟨_, rfl⟩
          have hx : iv xs k = .int .i64 y := by rw [iv, hy]
          rw [hx] at hc1
          obtain ⟨t, ht⟩ : ∃ t, st[k]?.getD false = t := ⟨_, rfl⟩
          have hx2 : bv st k = .bool t := by rw [bv, ht]
          rw [hx2] at hc2
          cases t
          · have HM : Hid (marked xs st (k + 1) = marked xs st k) := by unfold Hid; rw [marked, ht]; rfl
            obtain ⟨z, hz3⟩ : ∃ z, wayAt st k = z := ⟨_, rfl⟩
            rw [hz3] at hc3
            clear hcell hcell2 hcell3 hx hx2 hy ht hz3 hne
            go_wp2
            go_roundw
            case rel => exact ⟨k + 1, hlt, by go_num, by rw [HM.out]; exact hR.out, hB.out, hW.out⟩
            case measure => simp [intOf]; omega
          · have HM : Hid (marked xs st (k + 1) = marked xs st k ++ [y]) := by unfold Hid; rw [marked, ht, hy]; rfl
            have hml := marked_length xs st k
            obtain ⟨f, hf⟩ : ∃ f, freeN st k = f := ⟨_, rfl⟩
            obtain ⟨q, hq⟩ : ∃ q, (marked xs st k).length = q := ⟨_, rfl⟩
            rw [hf, hq] at hml
            have hway : wayAt st k = (f : Int) := by unfold wayAt; rw [ht, hf]; rfl
            rw [hway] at hc3
            have hsub : (k : Int) - (f : Int) = (q : Int) := by omega
            have hqn : q < xs.length := by omega
            have hc4 : wr.cell? ⟨w.heap.size, q, none⟩ = some (padAt (marked xs st k) q) := hR.out.cell (tab_get _ hqn)
            rw [padAt] at hc4
            have hf4 := hR.out.free q
            have HQ := Lib.hid hq
            clear hcell hcell2 hcell3 hx hx2 hy ht hway hf hq hne hml
            go_wp2
            go_roundw
            case rel => exact ⟨k + 1, hlt, by go_num, by rw [HM.out, ← pad_step, HQ.out]; exact hR.out.set _ _, hB.out.setCell (Nat.le_refl _) _, grown_set hW.out _ _⟩
            case measure => simp [intOf]; omega
        · obtain rfl : k = xs.length := by omega
          go_wp2
          go_ret2
          exact HF.out _ hR.out hB.out
theorem impl_CompactRows_own (v : Value) (xs : List Int) (u : Value) (st : List Bool) (w : World) (h : Ints w v xs) (g : Bools w u st) (_ : xs.length ≤ 1048576) (_ : st.length ≤ 1048576) :
    Calls Tryd.prog 23 #[v, u] w fun e w' => ∃ v b, e = .returned (.tuple #[v, .bool (rowsOk xs st)]) ∧ OwnI w' b v (rowsV xs st) ∧ From w.heap.size b ∧ Below w.heap.size w w' :=
  (impl_CompactRows v xs u st w h g).mono fun _ _ h => intsBool_own h
theorem spec_CompactRows (v : Value) (xs : List Int) (u : Value) (st : List Bool) (w : World) (h : Ints w v xs) (g : Bools w u st) :
    Calls Tryd.prog 24 #[v, u] w (IntsBoolPost (rowsV xs st) (rowsOk xs st) w) := by
  obtain ⟨i0, hi, hz0, hz1, hz2⟩ := info_parts Tryd.infoInt
  have HG := Lib.hid g
  obtain ⟨ad, c, rfl, hmax, hop⟩ := h.open
  obtain ⟨ad2, c2, rfl, hmax2, hop2⟩ := g.open
  unfold maxLen at hmax hmax2
  have HOP := Lib.hid hop
  have HOP2 := Lib.hid hop2
  clear hop hop2 h g
  by_cases hbig : 256 < xs.length
  · have HF : Hid (IntsBoolPost (rowsV xs st) (rowsOk xs st) w (.returned (.tuple #[.slice (some ⟨w.heap.size, 0, none⟩) 0 0, .bool false])) (w.alloc (.cells #[] 3))) := by
      have : rowsOk xs st = false := by simp [rowsOk]; omega
      unfold rowsV; rw [this]; exact ⟨_, rfl, Gr.none0 _ _ _ _ _, (Below.refl w.heap.size w).alloc (Nat.le_refl _) _⟩
    go_enter Tryd.func24, Tryd.ntmps24
    go_wp2
    go_ret2
    exact HF.out
  have hbig' : decide ((256 : Int) < (xs.length : Int)) = false := by simp; omega
  by_cases hl : st.length = xs.length
  case neg =>
    have HF : Hid (IntsBoolPost (rowsV xs st) (rowsOk xs st) w (.returned (.tuple #[.slice (some ⟨w.heap.size, 0, none⟩) 0 0, .bool false])) (w.alloc (.cells #[] 3))) := by
      have : rowsOk xs st = false := by simp [rowsOk, hl]
      unfold rowsV; rw [this]; exact ⟨_, rfl, Gr.none0 _ _ _ _ _, (Below.refl w.heap.size w).alloc (Nat.le_refl _) _⟩
    have hl' : ((st.length : Int) != (xs.length : Int)) = true := by simp; omega
    clear hl
    go_enter Tryd.func24, Tryd.ntmps24
    go_wp2
    go_ret2
    exact HF.out
  case pos =>
    have HF : Hid (∀ w', Row w' w.heap.size 3 (tab xs.length (padAt (marked xs st xs.length))) → Below w.heap.size w w' → IntsBoolPost (rowsV xs st) (rowsOk xs st) w (.returned (.tuple #[.slice (some ⟨w.heap.size, 0, none⟩) xs.length xs.length, .bool true])) w') := fun w' hr hb => by
      have : rowsOk xs st = true := by simp [rowsOk, hl]; omega
      unfold rowsV; rw [this]
      refine ⟨_, rfl, ?_, hb⟩
      simp only [if_true]
      rw [tab_length]
      exact Gr.of_made (by rw [ints_tabf]; exact hr) (by simp) (by unfold maxLen; omega) (Nat.le_refl _)
    have hl' : ((st.length : Int) != (xs.length : Int)) = false := by simp; omega
    have HW : Hid (waysV st = tab xs.length (wayAt st)) := by unfold Hid waysV; rw [if_pos (by omega), hl]
    have hle : xs.length ≤ st.length := by omega
    clear hl
    go_enter Tryd.func24, Tryd.ntmps24
    go_wp2_with (at_make; refine wpList_make_full _ rfl _ _ 31 rfl w.heap.size 3 i0 (.int .i64 0) 1 Tryd.underlying31 hi hz0 hz1 _ _ _ _ _ rfl rfl rfl rfl ?b2 ?b3 ?b4 ?_)
    case b2 => rw [hz2]; omega
    case b3 => unfold maxLen; omega
    case b4 => exact Nat.le_refl _
    · intro w1 hown hgrow
      have hrow := (row_of_own hown).1
      rw [made_tab, pad_zero] at hrow
      have HR := Lib.hid hrow
      have HB : Hid (Below w.heap.size w w1) := (Below.refl _ _).grown hgrow (Nat.le_refl _) (by simp)
      clear hown hgrow hrow
      go_wp2_with fail
      refine (spec_CompactWays _ st _ (HG.out.mono HB.out (Nat.le_refl _))).mono ?_
      rintro e w2 ⟨x, rfl, hg, hb⟩
      rw [HW.out, tab_length] at hg
      have hgi : Ints w2 x (tab xs.length (wayAt st)) := Gr.ints hg (by simp)
      obtain ⟨ad3, c3, hx, _, hop3⟩ := hgi.open
      have HG3 : Hid (0 < xs.length → ∀ a n c, x = .slice (some a) n c → w1.heap.size ≤ a.block) := fun h0 => hg.block h0
      rw [tab_length] at hx hop3
      have HR2 := Lib.hid (HR.out.mono hb (HR.out.lt))
      have HB2 := nxt HB hb
      have HOP3 := Lib.hid hop3
      have hz := HR.out.lt
      clear hg hb hgi hop3 HR HB
      subst hx
      go_wp2
      go_loopw [8] (fun i wr => ∃ k : Nat, k ≤ xs.length ∧ i = .int .i64 k ∧ Hid (Row wr w.heap.size 3 (tab xs.length (padAt (marked xs st k)))) ∧ Hid (Below w.heap.size w wr) ∧ Hid (w2.grownBy wr (some w.heap.size))) (fun i _ => xs.length - (intOf i).toNat)
      case atStart => exact ⟨0, Nat.zero_le _, rfl, HR2.out, HB2.out, grown_refl _ _⟩
      case round =>
        obtain ⟨k, hk, rfl, hR, hB, hW⟩ := hrel
        by_cases hlt : k < xs.length
        · obtain ⟨b, off, rfl, hcell⟩ := HOP.out k hlt
          obtain ⟨b2, off2, rfl, hcell2⟩ := HOP2.out k (by omega)
          obtain ⟨b3, off3, rfl, hcell3⟩ := HOP3.out k hlt
          have hc1 := hcell k hlt
          have hc1 : wr.cell? ⟨b, off + k, none⟩ = some (iv xs k) := (hB.out.cell (p := ⟨b, off + k, none⟩) (World.block_lt_of_cell? w _ hc1)).trans hc1
          have hc2 := hcell2 k (by omega)
          have hc2 : wr.cell? ⟨b2, off2 + k, none⟩ = some (bv st k) := (hB.out.cell (p := ⟨b2, off2 + k, none⟩) (World.block_lt_of_cell? w _ hc2)).trans hc2
          have hc3 := hcell3 k hlt
          have hne : b3 ≠ w.heap.size := by
            have := HG3.out (by omega) _ _ _ rfl
            simp only at this
            omega
          have hc3 : wr.cell? ⟨b3, off3 + k, none⟩ = some (iv (tab xs.length (wayAt st)) k) := hW.out.cell hc3 (fun e => hne (by cases e; rfl))
          rw [iv_tab _ hlt] at hc3
          have hlt2 : k < st.length := by omega
          obtain ⟨y, hy⟩ : ∃ y, xs[k]?.getD 0 = y := ⟨_, rfl⟩
          have hx : iv xs k = .int .i64 y := by rw [iv, hy]
          rw [hx] at hc1
          obtain ⟨t, ht⟩ : ∃ t, st[k]?.getD false = t := ⟨_, rfl⟩
          have hx2 : bv st k = .bool t := by rw [bv, ht]
          rw [hx2] at hc2
          cases t
          · have HM : Hid (marked xs st (k + 1) = marked xs st k) := by unfold Hid; rw [marked, ht]; rfl
            obtain ⟨z, hz3⟩ : ∃ z, wayAt st k = z := ⟨_, rfl⟩
            rw [hz3] at hc3
            clear hcell hcell2 hcell3 hx hx2 hy ht hz3 hne
            go_wp2
            go_roundw
            case rel => exact ⟨k + 1, hlt, by go_num, by rw [HM.out]; exact hR.out, hB.out, hW.out⟩
            case measure => simp [intOf]; omega
          · have HM : Hid (marked xs st (k + 1) = marked xs st k ++ [y]) := by unfold Hid; rw [marked, ht, hy]; rfl
            have hml := marked_length xs st k
            obtain ⟨f, hf⟩ : ∃ f, freeN st k = f := ⟨_, rfl⟩
            obtain ⟨q, hq⟩ : ∃ q, (marked xs st k).length = q := ⟨_, rfl⟩
            rw [hf, hq] at hml
            have hway : wayAt st k = (f : Int) := by unfold wayAt; rw [ht, hf]; rfl
            rw [hway] at hc3
            have hsub : (k : Int) - (f : Int) = (q : Int) := by omega
            have hqn : q < xs.length := by omega
            have hc4 : wr.cell? ⟨w.heap.size, q, none⟩ = some (padAt (marked xs st k) q) := hR.out.cell (tab_get _ hqn)
            rw [padAt] at hc4
            have hf4 := hR.out.free q
            have HQ := Lib.hid hq
            have hwq : IntKind.i64.wrap (q : Int) = q := by rw [IntKind.wrap_i64]; omega
            clear hcell hcell2 hcell3 hx hx2 hy ht hway hf hq hne hml
            go_wp2
            go_still_tail 12, (by kernel_rfl)
            go_wp2
            go_roundw
            case rel => exact ⟨k + 1, hlt, by go_num, by rw [HM.out, ← pad_step, HQ.out]; exact hR.out.set _ _, (hB.out.setCell (p := ⟨w.heap.size, q, none⟩) (Nat.le_refl _) _).drew, ⟨hW.out.os, hW.out.tape, hW.out.output, (grown_set hW.out _ _).size, (grown_set hW.out _ _).block⟩⟩
            case measure => simp [intOf]; omega
        · obtain rfl : k = xs.length := by omega
          go_wp2
          go_ret2
          exact HF.out _ hR.out hB.out
theorem spec_CompactRows_own (v : Value) (xs : List Int) (u : Value) (st : List Bool) (w : World) (h : Ints w v xs) (g : Bools w u st) (_ : xs.length ≤ 1048576) (_ : st.length ≤ 1048576) :
    Calls Tryd.prog 24 #[v, u] w fun e w' => ∃ v b, e = .returned (.tuple #[v, .bool (rowsOk xs st)]) ∧ OwnI w' b v (rowsV xs st) ∧ From w.heap.size b ∧ Below w.heap.size w w' :=
  (spec_CompactRows v xs u st w h g).mono fun _ _ h => intsBool_own h
end Go.Proofs.YtkekacnnjmbelaaDoor
