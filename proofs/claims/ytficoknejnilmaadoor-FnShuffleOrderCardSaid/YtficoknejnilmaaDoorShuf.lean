/- contracts of ShuffleRows and UnshuffleRows, both -/
import Derived.Test.YtficoknejnilmaaDoorShufS
namespace Go.Proofs.YtficoknejnilmaaDoor
open Go.RowKit
def shufOk (xs ys : List Int) : Bool := decide (xs.length = ys.length) && decide (xs.length ≤ 32)
/-- the place that comes k-th -/
def oF (ys : List Int) (k : Nat) : Nat := (ordI (tg ys) ys.length).getD k 0
def shufV (xs ys : List Int) : List Int := if shufOk xs ys then tab xs.length (fun k => tg xs (oF ys k)) else []
/-- the first k values, put back -/
def uF (xs ys : List Int) (k i : Nat) : Int := if (ordI (tg ys) ys.length).idxOf i < k then tg xs ((ordI (tg ys) ys.length).idxOf i) else 0
def unshV (xs ys : List Int) : List Int := if shufOk xs ys then tab xs.length (uF xs ys xs.length) else []
theorem shufV_le (xs ys : List Int) : (shufV xs ys).length ≤ 32 := by
  unfold shufV; split
  · rename_i h; simp [shufOk] at h; simp; exact h.2
  · simp
theorem unshV_le (xs ys : List Int) : (unshV xs ys).length ≤ 32 := by
  unfold unshV; split
  · rename_i h; simp [shufOk] at h; simp; exact h.2
  · simp
theorem oF_lt {ys : List Int} {k : Nat} (h : k < ys.length) : oF ys k < ys.length := by
  unfold oF
  have hl := ordI_length (tg ys) ys.length
  rw [List.getD_eq_getElem?_getD, List.getElem?_eq_getElem (by omega), Option.getD_some]
  exact ordI_mem.1 (List.getElem_mem _)
theorem oF_idx {ys : List Int} {k : Nat} (h : k < ys.length) : (ordI (tg ys) ys.length).idxOf (oF ys k) = k := by
  unfold oF
  have hl := ordI_length (tg ys) ys.length
  have hk : k < (ordI (tg ys) ys.length).length := by omega
  rw [List.getD_eq_getElem?_getD, List.getElem?_eq_getElem hk, Option.getD_some]
  have hd := ordI_sorted (tg ys) ys.length
  have hmem := List.getElem_mem hk
  have h1 := List.idxOf_lt_length_of_mem hmem
  have h2 := List.getElem_idxOf h1
  rcases Nat.lt_trichotomy ((ordI (tg ys) ys.length).idxOf (ordI (tg ys) ys.length)[k]) k with c | c | c
  · have := (List.pairwise_iff_getElem.1 hd) _ _ h1 hk c
    rw [h2] at this; exact (this.irrefl this).elim
  · exact c
  · have := (List.pairwise_iff_getElem.1 hd) _ _ hk h1 c
    rw [h2] at this; exact (this.irrefl this).elim
theorem uF_zero (xs ys : List Int) (n : Nat) : tab n (uF xs ys 0) = tab n (fun _ => 0) := tab_congr fun i _ => by unfold uF; rw [if_neg (by omega)]
theorem uF_step {xs ys : List Int} {n k : Nat} (hn : ys.length = n) (h : k < n) : (tab n (fun i => Value.int .i64 (uF xs ys k i))).set (oF ys k) (.int .i64 (tg xs k)) = tab n (fun i => Value.int .i64 (uF xs ys (k + 1) i)) := by
  subst hn
  rw [tab_set]
  refine tab_congr fun i hi => ?_
  have hm : i ∈ ordI (tg ys) ys.length := ordI_mem.2 hi
  by_cases e : i = oF ys k
  · subst e
    rw [if_pos rfl]
    unfold uF
    rw [oF_idx h, if_pos (by omega)]
  · rw [if_neg e]
    have hne : (ordI (tg ys) ys.length).idxOf i ≠ k := fun q => e (by
      have h1 := List.getElem_idxOf (List.idxOf_lt_length_of_mem hm)
      unfold oF
      rw [← q, List.getD_eq_getElem?_getD, List.getElem?_eq_getElem (List.idxOf_lt_length_of_mem hm), Option.getD_some, h1])
    unfold uF
    by_cases c : (ordI (tg ys) ys.length).idxOf i < k
    · rw [if_pos c, if_pos (by omega)]
    · rw [if_neg c, if_neg (by omega)]
theorem ord_cell (ys : List Int) {k : Nat} (h : k < ys.length) : (ints (natsI (ordI (tg ys) ys.length)))[k]? = some (.int .i64 (oF ys k : Int)) := by
  have := nats_get (xs := ordI (tg ys) ys.length) (i := k) (by rw [ordI_length]; exact h) []
  rwa [List.append_nil, nats_natsI] at this
theorem ordV_ok {ys : List Int} (h : ys.length ≤ 32) : ordV ys = natsI (ordI (tg ys) ys.length) := if_pos h
theorem shuffled_any (v : Value) (xs : List Int) (u : Value) (ys : List Int) (w : World) (h : Ints w v xs) (g : Ints w u ys) : Calls Tryd.prog 27 #[v, u] w fun e w' => e = .returned (.bool (shufOk xs ys)) ∧ w = w' := by
  obtain ⟨ad, c, rfl, _, _⟩ := h.open
  obtain ⟨ad2, c2, rfl, _, _⟩ := g.open
  clear h g
  by_cases h1 : xs.length = ys.length
  · by_cases h2 : xs.length ≤ 32
    · have HF : Hid (shufOk xs ys = true) := by simp [Hid, shufOk, h1]; omega
      have e1 : ((xs.length : Int) == (ys.length : Int)) = true := by simp; omega
      have e2 : decide ((xs.length : Int) ≤ 32) = true := by simp; omega
      have e3 : (xs.length : Int) ≤ 32 := by omega
      clear h1
      go_enter Tryd.func27, Tryd.ntmps27
      go_wp2
      go_ret
      exact ⟨ret_bool HF.out.symm, rfl⟩
    · have HF : Hid (shufOk xs ys = false) := by simp [Hid, shufOk, h1]; omega
      have e1 : ((xs.length : Int) == (ys.length : Int)) = true := by simp; omega
      have e2 : decide ((xs.length : Int) ≤ 32) = false := by simp; omega
      have e3 : ¬ (xs.length : Int) ≤ 32 := by omega
      clear h1
      go_enter Tryd.func27, Tryd.ntmps27
      go_wp2
      go_ret
      exact ⟨ret_bool HF.out.symm, rfl⟩
  · have HF : Hid (shufOk xs ys = false) := by simp [Hid, shufOk, h1]
    have e1 : ((xs.length : Int) == (ys.length : Int)) = false := by simp; omega
    go_enter Tryd.func27, Tryd.ntmps27
    go_wp2
    go_ret
    exact ⟨ret_bool HF.out.symm, rfl⟩
set_option maxHeartbeats 1000000 in
theorem impl_ShuffleRows (v : Value) (xs : List Int) (u : Value) (ys : List Int) (w : World) (h : Ints w v xs) (g : Ints w u ys) : Calls Tryd.prog 13 #[v, u] w (IntsBoolPost (shufV xs ys) (shufOk xs ys) w) := by
  have H := Lib.hid h
  have G := Lib.hid g
  cases hk : shufOk xs ys with
  | false =>
    have HF : Hid (IntsBoolPost (shufV xs ys) false w (.returned (.tuple #[.slice none 0 0, .bool false])) w) := by
      unfold shufV; rw [hk]; exact ⟨_, rfl, Gr.nil _ _ _ _, Below.refl _ _⟩
    have HK := Lib.hid hk
    clear h g hk
    go_enter Tryd.func13, Tryd.ntmps13
    go_wp2_with (go_at_call 27; refine (shuffled_any _ xs _ ys _ H.out G.out).mono ?_; rw [HK.out]; rintro e w' ⟨rfl, rfl⟩)
    go_ret2
    exact HF.out
  | true =>
    have hlen : xs.length = ys.length ∧ ys.length ≤ 32 := by simp [shufOk] at hk; omega
    obtain ⟨n, hn⟩ : ∃ n, ys.length = n := ⟨_, rfl⟩
    have hn32 : n ≤ 32 := by omega
    have HN := Lib.hid hn
    have HXN : Hid (xs.length = n) := hlen.1.trans hn
    have HF : Hid (∀ u w', Gr w' w.heap.size 3 1 u n (ints (tab n (fun k => tg xs (oF ys k)))) → Below w.heap.size w w' → IntsBoolPost (shufV xs ys) true w (.returned (.tuple #[u, .bool true])) w') := fun u w' hg hb => by
      unfold shufV; rw [hk, HXN.out]; exact ⟨u, rfl, by rw [if_pos rfl, tab_length]; exact hg, hb⟩
    have HK := Lib.hid hk
    have HO : Hid (ordV ys = natsI (ordI (tg ys) ys.length)) := ordV_ok hlen.2
    obtain ⟨ad, c, hv, hmax, hop⟩ := h.open
    subst hv
    have HOP := Lib.hid hop
    rw [HXN.out] at H HOP hmax ⊢
    unfold maxLen at hmax
    clear h g hk hlen hn hop
    go_enter Tryd.func13, Tryd.ntmps13
    go_wp2_with (first
      | (go_at_call 27; refine (shuffled_any _ xs _ ys _ H.out G.out).mono ?_; rw [HK.out]; rintro e w' ⟨rfl, rfl⟩)
      | (go_at_call 8; refine (impl_ShuffleOrder _ ys _ G.out).mono ?_; rintro e w1 ⟨z, rfl, hg, hb⟩; rw [HO.out, natsI_length, ordI_length, HN.out] at hg; have HG := Lib.hid hg; have HB := Lib.hid hb; obtain ⟨ad3, c3, hz⟩ := hg.lit; subst hz; clear hg hb))
    go_loopw [6, 16] (fun u i wr => ∃ k : Nat, k ≤ n ∧ i = .int .i64 k ∧ Hid (Gr wr w1.heap.size 3 1 u k (ints (tab k (fun k => tg xs (oF ys k))))) ∧ Hid (Below w1.heap.size w1 wr)) (fun _ i _ => n - (intOf i).toNat)
    case atStart => exact ⟨0, Nat.zero_le _, rfl, Gr.nil _ _ _ _, Below.refl _ _⟩
    case round =>
      obtain ⟨k, hk, rfl, hG, hB⟩ := hrel
      by_cases hlt : k < n
      · obtain ⟨g3, c4, hz, _, _, _, _, hcl, _⟩ := HG.out.at (show 0 < n by omega)
        cases hz
        have hol : oF ys k < n := by have := oF_lt (ys := ys) (k := k) (by rw [HN.out]; exact hlt); rwa [HN.out] at this
        obtain ⟨b, off, rfl, hcell⟩ := HOP.out (oF ys k) hol
        have h1 := hcell (oF ys k) hol
        have h2 : wr.cell? ⟨g3, k, none⟩ = some (.int .i64 (oF ys k : Int)) := by
          have q := hcl k _ (by have := ord_cell ys (k := k) (by rw [HN.out]; exact hlt); rwa [HN.out] at this)
          exact (hB.out.cell (p := ⟨g3, k, none⟩) (World.block_lt_of_cell? w1 _ q)).trans q
        have h1 : wr.cell? ⟨b, off + oF ys k, none⟩ = some (.int .i64 (tg xs (oF ys k))) := by
          have q := World.block_lt_of_cell? w _ h1
          exact (hB.out.cell (p := ⟨b, off + oF ys k, none⟩) (Nat.lt_of_lt_of_le q HB.out.size)).trans ((HB.out.cell (p := ⟨b, off + oF ys k, none⟩) q).trans h1)
        obtain ⟨y, hy⟩ : ∃ y, oF ys k = y := ⟨_, rfl⟩
        obtain ⟨x, hx⟩ : ∃ x, tg xs y = x := ⟨_, rfl⟩
        have HA : Hid (ints (tab k (fun k => tg xs (oF ys k))) ++ [.int .i64 x] = ints (tab (k + 1) (fun k => tg xs (oF ys k)))) := tabI_snoc (by rw [hy, hx])
        rw [hy] at h1 h2 hol
        rw [hx] at h1
        have hsz := hB.out.size
        have z1 : (y : Int) < n := by omega
        clear hcell hcl hy hx
        go_wp2_with (at_builtin; refine wpList_app _ rfl (.tmp 20) (.tmp 25) 23 rfl w1.heap.size 3 (.int .i64 0) 1 8 Tryd.underlying23 Tryd.infoInt rfl (by omega) u6 k (ints (tab k (fun k => tg xs (oF ys k)))) rfl (hG.out.alloc _) _ 1 [.int .i64 x] rfl (view_one _ _ _) (by simp [Value.oneCell']) (by unfold maxLen; omega) (by omega) (by simp; omega) ?_; intro v1 w2 g1 r1 k1; have G1 := Lib.hid g1; have R1 := Lib.hid r1; clear g1 r1 k1)
        go_roundw
        case rel => exact ⟨k + 1, hlt, by go_num, by rw [← HA.out]; exact G1.out, (hB.out.alloc hsz _).grown R1.out (by simp; omega) (fun g hg => (hG.out.lt g hg).1)⟩
        case measure => simp [intOf]; omega
      · obtain rfl : k = n := by omega
        go_wp2
        go_ret2
        exact HF.out _ _ (hG.out.low HB.out.size) (HB.out.trans (hB.out.mono HB.out.size))
theorem impl_ShuffleRows_own (v : Value) (xs : List Int) (u : Value) (ys : List Int) (w : World) (h : Ints w v xs) (g : Ints w u ys) (_ : xs.length ≤ 1048576) (_ : ys.length ≤ 1048576) :
    Calls Tryd.prog 13 #[v, u] w fun e w' => ∃ v b, e = .returned (.tuple #[v, .bool (shufOk xs ys)]) ∧ OwnI w' b v (shufV xs ys) ∧ From w.heap.size b ∧ Below w.heap.size w w' :=
  (impl_ShuffleRows v xs u ys w h g).mono fun _ _ h => intsBool_own h
set_option maxHeartbeats 1000000 in
theorem spec_ShuffleRows (v : Value) (xs : List Int) (u : Value) (ys : List Int) (w : World) (h : Ints w v xs) (g : Ints w u ys) : Calls Tryd.prog 14 #[v, u] w (IntsBoolPost (shufV xs ys) (shufOk xs ys) w) := by
  have H := Lib.hid h
  have G := Lib.hid g
  obtain ⟨ad, c, hv, hmax, hop⟩ := h.open
  obtain ⟨ad2, c2, hu, _, _⟩ := g.open
  subst hv hu
  unfold maxLen at hmax
  have HOP := Lib.hid hop
  have HB0 : Hid (Below w.heap.size w (w.alloc (.cells #[] 3))) := (Below.refl _ _).alloc (Nat.le_refl _) _
  clear h g hop
  cases hk : shufOk xs ys with
  | false =>
    have HF : Hid (IntsBoolPost (shufV xs ys) false w (.returned (.tuple #[.slice (some ⟨w.heap.size, 0, none⟩) 0 0, .bool false])) (w.alloc (.cells #[] 3))) := by
      unfold shufV; rw [hk]; exact ⟨_, rfl, Gr.none0 _ _ _ _ _, HB0.out⟩
    by_cases h1 : 32 < ys.length
    · have e1 : (32 : Int) < ys.length := by omega
      clear hk
      go_enter Tryd.func14, Tryd.ntmps14
      go_wp2
      go_ret2
      exact HF.out
    · have e1 : decide ((ys.length : Int) > 32) = false := by simp; omega
      have e1' : decide ((32 : Int) < ys.length) = false := by simp; omega
      have e1'' : decide (32 < ys.length) = false := by simp; omega
      have e2 : ((xs.length : Int) != (ys.length : Int)) = true := by
        simp [shufOk] at hk
        simp
        omega
      clear hk h1
      go_enter Tryd.func14, Tryd.ntmps14
      go_wp2
      go_ret2
      exact HF.out
  | true =>
    have hlen : xs.length = ys.length ∧ ys.length ≤ 32 := by simp [shufOk] at hk; omega
    obtain ⟨n, hn⟩ : ∃ n, ys.length = n := ⟨_, rfl⟩
    have hn32 : n ≤ 32 := by omega
    have HN := Lib.hid hn
    have HXN : Hid (xs.length = n) := hlen.1.trans hn
    have HF : Hid (∀ u w', Gr w' w.heap.size 3 1 u n (ints (tab n (fun k => tg xs (oF ys k)))) → Below w.heap.size w w' → IntsBoolPost (shufV xs ys) true w (.returned (.tuple #[u, .bool true])) w') := fun u w' hg hb => by
      unfold shufV; rw [hk, HXN.out]; exact ⟨u, rfl, by rw [if_pos rfl, tab_length]; exact hg, hb⟩
    have HO : Hid (ordV ys = natsI (ordI (tg ys) ys.length)) := ordV_ok hlen.2
    rw [HXN.out] at H HOP hmax ⊢
    rw [hn] at G ⊢
    have e1 : decide ((n : Int) > 32) = false := by simp; omega
    have e1' : decide ((32 : Int) < n) = false := by simp; omega
    have e1'' : decide (32 < n) = false := by simp; omega
    have e2 : ((n : Int) != (n : Int)) = false := by simp
    clear hk hlen hn
    go_enter Tryd.func14, Tryd.ntmps14
    go_wp2_with (go_at_call 10; refine (spec_ShuffleOrder _ ys _ (G.out.mono HB0.out (Nat.le_refl _))).mono ?_; rintro e w1 ⟨z, rfl, hg, hb⟩; rw [HO.out, natsI_length, ordI_length, HN.out] at hg; have HG := Lib.hid hg; have HB := nxt HB0 hb; obtain ⟨ad3, c3, hz⟩ := hg.lit; subst hz; clear hg hb)
    go_loopw [6, 8] (fun u i wr => ∃ k : Nat, k ≤ n ∧ i = .int .i64 k ∧ Hid (Gr wr w1.heap.size 3 1 u k (ints (tab k (fun k => tg xs (oF ys k))))) ∧ Hid (Below w1.heap.size w1 wr)) (fun _ i _ => n - (intOf i).toNat)
    case atStart => exact ⟨0, Nat.zero_le _, rfl, Gr.none0 _ _ _ _ _, Below.refl _ _⟩
    case round =>
      obtain ⟨k, hk, rfl, hG, hB⟩ := hrel
      by_cases hlt : k < n
      · obtain ⟨g3, c4, hz, _, _, _, _, hcl, _⟩ := HG.out.at (show 0 < n by omega)
        cases hz
        have hol : oF ys k < n := by have := oF_lt (ys := ys) (k := k) (by rw [HN.out]; exact hlt); rwa [HN.out] at this
        obtain ⟨b, off, rfl, hcell⟩ := HOP.out (oF ys k) hol
        have h1 := hcell (oF ys k) hol
        have h2 : wr.cell? ⟨g3, k, none⟩ = some (.int .i64 (oF ys k : Int)) := by
          have q := hcl k _ (by have := ord_cell ys (k := k) (by rw [HN.out]; exact hlt); rwa [HN.out] at this)
          exact (hB.out.cell (p := ⟨g3, k, none⟩) (World.block_lt_of_cell? w1 _ q)).trans q
        have h1 : wr.cell? ⟨b, off + oF ys k, none⟩ = some (.int .i64 (tg xs (oF ys k))) := by
          have q := World.block_lt_of_cell? w _ h1
          exact (hB.out.cell (p := ⟨b, off + oF ys k, none⟩) (Nat.lt_of_lt_of_le q HB.out.size)).trans ((HB.out.cell (p := ⟨b, off + oF ys k, none⟩) q).trans h1)
        obtain ⟨y, hy⟩ : ∃ y, oF ys k = y := ⟨_, rfl⟩
        obtain ⟨x, hx⟩ : ∃ x, tg xs y = x := ⟨_, rfl⟩
        have HA : Hid (ints (tab k (fun k => tg xs (oF ys k))) ++ [.int .i64 x] = ints (tab (k + 1) (fun k => tg xs (oF ys k)))) := tabI_snoc (by rw [hy, hx])
        rw [hy] at h1 h2 hol
        rw [hx] at h1
        have hsz := hB.out.size
        have z1 : (y : Int) < n := by omega
        clear hcell hcl hy hx
        go_wp2_with (at_builtin; refine wpList_app _ rfl (.tmp 29) (.tmp 37) 23 rfl w1.heap.size 3 (.int .i64 0) 1 8 Tryd.underlying23 Tryd.infoInt rfl (by omega) u6 k (ints (tab k (fun k => tg xs (oF ys k)))) rfl (hG.out.alloc _) _ 1 [.int .i64 x] rfl (view_one _ _ _) (by simp [Value.oneCell']) (by unfold maxLen; omega) (by omega) (by simp; omega) ?_; intro v1 w2 g1 r1 k1; have G1 := Lib.hid g1; have R1 := Lib.hid r1; clear g1 r1 k1)
        go_roundw
        case rel => exact ⟨k + 1, hlt, by go_num, by rw [← HA.out]; exact G1.out, (hB.out.alloc hsz _).grown R1.out (by simp; omega) (fun g hg => (hG.out.lt g hg).1)⟩
        case measure => simp [intOf]; omega
      · obtain rfl : k = n := by omega
        go_wp2
        go_ret2
        exact HF.out _ _ (hG.out.low HB.out.size) (HB.out.trans (hB.out.mono HB.out.size))
theorem spec_ShuffleRows_own (v : Value) (xs : List Int) (u : Value) (ys : List Int) (w : World) (h : Ints w v xs) (g : Ints w u ys) (_ : xs.length ≤ 1048576) (_ : ys.length ≤ 1048576) :
    Calls Tryd.prog 14 #[v, u] w fun e w' => ∃ v b, e = .returned (.tuple #[v, .bool (shufOk xs ys)]) ∧ OwnI w' b v (shufV xs ys) ∧ From w.heap.size b ∧ Below w.heap.size w w' :=
  (spec_ShuffleRows v xs u ys w h g).mono fun _ _ h => intsBool_own h
end Go.Proofs.YtficoknejnilmaaDoor
