/- contracts of UnshuffleRows, both -/
import Derived.Test.YtficoknejnilmaaDoorShuf
import Derived.BigRegion
import Derived.StillTailTactics
namespace Go.Proofs.YtficoknejnilmaaDoor
open Go.RowKit
set_option maxHeartbeats 1000000 in
theorem impl_UnshuffleRows (v : Value) (xs : List Int) (u : Value) (ys : List Int) (w : World) (h : Ints w v xs) (g : Ints w u ys) : Calls Tryd.prog 15 #[v, u] w (IntsBoolPost (unshV xs ys) (shufOk xs ys) w) := by
  obtain ⟨i0, hi, hz0, hz1, hz2⟩ := info_parts Tryd.infoInt
  have H := Lib.hid h
  have G := Lib.hid g
  cases hk : shufOk xs ys with
  | false =>
    have HF : Hid (IntsBoolPost (unshV xs ys) false w (.returned (.tuple #[.slice none 0 0, .bool false])) w) := by
      unfold unshV; rw [hk]; exact ⟨_, rfl, Gr.nil _ _ _ _, Below.refl _ _⟩
    have HK := Lib.hid hk
    clear h g hk
    go_enter Tryd.func15, Tryd.ntmps15
    go_wp2_with (go_at_call 27; refine (shuffled_any _ xs _ ys _ H.out G.out).mono ?_; rw [HK.out]; rintro e w' ⟨rfl, rfl⟩)
    go_ret2
    exact HF.out
  | true =>
    have hlen : xs.length = ys.length ∧ ys.length ≤ 32 := by simp [shufOk] at hk; omega
    obtain ⟨n, hn⟩ : ∃ n, ys.length = n := ⟨_, rfl⟩
    have hn32 : n ≤ 32 := by omega
    have HN := Lib.hid hn
    have HXN : Hid (xs.length = n) := hlen.1.trans hn
    have HF : Hid (∀ w', Row w' w.heap.size 3 (tab n (fun i => Value.int .i64 (uF xs ys n i))) → Below w.heap.size w w' → IntsBoolPost (unshV xs ys) true w (.returned (.tuple #[.slice (some ⟨w.heap.size, 0, none⟩) n n, .bool true])) w') := fun w' hr hb => by
      unfold unshV; rw [hk, HXN.out]
      refine ⟨_, rfl, ?_, hb⟩
      rw [if_pos rfl, tab_length]
      exact Gr.of_made (by rw [ints_tabf]; exact hr) (by simp) (by unfold maxLen; omega) (Nat.le_refl _)
    have HK := Lib.hid hk
    have HO : Hid (ordV ys = natsI (ordI (tg ys) ys.length)) := ordV_ok hlen.2
    obtain ⟨ad, c, hv, hmax, hop⟩ := h.open
    subst hv
    have HOP := Lib.hid hop
    rw [HXN.out] at H HOP hmax ⊢
    unfold maxLen at hmax
    clear h g hk hlen hn hop
    go_enter Tryd.func15, Tryd.ntmps15
    go_wp2_with (first
      | (go_at_call 27; refine (shuffled_any _ xs _ ys _ H.out G.out).mono ?_; rw [HK.out]; rintro e w' ⟨rfl, rfl⟩)
      | (at_make; refine wpList_make_full _ rfl _ _ 23 rfl w.heap.size 3 i0 (.int .i64 0) 1 Tryd.underlying23 hi hz0 hz1 _ _ _ _ _ rfl rfl rfl rfl ?b2 ?b3 ?b4 ?_))
    case b2 => rw [hz2]; omega
    case b3 => unfold maxLen; omega
    case b4 => exact Nat.le_refl _
    · intro w1 hown hgrow
      have hrow := (row_of_own hown).1
      rw [made_tab, show tab n (fun _ => Value.int .i64 0) = tab n (fun i => Value.int .i64 (uF xs ys 0 i)) from tab_congr fun i _ => by unfold uF; rw [if_neg (by omega)]] at hrow
      have HR := Lib.hid hrow
      have HB : Hid (Below w.heap.size w w1) := (Below.refl _ _).grown hgrow (Nat.le_refl _) (by simp)
      clear hown hgrow hrow
      go_wp2_with (go_at_call 8; refine (impl_ShuffleOrder _ ys _ (G.out.mono HB.out (Nat.le_refl _))).mono ?_; rintro e w2 ⟨z, rfl, hg, hb⟩; rw [HO.out, natsI_length, ordI_length, HN.out] at hg; have HG := Lib.hid hg; have HR2 := Lib.hid (HR.out.mono hb HR.out.lt); have HB2 := nxt HB hb; have hz := HR.out.lt; obtain ⟨ad3, c3, hzz⟩ := hg.lit; subst hzz; clear hg hb HR HB)
      go_loopw [19] (fun i wr => ∃ k : Nat, k ≤ n ∧ i = .int .i64 k ∧ Hid (Row wr w.heap.size 3 (tab n (fun i => Value.int .i64 (uF xs ys k i)))) ∧ Hid (Below w.heap.size w wr) ∧ Hid (w2.grownBy wr (some w.heap.size))) (fun i _ => n - (intOf i).toNat)
      case atStart => exact ⟨0, Nat.zero_le _, rfl, HR2.out, HB2.out, grown_refl _ _⟩
      case round =>
        obtain ⟨k, hk, rfl, hR, hB, hW⟩ := hrel
        by_cases hlt : k < n
        · obtain ⟨g3, c4, hzq, hg3, _, _, _, hcl, _⟩ := HG.out.at (show 0 < n by omega)
          cases hzq
          have hol : oF ys k < n := by have := oF_lt (ys := ys) (k := k) (by rw [HN.out]; exact hlt); rwa [HN.out] at this
          obtain ⟨b, off, rfl, hcell⟩ := HOP.out k hlt
          have h1 := hcell k hlt
          have h2 : wr.cell? ⟨g3, k, none⟩ = some (.int .i64 (oF ys k : Int)) := by
            have q := hcl k _ (by have := ord_cell ys (k := k) (by rw [HN.out]; exact hlt); rwa [HN.out] at this)
            exact hW.out.cell q (fun e => by have := Option.some.inj e; simp at this; omega)
          have h1 : wr.cell? ⟨b, off + k, none⟩ = some (.int .i64 (tg xs k)) := by
            have q := World.block_lt_of_cell? w _ h1
            exact (hB.out.cell (p := ⟨b, off + k, none⟩) q).trans h1
          have h3 := hR.out.cell (tab_get (fun i => Value.int .i64 (uF xs ys k i)) hol)
          have HM : Hid ((tab n (fun i => Value.int .i64 (uF xs ys k i))).set (oF ys k) (.int .i64 (tg xs k)) = tab n (fun i => Value.int .i64 (uF xs ys (k + 1) i))) := uF_step HN.out hlt
          have HM2 : Hid (Row (wr.setCell ⟨w.heap.size, oF ys k, none⟩ (.int .i64 (tg xs k))) w.heap.size 3 (tab n (fun i => Value.int .i64 (uF xs ys (k + 1) i)))) := by rw [← HM.out]; exact hR.out.set _ _
          have hfr := hR.out.free (oF ys k)
          obtain ⟨y, hy⟩ : ∃ y, oF ys k = y := ⟨_, rfl⟩
          obtain ⟨x, hx⟩ : ∃ x, tg xs k = x := ⟨_, rfl⟩
          obtain ⟨z0, hz0⟩ : ∃ z0, uF xs ys k y = z0 := ⟨_, rfl⟩
          rw [hy] at h2 h3 hol hfr HM2
          rw [hx] at h1 HM2
          rw [hz0] at h3
          have z1 : (y : Int) < n := by omega
          clear hcell hcl hy hx hz0 HM
          go_wp2
          go_roundw
          case rel => exact ⟨k + 1, hlt, by go_num, HM2.out, hB.out.setCell (p := ⟨w.heap.size, y, none⟩) (Nat.le_refl _) _, grown_set hW.out _ _⟩
          case measure => simp [intOf]; omega
        · obtain rfl : k = n := by omega
          go_wp2
          go_ret2
          exact HF.out _ hR.out hB.out
theorem impl_UnshuffleRows_own (v : Value) (xs : List Int) (u : Value) (ys : List Int) (w : World) (h : Ints w v xs) (g : Ints w u ys) (_ : xs.length ≤ 1048576) (_ : ys.length ≤ 1048576) :
    Calls Tryd.prog 15 #[v, u] w fun e w' => ∃ v b, e = .returned (.tuple #[v, .bool (shufOk xs ys)]) ∧ OwnI w' b v (unshV xs ys) ∧ From w.heap.size b ∧ Below w.heap.size w w' :=
  (impl_UnshuffleRows v xs u ys w h g).mono fun _ _ h => intsBool_own h
set_option maxHeartbeats 1000000 in
theorem spec_UnshuffleRows (v : Value) (xs : List Int) (u : Value) (ys : List Int) (w : World) (h : Ints w v xs) (g : Ints w u ys) : Calls Tryd.prog 17 #[v, u] w (IntsBoolPost (unshV xs ys) (shufOk xs ys) w) := by
  obtain ⟨i0, hi, hz0, hz1, hz2⟩ := info_parts Tryd.infoInt
  have H := Lib.hid h
  have G := Lib.hid g
  obtain ⟨ad, c, hv, hmax, hop⟩ := h.open
  obtain ⟨ad2, c2, hu, _, _⟩ := g.open
  subst hv hu
  unfold maxLen at hmax
  have HOP := Lib.hid hop
  clear h g hop
  cases hk : shufOk xs ys with
  | false =>
    have HF : Hid (IntsBoolPost (unshV xs ys) false w (.returned (.tuple #[.slice (some ⟨w.heap.size, 0, none⟩) 0 0, .bool false])) (w.alloc (.cells #[] 3))) := by
      unfold unshV; rw [hk]; exact ⟨_, rfl, Gr.none0 _ _ _ _ _, (Below.refl _ _).alloc (Nat.le_refl _) _⟩
    by_cases h1 : 32 < ys.length
    · have e1 : (32 : Int) < ys.length := by omega
      clear hk
      go_enter Tryd.func17, Tryd.ntmps17
      go_wp2
      go_ret2
      exact HF.out
    · have e1 : decide ((ys.length : Int) > 32) = false := by simp; omega
      have e1' : decide ((32 : Int) < ys.length) = false := by simp; omega
      have e1'' : decide (32 < ys.length) = false := by simp; omega
      have e2 : ((xs.length : Int) != (ys.length : Int)) = true := by
        simp [shufOk] at hk
        simp
        omega
      clear hk h1
      go_enter Tryd.func17, Tryd.ntmps17
      go_wp2
      go_ret2
      exact HF.out
  | true =>
    have hlen : xs.length = ys.length ∧ ys.length ≤ 32 := by simp [shufOk] at hk; omega
    obtain ⟨n, hn⟩ : ∃ n, ys.length = n := ⟨_, rfl⟩
    have hn32 : n ≤ 32 := by omega
    have HN := Lib.hid hn
    have HXN : Hid (xs.length = n) := hlen.1.trans hn
    have HF : Hid (∀ w', Row w' w.heap.size 3 (tab n (fun i => Value.int .i64 (uF xs ys n i))) → Below w.heap.size w w' → IntsBoolPost (unshV xs ys) true w (.returned (.tuple #[.slice (some ⟨w.heap.size, 0, none⟩) n n, .bool true])) w') := fun w' hr hb => by
      unfold unshV; rw [hk, HXN.out]
      refine ⟨_, rfl, ?_, hb⟩
      rw [if_pos rfl, tab_length]
      exact Gr.of_made (by rw [ints_tabf]; exact hr) (by simp) (by unfold maxLen; omega) (Nat.le_refl _)
    have HO : Hid (ordV ys = natsI (ordI (tg ys) ys.length)) := ordV_ok hlen.2
    rw [HXN.out] at H HOP hmax ⊢
    rw [hn] at G ⊢
    have e1 : decide ((n : Int) > 32) = false := by simp; omega
    have e1' : decide ((32 : Int) < n) = false := by simp; omega
    have e1'' : decide (32 < n) = false := by simp; omega
    have e2 : ((n : Int) != (n : Int)) = false := by simp
    clear hk hlen hn
    go_enter Tryd.func17, Tryd.ntmps17
    go_wp2_with (at_make; refine wpList_make_full _ rfl _ _ 23 rfl w.heap.size 3 i0 (.int .i64 0) 1 Tryd.underlying23 hi hz0 hz1 _ _ _ _ _ rfl rfl rfl rfl ?b2 ?b3 ?b4 ?_)
    case b2 => rw [hz2]; omega
    case b3 => unfold maxLen; omega
    case b4 => exact Nat.le_refl _
    · intro w1 hown hgrow
      have hrow := (row_of_own hown).1
      rw [made_tab, show tab n (fun _ => Value.int .i64 0) = tab n (fun i => Value.int .i64 (uF xs ys 0 i)) from tab_congr fun i _ => by unfold uF; rw [if_neg (by omega)]] at hrow
      have HR := Lib.hid hrow
      have HB : Hid (Below w.heap.size w w1) := (Below.refl _ _).grown hgrow (Nat.le_refl _) (by simp)
      clear hown hgrow hrow
      go_wp2_with (go_at_call 10; refine (spec_ShuffleOrder _ ys _ (G.out.mono HB.out (Nat.le_refl _))).mono ?_; rintro e w2 ⟨z, rfl, hg, hb⟩; rw [HO.out, natsI_length, ordI_length, HN.out] at hg; have HG := Lib.hid hg; have HR2 := Lib.hid (HR.out.mono hb HR.out.lt); have HB2 := nxt HB hb; have hz := HR.out.lt; obtain ⟨ad3, c3, hzz⟩ := hg.lit; subst hzz; clear hg hb HR HB)
      go_loopw [8] (fun i wr => ∃ k : Nat, k ≤ n ∧ i = .int .i64 k ∧ Hid (Row wr w.heap.size 3 (tab n (fun i => Value.int .i64 (uF xs ys k i)))) ∧ Hid (Below w.heap.size w wr) ∧ Hid (w2.grownBy wr (some w.heap.size))) (fun i _ => n - (intOf i).toNat)
      case atStart => exact ⟨0, Nat.zero_le _, rfl, HR2.out, HB2.out, grown_refl _ _⟩
      case round =>
        obtain ⟨k, hk, rfl, hR, hB, hW⟩ := hrel
        by_cases hlt : k < n
        · obtain ⟨g3, c4, hzq, hg3, _, _, _, hcl, _⟩ := HG.out.at (show 0 < n by omega)
          cases hzq
          have hol : oF ys k < n := by have := oF_lt (ys := ys) (k := k) (by rw [HN.out]; exact hlt); rwa [HN.out] at this
          obtain ⟨b, off, rfl, hcell⟩ := HOP.out k hlt
          have h1 := hcell k hlt
          have h2 : wr.cell? ⟨g3, k, none⟩ = some (.int .i64 (oF ys k : Int)) := by
            have q := hcl k _ (by have := ord_cell ys (k := k) (by rw [HN.out]; exact hlt); rwa [HN.out] at this)
            exact hW.out.cell q (fun e => by have := Option.some.inj e; simp at this; omega)
          have h1 : wr.cell? ⟨b, off + k, none⟩ = some (.int .i64 (tg xs k)) := by
            have q := World.block_lt_of_cell? w _ h1
            exact (hB.out.cell (p := ⟨b, off + k, none⟩) q).trans h1
          have h3 := hR.out.cell (tab_get (fun i => Value.int .i64 (uF xs ys k i)) hol)
          have HM : Hid ((tab n (fun i => Value.int .i64 (uF xs ys k i))).set (oF ys k) (.int .i64 (tg xs k)) = tab n (fun i => Value.int .i64 (uF xs ys (k + 1) i))) := uF_step HN.out hlt
          have HM2 : Hid (Row (wr.setCell ⟨w.heap.size, oF ys k, none⟩ (.int .i64 (tg xs k))) w.heap.size 3 (tab n (fun i => Value.int .i64 (uF xs ys (k + 1) i)))) := by rw [← HM.out]; exact hR.out.set _ _
          have hfr := hR.out.free (oF ys k)
          obtain ⟨y, hy⟩ : ∃ y, oF ys k = y := ⟨_, rfl⟩
          obtain ⟨x, hx⟩ : ∃ x, tg xs k = x := ⟨_, rfl⟩
          obtain ⟨z0, hz0⟩ : ∃ z0, uF xs ys k y = z0 := ⟨_, rfl⟩
          rw [hy] at h2 h3 hol hfr HM2
          rw [hx] at h1 HM2
          rw [hz0] at h3
          have z1 : (y : Int) < n := by omega
          clear hcell hcl hy hx hz0 HM
          go_wp2_with fail
          go_big_region
          all_goals go_wp2
          all_goals go_roundw
          case rel => exact ⟨k + 1, hlt, by go_num, HM2.out, (hB.out.setCell (p := ⟨w.heap.size, y, none⟩) (Nat.le_refl _) _).drew, ⟨hW.out.os, hW.out.tape, hW.out.output, (grown_set hW.out _ _).size, (grown_set hW.out _ _).block⟩⟩
          case measure => simp [intOf]; omega
        · obtain rfl : k = n := by omega
          go_wp2
          go_ret2
          exact HF.out _ hR.out hB.out
theorem spec_UnshuffleRows_own (v : Value) (xs : List Int) (u : Value) (ys : List Int) (w : World) (h : Ints w v xs) (g : Ints w u ys) (_ : xs.length ≤ 1048576) (_ : ys.length ≤ 1048576) :
    Calls Tryd.prog 17 #[v, u] w fun e w' => ∃ v b, e = .returned (.tuple #[v, .bool (shufOk xs ys)]) ∧ OwnI w' b v (unshV xs ys) ∧ From w.heap.size b ∧ Below w.heap.size w w' :=
  (spec_UnshuffleRows v xs u ys w h g).mono fun _ _ h => intsBool_own h
end Go.Proofs.YtficoknejnilmaaDoor
