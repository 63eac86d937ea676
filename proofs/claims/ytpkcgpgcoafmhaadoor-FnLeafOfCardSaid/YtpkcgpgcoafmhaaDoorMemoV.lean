/- memories: views of them, and contracts of the small functions -/
import Derived.Test.YtpkcgpgcoafmhaaDoorBlk
import Derived.Test.YtpkcgpgcoafmhaaDoorRes
import Derived.Test.YtpkcgpgcoafmhaaDoorScal
import Derived.Test.YtpkcgpgcoafmhaaDoorInts
import Derived.Test.YtpkcgpgcoafmhaaDoorPerm
namespace Go.Proofs.YtpkcgpgcoafmhaaDoor
open Go.RowKit
theorem Tryd.infoBlk : (Tryd.prog.info? 44).map (fun i => (i.zero, i.size, i.bytes)) = some (some (.agg #[.int .i64 0, .int .i64 0, .int .i64 0]), 3, 24) := by kernel_rfl
theorem Tryd.infoBlks : (Tryd.prog.info? 24).map (fun i => (i.zero, i.size, i.bytes)) = some (some (.slice none 0 0), 1, 24) := by kernel_rfl
theorem viewCells {w : World} {v : Value} {n : Nat} {vs : Nat → Value} (h : View w 1 v n (tab n vs)) : ∃ ad c, v = .slice ad n c ∧ n ≤ maxLen ∧ ∀ i, i < n → ∃ b off, ad = some ⟨b, off, none⟩ ∧ ∀ i, i < n → w.cell? ⟨b, off + i, none⟩ = some (vs i) := by
  obtain ⟨h1, h2, ⟨h3, a, c, hv⟩ | ⟨h3, b, off, c, hv, hc, hcell⟩⟩ := h
  · rw [h3]; exact ⟨a, c, hv, Nat.zero_le _, fun i hi => by omega⟩
  · exact ⟨_, c, hv, h2, fun i hi => ⟨b, off, rfl, fun i hi => hcell i _ (tab_get _ hi)⟩⟩
/-- n lists of blocks -/
def BlkSs (w : World) (v : Value) (n : Nat) (f : Nat → List (Int × Int × Int)) : Prop := ∃ vs : Nat → Value, View w 1 v n (tab n vs) ∧ ∀ i, i < n → Blks w (vs i) (f i)
theorem BlkSs.mono {w w' : World} {v n f} (h : BlkSs w v n f) {B : Nat} (hb : Below B w w') (hB : w.heap.size ≤ B) : BlkSs w' v n f := by
  obtain ⟨vs, h1, h2⟩ := h
  exact ⟨vs, h1.mono hb hB, fun i hi => (h2 i hi).mono hb hB⟩
theorem BlkSs.open {w : World} {v n f} (h : BlkSs w v n f) : ∃ ad c, v = .slice ad n c ∧ n ≤ maxLen ∧ ∀ i, i < n → ∃ b off, ad = some ⟨b, off, none⟩ ∧ ∀ i, i < n → ∃ a' c', w.cell? ⟨b, off + i, none⟩ = some (.slice a' (f i).length c') ∧ Blks w (.slice a' (f i).length c') (f i) := by
  obtain ⟨vs, h1, h2⟩ := h
  obtain ⟨ad, c, hv, hm, hc⟩ := viewCells h1
  refine ⟨ad, c, hv, hm, fun i hi => ?_⟩
  obtain ⟨b, off, hb, hcell⟩ := hc i hi
  refine ⟨b, off, hb, fun i hi => ?_⟩
  have h3 := hcell i hi
  have h4 := h2 i hi
  obtain ⟨a', c', he, _⟩ := h4.open
  rw [he] at h3 h4
  exact ⟨a', c', h3, h4⟩
/-- a memory: its buckets and its stash -/
def MemIn (w : World) (v : Value) (n : Nat) (f : Nat → List (Int × Int × Int)) (st : List (Int × Int × Int)) : Prop := ∃ bs sv, v = .agg #[bs, sv] ∧ BlkSs w bs n f ∧ Blks w sv st
theorem MemIn.mono {w w' : World} {v n f st} (h : MemIn w v n f st) {B : Nat} (hb : Below B w w') (hB : w.heap.size ≤ B) : MemIn w' v n f st := by
  obtain ⟨bs, sv, h1, h2, h3⟩ := h
  exact ⟨bs, sv, h1, h2.mono hb hB, h3.mono hb hB⟩
/-- few buckets, few blocks -/
def Small (n : Nat) (f : Nat → List (Int × Int × Int)) (st : List (Int × Int × Int)) : Prop := n ≤ 16 ∧ st.length ≤ 100 ∧ ∀ i, i < n → (f i).length ≤ 100
def BlksPost (xs : List (Int × Int × Int)) (w : World) (e : Ending) (w' : World) : Prop := ∃ u, e = .returned u ∧ Gr w' w.heap.size 44 3 u xs.length (blks xs) ∧ Below w.heap.size w w'
theorem isAddress_any (n : Int) (w : World) : Calls Tryd.prog 15 #[.int .i64 n] w fun e w' => e = .returned (.bool (inB n 0 7)) ∧ w = w' := by
  go_enter Tryd.func15, Tryd.ntmps15
  go_wp2_with (go_at_call 31; refine (in_any _ _ _ _).mono ?_; rintro e w' ⟨rfl, rfl⟩)
  go_ret
  exact ⟨rfl, rfl⟩
theorem isLeaf_any (n : Int) (w : World) : Calls Tryd.prog 20 #[.int .i64 n] w fun e w' => e = .returned (.bool (inB n 0 3)) ∧ w = w' := by
  go_enter Tryd.func20, Tryd.ntmps20
  go_wp2_with (go_at_call 31; refine (in_any _ _ _ _).mono ?_; rintro e w' ⟨rfl, rfl⟩)
  go_ret
  exact ⟨rfl, rfl⟩
theorem isValue_any (n : Int) (w : World) : Calls Tryd.prog 19 #[.int .i64 n] w fun e w' => e = .returned (.bool (inB n (-100000) 100000)) ∧ w = w' := by
  go_enter Tryd.func19, Tryd.ntmps19
  go_wp2_with (go_at_call 31; refine (in_any _ _ _ _).mono ?_; rintro e w' ⟨rfl, rfl⟩)
  go_ret
  exact ⟨rfl, rfl⟩
/-- the buckets on the way to a leaf -/
def pathL (l : Int) : List Int := [0, 1 + l / 2, 3 + l]
theorem leaf_cases {l : Int} (h : inB l 0 3 = true) : l = 0 ∨ l = 1 ∨ l = 2 ∨ l = 3 := by rw [inB_iff] at h; omega
theorem path_any (l : Int) (w : World) (h : inB l 0 3 = true) : Calls Tryd.prog 22 #[.int .i64 l] w (IntsPost (pathL l) w) := by
  rcases leaf_cases h with rfl | rfl | rfl | rfl
  all_goals
    clear h
    go_enter Tryd.func22, Tryd.ntmps22
    go_wp2
    go_ret
    exact ⟨_, rfl, Gr.of_made (Row.new w 3 (ints (pathL _))) rfl (by unfold maxLen pathL; simp) (Nat.le_refl _), (Below.refl _ _).alloc (Nat.le_refl _) _⟩
def pathO (l : Int) : List Int := if inB l 0 3 then pathL l else []
theorem implPathOf_any (l : Int) (w : World) : Calls Tryd.prog 10 #[.int .i64 l] w (IntsPost (pathO l) w) := by
  cases h : inB l 0 3 with
  | false =>
    have H := Lib.hid h
    have HP : Hid (pathO l = []) := by unfold Hid pathO; rw [h]; rfl
    clear h
    go_enter Tryd.func10, Tryd.ntmps10
    go_wp2_with (go_at_call 20; refine (isLeaf_any _ _).mono ?_; rw [H.out]; rintro e w' ⟨rfl, rfl⟩)
    go_ret
    rw [HP.out]
    exact ⟨_, rfl, Gr.nil _ _ _ _, Below.refl _ _⟩
  | true =>
    have H := Lib.hid h
    have HP : Hid (pathO l = pathL l) := by unfold Hid pathO; rw [h]; rfl
    clear h
    go_enter Tryd.func10, Tryd.ntmps10
    go_wp2_with (first
      | (go_at_call 20; refine (isLeaf_any _ _).mono ?_; rw [H.out]; rintro e w' ⟨rfl, rfl⟩)
      | (go_at_call 22; refine (path_any _ _ H.out).mono ?_; rintro e w' ⟨u, rfl, hg⟩; have HG := Lib.hid hg; clear hg))
    go_ret
    rw [HP.out]
    exact ⟨_, rfl, HG.out⟩
theorem specPathOf_any (l : Int) (w : World) : Calls Tryd.prog 40 #[.int .i64 l] w (IntsPost (pathO l) w) := by
  cases h : inB l 0 3 with
  | false =>
    have H := Lib.hid h
    have HP : Hid (pathO l = []) := by unfold Hid pathO; rw [h]; rfl
    clear h
    go_enter Tryd.func40, Tryd.ntmps40
    go_wp2_with (go_at_call 35; refine (l1In_any _ _ _ _).mono ?_; rw [H.out]; rintro e w' ⟨rfl, rfl⟩)
    go_ret
    rw [HP.out]
    exact ⟨_, rfl, Gr.none0 _ _ _ _ _, (Below.refl _ _).alloc (Nat.le_refl _) _⟩
  | true =>
    have HP : Hid (pathO l = pathL l) := by unfold Hid pathO; rw [h]; rfl
    rw [HP.out]
    rcases leaf_cases h with rfl | rfl | rfl | rfl
    all_goals
      have H := Lib.hid h
      clear h HP
      go_enter Tryd.func40, Tryd.ntmps40
      go_wp2_with (go_at_call 35; refine (l1In_any _ _ _ _).mono ?_; rw [H.out]; rintro e w' ⟨rfl, rfl⟩)
      go_ret
      exact ⟨_, rfl, Gr.of_made (Row.new w 3 (ints (pathL _))) rfl (by unfold maxLen pathL; simp) (Nat.le_refl _), (Below.refl _ _).alloc (Nat.le_refl _) _⟩
def onB (b l : Int) : Bool := (pathO l).contains b
theorem pathO_le (l : Int) : (pathO l).length ≤ 3 := by unfold pathO; split <;> simp [pathL]
theorem l22On_any (b l : Int) (w : World) : Calls Tryd.prog 34 #[.int .i64 b, .int .i64 l] w fun e w' => e = .returned (.bool (onB b l)) ∧ Below w.heap.size w w' := by
  obtain ⟨p, hp⟩ : ∃ p, pathO l = p := ⟨_, rfl⟩
  have HP := Lib.hid hp
  have HON : Hid (onB b l = p.contains b) := by unfold Hid onB; rw [hp]
  have hpl : p.length ≤ 3 := by rw [← hp]; exact pathO_le l
  clear hp
  go_enter Tryd.func34, Tryd.ntmps34
  go_wp2_with (go_at_call 40; refine (specPathOf_any _ _).mono ?_; rw [HP.out]; rintro e w1 ⟨u, rfl, hg, hb⟩; have HI : Hid (Ints w1 u p) := Gr.ints hg rfl; have HB := Lib.hid hb; clear hg hb; obtain ⟨ad, c, hu, _, hop⟩ := HI.out.open; subst hu; have HOP := Lib.hid hop; clear hop)
  go_loop [6] (fun i => ∃ k : Nat, k ≤ p.length ∧ i = .int .i64 k ∧ Hid (b ∉ p.take k)) (fun i => p.length - (intOf i).toNat)
  case atStart => exact ⟨0, Nat.zero_le _, rfl, by simp [Hid]⟩
  case round =>
    obtain ⟨k, hk, rfl, hN⟩ := hrel
    by_cases hlt : k < p.length
    · obtain ⟨b1, off, rfl, hcell⟩ := HOP.out k hlt
      have hc1 := hcell k hlt
      obtain ⟨y, hy⟩ : ∃ y, p[k]?.getD 0 = y := ⟨_, rfl⟩
      have hx : iv p k = .int .i64 y := by rw [iv, hy]
      rw [hx] at hc1
      have HY := Lib.hid hy
      clear hx hy hcell
      by_cases hxy : y = b
      · have hxx : (y == b) = true := by simp [hxy]
        have HF : Hid (p.contains b = true) := by
          have h1 : p[k] = b := by have := HY.out; simp [hlt] at this; rw [this, hxy]
          show _ = _
          rw [List.contains_iff_mem, ← h1]; exact List.getElem_mem hlt
        clear hxy
        go_wp2
        go_ret
        exact ⟨ret_bool (HON.out.trans HF.out).symm, HB.out⟩
      · have hxx : (y == b) = false := by simpa using hxy
        have HF : Hid (b ∉ p.take (k + 1)) := not_take_succ hlt hN.out (by rw [HY.out]; exact hxy)
        clear hxy
        go_wp2
        go_round
        case rel => exact ⟨k + 1, hlt, by go_num, HF⟩
        case measure => simp [intOf]; omega
    · obtain rfl : k = p.length := by omega
      have HF : Hid (p.contains b = false) := by
        have := hN.out
        rw [List.take_length] at this
        simpa [Hid] using this
      go_wp2
      go_ret
      exact ⟨ret_bool (HON.out.trans HF.out).symm, HB.out⟩
end Go.Proofs.YtpkcgpgcoafmhaaDoor
