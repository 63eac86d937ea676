/- memories: views of them, and contracts of the small functions -/
import Derived.Test.YtbnplohlfiefhaaDoorBlk
import Derived.Test.YtbnplohlfiefhaaDoorRes
import Derived.Test.YtbnplohlfiefhaaDoorScal
import Derived.Test.YtbnplohlfiefhaaDoorInts
import Derived.Test.YtbnplohlfiefhaaDoorPerm
namespace Go.Proofs.YtbnplohlfiefhaaDoor
open Go.RowKit
theorem Tryd.infoBlk : (Tryd.prog.info? 56).map (fun i => (i.zero, i.size, i.bytes)) = some (some (.agg #[.int .i64 0, .int .i64 0, .int .i64 0]), 3, 24) := by kernel_rfl
theorem Tryd.infoBlks : (Tryd.prog.info? 27).map (fun i => (i.zero, i.size, i.bytes)) = some (some (.slice none 0 0), 1, 24) := by kernel_rfl
theorem viewCells {w : World} {v : Value} {n : Nat} {vs : Nat → Value} (h : View w 1 v n (tab n vs)) : ∃ ad c, v = .slice ad n c ∧ n ≤ maxLen ∧ ∀ i, i < n → ∃ b off, ad = some ⟨b, off, none⟩ ∧ ∀ i, i < n → w.cell? ⟨b, off + i, none⟩ = some (vs i) := by
  obtain ⟨h1, h2, ⟨h3, a, c, hv⟩ | ⟨h3, b, off, c, hv, hc, hcell⟩⟩ := h
  · rw [h3]; exact ⟨a, c, hv, Nat.zero_le _, fun i hi => by omega⟩
  · exact ⟨_, c, hv, h2, fun i hi => ⟨b, off, rfl, fun i hi => hcell i _ (tab_get _ hi)⟩⟩
/-- n lists of blocks -/
def BlkSs (w : World) (v : Value) (n : Nat) (f : Nat → List (Int × Int × Int)) : Prop := ∃ vs : Nat → Value, View w 1 v n (tab n vs) ∧ ∀ i, i < n → Blks w (vs i) (f i)
theorem BlkSs.mono {w w' : World} {v n f} (h : BlkSs w v n f) {B : Nat} (hb : Below B w w') (hB : w.heap.size ≤ B) : BlkSs w' v n f := by
  obtain ⟨vs, h1, h2⟩ := h
  exact ⟨vs, h1.mono hb hB, fun i hi => (h2 i hi).mono hb hB⟩
theorem BlkSs.open {w : World} {v n f} (h : BlkSs w v n f) : ∃ ad c, v = .slice ad n c ∧ n ≤ maxLen ∧ ∀ i, i < n → ∃ b off, ad = some ⟨b, off, none⟩ ∧ ∀ i, i < n → ∃ a' c', w.cell? ⟨b, off + i, none⟩ = some (.slice a' (f i).length c') ∧ Blks w (.slice a' (f i).length c') (f i) := by
  obtain ⟨vs, h1, h2⟩ := h
  obtain ⟨ad, c, hv, hm, hc⟩ := viewCells h1
  refine ⟨ad, c, hv, hm, fun i hi => ?_⟩
  obtain ⟨b, off, hb, hcell⟩ := hc i hi
  refine ⟨b, off, hb, fun i hi => ?_⟩
  have h3 := hcell i hi
  have h4 := h2 i hi
  obtain ⟨a', c', he, _⟩ := h4.open
  rw [he] at h3 h4
  exact ⟨a', c', h3, h4⟩
/-- a memory: its buckets and its stash -/
def MemIn (w : World) (v : Value) (n : Nat) (f : Nat → List (Int × Int × Int)) (st : List (Int × Int × Int)) : Prop := ∃ bs sv, v = .agg #[bs, sv] ∧ BlkSs w bs n f ∧ Blks w sv st
theorem MemIn.mono {w w' : World} {v n f st} (h : MemIn w v n f st) {B : Nat} (hb : Below B w w') (hB : w.heap.size ≤ B) : MemIn w' v n f st := by
  obtain ⟨bs, sv, h1, h2, h3⟩ := h
  exact ⟨bs, sv, h1, h2.mono hb hB, h3.mono hb hB⟩
/-- few buckets, few blocks -/
def Small (n : Nat) (f : Nat → List (Int × Int × Int)) (st : List (Int × Int × Int)) : Prop := n ≤ 16 ∧ st.length ≤ 100 ∧ ∀ i, i < n → (f i).length ≤ 100
def BlksPost (xs : List (Int × Int × Int)) (w : World) (e : Ending) (w' : World) : Prop := ∃ u, e = .returned u ∧ Gr w' w.heap.size 56 3 u xs.length (blks xs) ∧ Below w.heap.size w w'
theorem isAddress_any (n : Int) (w : World) : Calls Tryd.prog 32 #[.int .i64 n] w fun e w' => e = .returned (.bool (inB n 0 7)) ∧ w = w' := by
  go_enter Tryd.func32, Tryd.ntmps32
  go_wp2_with (go_at_call 48; refine (in_any _ _ _ _).mono ?_; rintro e w' ⟨rfl, rfl⟩)
  go_ret
  exact ⟨rfl, rfl⟩
theorem isLeaf_any (n : Int) (w : World) : Calls Tryd.prog 34 #[.int .i64 n] w fun e w' => e = .returned (.bool (inB n 0 3)) ∧ w = w' := by
  go_enter Tryd.func34, Tryd.ntmps34
  go_wp2_with (go_at_call 48; refine (in_any _ _ _ _).mono ?_; rintro e w' ⟨rfl, rfl⟩)
  go_ret
  exact ⟨rfl, rfl⟩
theorem isValue_any (n : Int) (w : World) : Calls Tryd.prog 33 #[.int .i64 n] w fun e w' => e = .returned (.bool (inB n (-100000) 100000)) ∧ w = w' := by
  go_enter Tryd.func33, Tryd.ntmps33
  go_wp2_with (go_at_call 48; refine (in_any _ _ _ _).mono ?_; rintro e w' ⟨rfl, rfl⟩)
  go_ret
  exact ⟨rfl, rfl⟩
/-- the buckets on the way to a leaf -/
def pathL (l : Int) : List Int := [0, 1 + l / 2, 3 + l]
theorem leaf_cases {l : Int} (h : inB l 0 3 = true) : l = 0 ∨ l = 1 ∨ l = 2 ∨ l = 3 := by rw [inB_iff] at h; omega
theorem path_any (l : Int) (w : World) (h : inB l 0 3 = true) : Calls Tryd.prog 37 #[.int .i64 l] w (IntsPost (pathL l) w) := by
  rcases leaf_cases h with rfl | rfl | rfl | rfl
  all_goals
    clear h
    go_enter Tryd.func37, Tryd.ntmps37
    go_wp2
    go_ret
    exact ⟨_, rfl, Gr.of_made (Row.new w 3 (ints (pathL _))) rfl (by unfold maxLen pathL; simp) (Nat.le_refl _), (Below.refl _ _).alloc (Nat.le_refl _) _⟩
def pathO (l : Int) : List Int := if inB l 0 3 then pathL l else []
theorem implPathOf_any (l : Int) (w : World) : Calls Tryd.prog 20 #[.int .i64 l] w (IntsPost (pathO l) w) := by
  cases h : inB l 0 3 with
  | false =>
    have H := Lib.hid h
    have HP : Hid (pathO l = []) := by unfold Hid pathO; rw [h]; rfl
    clear h
    go_enter Tryd.func20, Tryd.ntmps20
    go_wp2_with (go_at_call 34; refine (isLeaf_any _ _).mono ?_; rw [H.out]; rintro e w' ⟨rfl, rfl⟩)
    go_ret
    rw [HP.out]
    exact ⟨_, rfl, Gr.nil _ _ _ _, Below.refl _ _⟩
  | true =>
    have H := Lib.hid h
    have HP : Hid (pathO l = pathL l) := by unfold Hid pathO; rw [h]; rfl
    clear h
    go_enter Tryd.func20, Tryd.ntmps20
    go_wp2_with (first
      | (go_at_call 34; refine (isLeaf_any _ _).mono ?_; rw [H.out]; rintro e w' ⟨rfl, rfl⟩)
      | (go_at_call 37; refine (path_any _ _ H.out).mono ?_; rintro e w' ⟨u, rfl, hg⟩; have HG := Lib.hid hg; clear hg))
    go_ret
    rw [HP.out]
    exact ⟨_, rfl, HG.out⟩
theorem specPathOf_any (l : Int) (w : World) : Calls Tryd.prog 44 #[.int .i64 l] w (IntsPost (pathO l) w) := by
  cases h : inB l 0 3 with
  | false =>
    have H := Lib.hid h
    have HP : Hid (pathO l = []) := by unfold Hid pathO; rw [h]; rfl
    clear h
    go_enter Tryd.func44, Tryd.ntmps44
    go_wp2_with (go_at_call 43; refine (l1In_any _ _ _ _).mono ?_; rw [H.out]; rintro e w' ⟨rfl, rfl⟩)
    go_ret
    rw [HP.out]
    exact ⟨_, rfl, Gr.none0 _ _ _ _ _, (Below.refl _ _).alloc (Nat.le_refl _) _⟩
  | true =>
    have HP : Hid (pathO l = pathL l) := by unfold Hid pathO; rw [h]; rfl
    rw [HP.out]
    rcases leaf_cases h with rfl | rfl | rfl | rfl
    all_goals
      have H := Lib.hid h
      clear h HP
      go_enter Tryd.func44, Tryd.ntmps44
      go_wp2_with (go_at_call 43; refine (l1In_any _ _ _ _).mono ?_; rw [H.out]; rintro e w' ⟨rfl, rfl⟩)
      go_ret
      exact ⟨_, rfl, Gr.of_made (Row.new w 3 (ints (pathL _))) rfl (by unfold maxLen pathL; simp) (Nat.le_refl _), (Below.refl _ _).alloc (Nat.le_refl _) _⟩
def onB (b l : Int) : Bool := (pathO l).contains b
theorem pathO_le (l : Int) : (pathO l).length ≤ 3 := by unfold pathO; split <;> simp [pathL]
theorem l22On_any (b l : Int) (w : World) : Calls Tryd.prog 46 #[.int .i64 b, .int .i64 l] w fun e w' => e = .returned (.bool (onB b l)) ∧ Below w.heap.size w w' := by
  obtain ⟨p, hp⟩ : ∃ p, pathO l = p := ⟨_, rfl⟩
  have HP := Lib.hid hp
  have HON : Hid (onB b l = p.contains b) := by unfold Hid onB; rw [hp]
  have hpl : p.length ≤ 3 := by rw [← hp]; exact pathO_le l
  clear hp
  go_enter Tryd.func46, Tryd.ntmps46
  go_wp2_with (go_at_call 44; refine (specPathOf_any _ _).mono ?_; rw [HP.out]; rintro e w1 ⟨u, rfl, hg, hb⟩; have HI : Hid (Ints w1 u p) := Gr.ints hg rfl; have HB := Lib.hid hb; clear hg hb; obtain ⟨ad, c, hu, _, hop⟩ := HI.out.open; subst hu; have HOP := Lib.hid hop; clear hop)
  go_loop [6] (fun i => ∃ k : Nat, k ≤ p.length ∧ i = .int .i64 k ∧ Hid (b ∉ p.take k)) (fun i => p.length - (intOf i).toNat)
  case atStart => exact ⟨0, Nat.zero_le _, rfl, by simp [Hid]⟩
  case round =>
    obtain ⟨k, hk, rfl, hN⟩ := hrel
    by_cases hlt : k < p.length
    · obtain ⟨b1, off, rfl, hcell⟩ := HOP.out k hlt
      have hc1 := hcell k hlt
      obtain ⟨y, hy⟩ : ∃ y, p[k]?.getD 0 = y := ⟨_, rfl⟩
      have hx : iv p k = .int .i64 y := by rw [iv, hy]
      rw [hx] at hc1
      have HY := Lib.hid hy
      clear hx hy hcell
      by_cases hxy : y = b
      · have hxx : (y == b) = true := by simp [hxy]
        have HF : Hid (p.contains b = true) := by
          have h1 : p[k] = b := by have := HY.out; simp [hlt] at this; rw [this, hxy]
          show _ = _
          rw [List.contains_iff_mem, ← h1]; exact List.getElem_mem hlt
        clear hxy
        go_wp2
        go_ret
        exact ⟨ret_bool (HON.out.trans HF.out).symm, HB.out⟩
      · have hxx : (y == b) = false := by simpa using hxy
        have HF : Hid (b ∉ p.take (k + 1)) := not_take_succ hlt hN.out (by rw [HY.out]; exact hxy)
        clear hxy
        go_wp2
        go_round
        case rel => exact ⟨k + 1, hlt, by go_num, HF⟩
        case measure => simp [intOf]; omega
    · obtain rfl : k = p.length := by omega
      have HF : Hid (p.contains b = false) := by
        have := hN.out
        rw [List.take_length] at this
        simpa [Hid] using this
      go_wp2
      go_ret
      exact ⟨ret_bool (HON.out.trans HF.out).symm, HB.out⟩
theorem sameBlocks_same (v u : Value) (xs : List (Int × Int × Int)) (w : World) (h : Blks w v xs) (g : Blks w u xs) :
    Calls Tryd.prog 29 #[v, u] w fun e w' => e = .returned (.bool true) ∧ ∃ q, w' = w.drewN q := by
  obtain ⟨ad, c, rfl, hmax, hop⟩ := h.open
  obtain ⟨ad2, c2, rfl, _, hop2⟩ := g.open
  unfold maxLen at hmax
  have HOP := Lib.hid hop
  have HOP2 := Lib.hid hop2
  clear hop hop2 h g
  go_enter Tryd.func29, Tryd.ntmps29
  go_wp2
  go_loopw [5] (fun i wr => ∃ k : Nat, k ≤ xs.length ∧ i = .int .i64 k ∧ ∃ q, wr = w.drewN q) (fun i _ => xs.length - (intOf i).toNat)
  case atStart => exact ⟨0, Nat.zero_le _, rfl, 0, rfl⟩
  case round =>
    obtain ⟨k, hk, rfl, q, rfl⟩ := hrel
    by_cases hlt : k < xs.length
    · obtain ⟨b, off, rfl, hcell⟩ := HOP.out k hlt
      obtain ⟨b2, off2, rfl, hcell2⟩ := HOP2.out k hlt
      obtain ⟨c0, c1, c2⟩ := hcell k hlt
      obtain ⟨d0, d1, d2⟩ := hcell2 k hlt
      have c0 : (w.drewN q).cell? ⟨b, off + k * 3, none⟩ = _ := c0
      have c1 : (w.drewN q).cell? ⟨b, off + k * 3 + 1, none⟩ = _ := c1
      have c2 : (w.drewN q).cell? ⟨b, off + k * 3 + 2, none⟩ = _ := c2
      have d0 : (w.drewN q).cell? ⟨b2, off2 + k * 3, none⟩ = _ := d0
      have d1 : (w.drewN q).cell? ⟨b2, off2 + k * 3 + 1, none⟩ = _ := d1
      have d2 : (w.drewN q).cell? ⟨b2, off2 + k * 3 + 2, none⟩ = _ := d2
      have HDS : Hid (∀ q', (w.drewN q).drewN q' = w.drewN (q + q')) := fun q' => World.drewN_drewN _ _ _
      clear hcell hcell2
      obtain ⟨x, hx⟩ : ∃ x, bat xs k = x := ⟨_, rfl⟩
      rw [hx] at c0 c1 c2 d0 d1 d2
      clear hx
      obtain ⟨r, p, t⟩ := x
      generalize w.drewN q = wq at c0 c1 c2 d0 d1 d2 HDS ⊢
      go_wp2
      go_quiet (fail)
      go_wp2
      go_roundw
      case rel => exact ⟨k + 1, hlt, by go_num, _, HDS.out _⟩
      case measure => simp [intOf]; omega
    · obtain rfl : k = xs.length := by omega
      go_wp2
      go_ret
      exact ⟨rfl, _, rfl⟩
theorem sameMemory_same (v u : Value) (n : Nat) (f : Nat → List (Int × Int × Int)) (st : List (Int × Int × Int)) (w : World) (h : MemIn w v n f st) (g : MemIn w u n f st) (hn : n ≤ 16) :
    Calls Tryd.prog 11 #[v, u] w fun e w' => e = .returned (.bool true) ∧ Below w.heap.size w w' := by
  obtain ⟨bs, sv, rfl, h1, h2⟩ := h
  obtain ⟨bs2, sv2, rfl, g1, g2⟩ := g
  obtain ⟨ad, c, rfl, _, hop⟩ := h1.open
  obtain ⟨ad2, c2, rfl, _, hop2⟩ := g1.open
  have HOP := Lib.hid hop
  have HOP2 := Lib.hid hop2
  have H2 := Lib.hid h2
  have G2 := Lib.hid g2
  clear hop hop2 h1 g1 h2 g2
  have hBW : Below w.heap.size w ((w.alloc (.cells #[.slice ad n c, sv] 29)).alloc (.cells #[.slice ad2 n c2, sv2] 29)) := ((Below.refl _ _).alloc (Nat.le_refl _) _).alloc (by simp) _
  have hr1 : Row ((w.alloc (.cells #[.slice ad n c, sv] 29)).alloc (.cells #[.slice ad2 n c2, sv2] 29)) w.heap.size 29 [.slice ad n c, sv] := (Row.new w 29 [.slice ad n c, sv]).alloc _
  have hr2 : Row ((w.alloc (.cells #[.slice ad n c, sv] 29)).alloc (.cells #[.slice ad2 n c2, sv2] 29)) (w.heap.size + 1) 29 [.slice ad2 n c2, sv2] := by
    have := Row.new (w.alloc (.cells #[.slice ad n c, sv] 29)) 29 [.slice ad2 n c2, sv2]
    rwa [World.size_alloc] at this
  have HBW := Lib.hid hBW
  have HR1 := Lib.hid hr1
  have HR2 := Lib.hid hr2
  clear hBW hr1 hr2
  go_enter Tryd.func11, Tryd.ntmps11
  go_wp2_with fail
  generalize ((w.alloc (.cells #[.slice ad n c, sv] 29)).alloc (.cells #[.slice ad2 n c2, sv2] 29)) = W0 at HBW HR1 HR2 ⊢
  go_wp2_with (go_at_call 29; refine (sameBlocks_same _ _ st _ (H2.out.mono HBW.out (Nat.le_refl _)) (G2.out.mono HBW.out (Nat.le_refl _))).mono ?_; rintro e w' ⟨rfl, q, rfl⟩)
  have HB1 : Hid (Below w.heap.size w (W0.drewN q)) := below_drewN HBW.out q
  have K0 := (HR1.out.mono (below_drewN (Below.refl _ _) q) HR1.out.lt).cell (i := 0) rfl
  have M0 := (HR2.out.mono (below_drewN (Below.refl _ _) q) HR2.out.lt).cell (i := 0) rfl
  have HDS : Hid (∀ q', (W0.drewN q).drewN q' = W0.drewN (q + q')) := fun q' => World.drewN_drewN _ _ _
  clear HBW HR1 HR2
  generalize W0.drewN q = W1 at HB1 K0 M0 ⊢
  have HK0 := Lib.hid K0
  have HM0 := Lib.hid M0
  clear K0 M0 HDS
  go_loopw [5] (fun i wr => ∃ k : Nat, k ≤ n ∧ i = .int .i64 k ∧ ∃ q, wr = W1.drewN q) (fun i _ => n - (intOf i).toNat)
  case atStart => exact ⟨0, Nat.zero_le _, rfl, 0, rfl⟩
  case round =>
    obtain ⟨k, hk, rfl, q2, rfl⟩ := hrel
    have K0 : (W1.drewN q2).cell? ⟨w.heap.size, 0, none⟩ = some (.slice ad n c) := HK0.out
    have M0 : (W1.drewN q2).cell? ⟨w.heap.size + 1, 0, none⟩ = some (.slice ad2 n c2) := HM0.out
    have HDS : Hid (∀ q', (W1.drewN q2).drewN q' = W1.drewN (q2 + q')) := fun q' => World.drewN_drewN _ _ _
    have HB2 : Hid (Below w.heap.size w (W1.drewN q2)) := below_drewN HB1.out q2
    by_cases hlt : k < n
    · obtain ⟨b, off, rfl, hcell⟩ := HOP.out k hlt
      obtain ⟨b2, off2, rfl, hcell2⟩ := HOP2.out k hlt
      obtain ⟨a3, c3, hc3, hv3⟩ := hcell k hlt
      obtain ⟨a4, c4, hc4, hv4⟩ := hcell2 k hlt
      generalize W1.drewN q2 = wq at K0 M0 HDS HB2 ⊢
      have g3 := (HB2.out.cell (p := ⟨b, off + k, none⟩) (World.block_lt_of_cell? w _ hc3)).trans hc3
      have g4 := (HB2.out.cell (p := ⟨b2, off2 + k, none⟩) (World.block_lt_of_cell? w _ hc4)).trans hc4
      have V3 := Lib.hid (hv3.mono HB2.out (Nat.le_refl _))
      have V4 := Lib.hid (hv4.mono HB2.out (Nat.le_refl _))
      clear hcell hcell2 hc3 hc4 hv3 hv4
      go_wp2_with fail
      go_quiet (exact Calls.quiet_of ((sameBlocks_same _ _ (f k) _ (V3.out.mono (below_drewN (Below.refl _ _) _) (Nat.le_refl _)) (V4.out.mono (below_drewN (Below.refl _ _) _) (Nat.le_refl _)))))
      go_wp2
      go_roundw
      case rel => exact ⟨k + 1, hlt, by go_num, _, HDS.out _⟩
      case measure => simp [intOf]; omega
    · obtain rfl : k = n := by omega
      go_wp2
      go_ret
      exact ⟨rfl, HB2.out⟩
end Go.Proofs.YtbnplohlfiefhaaDoor
