/- contracts of the memory's readers: all, IndexFunc, ContainsFunc, block -/
import Derived.Test.YtbnplohlfiefhaaDoorMemoP
namespace Go.Proofs.YtbnplohlfiefhaaDoor
open Go.RowKit
def blkV (b : Int × Int × Int) : Value := .agg #[.int .i64 b.1, .int .i64 b.2.1, .int .i64 b.2.2]
set_option maxHeartbeats 1000000 in
theorem all_any (v : Value) (n : Nat) (f : Nat → List (Int × Int × Int)) (st : List (Int × Int × Int)) (w : World) (h : MemIn w v n f st) (hs : Small n f st) :
    Calls Tryd.prog 39 #[v] w (BlksPost (allM n f st) w) := by
  obtain ⟨bs, sv, rfl, h1, h2⟩ := h
  obtain ⟨ad, c, rfl, hmx, hop⟩ := h1.open
  unfold maxLen at hmx
  obtain ⟨ads, cs2, hsv, _, _⟩ := h2.open
  subst hsv
  have HOP := Lib.hid hop
  have H2 := Lib.hid h2
  have HSM := Lib.hid hs
  have hn16 := hs.1
  have hst := hs.2.1
  clear hop h1 h2 hs
  obtain ⟨bx, hbx⟩ : ∃ bx, bx = Obj.cells #[.slice ad n c, .slice ads st.length cs2] 29 (0, 0) := ⟨_, rfl⟩
  have HBX := Lib.hid hbx
  have HBW : Hid (Below w.heap.size w (w.alloc bx)) := (Below.refl _ _).alloc (Nat.le_refl _) _
  have HR : Hid (Row (w.alloc bx) w.heap.size 29 [.slice ad n c, .slice ads st.length cs2]) := by rw [hbx]; exact Row.new w 29 _
  have HZ : Hid ((w.alloc bx).heap.size = w.heap.size + 1) := by simp [Hid]
  have K0 : Hid ((w.alloc bx).cell? ⟨w.heap.size, 0, none⟩ = some (.slice ad n c)) := HR.out.cell rfl
  clear hbx
  go_enter Tryd.func39, Tryd.ntmps39
  go_wp2_with (at_builtin; rw [← HBX.out]; refine wpList_app _ rfl (.const (.slice none 0 0)) (.tmp 7) 27 rfl (w.alloc bx).heap.size 56 (.agg #[.int .i64 0, .int .i64 0, .int .i64 0]) 3 24 Tryd.underlying27 Tryd.infoBlk rfl (by omega) (.slice none 0 0) 0 [] rfl (Gr.nil _ _ _ _) _ st.length (blks st) rfl (H2.out.mono HBW.out (Nat.le_refl _)) (one_blks _) (by unfold maxLen; omega) (by omega) (Nat.le_refl _) ?_; intro v1 w1 g1 r1 k1'; have G1 : Hid (Gr w1 (w.alloc bx).heap.size 56 3 v1 st.length (blks st)) := (by simpa [Hid] using g1); have B1 : Hid (Below (w.alloc bx).heap.size (w.alloc bx) w1) := (Below.refl _ _).grown r1 (Nat.le_refl _) (fun g hg => by simp [gBlock] at hg); have k0 : w1.cell? ⟨w.heap.size, 0, none⟩ = some (.slice ad n c) := (B1.out.cell (p := ⟨w.heap.size, 0, none⟩) (by show w.heap.size < _; rw [HZ.out]; omega)).trans K0.out; clear g1 r1 k1')
  generalize w.alloc bx = W0 at HBW HR HZ K0 G1 B1 ⊢
  go_loopw [3, 12] (fun u i wr => ∃ k : Nat, k ≤ n ∧ i = .int .i64 k ∧ Hid (Gr wr W0.heap.size 56 3 u (allM k f st).length (blks (allM k f st))) ∧ Hid (Below W0.heap.size W0 wr)) (fun _ i _ => n - (intOf i).toNat)
  case atStart => exact ⟨0, Nat.zero_le _, rfl, by rw [allM_zero]; exact G1.out, B1.out⟩
  case round =>
    obtain ⟨k, hk, rfl, hG, hB⟩ := hrel
    have hsz := hB.out.size
    by_cases hlt : k < n
    · obtain ⟨b, off, rfl, hcell⟩ := HOP.out k hlt
      obtain ⟨a3, c3, hc3, hv3⟩ := hcell k hlt
      have g3 : wr.cell? ⟨b, off + k, none⟩ = some (.slice a3 (f k).length c3) := (hB.out.cell (p := ⟨b, off + k, none⟩) (Nat.lt_of_lt_of_le (World.block_lt_of_cell? w _ hc3) HBW.out.size)).trans ((HBW.out.cell (p := ⟨b, off + k, none⟩) (World.block_lt_of_cell? w _ hc3)).trans hc3)
      have V3 := Lib.hid ((hv3.mono HBW.out (Nat.le_refl _)).mono hB.out (Nat.le_refl _))
      have HA : Hid (blks (allM k f st) ++ blks (f k) = blks (allM (k + 1) f st)) := by rw [allM_succ, blks_append]; rfl
      have HL : Hid ((allM k f st).length + (f k).length = (allM (k + 1) f st).length) := by rw [allM_succ, List.length_append]; rfl
      have hl1 := allM_len HSM.out k hk
      have hl2 := HSM.out.2.2 k hlt
      obtain ⟨m, hm⟩ : ∃ m, (f k).length = m := ⟨_, rfl⟩
      rw [hm] at g3 hl2 V3 HL
      have HM := Lib.hid hm
      have V4 : Hid (View wr 3 (.slice a3 m c3) m (blks (f k))) := by have := V3.out; unfold Blks at this; rw [HM.out] at this; exact this
      clear hcell hc3 hv3 hm V3
      go_wp2_with (at_builtin; refine wpList_app _ rfl (.tmp 16) (.tmp 17) 27 rfl W0.heap.size 56 (.agg #[.int .i64 0, .int .i64 0, .int .i64 0]) 3 24 Tryd.underlying27 Tryd.infoBlk rfl (by omega) u3 _ (blks (allM k f st)) rfl hG.out _ m (blks (f k)) rfl V4.out (one_blks _) (by unfold maxLen; omega) (by omega) hsz ?_; intro v2 w2 g2 r2 k2; have G2 := Lib.hid g2; have R2 := Lib.hid r2; clear g2 r2 k2)
      go_roundw
      case rel => exact ⟨k + 1, hlt, by go_num, by have := G2.out; rw [HA.out, HL.out] at this; exact this, hB.out.grown R2.out hsz (fun g hg => (hG.out.lt g hg).1)⟩
      case measure => simp [intOf]; omega
    · obtain rfl : k = n := by omega
      go_wp2
      go_ret
      exact ⟨_, rfl, hG.out.low HBW.out.size, HBW.out.trans (hB.out.mono HBW.out.size)⟩
/-- a closure over blocks that says p, of the blocks of a list -/
def ClosP (f : FuncId) (cap : Value) (w : World) (xs : List (Int × Int × Int)) (p : Int × Int × Int → Bool) : Prop := ∀ W, Below w.heap.size w W → ∀ b ∈ xs, Calls Tryd.prog f #[blkV b, cap] W fun e w' => e = .returned (.bool (p b)) ∧ Below W.heap.size W w'
theorem indexFunc_any (g : FuncId) (cap : Value) (p : Int × Int × Int → Bool) (v : Value) (xs : List (Int × Int × Int)) (w : World) (eg : g = 41 ∨ g = 51) (h : Blks w v xs) (hC : ClosP g cap w xs p) (hl : xs.length ≤ 100000) :
    Calls Tryd.prog 50 #[v, .func (.func g) #[] #[cap]] w fun e w' => e = .returned (.int .i64 (idxP p xs)) ∧ Below w.heap.size w w' := by
  obtain ⟨ad, c, rfl, hmax, hop⟩ := h.open
  unfold maxLen at hmax
  have HOP := Lib.hid hop
  have HC := Lib.hid hC
  clear hop h hC
  rcases eg with rfl | rfl
  all_goals
    go_enter Tryd.func50, Tryd.ntmps50
    go_wp2
    go_loopw [8] (fun i wr => ∃ k : Nat, k ≤ xs.length ∧ i = .int .i64 k ∧ Hid (∀ b ∈ xs.take k, p b = false) ∧ Hid (Below w.heap.size w wr)) (fun i _ => xs.length - (intOf i).toNat)
    case atStart => exact ⟨0, Nat.zero_le _, rfl, (fun b hb => by simp at hb), Below.refl _ _⟩
    case round =>
      obtain ⟨k, hk, rfl, hN, hB⟩ := hrel
      by_cases hlt : k < xs.length
      · obtain ⟨b, off, rfl, hcell⟩ := HOP.out k hlt
        obtain ⟨c0, c1, c2⟩ := hcell k hlt
        have hbk := World.block_lt_of_cell? w _ c0
        have c0 := (hB.out.cell (p := ⟨b, off + k * 3, none⟩) hbk).trans c0
        have c1 := (hB.out.cell (p := ⟨b, off + k * 3 + 1, none⟩) hbk).trans c1
        have c2 := (hB.out.cell (p := ⟨b, off + k * 3 + 2, none⟩) hbk).trans c2
        have hc := HC.out wr hB.out (bat xs k) (bat_mem hlt)
        have HMEM := Lib.hid (take_bat hlt)
        obtain ⟨x, hx⟩ : ∃ x, bat xs k = x := ⟨_, rfl⟩
        have HX := Lib.hid hx
        rw [hx] at c0 c1 c2 hc HMEM
        unfold blkV at hc
        have HCC := Lib.hid hc
        clear hcell hx hbk hc
        cases hp : p x with
        | true =>
          have HP : Hid (idxP p xs = k) := idxP_at hlt (by rw [HX.out]; exact hp) hN.out
          have HPX := Lib.hid hp
          clear hp
          go_wp2_with (refine HCC.out.mono ?_; rw [HPX.out]; rintro e w' ⟨rfl, hb⟩; have HB2 := Lib.hid (hB.out.trans (hb.mono hB.out.size)); clear hb)
          go_ret
          exact ⟨ret_int HP.out.symm, HB2.out⟩
        | false =>
          have HPX := Lib.hid hp
          clear hp
          go_wp2_with (refine HCC.out.mono ?_; rw [HPX.out]; rintro e w' ⟨rfl, hb⟩; have HB2 := Lib.hid (hB.out.trans (hb.mono hB.out.size)); clear hb)
          go_roundw
          case rel => exact ⟨k + 1, hlt, by go_num, (fun b hb => by rw [HMEM.out] at hb; rcases List.mem_append.1 hb with h | h; exact hN.out b h; simp at h; rw [h]; exact HPX.out), HB2.out⟩
          case measure => simp [intOf]; omega
      · obtain rfl : k = xs.length := by omega
        have HP : Hid (idxP p xs = -1) := idxP_none (by have := hN.out; rwa [List.take_length] at this)
        go_wp2
        go_ret
        exact ⟨ret_int HP.out.symm, hB.out⟩
theorem containsFunc_any (g : FuncId) (cap : Value) (p : Int × Int × Int → Bool) (v : Value) (xs : List (Int × Int × Int)) (w : World) (eg : g = 41 ∨ g = 51) (h : Blks w v xs) (hC : ClosP g cap w xs p) (hl : xs.length ≤ 100000) :
    Calls Tryd.prog 40 #[v, .func (.func g) #[] #[cap]] w fun e w' => e = .returned (.bool (xs.any p)) ∧ Below w.heap.size w w' := by
  have H := Lib.hid (indexFunc_any g cap p v xs w eg h hC hl)
  have HG := Lib.hid (idxP_ge p xs)
  clear h hC
  go_enter Tryd.func40, Tryd.ntmps40
  go_wp2_with (refine H.out.mono ?_; rintro e w' ⟨rfl, hb⟩; have HB := Lib.hid hb; clear hb)
  go_ret
  exact ⟨ret_bool HG.out, HB.out⟩
/-- block's closure: the address -/
theorem blockC_any (b : Int × Int × Int) (x : Int) (q : Nat) (w : World) (hc : w.cell? ⟨q, 0, none⟩ = some (.int .i64 x)) : Calls Tryd.prog 51 #[blkV b, .pointer (some ⟨q, 0, none⟩)] w fun e w' => e = .returned (.bool (b.1 == x)) ∧ Below w.heap.size w w' := by
  unfold blkV
  have hq := World.block_lt_of_cell? w _ hc
  have hc2 : (w.alloc (.cells #[.int .i64 b.1, .int .i64 b.2.1, .int .i64 b.2.2] 56)).cell? ⟨q, 0, none⟩ = some (.int .i64 x) := (((Below.refl w.heap.size w).alloc (Nat.le_refl _) (.cells #[.int .i64 b.1, .int .i64 b.2.1, .int .i64 b.2.2] 56)).cell (p := ⟨q, 0, none⟩) hq).trans hc
  have HB := Lib.hid ((Below.refl w.heap.size w).alloc (Nat.le_refl _) (.cells #[.int .i64 b.1, .int .i64 b.2.1, .int .i64 b.2.2] 56))
  obtain ⟨b1, b2, b3⟩ := b
  clear hc
  go_enter Tryd.func51, Tryd.ntmps51
  go_wp2
  go_ret
  exact ⟨rfl, HB.out⟩
end Go.Proofs.YtbnplohlfiefhaaDoor
