/- contracts of the reader by which the laws draw their arguments: l20Open, pick, odd -/
import Derived.Test.YtajgghifamebkaaDoorChecked
import Derived.Test.YtajgghifamebkaaDoorMem
namespace Go.Proofs.YtajgghifamebkaaDoor
set_option linter.unusedSimpArgs false
set_option linter.unusedVariables false
open Go.RowKit
/-- a slice of bytes -/
def u8s (bs : List Int) : List Value := bs.map (Value.int .u8)
def Bts (w : World) (v : Value) (bs : List Int) : Prop := View w 1 v bs.length (u8s bs) ∧ ∀ b ∈ bs, 0 ≤ b ∧ b ≤ 255
theorem Bts.mono {w w' : World} {v bs} (h : Bts w v bs) {B : Nat} (hb : Below B w w') (hB : w.heap.size ≤ B) : Bts w' v bs := ⟨h.1.mono hb hB, h.2⟩
theorem Bts.open {w : World} {v bs} (h : Bts w v bs) : ∃ ad c, v = .slice ad bs.length c ∧ bs.length ≤ maxLen ∧ bs.length ≤ c ∨ bs = [] ∧ v = .slice ad 0 c := by
  obtain ⟨⟨h1, h2, ⟨h3, a, c, hv⟩ | ⟨h3, b, off, c, hv, hc, hcell⟩⟩, _⟩ := h
  · exact ⟨a, c, .inr ⟨List.eq_nil_of_length_eq_zero h3, hv⟩⟩
  · exact ⟨_, c, .inl ⟨hv, h2, hc⟩⟩
/-- the reader at block R: its bytes, and how many numbers it has given -/
def Rd (w : World) (R : Nat) (v : Value) (bs : List Int) (p : Int) : Prop :=
  Row w R 69 [v, .int .i64 p] ∧ Bts w v bs ∧ bs.length ≤ 2000 ∧ (0 < bs.length → ∀ g, v.ownBlock = some g → g ≠ R)
theorem i64_xor_nat (a b : Nat) (ha : a < 4611686018427387904) (hb : b < 4611686018427387904) : bits .xor .i64 (a : Int) (b : Int) = ((a ^^^ b : Nat) : Int) := by
  have hx : a ^^^ b < 2 ^ 62 := Nat.xor_lt_two_pow (by omega) (by omega)
  have h1 : (BitVec.ofInt 64 (a : Int)).toNat = a := by
    rw [BitVec.ofInt_natCast, BitVec.toNat_ofNat]; exact Nat.mod_eq_of_lt (by omega)
  have h2 : (BitVec.ofInt 64 (b : Int)).toNat = b := by
    rw [BitVec.ofInt_natCast, BitVec.toNat_ofNat]; exact Nat.mod_eq_of_lt (by omega)
  show IntKind.i64.wrap ((BitVec.ofInt 64 (a : Int) ^^^ BitVec.ofInt 64 (b : Int)).toNat : Int) = _
  rw [BitVec.toNat_xor, h1, h2, IntKind.wrap_i64]
  omega
theorem i64_xor (a b : Int) (h1 : 0 ≤ a) (h2 : a < 4611686018427387904) (h3 : 0 ≤ b) (h4 : b < 4611686018427387904) : bits .xor .i64 a b = ((a.toNat ^^^ b.toNat : Nat) : Int) := by
  obtain ⟨A, rfl⟩ := Int.eq_ofNat_of_zero_le h1
  obtain ⟨B, rfl⟩ := Int.eq_ofNat_of_zero_le h3
  simpa using i64_xor_nat A B (by omega) (by omega)
theorem pick_num (z n : Int) (hn : 1 ≤ n) (h0 : 0 ≤ z) (h1 : z < 4611686018427387904) : 0 ≤ (bits .xor .i64 z (z / 64)).tmod n ∧ (bits .xor .i64 z (z / 64)).tmod n < n := by
  rw [i64_xor z (z / 64) h0 h1 (by omega) (by omega), Int.tmod_eq_emod_of_nonneg (by omega)]
  exact ⟨Int.emod_nonneg _ (by omega), Int.emod_lt_of_pos _ (by omega)⟩
def PickPost (n : Int) (R : Nat) (v : Value) (p : Int) (w : World) (e : Ending) (w' : World) : Prop :=
  ∃ x : Int, e = .returned (.int .i64 x) ∧ 0 ≤ x ∧ (1 ≤ n → x < n) ∧ (n < 1 → x = 0) ∧ Row w' R 69 [v, .int .i64 (p + 1)] ∧ w.grownBy w' (some R) ∧ w'.heap.size = w.heap.size
theorem pick_post {n : Int} {R : Nat} {v : Value} {p x : Int} {w w' : World} (hr : Row w R 69 [v, .int .i64 p]) (hx : 0 ≤ x) (hx2 : 1 ≤ n → x < n) (hx3 : n < 1 → x = 0)
    (hw : ∃ k, w' = (w.setCell ⟨R, 1, none⟩ (.int .i64 (p + 1))).drewN k) : PickPost n R v p w (.returned (.int .i64 x)) w' := by
  obtain ⟨k, rfl⟩ := hw
  refine ⟨x, rfl, hx, hx2, hx3, hr.set 1 _, ?_, by simp [World.setCell, World.drewN]⟩
  have := grown_set (grown_refl w (some R)) 1 (.int .i64 (p + 1))
  exact ⟨this.os, this.tape, this.output, this.size, this.block⟩
theorem pick_zero (R : Nat) (b : Value) (n p : Int) (w : World) (hr : Row w R 69 [b, .int .i64 p]) (hn : n < 1) (hp : 0 ≤ p) (hp2 : p ≤ 1000000000000) :
    Calls Tryd.prog 26 #[.pointer (some ⟨R, 0, none⟩), .int .i64 n] w fun e w' => e = .returned (.int .i64 0) ∧ w' = w.setCell ⟨R, 1, none⟩ (.int .i64 (p + 1)) := by
  have hc0 : w.cell? ⟨R, 0, none⟩ = some b := hr.cell rfl
  have hc1 : w.cell? ⟨R, 1, none⟩ = some (.int .i64 p) := hr.cell rfl
  have hf := hr.free 1
  have HR := Lib.hid hr
  clear hr
  go_enter Tryd.func26, Tryd.ntmps26
  go_wp2
  go_ret
  exact ⟨rfl, rfl⟩
theorem pick_none (R : Nat) (ad : Option Addr) (c : Nat) (n p : Int) (w : World) (hr : Row w R 69 [.slice ad 0 c, .int .i64 p]) (hn : 1 ≤ n) (hp : 0 ≤ p) (hp2 : p ≤ 1000000000000) :
    Calls Tryd.prog 26 #[.pointer (some ⟨R, 0, none⟩), .int .i64 n] w fun e w' => e = .returned (.int .i64 0) ∧ w' = w.setCell ⟨R, 1, none⟩ (.int .i64 (p + 1)) := by
  have hc0 : w.cell? ⟨R, 0, none⟩ = some (.slice ad 0 c) := hr.cell rfl
  have hc1 : w.cell? ⟨R, 1, none⟩ = some (.int .i64 p) := hr.cell rfl
  have hf := hr.free 1
  have hn' : decide (n < 1) = false := by simp; omega
  have HR := Lib.hid hr
  clear hr
  go_enter Tryd.func26, Tryd.ntmps26
  go_wp2
  go_ret
  exact ⟨rfl, rfl⟩
theorem pick_near (R b off len c : Nat) (x : Int) (n : Int) (p : Nat) (w : World) (hr : Row w R 69 [.slice (some ⟨b, off, none⟩) len c, .int .i64 p]) (hn : 1 ≤ n) (hp : p < len) (hlen : len ≤ 2000) (hne : b ≠ R)
    (hx : w.cell? ⟨b, off + p, none⟩ = some (.int .u8 x)) (hx0 : 0 ≤ x) (hx1 : x ≤ 255) :
    Calls Tryd.prog 26 #[.pointer (some ⟨R, 0, none⟩), .int .i64 n] w fun e w' => e = .returned (.int .i64 (x % n)) ∧ w' = w.setCell ⟨R, 1, none⟩ (.int .i64 ((p : Int) + 1)) := by
  have hc0 : w.cell? ⟨R, 0, none⟩ = some (.slice (some ⟨b, off, none⟩) len c) := hr.cell rfl
  have hc1 : w.cell? ⟨R, 1, none⟩ = some (.int .i64 p) := hr.cell rfl
  have hf := hr.free 1
  have hn' : decide (n < 1) = false := by simp; omega
  have hl' : ((len : Int) == 0) = false := by simp; omega
  have hne' : ¬ R = b := fun e => hne e.symm
  have HR := Lib.hid hr
  clear hr
  go_enter Tryd.func26, Tryd.ntmps26
  go_wp2
  go_ret
  exact ⟨rfl, rfl⟩
theorem pick_far (R b off len c : Nat) (x y : Int) (n : Int) (p : Nat) (w : World) (hr : Row w R 69 [.slice (some ⟨b, off, none⟩) len c, .int .i64 p]) (hn : 1 ≤ n) (hp : len ≤ p) (hpos : 0 < len) (hp2 : p ≤ 1000000000000) (hlen : len ≤ 2000) (hne : b ≠ R)
    (m m2 d : Nat) (hm : (p : Int) % len = m) (hm2 : ((p : Int) * 7 + 3) % len = m2) (hd : (p : Int) / len = d) (hml : m < len) (hml2 : m2 < len) (hdl : d ≤ p)
    (hx : w.cell? ⟨b, off + m, none⟩ = some (.int .u8 x)) (hx0 : 0 ≤ x) (hx1 : x ≤ 255) (hy : w.cell? ⟨b, off + m2, none⟩ = some (.int .u8 y)) (hy0 : 0 ≤ y) (hy1 : y ≤ 255) :
    Calls Tryd.prog 26 #[.pointer (some ⟨R, 0, none⟩), .int .i64 n] w fun e w' => PickPost n R (.slice (some ⟨b, off, none⟩) len c) p w e w' := by
  have hc0 : w.cell? ⟨R, 0, none⟩ = some (.slice (some ⟨b, off, none⟩) len c) := hr.cell rfl
  have hc1 : w.cell? ⟨R, 1, none⟩ = some (.int .i64 p) := hr.cell rfl
  have hf := hr.free 1
  have hn' : decide (n < 1) = false := by simp; omega
  have hl' : ((len : Int) == 0) = false := by simp; omega
  have hne' : ¬ R = b := fun e => hne e.symm
  have HR := Lib.hid hr
  clear hr
  go_enter Tryd.func26, Tryd.ntmps26
  go_wp2
  have HR1 : Hid (Row (w.setCell ⟨R, 1, none⟩ (.int .i64 ((p : Int) + 1))) R 69 [.slice (some ⟨b, off, none⟩) len c, .int .i64 ((p : Int) + 1)]) := HR.out.set 1 _
  have e1 : (w.setCell ⟨R, 1, none⟩ (.int .i64 ((p : Int) + 1))).cell? ⟨b, off + m, none⟩ = some (.int .u8 x) := by
    rw [World.cell?_setCell_other]; exact hx; simp [hne']
  have e2 : (w.setCell ⟨R, 1, none⟩ (.int .i64 ((p : Int) + 1))).cell? ⟨b, off + m2, none⟩ = some (.int .u8 y) := by
    rw [World.cell?_setCell_other]; exact hy; simp [hne']
  generalize hW : w.setCell ⟨R, 1, none⟩ (.int .i64 ((p : Int) + 1)) = w1 at *
  have HW := Lib.hid hW
  have d0 : w1.cell? ⟨R, 0, none⟩ = some (.slice (some ⟨b, off, none⟩) len c) := HR1.out.cell rfl
  clear hW hc0 hc1 hx hy hf
  go_quiet (fail)
  go_wp2
  go_ret
  have hn := pick_num (x * 131 + y * 1117 + ↑p * 29 + ↑d * 53) n hn (by omega) (by omega)
  exact pick_post HR.out hn.1 (fun _ => hn.2) (fun h => by omega) ⟨_, by rw [HW.out]⟩
theorem bts_cell {w : World} {b off n c : Nat} {bs : List Int} (h : Bts w (.slice (some ⟨b, off, none⟩) n c) bs) (hn : n = bs.length) {i : Nat} (hi : i < n) : ∃ x, w.cell? ⟨b, off + i, none⟩ = some (.int .u8 x) ∧ 0 ≤ x ∧ x ≤ 255 := by
  subst hn
  obtain ⟨⟨h1, h2, ⟨h3, a, c, hv⟩ | ⟨h3, b', off', c', hv, hc, hcell⟩⟩, h4⟩ := h
  · omega
  · cases hv
    refine ⟨bs[i], hcell i _ (by simp [u8s, hi]), h4 _ (List.getElem_mem hi)⟩
theorem pick_any (R : Nat) (v : Value) (bs : List Int) (n : Int) (p : Nat) (w : World) (h : Rd w R v bs p) (hp : p ≤ 1000000000000) :
    Calls Tryd.prog 26 #[.pointer (some ⟨R, 0, none⟩), .int .i64 n] w (PickPost n R v p w) := by
  obtain ⟨hr, hb, hl, hne⟩ := h
  by_cases hn : n < 1
  · exact (pick_zero R v n p w hr hn (by omega) (by omega)).mono fun e w' ⟨he, hw⟩ => by
      rw [he]; exact pick_post hr (Int.le_refl _) (fun h => by omega) (fun _ => rfl) ⟨0, by rw [hw]; rfl⟩
  · obtain ⟨ad, c, ⟨rfl, hm, hc⟩ | ⟨rfl, rfl⟩⟩ := hb.open
    · by_cases h0 : bs.length = 0
      · rw [h0] at hr
        refine (pick_none R ad c n p w hr (by omega) (by omega) (by omega)).mono fun e w' ⟨he, hw⟩ => ?_
        rw [he, h0]; exact pick_post hr (Int.le_refl _) (fun h => by omega) (fun _ => rfl) ⟨0, by rw [hw]; rfl⟩
      · obtain ⟨b, off, rfl⟩ : ∃ b off, ad = some ⟨b, off, none⟩ := by
          rcases hb.1.2.2 with ⟨h3, _⟩ | ⟨_, b, off, c', hv, _⟩
          · exact absurd h3 h0
          · cases hv; exact ⟨b, off, rfl⟩
        have hbR := hne (by omega) b rfl
        by_cases hlt : p < bs.length
        · obtain ⟨x, hx, x0, x1⟩ := bts_cell hb rfl hlt
          refine (pick_near R b off _ c x n p w hr (by omega) hlt hl hbR hx x0 x1).mono fun e w' ⟨he, hw⟩ => ?_
          rw [he]; exact pick_post hr (Int.emod_nonneg _ (by omega)) (fun h => Int.emod_lt_of_pos _ (by omega)) (fun h => absurd h hn) ⟨0, by rw [hw]; rfl⟩
        · obtain ⟨x, hx, x0, x1⟩ := bts_cell hb rfl (i := p % bs.length) (Nat.mod_lt _ (by omega))
          obtain ⟨y, hy, y0, y1⟩ := bts_cell hb rfl (i := (p * 7 + 3) % bs.length) (Nat.mod_lt _ (by omega))
          exact pick_far R b off _ c x y n p w hr (by omega) (by omega) (by omega) (by omega) hl hbR (p % bs.length) ((p * 7 + 3) % bs.length) (p / bs.length) (by simp) (by simp) (by simp) (Nat.mod_lt _ (by omega)) (Nat.mod_lt _ (by omega)) (Nat.div_le_self _ _) hx x0 x1 hy y0 y1
    · refine (pick_none R ad c n p w hr (by omega) (by omega) (by omega)).mono fun e w' ⟨he, hw⟩ => ?_
      rw [he]; exact pick_post hr (Int.le_refl _) (fun h => by omega) (fun _ => rfl) ⟨0, by rw [hw]; rfl⟩
/-- what a draw leaves: the reader one number on, all else as it was -/
theorem Rd.next {w w' : World} {R : Nat} {v : Value} {bs : List Int} {p : Nat} (h : Rd w R v bs p) (hr : Row w' R 69 [v, .int .i64 ((p : Int) + 1)]) (hg : w.grownBy w' (some R)) : Rd w' R v bs ((p + 1 : Nat) : Int) := by
  obtain ⟨_, hb, hl, hne⟩ := h
  refine ⟨by simpa using hr, ⟨?_, hb.2⟩, hl, hne⟩
  obtain ⟨h1, h2, h3 | ⟨h3, b, off, c, hv, hc, hcell⟩⟩ := hb.1
  · exact ⟨h1, h2, .inl h3⟩
  · refine ⟨h1, h2, .inr ⟨h3, b, off, c, hv, hc, fun i u hu => ?_⟩⟩
    have := hcell i u hu
    exact hg.cell this (fun e => hne h3 b (by rw [hv]; rfl) (by cases e; rfl))
def OddPost (n : Int) (R : Nat) (v : Value) (bs : List Int) (p : Nat) (w : World) (e : Ending) (w' : World) : Prop :=
  ∃ (t : Bool) (p' : Nat), e = .returned (.bool t) ∧ p ≤ p' ∧ p' ≤ p + 1 ∧ Rd w' R v bs p' ∧ w.grownBy w' (some R) ∧ (n ≤ 0 → t = false)
theorem odd_any (R : Nat) (v : Value) (bs : List Int) (n : Int) (p : Nat) (w : World) (h : Rd w R v bs p) (hp : p ≤ 1000000000000) (hn : -1000000000000 ≤ n ∧ n ≤ 1000000000000) :
    Calls Tryd.prog 36 #[.pointer (some ⟨R, 0, none⟩), .int .i64 n] w (OddPost n R v bs p w) := by
  have H := Lib.hid h
  clear h
  by_cases h0 : 0 < n
  · go_enter Tryd.func36, Tryd.ntmps36
    go_wp2_with fail
    refine (pick_any R v bs n p _ H.out hp).mono ?_
    rintro e w1 ⟨x, rfl, x0, x1, x2, hr, hg, hs⟩
    have HR := Lib.hid (H.out.next hr hg)
    have HG := Lib.hid hg
    clear hr hg hs x1 x2
    go_wp2
    go_ret
    exact ⟨_, p + 1, rfl, by omega, by omega, HR.out, HG.out, fun h => by omega⟩
  · have h0' : decide (0 < n) = false := by simpa using h0
    go_enter Tryd.func36, Tryd.ntmps36
    go_wp2
    go_ret
    exact ⟨false, p, rfl, by omega, by omega, H.out, grown_refl _ _, fun _ => rfl⟩
def OpenPost (w : World) (e : Ending) (w' : World) : Prop :=
  ∃ v bs, e = .returned (.pointer (some ⟨w.heap.size, 0, none⟩)) ∧ Rd w' w.heap.size v bs ((0 : Nat) : Int) ∧ Below w.heap.size w w'
theorem open_any (v : Value) (bs : List Int) (w : World) (h : Bts w v bs) : Calls Tryd.prog 24 #[v] w (OpenPost w) := by
  obtain ⟨ad, c, ⟨rfl, hm, hc⟩ | ⟨rfl, rfl⟩⟩ := h.open
  · by_cases hl : 2000 < bs.length
    · obtain ⟨b, off, rfl⟩ : ∃ b off, ad = some ⟨b, off, none⟩ := by
        rcases h.1.2.2 with ⟨h3, _⟩ | ⟨_, b, off, c', hv, _⟩
        · omega
        · cases hv; exact ⟨b, off, rfl⟩
      have H := Lib.hid h
      have hm' := hm
      unfold maxLen at hm'
      have hc2 : 2000 ≤ c := by omega
      clear h hm
      go_enter Tryd.func24, Tryd.ntmps24
      go_wp2
      go_ret
      obtain ⟨h1, h2⟩ := H.out
      rcases h1.2.2 with ⟨h3, _⟩ | ⟨_, b', off', c', hv, hc', hcell⟩
      · omega
      · cases hv
        have hlt : b < w.heap.size := World.block_lt_of_cell? w _ (hcell 0 _ (List.getElem?_eq_getElem (by simp [u8s]; omega)))
        have hb := (Below.refl w.heap.size w).alloc (Nat.le_refl _) (.cells #[.slice (some ⟨b, off, none⟩) 2000 c, .int .i64 0] 69)
        refine ⟨.slice (some ⟨b, off, none⟩) 2000 c, bs.take 2000, rfl, ⟨Row.new w _ [_, _], ⟨⟨by simp [u8s], by simp; unfold maxLen; omega, .inr ⟨by simp; omega, b, off, c, by simp; omega, by simp; omega, fun i u hu => ?_⟩⟩, fun x hx => h2 x (List.mem_of_mem_take hx)⟩, by simp; omega, fun _ g hg => by cases hg; exact Nat.ne_of_lt hlt⟩, hb⟩
        rw [hb.cell (p := ⟨b, off + i, none⟩) hlt]
        refine hcell i u ?_
        rw [← hu]
        have hi : i < 2000 := by
          have := (List.getElem?_eq_some_iff.1 hu).1
          simp [u8s] at this
          omega
        simp [u8s, List.getElem?_take, hi]
    · have H := Lib.hid h
      have hm' := hm
      unfold maxLen at hm'
      clear h hm
      go_enter Tryd.func24, Tryd.ntmps24
      go_wp2
      go_ret
      have hb := (Below.refl w.heap.size w).alloc (Nat.le_refl _) (.cells #[.slice ad bs.length c, .int .i64 0] 69)
      refine ⟨_, bs, rfl, ⟨Row.new w _ [_, _], H.out.mono hb (Nat.le_refl _), by omega, fun h0 g hg => ?_⟩, hb⟩
      rcases H.out.1.2.2 with ⟨h3, _⟩ | ⟨h3, b', off', c', hv, hc', hcell⟩
      · omega
      · cases hv
        have hlt : b' < w.heap.size := World.block_lt_of_cell? w _ (hcell 0 _ (List.getElem?_eq_getElem (by simp [u8s]; omega)))
        cases hg
        exact Nat.ne_of_lt hlt
  · go_enter Tryd.func24, Tryd.ntmps24
    go_wp2
    go_ret
    have hb := (Below.refl w.heap.size w).alloc (Nat.le_refl _) (.cells #[.slice ad 0 c, .int .i64 0] 69)
    exact ⟨_, [], rfl, ⟨Row.new w _ [_, _], ⟨⟨rfl, Nat.zero_le _, .inl ⟨rfl, _, _, rfl⟩⟩, fun x hx => by cases hx⟩, by simp, fun h0 => by simp at h0⟩, hb⟩
end Go.Proofs.YtajgghifamebkaaDoor
