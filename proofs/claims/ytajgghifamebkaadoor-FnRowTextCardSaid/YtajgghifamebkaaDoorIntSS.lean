/- slices of slices of ints: views, rows of the call's own, and the helpers of the laws at them -/
import Derived.Test.YtajgghifamebkaaDoorRes
import Derived.Test.YtajgghifamebkaaDoorScal
import Derived.StillTailTactics
namespace Go.Proofs.YtajgghifamebkaaDoor
set_option linter.unusedSimpArgs false
set_option linter.unusedVariables false
open Go.RowKit
theorem Tryd.infoInts : (Tryd.prog.info? 38).map (fun i => (i.zero, i.size, i.bytes)) = some (some (.slice none 0 0), 1, 24) := by kernel_rfl
theorem View.cells {w : World} {v : Value} {n : Nat} {vs : Nat → Value} (h : View w 1 v n (tab n vs)) : ∃ ad c, v = .slice ad n c ∧ n ≤ maxLen ∧ ∀ i, i < n → ∃ b off, ad = some ⟨b, off, none⟩ ∧ ∀ i, i < n → w.cell? ⟨b, off + i, none⟩ = some (vs i) := by
  obtain ⟨h1, h2, ⟨h3, a, c, hv⟩ | ⟨h3, b, off, c, hv, hc, hcell⟩⟩ := h
  · rw [h3]; exact ⟨a, c, hv, Nat.zero_le _, fun i hi => by omega⟩
  · exact ⟨_, c, hv, h2, fun i hi => ⟨b, off, rfl, fun i hi => hcell i _ (tab_get _ hi)⟩⟩
/-- n rows, row i reads as f i -/
def IntSS (w : World) (v : Value) (n : Nat) (f : Nat → List Int) : Prop := ∃ vs : Nat → Value, View w 1 v n (tab n vs) ∧ ∀ i, i < n → Ints w (vs i) (f i)
theorem IntSS.mono {w w' : World} {v n f} (h : IntSS w v n f) {B : Nat} (hb : Below B w w') (hB : w.heap.size ≤ B) : IntSS w' v n f := by
  obtain ⟨vs, h1, h2⟩ := h
  exact ⟨vs, h1.mono hb hB, fun i hi => (h2 i hi).mono hb hB⟩
theorem IntSS.open {w : World} {v n f} (h : IntSS w v n f) : ∃ ad c, v = .slice ad n c ∧ n ≤ maxLen ∧ ∀ i, i < n → ∃ b off, ad = some ⟨b, off, none⟩ ∧ ∀ i, i < n → ∃ a' c', w.cell? ⟨b, off + i, none⟩ = some (.slice a' (f i).length c') ∧ Ints w (.slice a' (f i).length c') (f i) := by
  obtain ⟨vs, h1, h2⟩ := h
  obtain ⟨ad, c, hv, hm, hc⟩ := h1.cells
  refine ⟨ad, c, hv, hm, fun i hi => ?_⟩
  obtain ⟨b, off, hb, hcell⟩ := hc i hi
  refine ⟨b, off, hb, fun i hi => ?_⟩
  have h3 := hcell i hi
  have h4 := h2 i hi
  obtain ⟨a', c', he, _⟩ := h4.open
  rw [he] at h3 h4
  exact ⟨a', c', h3, h4⟩
/-- the rows are the call's own, each in a block of its own, all from B on -/
def OwnSS (w : World) (B : Nat) (v : Value) (n : Nat) (f : Nat → List Int) : Prop := ∃ (vs : Nat → Value) (gs : Nat → Option Nat) (b : Option Nat), Own w b 38 1 v n (tab n vs) ∧ From B b ∧
  ∀ i, i < n → OwnI w (gs i) (vs i) (f i) ∧ From B (gs i) ∧ (∀ g, b = some g → gs i ≠ some g) ∧ ∀ j, j < n → j ≠ i → ∀ g, gs j = some g → gs i ≠ some g
theorem OwnSS.view {w B v n f} (h : OwnSS w B v n f) : IntSS w v n f := by
  obtain ⟨vs, gs, b, h1, _, h3⟩ := h
  exact ⟨vs, h1.view, fun i hi => (h3 i hi).1.ints⟩
theorem OwnSS.mono {w w' : World} {B v n f} (h : OwnSS w B v n f) (hb : Below w.heap.size w w') : OwnSS w' B v n f := by
  obtain ⟨vs, gs, b, h1, h2, h3⟩ := h
  exact ⟨vs, gs, b, h1.mono hb (Nat.le_refl _), h2, fun i hi => ⟨(h3 i hi).1.mono hb, (h3 i hi).2⟩⟩
theorem OwnSS.grown {w w' : World} {B v n f} {b' : Option Nat} (h : OwnSS w B v n f) (hg : w.grownBy w' b') (hl : ∀ g, b' = some g → g < B) : OwnSS w' B v n f := by
  obtain ⟨vs, gs, b, h1, h2, h3⟩ := h
  have ne : ∀ c : Option Nat, From B c → ∀ g, c = some g → b' ≠ some g := fun c hc g e1 e2 => by have := hc g e1; have := hl g e2; omega
  exact ⟨vs, gs, b, h1.grown hg (ne b h2), h2, fun i hi => ⟨(h3 i hi).1.grown hg (ne _ (h3 i hi).2.1), (h3 i hi).2⟩⟩
/-- how many cells the first k rows have -/
def preL (f : Nat → List Int) : Nat → Nat
  | 0 => 0
  | k + 1 => preL f k + (f k).length
theorem preL_mono (f : Nat → List Int) {i j : Nat} (h : i ≤ j) : preL f i ≤ preL f j := by
  induction j with
  | zero => obtain rfl : i = 0 := by omega
            exact Nat.le_refl _
  | succ j ih =>
    by_cases e : i = j + 1
    · subst e; exact Nat.le_refl _
    · exact Nat.le_trans (ih (by omega)) (Nat.le_add_right _ _)
theorem preL_bound (f : Nat → List Int) (L : Nat) : ∀ n, (∀ i, i < n → (f i).length ≤ L) → preL f n ≤ n * L
  | 0, _ => by simp [preL]
  | n + 1, h => by
    have ih := preL_bound f L n (fun i hi => h i (by omega))
    have := h n (by omega)
    rw [preL, Nat.add_mul]; omega
def marksSS (k0 : Int) (f : Nat → List Int) (i : Nat) : List Int := marks (k0 + preL f i) (f i).length
set_option maxRecDepth 20000 in
theorem eqIntSS_same (v u : Value) (n : Nat) (f : Nat → List Int) (w : World) (h : IntSS w v n f) (g : IntSS w u n f) :
    Calls Tryd.prog 40 #[v, u] w fun e w' => e = .returned (.bool true) ∧ Below w.heap.size w w' := by
  obtain ⟨ad, c, rfl, hmax, hop⟩ := h.open
  obtain ⟨ad2, c2, rfl, _, hop2⟩ := g.open
  unfold maxLen at hmax
  have HOP := Lib.hid hop
  have HOP2 := Lib.hid hop2
  clear hop hop2 h g
  go_enter Tryd.func40, Tryd.ntmps40
  go_wp2
  go_loopw [5] (fun i wr => ∃ k : Nat, k ≤ n ∧ i = .int .i64 k ∧ Hid (Below w.heap.size w wr)) (fun i _ => n - (intOf i).toNat)
  case atStart => exact ⟨0, Nat.zero_le _, rfl, Below.refl _ _⟩
  case round =>
    obtain ⟨k, hk, rfl, hB⟩ := hrel
    by_cases hlt : k < n
    · obtain ⟨b, off, rfl, hcell⟩ := HOP.out k hlt
      obtain ⟨b2, off2, rfl, hcell2⟩ := HOP2.out k hlt
      obtain ⟨a', c', h1, h2⟩ := hcell k hlt
      obtain ⟨a2', c2', h3, h4⟩ := hcell2 k hlt
      have c0 := (hB.out.cell (p := ⟨b, off + k, none⟩) (World.block_lt_of_cell? w _ h1)).trans h1
      have d0 := (hB.out.cell (p := ⟨b2, off2 + k, none⟩) (World.block_lt_of_cell? w _ h3)).trans h3
      have HB2 : Hid (Below w.heap.size w wr.drew) := hB.out.drew
      have H2 := Lib.hid (h2.mono HB2.out (Nat.le_refl _))
      have H4 := Lib.hid (h4.mono HB2.out (Nat.le_refl _))
      obtain ⟨xs, hxs⟩ : ∃ xs, f k = xs := ⟨_, rfl⟩
      rw [hxs] at c0 d0 H2 H4
      clear hcell hcell2 hxs h1 h2 h3 h4
      go_wp2
      go_still_tail 8, (by kernel_rfl)
      change wpList _ _ _ _ _ wr.drew
      generalize wr.drew = w2 at HB2 H2 H4 ⊢
      clear c0 d0 hB
      have hsz := HB2.out.size
      go_wp2_with fail
      refine (eqIntS_same _ _ xs _ H2.out H4.out).mono ?_
      rintro e w3 ⟨rfl, hb3⟩
      have HB3 : Hid (Below w.heap.size w w3) := HB2.out.trans (hb3.mono hsz)
      clear hb3 HB2 hsz H2 H4
      go_wp2
      go_roundw
      case rel => exact ⟨k + 1, hlt, by go_num, HB3.out⟩
      case measure => simp [intOf]; omega
    · obtain rfl : k = n := by omega
      go_wp2
      go_ret
      exact ⟨rfl, hB.out⟩
set_option maxRecDepth 20000 in
theorem markIntSS_any (v : Value) (B n : Nat) (f : Nat → List Int) (k0 : Int) (w : World) (h : OwnSS w B v n f) (hBw : B ≤ w.heap.size) (h0 : 0 ≤ k0) (h1 : k0 + preL f n ≤ 4611686018427387904) :
    Calls Tryd.prog 42 #[v, .int .i64 k0] w fun e w' => e = .returned (.int .i64 (k0 + preL f n)) ∧ OwnSS w' B v n (marksSS k0 f) ∧ Below B w w' := by
  obtain ⟨vs, gs, b, hO, hF, hI⟩ := h
  obtain ⟨ad, c, hv, hmax, hcs⟩ := hO.view.cells
  subst hv
  unfold maxLen at hmax
  have HO := Lib.hid hO
  have HI := Lib.hid hI
  have HCS := Lib.hid hcs
  have HF := Lib.hid hF
  clear hO hI hcs hF
  go_enter Tryd.func42, Tryd.ntmps42
  go_wp2
  go_loopw [1, 5] (fun kk i wr => ∃ k : Nat, k ≤ n ∧ i = .int .i64 k ∧ kk = .int .i64 (k0 + preL f k) ∧ Hid (Own wr b 38 1 (.slice ad n c) n (tab n vs)) ∧ Hid (∀ i, i < k → OwnI wr (gs i) (vs i) (marksSS k0 f i)) ∧ Hid (∀ i, k ≤ i → i < n → OwnI wr (gs i) (vs i) (f i)) ∧ Hid (Below B w wr)) (fun _ i _ => n - (intOf i).toNat)
  case atStart => exact ⟨0, Nat.zero_le _, rfl, by simp [preL], HO.out, (fun i hi => by omega), (fun i _ hi => (HI.out i hi).1), Below.refl _ _⟩
  case round =>
    obtain ⟨k, hk, rfl, rfl, hO, hD, hT, hB⟩ := hrel
    have hpm := preL_mono f hk
    obtain ⟨x, hx⟩ : ∃ x, k0 + (preL f k : Int) = x := ⟨_, rfl⟩
    by_cases hlt : k < n
    · obtain ⟨ad', c', hv', -, hcs⟩ := hO.out.view.cells
      cases hv'
      obtain ⟨b', off, rfl, hcell⟩ := hcs k hlt
      have c0 := hcell k hlt
      have hK := hT.out k (Nat.le_refl _) hlt
      obtain ⟨a', c', hvk, hmk, -⟩ := hK.ints.open
      rw [hvk] at c0
      have HK := Lib.hid hK
      have HVK := Lib.hid hvk
      rw [hvk] at HK
      have hp2 := preL_mono f (Nat.succ_le_of_lt hlt)
      rw [preL] at hp2
      have HX : Hid (k0 + (preL f (k + 1) : Int) = x + ((f k).length : Int)) := by unfold Hid; rw [← hx, preL]; push_cast; omega
      have HM : Hid (marks x (f k).length = marksSS k0 f k) := by unfold Hid marksSS; rw [hx]
      have q0 : 0 ≤ x := by omega
      have q1 : x + ((f k).length : Int) ≤ 4611686018427387904 := by omega
      rw [hx]
      clear hcell hcs hK hvk hx hp2 hpm
      go_wp2_with fail
      refine (markIntS_any _ _ (f k) x _ HK.out q0 q1).mono ?_
      rintro e w2 ⟨rfl, ho, hg⟩
      have hne : ∀ i, i < n → i ≠ k → ∀ g, gs i = some g → gs k ≠ some g := fun i hi e => (HI.out k hlt).2.2.2 i hi e
      have HO2 := Lib.hid (hO.out.grown hg (HI.out k hlt).2.2.1)
      have HD2 : Hid (∀ i, i < k + 1 → OwnI w2 (gs i) (vs i) (marksSS k0 f i)) := fun i hi => by
        by_cases e : i = k
        · subst e; rw [← HM.out, HVK.out]; exact ho
        · exact (hD.out i (by omega)).grown hg (hne i (by omega) e)
      have HT2 : Hid (∀ i, k + 1 ≤ i → i < n → OwnI w2 (gs i) (vs i) (f i)) := fun i h1 h2 => (hT.out i (by omega) h2).grown hg (hne i h2 (by omega))
      have HB2 : Hid (Below B w w2) := hB.out.trans (below_grown hg (HI.out k hlt).2.1 (Nat.le_trans hBw hB.out.size))
      clear ho hg hne hO hD hT hB
      go_wp2
      go_roundw
      case rel => exact ⟨k + 1, hlt, by go_num, by rw [HX.out], HO2.out, HD2.out, HT2.out, HB2.out⟩
      case measure => simp [intOf]; omega
    · obtain rfl : k = n := by omega
      have HX := Lib.hid hx
      rw [hx]
      clear hx
      go_wp2
      go_ret
      exact ⟨ret_int HX.out.symm, ⟨vs, gs, b, hO.out, HF.out, fun i hi => ⟨hD.out i hi, (HI.out i hi).2⟩⟩, hB.out⟩
set_option maxRecDepth 20000 in
theorem heldIntSS_any (v : Value) (n : Nat) (f : Nat → List Int) (k0 : Int) (w : World) (h : IntSS w v n (marksSS k0 f)) (h0 : 0 ≤ k0) (h1 : k0 + preL f n ≤ 4611686018427387904) :
    Calls Tryd.prog 44 #[v, .int .i64 k0] w fun e w' => e = .returned (.int .i64 (k0 + preL f n)) ∧ Below w.heap.size w w' := by
  obtain ⟨ad, c, rfl, hmax, hop⟩ := h.open
  unfold maxLen at hmax
  have HOP := Lib.hid hop
  clear hop h
  go_enter Tryd.func44, Tryd.ntmps44
  go_wp2
  go_loopw [1, 5] (fun kk i wr => ∃ k : Nat, k ≤ n ∧ i = .int .i64 k ∧ kk = .int .i64 (k0 + preL f k) ∧ Hid (Below w.heap.size w wr)) (fun _ i _ => n - (intOf i).toNat)
  case atStart => exact ⟨0, Nat.zero_le _, rfl, by simp [preL], Below.refl _ _⟩
  case round =>
    obtain ⟨k, hk, rfl, rfl, hB⟩ := hrel
    have hpm := preL_mono f hk
    obtain ⟨x, hx⟩ : ∃ x, k0 + (preL f k : Int) = x := ⟨_, rfl⟩
    by_cases hlt : k < n
    · obtain ⟨b, off, rfl, hcell⟩ := HOP.out k hlt
      obtain ⟨a', c', h1, h2⟩ := hcell k hlt
      have c0 := (hB.out.cell (p := ⟨b, off + k, none⟩) (World.block_lt_of_cell? w _ h1)).trans h1
      have H2 := Lib.hid (h2.mono hB.out (Nat.le_refl _))
      have hp2 := preL_mono f (Nat.succ_le_of_lt hlt)
      rw [preL] at hp2
      unfold marksSS at c0 H2
      rw [hx, marks_length] at c0 H2
      have HX : Hid (k0 + (preL f (k + 1) : Int) = x + ((f k).length : Int)) := by unfold Hid; rw [← hx, preL]; push_cast; omega
      have q0 : 0 ≤ x := by omega
      have q1 : x + ((f k).length : Int) ≤ 4611686018427387904 := by omega
      have q2 : decide (x + ((f k).length : Int) < 0) = false := by simp; omega
      have hsz := hB.out.size
      rw [hx]
      clear hcell hx h1 h2 hp2 hpm
      go_wp2_with fail
      refine (heldIntS_any _ (f k).length x _ H2.out q0 q1).mono ?_
      rintro e w3 ⟨rfl, hb3⟩
      have HB3 : Hid (Below w.heap.size w w3) := hB.out.trans (hb3.mono hsz)
      clear hb3 hB hsz H2
      go_wp2
      go_roundw
      case rel => exact ⟨k + 1, hlt, by go_num, by rw [HX.out], HB3.out⟩
      case measure => simp [intOf]; omega
    · obtain rfl : k = n := by omega
      have HX := Lib.hid hx
      rw [hx]
      clear hx
      go_wp2
      go_ret
      exact ⟨ret_int HX.out.symm, hB.out⟩
end Go.Proofs.YtajgghifamebkaaDoor
