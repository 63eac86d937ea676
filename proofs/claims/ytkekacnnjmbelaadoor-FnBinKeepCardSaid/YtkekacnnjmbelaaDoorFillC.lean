/- contracts of FillBins, both -/
import Derived.Test.YtkekacnnjmbelaaDoorFill
namespace Go.Proofs.YtkekacnnjmbelaaDoor
open Go.RowKit
set_option maxHeartbeats 1000000 in
theorem impl_FillBins (v : Value) (xs : List Int) (u : Value) (bs : List Int) (m r : Int) (w : World) (h : Ints w v xs) (g : Ints w u bs) :
    Calls Tryd.prog 26 #[v, u, .int .i64 m, .int .i64 r] w (OwnPost (fillN xs bs m r) (fillF xs bs r) (fillB xs bs m r) w) := by
  obtain ⟨i0, hi, hz0, hz1, hz2⟩ := info_parts Tryd.infoInts
  obtain ⟨ad, c, rfl, hmax, hop⟩ := h.open
  obtain ⟨ad2, c2, rfl, hmax2, hop2⟩ := g.open
  unfold maxLen at hmax hmax2
  have HOP := Lib.hid hop
  have HOP2 := Lib.hid hop2
  clear hop hop2 h g
  have HF0 : Hid (∀ w', (fillB xs bs m r = true → False) → Below w.heap.size w w' → OwnPost (fillN xs bs m r) (fillF xs bs r) (fillB xs bs m r) w (.returned (.tuple #[.slice none 0 0, .bool false])) w') := fun w' hb hbel => by
    have e := fillB_no hb
    unfold fillN; rw [e]; exact ⟨_, rfl, OwnSS.zero _ _ _ _ _, hbel⟩
  by_cases hl : xs.length = bs.length
  case neg =>
    have HN : Hid (fillB xs bs m r = true → False) := fun h => hl (fillB_iff.1 h).1
    have hl' : ((xs.length : Int) != (bs.length : Int)) = true := by simp; omega
    clear hl
    go_enter Tryd.func26, Tryd.ntmps26
    go_wp2
    go_ret2
    exact HF0.out _ HN.out (Below.refl _ _)
  have hl' : ((xs.length : Int) != (bs.length : Int)) = false := by simp; omega
  have HL := Lib.hid hl
  have hll : xs.length ≤ bs.length := by omega
  clear hl
  cases hin : inB m 1 8
  · have HN : Hid (fillB xs bs m r = true → False) := fun h => by have := (fillB_iff.1 h).2.1; rw [hin] at this; cases this
    have HI := Lib.hid hin
    clear hin
    go_enter Tryd.func26, Tryd.ntmps26
    go_wp2_with (go_at_call 31; refine (in_any _ _ _ _).mono ?_; rw [HI.out]; rintro e w' ⟨rfl, rfl⟩)
    go_ret2
    exact HF0.out _ HN.out (Below.refl _ _)
  cases hir : inB r 1 16
  · have HN : Hid (fillB xs bs m r = true → False) := fun h => by have := (fillB_iff.1 h).2.2.1; rw [hir] at this; cases this
    have HI := Lib.hid hin
    have HJ := Lib.hid hir
    clear hin hir
    go_enter Tryd.func26, Tryd.ntmps26
    go_wp2_with (go_at_call 31; refine (in_any _ _ _ _).mono ?_; (first | rw [HI.out] | rw [HJ.out]); rintro e w' ⟨rfl, rfl⟩)
    go_ret2
    exact HF0.out _ HN.out (Below.refl _ _)
  obtain ⟨m0, m1⟩ := inB_iff.1 hin
  obtain ⟨r0, r1⟩ := inB_iff.1 hir
  obtain ⟨M, rfl⟩ := Int.eq_ofNat_of_zero_le (by omega : 0 ≤ m)
  obtain ⟨R, rfl⟩ := Int.eq_ofNat_of_zero_le (by omega : 0 ≤ r)
  have HI := Lib.hid hin
  have HJ := Lib.hid hir
  clear hin hir
  go_enter Tryd.func26, Tryd.ntmps26
  go_wp2_with (first | (go_at_call 31; refine (in_any _ _ _ _).mono ?_; (first | rw [HI.out] | rw [HJ.out]); rintro e w' ⟨rfl, rfl⟩) | (at_make; refine wpList_make_full _ rfl _ _ 43 rfl w.heap.size 31 i0 (.slice none 0 0) 1 Tryd.underlying43 hi hz0 hz1 _ _ _ _ M rfl rfl rfl rfl ?b2 ?b3 ?b4 ?_))
  case b2 => rw [hz2]; omega
  case b3 => unfold maxLen; omega
  case b4 => exact Nat.le_refl _
  · intro w1 hown hgrow
    have hrow := (row_of_own hown).1
    rw [made_tab] at hrow
    have HG : Hid (Grid w1 w.heap.size w.heap.size M (fun b => binL xs bs b 0)) := Grid.new hrow
    have HB : Hid (Below w.heap.size w w1) := (Below.refl _ _).grown hgrow (Nat.le_refl _) (by simp)
    clear hown hgrow hrow
    go_wp2
    go_loopw [34] (fun i wr => ∃ k : Nat, k ≤ xs.length ∧ i = .int .i64 k ∧ Hid (Grid wr w.heap.size w.heap.size M (fun b => binL xs bs b k)) ∧ Hid (Below w.heap.size w wr) ∧ Hid (∀ j, j < k → valOk xs bs M j = true) ∧ Hid (∀ b, b < M → (binL xs bs b k).length ≤ R)) (fun i _ => xs.length - (intOf i).toNat)
    case atStart => exact ⟨0, Nat.zero_le _, rfl, HG.out, HB.out, (fun j hj => by omega), (fun b hb => by simp [binL])⟩
    case round =>
      obtain ⟨k, hk, rfl, hG, hB, hN, hR⟩ := hrel
      by_cases hlt : k < xs.length
      · obtain ⟨b, off, rfl, hcell⟩ := HOP.out k hlt
        have hc1 := hcell k hlt
        have hc1 : wr.cell? ⟨b, off + k, none⟩ = some (iv xs k) := (hB.out.cell (p := ⟨b, off + k, none⟩) (World.block_lt_of_cell? w _ hc1)).trans hc1
        obtain ⟨b2, off2, rfl, hcell2⟩ := HOP2.out k (by omega)
        have hc2 := hcell2 k (by omega)
        have hc2 : wr.cell? ⟨b2, off2 + k, none⟩ = some (iv bs k) := (hB.out.cell (p := ⟨b2, off2 + k, none⟩) (World.block_lt_of_cell? w _ hc2)).trans hc2
        obtain ⟨y, hy⟩ : ∃ y, xs[k]?.getD 0 = y := ⟨_, rfl⟩
        obtain ⟨z, hz⟩ : ∃ z, bs[k]?.getD 0 = z := ⟨_, rfl⟩
        have hx : iv xs k = .int .i64 y := by rw [iv, hy]
        have hx2 : iv bs k = .int .i64 z := by rw [iv, hz]
        rw [hx] at hc1
        rw [hx2] at hc2
        cases hi1 : inB y 0 100000
        · have HN : Hid (fillB xs bs M R = true → False) := fun h => by have := (valOk_iff.1 ((fillB_iff.1 h).2.2.2.1 k hlt)).1; rw [hy, hi1] at this; cases this
          have HI1 := Lib.hid hi1
          clear hcell hcell2 hx hx2 hy hz hi1
          go_wp2_with (go_at_call 31; refine (in_any _ _ _ _).mono ?_; rw [HI1.out]; rintro e w' ⟨rfl, rfl⟩)
          go_ret2
          exact HF0.out _ HN.out hB.out
        cases hi2 : inB z 0 ((M : Int) - 1)
        · have HN : Hid (fillB xs bs M R = true → False) := fun h => by have := (valOk_iff.1 ((fillB_iff.1 h).2.2.2.1 k hlt)).2; rw [hz, hi2] at this; cases this
          have HI1 := Lib.hid hi1
          have HI2 := Lib.hid hi2
          clear hcell hcell2 hx hx2 hy hz hi1 hi2
          go_wp2_with (go_at_call 31; refine (in_any _ _ _ _).mono ?_; (first | rw [HI1.out] | rw [HI2.out]); rintro e w' ⟨rfl, rfl⟩)
          go_ret2
          exact HF0.out _ HN.out hB.out
        obtain ⟨z0, z1⟩ := inB_iff.1 hi2
        obtain ⟨Z, rfl⟩ := Int.eq_ofNat_of_zero_le z0
        have hZ : Z < M := by omega
        obtain ⟨a3, c3, hc3, hg3, hstep⟩ := hG.out.at (Nat.le_refl _) hZ
        have hRZ := hR.out Z hZ
        have HI1 := Lib.hid hi1
        have HI2 := Lib.hid hi2
        have HStep := Lib.hid hstep
        have HG3 := Lib.hid hg3
        by_cases hfull : (binL xs bs Z k).length = R
        · have HN : Hid (fillB xs bs M R = true → False) := fun h => by
            have h6 := (fillB_iff.1 h).2.2.2.2 Z (by simpa using hZ)
            simp only [roomOk, decide_eq_true_eq] at h6
            have h7 := binL_mono xs bs Z (show k + 1 ≤ xs.length from hlt)
            rw [binL_hit hz, List.length_append, hfull] at h7
            simp at h7
            omega
          have hf2 : (((binL xs bs Z k).length : Int) == (R : Int)) = true := by rw [hfull]; simp
          obtain ⟨q, hq⟩ : ∃ q, (binL xs bs Z k).length = q := ⟨_, rfl⟩
          rw [hq] at hf2 hc3
          clear hcell hcell2 hx hx2 hy hz hi1 hi2 hfull hstep hg3 hRZ hq
          go_wp2_with (go_at_call 31; refine (in_any _ _ _ _).mono ?_; (first | rw [HI1.out] | rw [HI2.out]); rintro e w' ⟨rfl, rfl⟩)
          go_ret2
          exact HF0.out _ HN.out hB.out
        · have hf2 : (((binL xs bs Z k).length : Int) == (R : Int)) = false := by simp; omega
          have HV : Hid (∀ j, j < k + 1 → valOk xs bs M j = true) := fun j hj => by
            by_cases e : j = k
            · subst e; rw [valOk_iff, hy, hz]; exact ⟨hi1, hi2⟩
            · exact hN.out j (by omega)
          have HL1 : Hid (binL xs bs Z k ++ [y] = binL xs bs Z (k + 1)) := by unfold Hid; rw [binL_hit hz, hy]
          have HR2 : Hid (∀ b, b < M → (binL xs bs b (k + 1)).length ≤ R) := fun b hb => by
            by_cases e : b = Z
            · subst e; rw [binL_hit hz, List.length_append]; simp; omega
            · rw [binL_miss (by rw [hz]; omega)]; exact hR.out b hb
          have HM : Hid (∀ b, b < M → ¬ b = Z → binL xs bs b k = binL xs bs b (k + 1)) := fun b _ hbz => (binL_miss (by rw [hz]; omega)).symm
          obtain ⟨q, hq⟩ : ∃ q, (binL xs bs Z k).length = q := ⟨_, rfl⟩
          rw [hq] at hf2 hc3 hRZ HStep HG3
          have HQ := Lib.hid hq
          have hsz := hB.out.size
          clear hcell hcell2 hx hx2 hy hz hi1 hi2 hfull hstep hg3 hq
          go_wp2_with (first | (go_at_call 31; refine (in_any _ _ _ _).mono ?_; (first | rw [HI1.out] | rw [HI2.out]); rintro e w' ⟨rfl, rfl⟩) | (at_builtin; refine wpList_app _ rfl (.tmp 67) (.tmp 69) 31 rfl w.heap.size 3 (.int .i64 0) 1 8 Tryd.underlying31 Tryd.infoInt rfl (by omega) (.slice a3 q c3) q (ints (binL xs bs Z k)) rfl (HG3.out.alloc _) _ 1 [.int .i64 y] rfl (view_one _ _ _) (by simp [Value.oneCell']) (by unfold maxLen; omega) (by omega) (by simp; omega) ?_; intro v1 w1 g1 r1 k1; obtain ⟨a4, c4, hv4⟩ := g1.lit; subst hv4; have R1 := Lib.hid r1; obtain ⟨hca, hfa, hGa⟩ := HStep.out _ _ _ (binL xs bs Z k ++ [y]) _ (by rw [List.length_append, HQ.out, List.length_singleton]) (by simpa [ints] using g1) r1 k1; have HGa := Lib.hid hGa; clear g1 r1 k1 hGa))
          go_roundw
          case rel => exact ⟨k + 1, hlt, by go_num, HGa.out.congr (fun b hb => by by_cases e : b = Z; (subst e; rw [if_pos rfl]; exact HL1.out); (rw [if_neg e]; exact HM.out b hb e)), ((hB.out.alloc hsz _).grown R1.out (by simp; omega) (fun g hg => (HG3.out.lt g hg).1)).setCell (Nat.le_refl _) _, HV.out, HR2.out⟩
          case measure => simp [intOf]; omega
      · obtain rfl : k = xs.length := by omega
        have HOK : Hid (fillB xs bs M R = true) := fillB_iff.2 ⟨HL.out, HI.out, HJ.out, hN.out, fun b hb => by simp only [roomOk, decide_eq_true_eq]; have := hR.out b (by simpa using hb); omega⟩
        have HF1 : Hid (∀ w', Grid w' w.heap.size w.heap.size M (fillF xs bs R) → Below w.heap.size w w' → OwnPost (fillN xs bs M R) (fillF xs bs R) (fillB xs bs M R) w (.returned (.tuple #[.slice (some ⟨w.heap.size, 0, none⟩) M M, .bool true])) w') := fun w' hg hb => by
          unfold fillN; rw [HOK.out, if_pos rfl, Int.toNat_natCast]
          exact ⟨_, rfl, hg.own (Nat.le_refl _) (by omega) (by unfold maxLen; omega), hb⟩
        clear HF0
        go_wp2
        go_loopw [75] (fun i wr => ∃ b : Nat, b ≤ M ∧ i = .int .i64 b ∧ Hid (Grid wr w.heap.size w.heap.size M (fun i => if i < b then padTo (binL xs bs i xs.length) R else binL xs bs i xs.length)) ∧ Hid (Below w.heap.size w wr)) (fun i _ => M - (intOf i).toNat)
        case atStart => exact ⟨0, Nat.zero_le _, rfl, hG.out.congr (fun b _ => by simp), hB.out⟩
        case round =>
          obtain ⟨b, hb, rfl, hG2, hB2⟩ := hrel
          by_cases hlt2 : b < M
          · have hL : Hid ((binL xs bs b xs.length).length ≤ R) := hR.out b hlt2
            go_wp2
            go_loopg [] (R - (binL xs bs b xs.length).length) (fun gk wr => Hid (gk ≤ R - (binL xs bs b xs.length).length) ∧ Hid (Grid wr w.heap.size w.heap.size M (padS (fun i => binL xs bs i xs.length) R b gk)) ∧ Hid (Below w.heap.size w wr))
            case atStart => exact ⟨Nat.le_refl _, hG2.out.congr (fun i _ => (padS_start (L := fun i => binL xs bs i xs.length) (R := R) (b := b) i).symm), hB2.out⟩
            case round =>
              clear hG2 hB2 hG hB
              obtain ⟨hgk, hG3, hB3⟩ := hrel
              obtain ⟨a3, c3, hc3, hg3, hstep⟩ := hG3.out.at (Nat.le_refl _) hlt2
              have hlen : (padS (fun i => binL xs bs i xs.length) R b gk b).length = R - gk := padS_len hL.out hgk.out
              have hgR : gk ≤ R := Nat.le_trans hgk.out (Nat.sub_le _ _)
              rw [hlen] at hc3 hg3 hstep
              have HStep := Lib.hid hstep
              have HG3 := Lib.hid hg3
              have HLEN := Lib.hid hlen
              clear hstep hg3 hlen
              obtain ⟨q, hq⟩ : ∃ q, R - gk = q := ⟨_, rfl⟩
              have hqR : q + gk = R := by omega
              rw [hq] at hc3 HStep HG3 HLEN
              clear hq
              cases gk with
              | zero =>
                have hqR2 : q = R := by omega
                rw [hqR2] at hc3
                clear hqR hqR2
                go_wp2
                go_roundw
                case rel => exact ⟨b + 1, by omega, by go_num, hG3.out.congr (fun i _ => padS_end (L := fun i => binL xs bs i xs.length) (R := R) (b := b) i), hB3.out⟩
                case measure => simp [intOf]; omega
              | succ g =>
                have hsz := hB3.out.size
                go_wp2_with (at_builtin; refine wpList_app _ rfl (.tmp 90) (.tmp 91) 31 rfl w.heap.size 3 (.int .i64 0) 1 8 Tryd.underlying31 Tryd.infoInt rfl (by omega) (.slice a3 q c3) q (ints (padS (fun i => binL xs bs i xs.length) R b (g + 1) b)) rfl (HG3.out.alloc _) _ 1 [.int .i64 (-1)] rfl (view_one _ _ _) (by simp [Value.oneCell']) (by unfold maxLen; omega) (by omega) (by simp; omega) ?_; intro v1 w1 g1 r1 k1; obtain ⟨a4, c4, hv4⟩ := g1.lit; subst hv4; have R1 := Lib.hid r1; obtain ⟨hca, hfa, hGa⟩ := HStep.out _ _ _ (padS (fun i => binL xs bs i xs.length) R b (g + 1) b ++ [-1]) _ (by rw [List.length_append, HLEN.out, List.length_singleton]) (by simpa [ints] using g1) r1 k1; have HGa := Lib.hid hGa; clear g1 r1 k1 hGa)
                go_roundg g
                case measure => omega
                case rel => exact ⟨Nat.le_trans (Nat.le_succ g) hgk.out, HGa.out.congr (fun i _ => padS_step (L := fun i => binL xs bs i xs.length) (R := R) (b := b) (g := g) hgk.out i), ((hB3.out.alloc hsz _).grown R1.out (by simp; omega) (fun g hg => (HG3.out.lt g hg).1)).setCell (Nat.le_refl _) _⟩
          · obtain rfl : b = M := by omega
            have HF2 := Lib.hid (HF1.out _ (hG2.out.congr (fun i hi => by rw [if_pos hi]; rfl)) hB2.out)
            go_wp2
            go_ret2
            exact HF2.out
theorem IntSS.zero (w : World) (a : Option Addr) (c : Nat) (f : Nat → List Int) : IntSS w (.slice a 0 c) 0 f := ⟨fun _ => .slice none 0 0, ⟨rfl, Nat.zero_le _, .inl ⟨rfl, _, _, rfl⟩⟩, fun i hi => by omega⟩
/-- finished rows in a list that grows -/
def RowsSt (wr : World) (B : Nat) (u : Value) (b : Nat) (f : Nat → List Int) : Prop := ∃ vs : Nat → Value, Gr wr B 31 1 u b (tab b vs) ∧ ∀ i, i < b → Gr wr B 3 1 (vs i) (f i).length (ints (f i)) ∧ ∀ g, gBlock u = some g → gBlock (vs i) ≠ some g
theorem RowsSt.mono {w w' : World} {B u b f} (h : RowsSt w B u b f) (hb : Below w.heap.size w w') : RowsSt w' B u b f := by
  obtain ⟨vs, h1, h2⟩ := h
  exact ⟨vs, h1.mono hb (Nat.le_refl _), fun i hi => ⟨(h2 i hi).1.mono hb (Nat.le_refl _), (h2 i hi).2⟩⟩
theorem tab_snocV {n : Nat} {f : Nat → Value} {x : Value} : tab n f ++ [x] = tab (n + 1) (fun i => if i = n then x else f i) := by
  refine tab_ext (by simp) fun i hi => ?_
  by_cases h : i < n
  · rw [List.getElem?_append_left (by simpa using h), tab_get _ h, if_neg (by omega)]
  · obtain rfl : i = n := by omega
    rw [List.getElem?_append_right (by simp), tab_length, if_pos rfl]; simp
/-- one row more -/
theorem RowsSt.snoc {wr w1 : World} {B : Nat} {u u1 x : Value} {b : Nat} {f : Nat → List Int} {vs : Nat → Value} {o : Obj} {l : List Int}
    (h2 : ∀ i, i < b → Gr wr B 3 1 (vs i) (f i).length (ints (f i)) ∧ ∀ g, gBlock u = some g → gBlock (vs i) ≠ some g) (hx : Gr wr B 3 1 x l.length (ints l)) (hxu : ∀ g, gBlock u = some g → gBlock x ≠ some g)
    (g1 : Gr w1 B 31 1 u1 (b + 1) (tab b vs ++ [x])) (r1 : (wr.alloc o).grownBy w1 (gBlock u)) (k1 : gBlock u1 = gBlock u ∨ gBlock u1 = some (wr.alloc o).heap.size) : RowsSt w1 B u1 (b + 1) (fun i => if i = b then l else f i) := by
  rw [tab_snocV] at g1
  have new : ∀ (y : Value) (m : List Int), Gr wr B 3 1 y m.length (ints m) → (∀ g, gBlock u = some g → gBlock y ≠ some g) → ∀ g, gBlock u1 = some g → gBlock y ≠ some g := fun y m hy hyu g hg => by
    rcases k1 with e | e
    · rw [e] at hg; exact hyu g hg
    · rw [e] at hg
      intro hy2
      have := (hy.lt g hy2).2
      simp at hg; omega
  have kept : ∀ (y : Value) (m : List Int), Gr wr B 3 1 y m.length (ints m) → (∀ g, gBlock u = some g → gBlock y ≠ some g) → Gr w1 B 3 1 y m.length (ints m) := fun y m hy hyu => (hy.alloc o).kept r1 (fun g hg he => hyu g he hg)
  refine ⟨_, g1, fun i hi => ?_⟩
  by_cases e : i = b
  · simp only [e, if_true]; exact ⟨kept _ _ hx hxu, new _ _ hx hxu⟩
  · simp only [if_neg e]; exact ⟨kept _ _ (h2 i (by omega)).1 (h2 i (by omega)).2, new _ _ (h2 i (by omega)).1 (h2 i (by omega)).2⟩
theorem RowsSt.read {w : World} {B u b f} (h : RowsSt w B u b f) : IntSS w u b f := by
  obtain ⟨vs, h1, h2⟩ := h
  exact ⟨vs, h1.view, fun i hi => Gr.ints (h2 i hi).1 rfl⟩
set_option maxHeartbeats 1000000 in
theorem spec_FillBins (v : Value) (xs : List Int) (u : Value) (bs : List Int) (m r : Int) (w : World) (h : Ints w v xs) (g : Ints w u bs) :
    Calls Tryd.prog 27 #[v, u, .int .i64 m, .int .i64 r] w (ReadPost (fillN xs bs m r) (fillF xs bs r) (fillB xs bs m r) w) := by
  have HG := Lib.hid g
  obtain ⟨ad, c, rfl, hmax, hop⟩ := h.open
  obtain ⟨ad2, c2, rfl, hmax2, hop2⟩ := g.open
  unfold maxLen at hmax hmax2
  have HOP := Lib.hid hop
  have HOP2 := Lib.hid hop2
  clear hop hop2 h g
  have HF0 : Hid (∀ a c w', (fillB xs bs m r = true → False) → Below w.heap.size w w' → ReadPost (fillN xs bs m r) (fillF xs bs r) (fillB xs bs m r) w (.returned (.tuple #[.slice a 0 c, .bool false])) w') := fun a c w' hb hbel => by
    have e := fillB_no hb
    unfold fillN; rw [e]; exact ⟨_, rfl, IntSS.zero _ _ _ _, hbel⟩
  have HB0 : Hid (Below w.heap.size w (w.alloc (.cells #[] 31))) := (Below.refl w.heap.size w).alloc (Nat.le_refl _) (.cells #[] 31)
  have HG0 := Lib.hid (HG.out.mono HB0.out (Nat.le_refl _))
  cases hok : binsOk bs m
  · have HN : Hid (fillB xs bs m r = true → False) := fun h => by have := fill_bins h; rw [hok] at this; cases this
    have HO := Lib.hid hok
    clear hok
    go_enter Tryd.func27, Tryd.ntmps27
    go_wp2_with (go_at_call 39; refine (valid30_any _ _ _ _ HG0.out).mono ?_; rw [HO.out]; rintro e w' ⟨rfl, rfl⟩)
    go_ret2
    exact HF0.out _ _ _ HN.out HB0.out
  have HO := Lib.hid hok
  by_cases hl : xs.length = bs.length
  case neg =>
    have HN : Hid (fillB xs bs m r = true → False) := fun h => hl (fillB_iff.1 h).1
    have hl' : ((xs.length : Int) != (bs.length : Int)) = true := by simp; omega
    clear hl hok
    go_enter Tryd.func27, Tryd.ntmps27
    go_wp2_with (go_at_call 39; refine (valid30_any _ _ _ _ HG0.out).mono ?_; rw [HO.out]; rintro e w' ⟨rfl, rfl⟩)
    go_ret2
    exact HF0.out _ _ _ HN.out HB0.out
  have hl' : ((xs.length : Int) != (bs.length : Int)) = false := by simp; omega
  have HL := Lib.hid hl
  have hll : xs.length ≤ bs.length := by omega
  clear hl
  cases hir : inB r 1 16
  · have HN : Hid (fillB xs bs m r = true → False) := fun h => by have := (fillB_iff.1 h).2.2.1; rw [hir] at this; cases this
    have HJ := Lib.hid hir
    clear hir hok
    go_enter Tryd.func27, Tryd.ntmps27
    go_wp2_with (first | (go_at_call 39; refine (valid30_any _ _ _ _ HG0.out).mono ?_; rw [HO.out]; rintro e w' ⟨rfl, rfl⟩) | (go_at_call 41; refine (l1In_any _ _ _ _).mono ?_; rw [HJ.out]; rintro e w' ⟨rfl, rfl⟩))
    go_ret2
    exact HF0.out _ _ _ HN.out HB0.out
  obtain ⟨m0, m1, hl128, hall⟩ := binsOk_many hok
  obtain ⟨r0, r1⟩ := inB_iff.1 hir
  obtain ⟨M, rfl⟩ := Int.eq_ofNat_of_zero_le (by omega : 0 ≤ m)
  obtain ⟨R, rfl⟩ := Int.eq_ofNat_of_zero_le (by omega : 0 ≤ r)
  have HJ := Lib.hid hir
  have HALL := Lib.hid hall
  have hx128 : xs.length ≤ 128 := by omega
  clear hir hok hall
  go_enter Tryd.func27, Tryd.ntmps27
  go_wp2_with (first | (go_at_call 39; refine (valid30_any _ _ _ _ HG0.out).mono ?_; rw [HO.out]; rintro e w' ⟨rfl, rfl⟩) | (go_at_call 41; refine (l1In_any _ _ _ _).mono ?_; rw [HJ.out]; rintro e w' ⟨rfl, rfl⟩))
  go_loopw [10, 11] (fun u i wr => ∃ b : Nat, b ≤ M ∧ i = .int .i64 b ∧ Hid (RowsSt wr w.heap.size u b (fillF xs bs R)) ∧ Hid (Below w.heap.size w wr) ∧ Hid (0 < b → ∀ j, j < xs.length → valOk xs bs M j = true) ∧ Hid (∀ i, i < b → (binL xs bs i xs.length).length ≤ R)) (fun _ i _ => M - (intOf i).toNat)
  case atStart => exact ⟨0, Nat.zero_le _, rfl, ⟨fun _ => .slice none 0 0, Gr.none0 _ _ _ _ _, fun i hi => by omega⟩, HB0.out, (fun h => by omega), (fun i hi => by omega)⟩
  case round =>
    obtain ⟨b, hb, rfl, hS, hB, hV, hR⟩ := hrel
    by_cases hlt : b < M
    · have hsz0 := hB.out.size
      have HB1 : Hid (Below wr.heap.size wr (wr.alloc (.cells #[] 3))) := (Below.refl _ _).alloc (Nat.le_refl _) _
      obtain ⟨wo, hwo⟩ : ∃ wo : World, wo = wr.alloc (.cells #[] 3) := ⟨_, rfl⟩
      rw [← hwo] at HB1
      have HWO := Lib.hid hwo
      have HS := Lib.hid (hS.out.mono HB1.out)
      have HS0 : Hid (∀ g, gBlock u10 = some g → g < wo.heap.size) := fun g hg => by obtain ⟨vs, k1, _⟩ := HS.out; exact (k1.lt g hg).2
      have HB2 : Hid (Below w.heap.size w wo) := hB.out.trans (HB1.out.mono hsz0)
      clear hwo
      go_wp2
      go_loopw [12, 13] (fun u k wr => ∃ n : Nat, n ≤ xs.length ∧ k = .int .i64 n ∧ Hid (Gr wr wo.heap.size 3 1 u (binL xs bs b n).length (ints (binL xs bs b n))) ∧ Hid (Below wo.heap.size wo wr) ∧ Hid (∀ j, j < n → valOk xs bs M j = true) ∧ (binL xs bs b n).length ≤ n) (fun _ k _ => xs.length - (intOf k).toNat)
      case atStart => exact ⟨0, Nat.zero_le _, rfl, Gr.none0 _ _ _ _ _, by rw [← HWO.out]; exact Below.refl _ _, (fun j hj => by omega), by simp [binL]⟩
      case round =>
        obtain ⟨k, hk, rfl, hG, hC, hN, hbl⟩ := hrel
        have HD : Hid (Below w.heap.size w wr) := HB2.out.trans (hC.out.mono HB2.out.size)
        have hsz1 := HD.out.size
        by_cases hlt2 : k < xs.length
        · obtain ⟨p, off, rfl, hcell⟩ := HOP.out k hlt2
          have hc1 := hcell k hlt2
          have hc1 : wr.cell? ⟨p, off + k, none⟩ = some (iv xs k) := (HD.out.cell (p := ⟨p, off + k, none⟩) (World.block_lt_of_cell? w _ hc1)).trans hc1
          obtain ⟨p2, off2, rfl, hcell2⟩ := HOP2.out k (by omega)
          have hc2 := hcell2 k (by omega)
          have hc2 : wr.cell? ⟨p2, off2 + k, none⟩ = some (iv bs k) := (HD.out.cell (p := ⟨p2, off2 + k, none⟩) (World.block_lt_of_cell? w _ hc2)).trans hc2
          obtain ⟨y, hy⟩ : ∃ y, xs[k]?.getD 0 = y := ⟨_, rfl⟩
          obtain ⟨z, hz⟩ : ∃ z, bs[k]?.getD 0 = z := ⟨_, rfl⟩
          have hx : iv xs k = .int .i64 y := by rw [iv, hy]
          have hx2 : iv bs k = .int .i64 z := by rw [iv, hz]
          rw [hx] at hc1
          rw [hx2] at hc2
          cases hi1 : inB y 0 100000
          · have HNo : Hid (fillB xs bs M R = true → False) := fun h => by have := (valOk_iff.1 ((fillB_iff.1 h).2.2.2.1 k hlt2)).1; rw [hy, hi1] at this; cases this
            have HI1 := Lib.hid hi1
            clear hcell hcell2 hx hx2 hy hz hi1
            go_wp2_with (go_at_call 41; refine (l1In_any _ _ _ _).mono ?_; rw [HI1.out]; rintro e w' ⟨rfl, rfl⟩)
            go_ret2
            exact HF0.out _ _ _ HNo.out (HD.out.alloc hsz1 _)
          have hi2 := HALL.out k (by omega)
          unfold binOk at hi2
          rw [hz] at hi2
          have HV2 : Hid (∀ j, j < k + 1 → valOk xs bs M j = true) := fun j hj => by
            by_cases e : j = k
            · subst e; rw [valOk_iff, hy, hz]; exact ⟨hi1, hi2⟩
            · exact hN.out j (by omega)
          have HI1 := Lib.hid hi1
          by_cases hzb : z = (b : Int)
          · have HL1 : Hid (binL xs bs b k ++ [y] = binL xs bs b (k + 1)) := by unfold Hid; rw [binL_hit (by rw [hz]; exact hzb), hy]
            have hzb2 : (z == (b : Int)) = true := by simpa using hzb
            obtain ⟨q, hq⟩ : ∃ q, (binL xs bs b k).length = q := ⟨_, rfl⟩
            have HQ := Lib.hid hq
            rw [hq] at hG hbl
            have hzo : wo.heap.size ≤ wr.heap.size := hC.out.size
            clear hcell hcell2 hx hx2 hy hz hi1 hi2 hzb hq
            go_wp2_with (first | (go_at_call 41; refine (l1In_any _ _ _ _).mono ?_; rw [HI1.out]; rintro e w' ⟨rfl, rfl⟩) | (at_builtin; refine wpList_app _ rfl (.tmp 57) (.tmp 62) 31 rfl wo.heap.size 3 (.int .i64 0) 1 8 Tryd.underlying31 Tryd.infoInt rfl (by omega) u12 q (ints (binL xs bs b k)) rfl (hG.out.alloc _) _ 1 [.int .i64 y] rfl (view_one _ _ _) (by simp [Value.oneCell']) (by unfold maxLen; omega) (by omega) (by simp; omega) ?_; intro v1 w1 g1 r1 k1; have G1 := Lib.hid g1; have R1 := Lib.hid r1; clear g1 r1 k1))
            go_roundw
            case rel => exact ⟨k + 1, hlt2, by go_num, by have := G1.out; rw [← HL1.out, List.length_append, HQ.out, List.length_singleton]; simpa [Hid, ints] using this, (hC.out.alloc hzo _).grown R1.out (by simp; omega) (fun g hg => (hG.out.lt g hg).1), HV2.out, by rw [← HL1.out, List.length_append, HQ.out, List.length_singleton]; omega⟩
            case measure => simp [intOf]; omega
          · have HL1 : Hid (binL xs bs b k = binL xs bs b (k + 1)) := (binL_miss (by rw [hz]; exact hzb)).symm
            have hzb2 : (z == (b : Int)) = false := by simpa using hzb
            clear hcell hcell2 hx hx2 hy hz hi1 hi2 hzb
            go_wp2_with (go_at_call 41; refine (l1In_any _ _ _ _).mono ?_; rw [HI1.out]; rintro e w' ⟨rfl, rfl⟩)
            go_roundw
            case rel => exact ⟨k + 1, hlt2, by go_num, by rw [← HL1.out]; exact hG.out, hC.out, HV2.out, by rw [← HL1.out]; omega⟩
            case measure => simp [intOf]; omega
        · obtain rfl : k = xs.length := by omega
          obtain ⟨q, hq⟩ : ∃ q, (binL xs bs b xs.length).length = q := ⟨_, rfl⟩
          have HQ := Lib.hid hq
          rw [hq] at hG hbl
          obtain ⟨a5, c5, hu5⟩ := hG.out.lit
          subst hu5
          clear hq
          have hzo : wo.heap.size ≤ wr.heap.size := hC.out.size
          by_cases hbigq : R < q
          · have HNo : Hid (fillB xs bs M R = true → False) := fun h => by
              have h6 := (fillB_iff.1 h).2.2.2.2 b (by simpa using hlt)
              simp only [roomOk, decide_eq_true_eq] at h6
              have := HQ.out
              omega
            go_wp2
            go_ret2
            exact HF0.out _ _ _ HNo.out (HD.out.alloc hsz1 _)
          · have HR2 : Hid (∀ i, i < b + 1 → (binL xs bs i xs.length).length ≤ R) := fun i hi => by
              by_cases e : i = b
              · subst e; rw [HQ.out]; omega
              · exact hR.out i (by omega)
            go_wp2
            go_loopg [12] (R - q) (fun gk u wr => Hid (gk ≤ R - q) ∧ Hid (Gr wr wo.heap.size 3 1 u (R - gk) (ints (binL xs bs b xs.length ++ List.replicate (R - q - gk) (-1)))) ∧ Hid (Below wo.heap.size wo wr))
            case atStart => exact ⟨Nat.le_refl _, by rw [show R - q - (R - q) = 0 by omega, show R - (R - q) = q by omega]; have := hG.out; simpa [Hid] using this, hC.out⟩
            case round =>
              obtain ⟨hgk, hG3, hC3⟩ := hrel
              clear hG hC HD
              have hgR : gk ≤ R := Nat.le_trans hgk.out (Nat.sub_le _ _)
              obtain ⟨d, hd⟩ : ∃ d, R - gk = d := ⟨_, rfl⟩
              rw [hd] at hG3
              obtain ⟨a6, c6, hu6⟩ := hG3.out.lit
              subst hu6
              have hdR : d + gk = R := by omega
              have HDD := Lib.hid hd
              clear hd
              have hzo : wo.heap.size ≤ wr.heap.size := hC3.out.size
              cases gk with
              | succ g =>
                have HL1 : Hid (binL xs bs b xs.length ++ List.replicate (R - q - (g + 1)) (-1) ++ [-1] = binL xs bs b xs.length ++ List.replicate (R - q - g) (-1)) := by
                  have := hgk.out
                  unfold Hid; rw [List.append_assoc, ← List.replicate_succ', show R - q - (g + 1) + 1 = R - q - g by omega]
                go_wp2_with (at_builtin; refine wpList_app _ rfl (.tmp 73) (.tmp 74) 31 rfl wo.heap.size 3 (.int .i64 0) 1 8 Tryd.underlying31 Tryd.infoInt rfl (by omega) (.slice a6 d c6) d (ints (binL xs bs b xs.length ++ List.replicate (R - q - (g + 1)) (-1))) rfl (hG3.out.alloc _) _ 1 [.int .i64 (-1)] rfl (view_one _ _ _) (by simp [Value.oneCell']) (by unfold maxLen; omega) (by omega) (by simp; omega) ?_; intro v1 w1 g1 r1 k1; have G1 := Lib.hid g1; have R1 := Lib.hid r1; clear g1 r1 k1)
                go_roundg g
                case measure => omega
                case rel =>
                  refine ⟨Nat.le_trans (Nat.le_succ g) hgk.out, ?_, (hC3.out.alloc hzo _).grown R1.out (by simp; omega) (fun g hg => (hG3.out.lt g hg).1)⟩
                  have := G1.out
                  rw [← HL1.out, show R - g = d + 1 by omega]
                  simpa [Hid, ints] using this
              | zero =>
                obtain rfl : d = R := by omega
                have HD : Hid (Below w.heap.size w wr) := HB2.out.trans (hC3.out.mono HB2.out.size)
                have hsz2 := HD.out.size
                have HLF : Hid (binL xs bs b xs.length ++ List.replicate (d - q - 0) (-1) = fillF xs bs d b) := by unfold Hid fillF padTo; rw [HQ.out]; rfl
                have hfl : (fillF xs bs d b).length = d := by unfold fillF; rw [padTo_length (by rw [HQ.out]; simp; omega)]; rfl
                have HFL := Lib.hid hfl
                clear hfl
                obtain ⟨vs, hS1, hS2⟩ := HS.out.mono (w' := wr) (hC3.out)
                obtain ⟨a7, c7, hu7⟩ := hS1.lit
                subst hu7
                have hg3 := hG3.out
                rw [HLF.out] at hg3
                have HX : Hid (Gr wr w.heap.size 3 1 (.slice a6 d c6) (fillF xs bs d b).length (ints (fillF xs bs d b))) := by unfold Hid; rw [HFL.out]; exact hg3.low HB2.out.size
                have HXU : Hid (∀ g, gBlock (.slice a7 b c7) = some g → gBlock (.slice a6 d c6) ≠ some g) := fun g e1 e2 => by
                  have h1 := HS0.out g e1
                  have h2 := (hg3.lt g e2).1
                  omega
                have HS1 := Lib.hid hS1
                have HS2 := Lib.hid hS2
                clear hS1 hS2 hg3 hS
                go_wp2_with (at_builtin; refine wpList_app _ rfl (.tmp 76) (.tmp 78) 43 rfl w.heap.size 31 (.slice none 0 0) 1 24 Tryd.underlying43 Tryd.infoInts rfl (by omega) (.slice a7 b c7) b (tab b vs) rfl (HS1.out.alloc _) _ 1 [.slice a6 d c6] rfl (view_one _ _ _) (by simp [Value.oneCell']) (by unfold maxLen; omega) (by omega) (by simp; omega) ?_; intro v1 w1 g1 r1 k1; have HSN := Lib.hid (RowsSt.snoc HS2.out HX.out HXU.out g1 r1 k1); have R1 := Lib.hid r1; clear g1 r1 k1)
                go_roundw
                case rel =>
                  refine ⟨b + 1, by omega, by go_num, ?_, (HD.out.alloc hsz2 _).grown R1.out (by simp; omega) (fun g hg => (HS1.out.lt g hg).1), fun _ => hN.out, HR2.out⟩
                  obtain ⟨ws, q1, q2⟩ := HSN.out
                  refine ⟨ws, q1, fun i hi => ?_⟩
                  have := q2 i hi
                  by_cases e : i = b
                  · subst e; simpa using this
                  · simpa [e] using this
                case measure => simp [intOf]; omega
    · obtain rfl : b = M := by omega
      have HOK : Hid (fillB xs bs b R = true) := fillB_iff.2 ⟨HL.out, inB_true m0 m1, HJ.out, hV.out (by omega), fun i hi => by simp only [roomOk, decide_eq_true_eq]; have := hR.out i (by simpa using hi); omega⟩
      have HF1 : Hid (ReadPost (fillN xs bs b R) (fillF xs bs R) (fillB xs bs b R) w (.returned (.tuple #[u10, .bool true])) wr) := by
        unfold fillN; rw [HOK.out, if_pos rfl, Int.toNat_natCast]
        exact ⟨_, rfl, hS.out.read, hB.out⟩
      go_wp2
      go_ret2
      exact HF1.out
end Go.Proofs.YtkekacnnjmbelaaDoor
