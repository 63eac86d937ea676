/- draws of tables: names, rows -/
import Derived.Test.YtajgghifamebkaaDoorTabO
import Derived.Test.YtajgghifamebkaaDoorRegJ
namespace Go.Proofs.YtajgghifamebkaaDoor
set_option linter.unusedSimpArgs false
set_option linter.unusedVariables false
open Go.RowKit
theorem row_atS {w : World} {g : Nat} {e : TypeId} {l : List ByteArray} (h : Row w g e (strs l)) {P : ByteArray → Prop} (hP : ∀ x ∈ l, P x) {i : Nat} (hi : i < l.length) : ∃ y, w.cell? ⟨g, i, none⟩ = some (.string y) ∧ P y := by
  refine ⟨l[i], h.cell (by simp [strs, hi]), hP _ (List.getElem_mem hi)⟩
def NameDr (R : Nat) (v : Value) (bs : List Int) (p : Nat) (w : World) (e : Ending) (w' : World) : Prop :=
  ∃ (s : ByteArray) (p' : Nat), e = .returned (.string s) ∧ s.size ≤ 9 ∧ p ≤ p' ∧ p' ≤ p + 2 ∧ Rd w' R v bs ((p' : Nat) : Int) ∧ w.grownBy w' (some R)
set_option maxRecDepth 20000 in
theorem name_any (R : Nat) (v : Value) (bs : List Int) (n : Int) (p : Nat) (w : World) (h : Rd w R v bs p) (hp : p ≤ 1000000000) (hn : -1000 ≤ n ∧ n ≤ 1000) :
    Calls Tryd.prog 53 #[.pointer (some ⟨R, 0, none⟩), .int .i64 n] w (NameDr R v bs p w) := by
  obtain ⟨lowR, lowV⟩ := h.low
  have H := Lib.hid h
  have LV := Lib.hid lowV
  clear h lowV
  go_enter Tryd.func53, Tryd.ntmps53
  go_wp2_with fail
  refine (odd_any R v bs n p _ H.out (by omega) (by omega)).mono ?_
  rintro e w1 ⟨t, p1, rfl, q1, q2, hr, hg, -⟩
  have R1 := Lib.hid hr
  have W1 := Lib.hid hg
  have hz1 : w.heap.size ≤ w1.heap.size := hg.size
  clear hr hg H
  cases t
  · have hba := ((Below.refl w.heap.size w1).alloc hz1 (.cells #[.string ⟨#[97]⟩, .string ⟨#[98]⟩, .string ⟨#[99]⟩, .string ⟨#[107, 101, 121]⟩, .string ⟨#[110, 97, 109, 101]⟩, .string ⟨#[118, 97, 108, 117, 101]⟩, .string ⟨#[116, 111, 116, 97, 108]⟩, .string ⟨#[99, 111, 117, 110, 116]⟩] 9)).alloc (by simp; omega) (.cells #[.int .i64 0, .int .i64 0, .int .i64 1, .int .i64 1, .int .i64 2, .int .i64 3, .int .i64 4, .int .i64 5, .int .i64 6, .int .i64 7] 3)
    have hr1 : Row ((w1.alloc (.cells #[.string ⟨#[97]⟩, .string ⟨#[98]⟩, .string ⟨#[99]⟩, .string ⟨#[107, 101, 121]⟩, .string ⟨#[110, 97, 109, 101]⟩, .string ⟨#[118, 97, 108, 117, 101]⟩, .string ⟨#[116, 111, 116, 97, 108]⟩, .string ⟨#[99, 111, 117, 110, 116]⟩] 9)).alloc (.cells #[.int .i64 0, .int .i64 0, .int .i64 1, .int .i64 1, .int .i64 2, .int .i64 3, .int .i64 4, .int .i64 5, .int .i64 6, .int .i64 7] 3)) w1.heap.size 9 (strs [⟨#[97]⟩, ⟨#[98]⟩, ⟨#[99]⟩, ⟨#[107, 101, 121]⟩, ⟨#[110, 97, 109, 101]⟩, ⟨#[118, 97, 108, 117, 101]⟩, ⟨#[116, 111, 116, 97, 108]⟩, ⟨#[99, 111, 117, 110, 116]⟩]) := (Row.new w1 9 (strs [⟨#[97]⟩, ⟨#[98]⟩, ⟨#[99]⟩, ⟨#[107, 101, 121]⟩, ⟨#[110, 97, 109, 101]⟩, ⟨#[118, 97, 108, 117, 101]⟩, ⟨#[116, 111, 116, 97, 108]⟩, ⟨#[99, 111, 117, 110, 116]⟩])).alloc _
    have hr2 : Row ((w1.alloc (.cells #[.string ⟨#[97]⟩, .string ⟨#[98]⟩, .string ⟨#[99]⟩, .string ⟨#[107, 101, 121]⟩, .string ⟨#[110, 97, 109, 101]⟩, .string ⟨#[118, 97, 108, 117, 101]⟩, .string ⟨#[116, 111, 116, 97, 108]⟩, .string ⟨#[99, 111, 117, 110, 116]⟩] 9)).alloc (.cells #[.int .i64 0, .int .i64 0, .int .i64 1, .int .i64 1, .int .i64 2, .int .i64 3, .int .i64 4, .int .i64 5, .int .i64 6, .int .i64 7] 3)) (w1.heap.size + 1) 3 (ints [0, 0, 1, 1, 2, 3, 4, 5, 6, 7]) := by
      have := Row.new (w1.alloc (.cells #[.string ⟨#[97]⟩, .string ⟨#[98]⟩, .string ⟨#[99]⟩, .string ⟨#[107, 101, 121]⟩, .string ⟨#[110, 97, 109, 101]⟩, .string ⟨#[118, 97, 108, 117, 101]⟩, .string ⟨#[116, 111, 116, 97, 108]⟩, .string ⟨#[99, 111, 117, 110, 116]⟩] 9)) 3 (ints [0, 0, 1, 1, 2, 3, 4, 5, 6, 7])
      rwa [World.size_alloc] at this
    go_wp2_with fail
    refine (pick_nat R v bs 10 p1 _ (R1.out.below hba lowR LV.out) (by omega) (by omega)).mono ?_
    rintro e w2 ⟨x, rfl, hx, hr, hg⟩
    have R2 := Lib.hid hr
    have W2 := Lib.hid (grown_trans (grown_below W1.out hba) hg)
    have hr1' := hr1.grown hg (fun e => by cases e; omega)
    have hr2' := hr2.grown hg (fun e => by cases e; omega)
    obtain ⟨y, hy, hyl⟩ := row_nat hr2' (n := 8) (by decide) (i := x) (by simpa using hx)
    obtain ⟨s, hs, hsl⟩ := row_atS hr1' (P := fun s => s.size ≤ 9) (by decide) (i := y) (by simpa using hyl)
    clear hr hg hba hr1 hr2 hr1' hr2' R1 W1
    go_wp2
    go_ret
    exact ⟨s, p1 + 1, rfl, hsl, by omega, by omega, R2.out, W2.out⟩
  · have hba := (Below.refl w.heap.size w1).alloc hz1 (.cells #[.string ⟨#[]⟩, .string ⟨#[65]⟩, .string ⟨#[97, 49]⟩, .string ⟨#[115, 101, 108, 101, 99, 116]⟩, .string ⟨#[108, 105, 109, 105, 116]⟩, .string ⟨#[97, 98, 99, 100, 101, 102, 103, 104, 105]⟩, .string ⟨#[97, 32, 98]⟩] 9)
    have hr1 : Row (w1.alloc (.cells #[.string ⟨#[]⟩, .string ⟨#[65]⟩, .string ⟨#[97, 49]⟩, .string ⟨#[115, 101, 108, 101, 99, 116]⟩, .string ⟨#[108, 105, 109, 105, 116]⟩, .string ⟨#[97, 98, 99, 100, 101, 102, 103, 104, 105]⟩, .string ⟨#[97, 32, 98]⟩] 9)) w1.heap.size 9 (strs [⟨#[]⟩, ⟨#[65]⟩, ⟨#[97, 49]⟩, ⟨#[115, 101, 108, 101, 99, 116]⟩, ⟨#[108, 105, 109, 105, 116]⟩, ⟨#[97, 98, 99, 100, 101, 102, 103, 104, 105]⟩, ⟨#[97, 32, 98]⟩]) := Row.new w1 9 (strs [⟨#[]⟩, ⟨#[65]⟩, ⟨#[97, 49]⟩, ⟨#[115, 101, 108, 101, 99, 116]⟩, ⟨#[108, 105, 109, 105, 116]⟩, ⟨#[97, 98, 99, 100, 101, 102, 103, 104, 105]⟩, ⟨#[97, 32, 98]⟩])
    go_wp2_with fail
    refine (pick_nat R v bs 7 p1 _ (R1.out.below hba lowR LV.out) (by omega) (by omega)).mono ?_
    rintro e w2 ⟨x, rfl, hx, hr, hg⟩
    have R2 := Lib.hid hr
    have W2 := Lib.hid (grown_trans (grown_below W1.out hba) hg)
    have hr1' := hr1.grown hg (fun e => by cases e; omega)
    obtain ⟨s, hs, hsl⟩ := row_atS hr1' (P := fun s => s.size ≤ 9) (by decide) (i := x) (by simpa using hx)
    clear hr hg hba hr1 hr1' R1 W1
    go_wp2
    go_ret
    exact ⟨s, p1 + 1, rfl, hsl, by omega, by omega, R2.out, W2.out⟩
/-- rows drawn -/
def RowsDr (R : Nat) (v : Value) (bs : List Int) (p : Nat) (m n : Nat) (w : World) (e : Ending) (w' : World) : Prop :=
  ∃ u vs f p', e = .returned u ∧ RowsO w' w.heap.size u n vs f ∧ (∀ i, i < n → (f i).length = m ∧ ∀ x ∈ f i, -3 ≤ x ∧ x ≤ 255) ∧ p ≤ p' ∧ p' ≤ p + 4 * m * n ∧ Rd w' R v bs ((p' : Nat) : Int) ∧ w.grownBy w' (some R)
theorem mul4_succ (m k : Nat) : 4 * m * (k + 1) = 4 * m * k + 4 * m := by rw [Nat.mul_add, Nat.mul_one]
set_option maxRecDepth 20000 in
set_option maxHeartbeats 1000000 in
theorem rows_any (R : Nat) (v : Value) (bs : List Int) (m n : Nat) (p : Nat) (w : World) (h : Rd w R v bs p) (hp : p ≤ 100000000) (hm : m ≤ 100) (hn : n ≤ 100) :
    Calls Tryd.prog 45 #[.pointer (some ⟨R, 0, none⟩), .int .i64 m, .int .i64 n] w (RowsDr R v bs p m n w) := by
  obtain ⟨lowR, lowV⟩ := h.low
  have H := Lib.hid h
  have LV := Lib.hid lowV
  clear h lowV
  go_enter Tryd.func45, Tryd.ntmps45
  have hb0 := (Below.refl w.heap.size w).alloc (Nat.le_refl _) (.cells #[] 38)
  have H0 := Lib.hid (H.out.below hb0 lowR LV.out)
  have W0 := Lib.hid (grown_below (grown_refl w (some R)) hb0)
  clear hb0 H
  have HMM := Lib.hid (Nat.mul_le_mul_left (4 * m) hn)
  have HM4 : Hid (4 * m * 100 ≤ 40000) := by unfold Hid; omega
  go_wp2
  go_loopg [7, 8, 9, 10] n (fun gg u i _ _ wr => ∃ (k p' : Nat) (vs : Nat → Value) (f : Nat → List Int), k ≤ n ∧ n - k ≤ gg ∧ i = .int .i64 k ∧ p ≤ p' ∧ p' ≤ p + 4 * m * k ∧ Hid (∀ i, i < k → (f i).length = m ∧ ∀ x ∈ f i, -3 ≤ x ∧ x ≤ 255) ∧ Hid (RowsO wr w.heap.size u k vs f) ∧ Hid (Rd wr R v bs ((p' : Nat) : Int)) ∧ Hid (w.grownBy wr (some R)))
  case atStart => exact ⟨0, p, fun _ => undef, fun _ => [], Nat.zero_le _, Nat.le_refl _, rfl, Nat.le_refl _, by omega, (fun i hi => absurd hi (Nat.not_lt_zero _)), ⟨Gr.none0 _ _ _ _ _, fun i hi => absurd hi (Nat.not_lt_zero _)⟩, H0.out, W0.out⟩
  case round =>
    clear H0 W0
    obtain ⟨k, p', vs, f, hk, hgg, rfl, hp1, hp2, hF, hO, hR, hW⟩ := hrel
    obtain ⟨au, cu, hu⟩ := hO.out.1.lit
    subst hu
    by_cases hlt : k < n
    · have HLT := Lib.hid hlt
      have hbs : Below wr.heap.size wr (wr.alloc (.cells #[] 3)) := (Below.refl _ _).alloc (Nat.le_refl _) _
      have hzw : w.heap.size ≤ wr.heap.size := hW.out.size
      have hlR : R < wr.heap.size := by omega
      have LVr : Hid (0 < bs.length → ∀ g, v.ownBlock = some g → g < wr.heap.size) := fun h0 g hg => Nat.lt_of_lt_of_le (LV.out h0 g hg) hzw
      have RS0 := Lib.hid (hR.out.below hbs hlR LVr.out)
      have WS0 := Lib.hid (grown_below (grown_refl wr (some R)) hbs)
      have HP2 := Lib.hid hp2
      have hp4 : p' ≤ p + 40000 := by have h1 := HMM.out; have h2 := HM4.out; have h3 := Nat.mul_le_mul_left (4 * m) hk; omega
      clear hbs hp2
      go_wp2
      obtain ⟨ws, hws⟩ : ∃ ws : World, ws = wr := ⟨_, rfl⟩
      rw [← hws] at hzw hlR LVr WS0 hO hW RS0 ⊢
      clear hws hR
      go_loopg [9, 10] m (fun gg u j wj => ∃ (q p2 : Nat) (xs : List Int), q ≤ m ∧ m - q ≤ gg ∧ j = .int .i64 q ∧ xs.length = q ∧ p' ≤ p2 ∧ p2 ≤ p' + 4 * q ∧ Hid (∀ x ∈ xs, -3 ≤ x ∧ x ≤ 255) ∧ Hid (Gr wj ws.heap.size 3 1 u q (ints xs)) ∧ Hid (Rd wj R v bs ((p2 : Nat) : Int)) ∧ Hid (ws.grownBy wj (some R)))
      case atStart => exact ⟨0, p', [], Nat.zero_le _, Nat.le_refl _, rfl, rfl, Nat.le_refl _, by omega, (fun x hx => by cases hx), Gr.none0 _ _ _ _ _, RS0.out, WS0.out⟩
      case round =>
        clear RS0 WS0
        obtain ⟨q, p2, xs, hq, hgq, rfl, hxl, hq1, hq2, hX, hG, hRj, hWj⟩ := hrel
        have HXL := Lib.hid hxl
        clear hxl
        obtain ⟨ax, cx, hx0⟩ := hG.out.lit
        subst hx0
        by_cases hqm : q < m
        · have HQM := Lib.hid hqm
          go_wp2_with fail
          refine (pick_nat R v bs 4 p2 _ hRj.out (by omega) (by omega)).mono ?_
          rintro e w1 ⟨x1, rfl, hx1, hr, hg⟩
          have R1 := Lib.hid hr
          have W1 := Lib.hid (grown_trans hWj.out hg)
          have G1 := Lib.hid (hG.out.kept hg (fun g hg he => by have := (hG.out.lt g hg).1; cases he; omega))
          clear hr hg hG hRj hWj
          go_wp2_with fail
          refine (pick_nat R v bs 7 (p2 + 1) _ R1.out (by omega) (by omega)).mono ?_
          rintro e w2 ⟨x2, rfl, hx2, hr, hg⟩
          have R2 := Lib.hid hr
          have W2 := Lib.hid (grown_trans W1.out hg)
          have G2 := Lib.hid (G1.out.kept hg (fun g hg he => by have := (G1.out.lt g hg).1; cases he; omega))
          clear hr hg G1 R1 W1
          go_wp2_with fail
          refine (pick_nat R v bs 256 (p2 + 1 + 1) _ R2.out (by omega) (by omega)).mono ?_
          rintro e w3 ⟨x3, rfl, hx3, hr, hg⟩
          have R3 := Lib.hid hr
          have W3 := Lib.hid (grown_trans W2.out hg)
          have G3 := Lib.hid (G2.out.kept hg (fun g hg he => by have := (G2.out.lt g hg).1; cases he; omega))
          have hz3 : ws.heap.size ≤ w3.heap.size := W3.out.size
          clear hr hg G2 R2 W2
          have hba := ((Below.refl ws.heap.size w3).alloc hz3 (.cells #[.int .i64 x1, .int .i64 ((x2 : Int) - 3), .int .i64 x3] 3)).alloc (by simp; omega) (.cells #[.int .i64 0, .int .i64 0, .int .i64 0, .int .i64 1, .int .i64 2] 3)
          have hr1 : Row ((w3.alloc (.cells #[.int .i64 x1, .int .i64 ((x2 : Int) - 3), .int .i64 x3] 3)).alloc (.cells #[.int .i64 0, .int .i64 0, .int .i64 0, .int .i64 1, .int .i64 2] 3)) w3.heap.size 3 (ints [(x1 : Int), (x2 : Int) - 3, (x3 : Int)]) := (Row.new w3 3 (ints [(x1 : Int), (x2 : Int) - 3, (x3 : Int)])).alloc _
          have hr2 : Row ((w3.alloc (.cells #[.int .i64 x1, .int .i64 ((x2 : Int) - 3), .int .i64 x3] 3)).alloc (.cells #[.int .i64 0, .int .i64 0, .int .i64 0, .int .i64 1, .int .i64 2] 3)) (w3.heap.size + 1) 3 (ints [0, 0, 0, 1, 2]) := by
            have := Row.new (w3.alloc (.cells #[.int .i64 x1, .int .i64 ((x2 : Int) - 3), .int .i64 x3] 3)) 3 (ints [0, 0, 0, 1, 2])
            rwa [World.size_alloc] at this
          go_wp2_with fail
          refine (pick_nat R v bs 5 (p2 + 1 + 1 + 1) _ (R3.out.below hba hlR LVr.out) (by omega) (by omega)).mono ?_
          rintro e w4 ⟨x4, rfl, hx4, hr, hg⟩
          have R4 := Lib.hid hr
          have W4 := Lib.hid (grown_trans (grown_below W3.out hba) hg)
          have G4 := Lib.hid (((G3.out.alloc (.cells #[.int .i64 x1, .int .i64 ((x2 : Int) - 3), .int .i64 x3] 3)).alloc (.cells #[.int .i64 0, .int .i64 0, .int .i64 0, .int .i64 1, .int .i64 2] 3)).kept hg (fun g hg he => by have := (G3.out.lt g hg).1; cases he; omega))
          have hr1' := hr1.grown hg (fun e => by cases e; omega)
          have hr2' := hr2.grown hg (fun e => by cases e; omega)
          obtain ⟨y, hy, hyl⟩ := row_nat hr2' (n := 3) (by decide) (i := x4) (by simpa using hx4)
          obtain ⟨z, hzc, hzl⟩ := row_at hr1' (P := fun x => -3 ≤ x ∧ x ≤ 255) (by intro x hx; simp at hx; omega) (i := y) (by simpa using hyl)
          have hz4 : ws.heap.size ≤ w4.heap.size := W4.out.size
          have HA : Hid (∀ x ∈ xs ++ [z], -3 ≤ x ∧ x ≤ 255) := fun x hx => by
            rcases List.mem_append.1 hx with hx | hx
            · exact hX.out x hx
            · obtain rfl : x = z := by simpa using hx
              exact hzl
          clear hr hg hr1 hr2 hr1' hr2' hba R3 W3 G3 hzl
          go_wp2_with (at_builtin; refine wpList_app _ rfl (.tmp 23) (.tmp 39) 38 rfl ws.heap.size 3 (.int .i64 0) 1 8 Tryd.underlying38 Tryd.infoInt rfl (by omega) (.slice ax q cx) q (ints xs) rfl (G4.out.alloc _) _ 1 [.int .i64 z] rfl (view_one _ _ _) (by simp [Value.oneCell']) (by unfold maxLen; omega) (by omega) (by simp; omega) ?_; intro v5 w5 g5 r5 k5; have G5 := Lib.hid g5; have R5 := Lib.hid r5; clear g5 r5 k5)
          go_roundg (m - (q + 1))
          case rel =>
            have hb5 : Below ws.heap.size w4 w5 := ((Below.refl _ _).alloc hz4 _).grown R5.out (by simp; omega) (fun g hg => (G4.out.lt g hg).1)
            refine ⟨q + 1, p2 + 1 + 1 + 1 + 1, xs ++ [z], HQM.out, Nat.le_refl _, by go_num, by rw [List.length_append, HXL.out]; rfl, by omega, by omega, HA.out, ?_, R4.out.below hb5 hlR LVr.out, grown_below W4.out hb5⟩
            have := G5.out
            simpa [Hid, ints] using this
          case measure => have := HQM.out; omega
        · obtain rfl : q = m := by omega
          have hO2 := hO.out.keptB hWj.out lowR
          have HO2 := Lib.hid hO2
          have HGL := Lib.hid (hG.out.low hzw)
          have W2 := Lib.hid (grown_trans hW.out hWj.out)
          have hz2 : w.heap.size ≤ wr.heap.size := W2.out.size
          have HF2 : Hid (∀ i, i < k + 1 → (upd f k xs i).length = q ∧ ∀ x ∈ upd f k xs i, -3 ≤ x ∧ x ≤ 255) := fun i hi => by
            by_cases e : i = k
            · subst e; rw [upd_same]; exact ⟨HXL.out, hX.out⟩
            · rw [upd_other _ _ e]; exact hF.out i (by omega)
          clear hO hO2 hW hWj hG
          go_wp2_with (at_builtin; refine wpList_app _ rfl (.tmp 41) (.tmp 43) 24 rfl w.heap.size 38 (.slice none 0 0) 1 24 Tryd.underlying24 Tryd.infoInts rfl (by omega) (.slice au k cu) k (tab k vs) rfl (HO2.out.1.alloc _) _ 1 [.slice ax q cx] rfl (view_one _ _ _) (by simp [Value.oneCell']) (by unfold maxLen; omega) (by omega) (by simp; omega) ?_; intro v5 w5 g5 r5 k5; have G5 := Lib.hid g5; have R5 := Lib.hid r5; clear g5 r5 k5)
          go_roundg (n - (k + 1))
          case rel =>
            have hba : Below wr.heap.size wr (wr.alloc (.cells #[.slice ax q cx] 38)) := (Below.refl _ _).alloc (Nat.le_refl _) _
            have hb5 : Below w.heap.size wr w5 := (hba.mono hz2).grown R5.out (by simp; omega) (fun g hg => (HO2.out.1.lt g hg).1)
            refine ⟨k + 1, p2, upd vs k (.slice ax q cx), upd f k xs, HLT.out, Nat.le_refl _, by go_num, by omega, by rw [mul4_succ]; have := HP2.out; omega, HF2.out, HO2.out.app (by rw [HXL.out]; exact HGL.out) hba G5.out R5.out, hRj.out.below hb5 lowR LV.out, grown_below W2.out hb5⟩
          case measure => have := HLT.out; omega
    · obtain rfl : k = n := by omega
      have HP2 := Lib.hid hp2
      clear hp2
      go_wp2
      go_ret
      exact ⟨_, vs, f, p', rfl, hO.out, hF.out, hp1, HP2.out, hR.out, hW.out⟩
end Go.Proofs.YtajgghifamebkaaDoor
