/- contracts of the helper functions at lists of accesses, and of PassTrace -/
import Derived.Test.YtmdjkaghjljbfaaRec
import Derived.Test.YtmdjkaghjljbfaaRes
import Derived.Test.YtmdjkaghjljbfaaScal
import Derived.StillTailTactics
namespace Go.Proofs.Ytmdjkaghjljbfaa
open Go.RowKit
theorem Try.infoAcc : (Try.prog.info? 54).map (fun i => (i.zero, i.size, i.bytes)) = some (some (.agg #[.int .i64 0, .int .i64 0, .bool false]), 3, 24) := by kernel_rfl
def OwnA (w : World) (b : Option Nat) (v : Value) (xs : List (Int × Int × Bool)) : Prop := Own w b 54 3 v xs.length (accs xs)
theorem OwnA.accs {w b v xs} (h : OwnA w b v xs) : Accs w v xs := Own.view h
theorem OwnA.mono {w w' : World} {b v xs} (h : OwnA w b v xs) (hb : Below w.heap.size w w') : OwnA w' b v xs := Own.mono h hb (Nat.le_refl _)
theorem OwnA.grown {w w' : World} {b b' v xs} (h : OwnA w b v xs) (hg : w.grownBy w' b') (hne : ∀ g, b = some g → b' ≠ some g) : OwnA w' b v xs := Own.grown h hg hne
theorem OwnA.lt {w : World} {b v xs} (h : OwnA w b v xs) : ∀ g, b = some g → g < w.heap.size := Own.lt h
/-- one list of accesses of the call's own -/
def AccsPost (xs : List (Int × Int × Bool)) (w : World) (e : Ending) (w' : World) : Prop := ∃ u, e = .returned u ∧ Gr w' w.heap.size 54 3 u xs.length (accs xs) ∧ Below w.heap.size w w'
theorem accs_own {xs : List (Int × Int × Bool)} {w w' : World} {e : Ending} (h : AccsPost xs w e w') : ∃ v b, e = .returned v ∧ OwnA w' b v xs ∧ From w.heap.size b ∧ Below w.heap.size w w' := by
  obtain ⟨u, he, hg, hb⟩ := h
  obtain ⟨b, h1, h2, _⟩ := hg.own
  exact ⟨u, b, he, h1, h2, hb⟩
theorem Gr.accs {w : World} {B u n} {xs : List (Int × Int × Bool)} (h : Gr w B 54 3 u n (accs xs)) (hn : n = xs.length) : Accs w u xs := by
  subst hn; exact h.view
theorem int_eq {k : IntKind} {a b : Int} (h : a = b) : Value.int k a = .int k b := by rw [h]
theorem eqAccess_same (r p : Int) (t : Bool) (w : World) : Calls Try.prog 34 #[.agg #[.int .i64 r, .int .i64 p, .bool t], .agg #[.int .i64 r, .int .i64 p, .bool t]] w fun e w' => e = .returned (.bool true) ∧ Below w.heap.size w w' := by
  cases t
  all_goals
    go_enter Try.func34, Try.ntmps34
    go_wp2
    go_ret
    exact ⟨rfl, ((Below.refl _ _).alloc (Nat.le_refl _) _).alloc (by simp) _⟩
theorem eqAccessS_same (v u : Value) (xs : List (Int × Int × Bool)) (w : World) (h : Accs w v xs) (g : Accs w u xs) :
    Calls Try.prog 20 #[v, u] w fun e w' => e = .returned (.bool true) ∧ Below w.heap.size w w' := by
  obtain ⟨ad, c, rfl, hmax, hop⟩ := h.open
  obtain ⟨ad2, c2, rfl, _, hop2⟩ := g.open
  unfold maxLen at hmax
  have HOP := Lib.hid hop
  have HOP2 := Lib.hid hop2
  clear hop hop2 h g
  go_enter Try.func20, Try.ntmps20
  go_wp2
  go_loopw [5] (fun i wr => ∃ k : Nat, k ≤ xs.length ∧ i = .int .i64 k ∧ Hid (Below w.heap.size w wr)) (fun i _ => xs.length - (intOf i).toNat)
  case atStart => exact ⟨0, Nat.zero_le _, rfl, Below.refl _ _⟩
  case round =>
    obtain ⟨k, hk, rfl, hB⟩ := hrel
    by_cases hlt : k < xs.length
    · obtain ⟨b, off, rfl, hcell⟩ := HOP.out k hlt
      obtain ⟨b2, off2, rfl, hcell2⟩ := HOP2.out k hlt
      obtain ⟨c0, c1, c2⟩ := hcell k hlt
      obtain ⟨d0, d1, d2⟩ := hcell2 k hlt
      have hbk := World.block_lt_of_cell? w _ c0
      have hbk2 := World.block_lt_of_cell? w _ d0
      have c0 := (hB.out.cell (p := ⟨b, off + k * 3, none⟩) hbk).trans c0
      have c1 := (hB.out.cell (p := ⟨b, off + k * 3 + 1, none⟩) hbk).trans c1
      have c2 := (hB.out.cell (p := ⟨b, off + k * 3 + 2, none⟩) hbk).trans c2
      have d0 := (hB.out.cell (p := ⟨b2, off2 + k * 3, none⟩) hbk2).trans d0
      have d1 := (hB.out.cell (p := ⟨b2, off2 + k * 3 + 1, none⟩) hbk2).trans d1
      have d2 := (hB.out.cell (p := ⟨b2, off2 + k * 3 + 2, none⟩) hbk2).trans d2
      have hsz := hB.out.size
      clear hcell hcell2 hbk hbk2
      obtain ⟨x, hx⟩ : ∃ x, aat xs k = x := ⟨_, rfl⟩
      rw [hx] at c0 c1 c2 d0 d1 d2
      clear hx
      obtain ⟨r, p, t⟩ := x
      go_wp2
      go_still_tail 8, (by kernel_rfl)
      have HB2 : Hid (Below w.heap.size w wr.drew) := hB.out.drew
      change wpList _ _ _ _ _ wr.drew
      generalize wr.drew = w2 at HB2 ⊢
      clear c0 c1 c2 d0 d1 d2 hB hsz
      have hsz := HB2.out.size
      go_wp2_with fail
      refine (eqAccess_same _ _ _ _).mono ?_
      rintro e w3 ⟨rfl, hb3⟩
      have HB3 : Hid (Below w.heap.size w w3) := HB2.out.trans (hb3.mono hsz)
      clear hb3 HB2 hsz
      go_wp2
      go_roundw
      case rel => exact ⟨k + 1, hlt, by go_num, HB3.out⟩
      case measure => simp [intOf]; omega
    · obtain rfl : k = xs.length := by omega
      go_wp2
      go_ret
      exact ⟨rfl, hB.out⟩
theorem markAccessS_any (v : Value) (b : Option Nat) (xs : List (Int × Int × Bool)) (k0 : Int) (w : World) (h : OwnA w b v xs) (h0 : 0 ≤ k0) (h1 : k0 + 3 * xs.length ≤ 4611686018427387904) :
    Calls Try.prog 22 #[v, .int .i64 k0] w fun e w' => e = .returned (.int .i64 (k0 + 3 * xs.length)) ∧ OwnA w' b v (marksA k0 xs.length) ∧ w.grownBy w' b := by
  obtain ⟨hl, hm, ⟨h3, rfl, a, c, rfl⟩ | ⟨h3, g, c, tail, rfl, rfl, hc, hr⟩⟩ := h
  · obtain rfl : xs = [] := List.eq_nil_of_length_eq_zero h3
    go_enter Try.func22, Try.ntmps22
    go_wp2
    go_loop [1, 5] (fun k i => i = .int .i64 0 ∧ k = .int .i64 k0) (fun _ _ => 0)
    case atStart => exact ⟨rfl, rfl⟩
    case round =>
      obtain ⟨rfl, rfl⟩ := hrel
      go_wp2
      go_ret
      exact ⟨by simp, ⟨by simp [marksA, tab, accs], Nat.zero_le _, .inl ⟨by simp, rfl, a, c, by simp⟩⟩, grown_refl _ _⟩
  · unfold maxLen at hm
    rw [accs_tab, ← mixR_zero xs.length (fun k => accC (aat (marksA k0 xs.length) k))] at hr
    go_enter Try.func22, Try.ntmps22
    go_wp2
    go_loopw [1, 5] (fun kk i wr => ∃ k : Nat, k ≤ xs.length ∧ i = .int .i64 k ∧ kk = .int .i64 (k0 + 3 * k) ∧ Hid (Row wr g 54 ((tab xs.length (mixR k (fun k => accC (aat (marksA k0 xs.length) k)) (fun k => accC (aat xs k)))).flatten ++ tail)) ∧ Hid (w.grownBy wr (some g))) (fun _ i _ => xs.length - (intOf i).toNat)
    case atStart => exact ⟨0, Nat.zero_le _, rfl, by simp, hr, grown_refl _ _⟩
    case round =>
      obtain ⟨k, hk, rfl, rfl, hR, hB⟩ := hrel
      clear hr
      obtain ⟨x, hx⟩ : ∃ x, k0 + 3 * (k : Int) = x := ⟨_, rfl⟩
      have p0 : 0 ≤ x := by omega
      have p1 : x ≤ 4611686018427387904 := by omega
      by_cases hlt : k < xs.length
      · have p2 : x + 3 ≤ 4611686018427387904 := by omega
        obtain ⟨c0, c1, c2⟩ := rec3_cell (f := fun k => accC (aat (marksA k0 xs.length) k)) (g := fun k => accC (aat xs k)) tail hlt rfl (fun i _ => by unfold mixR; split <;> rfl)
        have c0 := hR.out.cell c0
        have c1 := hR.out.cell c1
        have c2 := hR.out.cell c2
        have f0 := hR.out.free (k * 3)
        have f1 := hR.out.free (k * 3 + 1)
        have f2 := hR.out.free (k * 3 + 2)
        have HS : Hid (∀ cs : List Value, cs = (tab xs.length (mixR k (fun k => accC (aat (marksA k0 xs.length) k)) (fun k => accC (aat xs k)))).flatten ++ tail → ((cs.set (k * 3) (.int .i64 x)).set (k * 3 + 1) (.int .i64 (x + 1))).set (k * 3 + 2) (.bool ((x + 1 + 1) % 3 == 0)) = (tab xs.length (mixR (k + 1) (fun k => accC (aat (marksA k0 xs.length) k)) (fun k => accC (aat xs k)))).flatten ++ tail) := by
          rintro _ rfl
          subst hx
          exact rec3_set tail hlt (by show accC _ = _; rw [aat_marks _ _ _ hlt]; rfl) (fun i _ => by unfold mixR; split <;> rfl)
        have HX := Lib.hid hx
        rw [hx]
        clear hx
        go_wp2
        go_roundw
        case rel => exact ⟨k + 1, hlt, by go_num, int_eq (by have := HX.out; push_cast; omega), by rw [← HS.out _ rfl]; exact ((hR.out.set _ _).set _ _).set _ _, grown_set (grown_set (grown_set hB.out _ _) _ _) _ _⟩
        case measure => simp [intOf]; omega
      · obtain rfl : k = xs.length := by omega
        have HX := Lib.hid hx
        rw [hx]
        clear hx
        go_wp2
        go_ret
        refine ⟨ret_int HX.out.symm, ⟨by simp, by simpa [maxLen] using hm, .inr ⟨by simpa using h3, g, c, tail, rfl, by simp, by simpa using hc, ?_⟩⟩, hB.out⟩
        have := hR.out
        rw [mixR_full] at this
        rw [accs_tab, marksA_length]
        exact this
theorem heldAccessS_any (v : Value) (n : Nat) (k0 : Int) (w : World) (h : Accs w v (marksA k0 n)) (h0 : 0 ≤ k0) (h1 : k0 + 3 * n ≤ 4611686018427387904) :
    Calls Try.prog 24 #[v, .int .i64 k0] w fun e w' => e = .returned (.int .i64 (k0 + 3 * n)) ∧ Below w.heap.size w w' := by
  obtain ⟨ad, c, rfl, hmax, hop⟩ := h.open
  rw [marksA_length] at hmax hop
  rw [marksA_length]
  unfold maxLen at hmax
  have HOP := Lib.hid hop
  clear hop h
  go_enter Try.func24, Try.ntmps24
  go_wp2
  go_loop [1, 5] (fun kk i => ∃ k : Nat, k ≤ n ∧ i = .int .i64 k ∧ kk = .int .i64 (k0 + 3 * k)) (fun _ i => n - (intOf i).toNat)
  case atStart => exact ⟨0, Nat.zero_le _, rfl, by simp⟩
  case round =>
    obtain ⟨k, hk, rfl, rfl⟩ := hrel
    obtain ⟨x, hx⟩ : ∃ x, k0 + 3 * (k : Int) = x := ⟨_, rfl⟩
    have p0 : 0 ≤ x := by omega
    have p1 : x ≤ 4611686018427387904 := by omega
    by_cases hlt : k < n
    · have p2 : x + 3 ≤ 4611686018427387904 := by omega
      obtain ⟨b, off, rfl, hcell⟩ := HOP.out k hlt
      obtain ⟨c0, c1, c2⟩ := hcell k hlt
      rw [aat_marks _ _ _ hlt] at c0 c1 c2
      simp only [hx] at c0 c1 c2
      have HX := Lib.hid hx
      rw [hx]
      clear hx hcell
      go_wp2
      go_round
      case rel => exact ⟨k + 1, hlt, by go_num, int_eq (by have := HX.out; push_cast; omega)⟩
      case measure => simp [intOf]; omega
    · obtain rfl : k = n := by omega
      have HX := Lib.hid hx
      rw [hx]
      clear hx
      go_wp2
      go_ret
      exact ⟨ret_int HX.out.symm, Below.refl _ _⟩
theorem isRegion_any (n : Int) (w : World) : Calls Try.prog 37 #[.int .i64 n] w fun e w' => e = .returned (.bool (inB n 0 2)) ∧ w = w' := by
  go_enter Try.func37, Try.ntmps37
  go_wp2_with (go_at_call 29; refine (in_any _ _ _ _).mono ?_; rintro e w' ⟨rfl, rfl⟩)
  go_ret
  exact ⟨rfl, rfl⟩
/-- a pass over all places: each is read and written -/
def passN (r : Int) : Nat → List (Int × Int × Bool)
  | 0 => []
  | k + 1 => passN r k ++ [(r, (k : Int), false), (r, (k : Int), true)]
@[simp] theorem passN_length (r : Int) : ∀ k, (passN r k).length = 2 * k
  | 0 => rfl
  | k + 1 => by simp [passN, passN_length r k]; omega
def passOk (r m : Int) : Bool := inB r 0 2 && inB m 0 256
def passV (r m : Int) : List (Int × Int × Bool) := if passOk r m then passN r m.toNat else []
theorem passV_le (r m : Int) : (passV r m).length ≤ 512 := by
  unfold passV passOk
  split
  · rename_i h
    simp only [Bool.and_eq_true] at h
    have := inB_iff.1 h.2
    simp; omega
  · simp
theorem impl_PassTrace (r m : Int) (w : World) : Calls Try.prog 36 #[.int .i64 r, .int .i64 m] w (AccsPost (passV r m) w) := by
  have HF0 : passOk r m = false → Hid (AccsPost (passV r m) w (.returned (.slice none 0 0)) w) := fun hb => by
    unfold passV; rw [hb]; exact ⟨_, rfl, Gr.nil _ _ _ _, Below.refl _ _⟩
  cases hr : inB r 0 2
  · have HF := HF0 (by simp [passOk, hr])
    have HI := Lib.hid hr
    clear hr HF0
    go_enter Try.func36, Try.ntmps36
    go_wp2_with (go_at_call 37; refine (isRegion_any _ _).mono ?_; rw [HI.out]; rintro e w' ⟨rfl, rfl⟩)
    go_ret
    exact HF.out
  cases hm : inB m 0 256
  · have HF := HF0 (by simp [passOk, hm])
    have HI := Lib.hid hr
    have HM := Lib.hid hm
    clear hr hm HF0
    go_enter Try.func36, Try.ntmps36
    go_wp2_with (first | (go_at_call 37; refine (isRegion_any _ _).mono ?_; rw [HI.out]; rintro e w' ⟨rfl, rfl⟩) | (go_at_call 29; refine (in_any _ _ _ _).mono ?_; rw [HM.out]; rintro e w' ⟨rfl, rfl⟩))
    go_ret
    exact HF.out
  · obtain ⟨m0, m1⟩ := inB_iff.1 hm
    obtain ⟨M, rfl⟩ := Int.eq_ofNat_of_zero_le m0
    have HF : Hid (∀ u w', Gr w' w.heap.size 54 3 u (2 * M) (accs (passN r M)) → Below w.heap.size w w' → AccsPost (passV r M) w (.returned u) w') := fun u w' hg hb => by
      unfold passV; rw [if_pos (by simp [passOk, hr, hm])]; exact ⟨u, rfl, by rw [passN_length]; exact hg, hb⟩
    have HI := Lib.hid hr
    have HM := Lib.hid hm
    clear hr hm HF0 m0
    go_enter Try.func36, Try.ntmps36
    go_wp2_with (first | (go_at_call 37; refine (isRegion_any _ _).mono ?_; rw [HI.out]; rintro e w' ⟨rfl, rfl⟩) | (go_at_call 29; refine (in_any _ _ _ _).mono ?_; rw [HM.out]; rintro e w' ⟨rfl, rfl⟩))
    go_loopw [5, 16] (fun u i wr => ∃ k : Nat, k ≤ M ∧ i = .int .i64 k ∧ Hid (Gr wr w.heap.size 54 3 u (2 * k) (accs (passN r k))) ∧ Hid (Below w.heap.size w wr)) (fun _ i _ => M - (intOf i).toNat)
    case atStart => exact ⟨0, Nat.zero_le _, rfl, Gr.nil _ _ _ _, Below.refl _ _⟩
    case round =>
      obtain ⟨k, hk, rfl, hG, hB⟩ := hrel
      by_cases hlt : k < M
      · have HA : Hid (accs (passN r k) ++ [.int .i64 r, .int .i64 k, .bool false, .int .i64 r, .int .i64 k, .bool true] = accs (passN r (k + 1))) := by
          unfold Hid; rw [passN, accs_append]; rfl
        have hsz := hB.out.size
        go_wp2_with (at_builtin; refine wpList_app _ rfl (.tmp 19) (.tmp 26) 37 rfl w.heap.size 54 (.agg #[.int .i64 0, .int .i64 0, .bool false]) 3 24 Try.underlying37 Try.infoAcc rfl (by omega) u5 (2 * k) (accs (passN r k)) rfl (hG.out.alloc _) _ 2 [.int .i64 r, .int .i64 k, .bool false, .int .i64 r, .int .i64 k, .bool true] rfl (View.of_row (Row.new wr 54 _) rfl (by unfold maxLen; omega) (Nat.le_refl _)) (by simp [Value.oneCell']) (by unfold maxLen; omega) (by omega) (by simp; omega) ?_; intro v1 w1 g1 r1 k1; have G1 := Lib.hid g1; have R1 := Lib.hid r1; clear g1 r1 k1)
        go_roundw
        case rel => exact ⟨k + 1, hlt, by go_num, by rw [← HA.out]; exact G1.out, (hB.out.alloc hsz _).grown R1.out (by simp; omega) (fun g hg => (hG.out.lt g hg).1)⟩
        case measure => simp [intOf]; omega
      · obtain rfl : k = M := by omega
        go_wp2
        go_ret
        exact HF.out _ _ hG.out hB.out
theorem impl_PassTrace_own (r m : Int) (w : World) : Calls Try.prog 36 #[.int .i64 r, .int .i64 m] w fun e w' => ∃ v b, e = .returned v ∧ OwnA w' b v (passV r m) ∧ From w.heap.size b ∧ Below w.heap.size w w' :=
  (impl_PassTrace r m w).mono fun _ _ h => accs_own h
theorem spec_PassTrace (r m : Int) (w : World) : Calls Try.prog 31 #[.int .i64 r, .int .i64 m] w (AccsPost (passV r m) w) := by
  have HB0 : Hid (Below w.heap.size w (w.alloc (.cells #[] 54))) := (Below.refl w.heap.size w).alloc (Nat.le_refl _) (.cells #[] 54)
  have HF0 : passOk r m = false ∨ m ≤ 0 → Hid (AccsPost (passV r m) w (.returned (.slice (some ⟨w.heap.size, 0, none⟩) 0 0)) (w.alloc (.cells #[] 54))) := fun hb => by
    have : passV r m = [] := by
      unfold passV
      rcases hb with hb | hb
      · rw [hb]; rfl
      · split
        · rw [show m.toNat = 0 by omega]; rfl
        · rfl
    rw [this]; exact ⟨_, rfl, Gr.none0 _ _ _ _ _, HB0.out⟩
  by_cases hm0 : 0 < m
  case neg =>
    have HF := HF0 (.inr (by omega))
    have hm0' : decide (0 < m) = false := by simpa using hm0
    clear HF0
    go_enter Try.func31, Try.ntmps31
    go_wp2
    go_loopw [5, 6] (fun u i wr => u = .slice (some ⟨w.heap.size, 0, none⟩) 0 0 ∧ i = .int .i64 0 ∧ wr = w.alloc (.cells #[] 54)) (fun _ _ _ => 0)
    case atStart => exact ⟨rfl, rfl, rfl⟩
    case round =>
      obtain ⟨rfl, rfl, rfl⟩ := hrel
      go_wp2
      go_ret
      exact HF.out
  cases hr : inB r 0 2
  · have HF := HF0 (.inl (by simp [passOk, hr]))
    have HI := Lib.hid hr
    clear hr HF0
    go_enter Try.func31, Try.ntmps31
    go_wp2
    go_loopw [5, 6] (fun u i wr => u = .slice (some ⟨w.heap.size, 0, none⟩) 0 0 ∧ i = .int .i64 0 ∧ wr = w.alloc (.cells #[] 54)) (fun _ _ _ => 0)
    case atStart => exact ⟨rfl, rfl, rfl⟩
    case round =>
      obtain ⟨rfl, rfl, rfl⟩ := hrel
      go_wp2_with (go_at_call 28; refine (l1In_any _ _ _ _).mono ?_; rw [HI.out]; rintro e w' ⟨rfl, rfl⟩)
      go_ret
      exact HF.out
  cases hm : inB m 0 256
  · have HF := HF0 (.inl (by simp [passOk, hm]))
    have HI := Lib.hid hr
    have HM := Lib.hid hm
    clear hr hm HF0
    go_enter Try.func31, Try.ntmps31
    go_wp2
    go_loopw [5, 6] (fun u i wr => u = .slice (some ⟨w.heap.size, 0, none⟩) 0 0 ∧ i = .int .i64 0 ∧ wr = w.alloc (.cells #[] 54)) (fun _ _ _ => 0)
    case atStart => exact ⟨rfl, rfl, rfl⟩
    case round =>
      obtain ⟨rfl, rfl, rfl⟩ := hrel
      go_wp2_with (go_at_call 28; refine (l1In_any _ _ _ _).mono ?_; (first | rw [HI.out] | rw [HM.out]); rintro e w' ⟨rfl, rfl⟩)
      go_ret
      exact HF.out
  · obtain ⟨m0, m1⟩ := inB_iff.1 hm
    obtain ⟨M, rfl⟩ := Int.eq_ofNat_of_zero_le m0
    have HF : Hid (∀ u w', Gr w' w.heap.size 54 3 u (2 * M) (accs (passN r M)) → Below w.heap.size w w' → AccsPost (passV r M) w (.returned u) w') := fun u w' hg hb => by
      unfold passV; rw [if_pos (by simp [passOk, hr, hm])]; exact ⟨u, rfl, by rw [passN_length]; exact hg, hb⟩
    have HI := Lib.hid hr
    have HM := Lib.hid hm
    clear hr hm HF0 m0
    go_enter Try.func31, Try.ntmps31
    go_wp2
    go_loopw [5, 6] (fun u i wr => ∃ k : Nat, k ≤ M ∧ i = .int .i64 k ∧ Hid (Gr wr w.heap.size 54 3 u (2 * k) (accs (passN r k))) ∧ Hid (Below w.heap.size w wr)) (fun _ i _ => M - (intOf i).toNat)
    case atStart => exact ⟨0, Nat.zero_le _, rfl, Gr.none0 _ _ _ _ _, HB0.out⟩
    case round =>
      obtain ⟨k, hk, rfl, hG, hB⟩ := hrel
      by_cases hlt : k < M
      · have HA : Hid (accs (passN r k) ++ [.int .i64 r, .int .i64 k, .bool false, .int .i64 r, .int .i64 k, .bool true] = accs (passN r (k + 1))) := by
          unfold Hid; rw [passN, accs_append]; rfl
        have hsz := hB.out.size
        go_wp2_with (first | (go_at_call 28; refine (l1In_any _ _ _ _).mono ?_; (first | rw [HI.out] | rw [HM.out]); rintro e w' ⟨rfl, rfl⟩) | (at_builtin; refine wpList_app _ rfl (.tmp 21) (.tmp 28) 37 rfl w.heap.size 54 (.agg #[.int .i64 0, .int .i64 0, .bool false]) 3 24 Try.underlying37 Try.infoAcc rfl (by omega) u5 (2 * k) (accs (passN r k)) rfl (hG.out.alloc _) _ 2 [.int .i64 r, .int .i64 k, .bool false, .int .i64 r, .int .i64 k, .bool true] rfl (View.of_row (Row.new wr 54 _) rfl (by unfold maxLen; omega) (Nat.le_refl _)) (by simp [Value.oneCell']) (by unfold maxLen; omega) (by omega) (by simp; omega) ?_; intro v1 w1 g1 r1 k1; have G1 := Lib.hid g1; have R1 := Lib.hid r1; clear g1 r1 k1))
        go_roundw
        case rel => exact ⟨k + 1, hlt, by go_num, by rw [← HA.out]; exact G1.out, (hB.out.alloc hsz _).grown R1.out (by simp; omega) (fun g hg => (hG.out.lt g hg).1)⟩
        case measure => simp [intOf]; omega
      · obtain rfl : k = M := by omega
        go_wp2_with (go_at_call 28; refine (l1In_any _ _ _ _).mono ?_; (first | rw [HI.out] | rw [HM.out]); rintro e w' ⟨rfl, rfl⟩)
        go_ret
        exact HF.out _ _ hG.out hB.out
theorem spec_PassTrace_own (r m : Int) (w : World) : Calls Try.prog 31 #[.int .i64 r, .int .i64 m] w fun e w' => ∃ v b, e = .returned v ∧ OwnA w' b v (passV r m) ∧ From w.heap.size b ∧ Below w.heap.size w w' :=
  (spec_PassTrace r m w).mono fun _ _ h => accs_own h
end Go.Proofs.Ytmdjkaghjljbfaa
