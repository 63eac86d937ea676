/- contracts of the scans, both -/
import Derived.Test.YtkfhfhcjgeigeaaDoorTrace
import Derived.Lib.SliceRun
namespace Go.Proofs.YtkfhfhcjgeigeaaDoor
open Go.RowKit
/-- all places are read -/
def readsN : Nat → List (Int × Int × Bool)
  | 0 => []
  | k + 1 => readsN k ++ [(2, (k : Int), false)]
@[simp] theorem readsN_length : ∀ k, (readsN k).length = k
  | 0 => rfl
  | k + 1 => by simp [readsN, readsN_length k]
def readsV (n : Nat) : List (Int × Int × Bool) := if n ≤ 256 then readsN n else []
theorem readsV_le (n : Nat) : (readsV n).length ≤ 256 := by unfold readsV; split <;> simp; assumption
theorem impl_reads (M : Nat) (w : World) (hM : M ≤ 256) : Calls Tryd.prog 24 #[.int .i64 M] w (AccsPost (readsN M) w) := by
  have HF : Hid (∀ u w', Gr w' w.heap.size 45 3 u M (accs (readsN M)) → Below w.heap.size w w' → AccsPost (readsN M) w (.returned u) w') := fun u w' hg hb => ⟨u, rfl, by rw [readsN_length]; exact hg, hb⟩
  go_enter Tryd.func24, Tryd.ntmps24
  go_wp2
  go_loopw [3, 6] (fun u i wr => ∃ k : Nat, k ≤ M ∧ i = .int .i64 k ∧ Hid (Gr wr w.heap.size 45 3 u k (accs (readsN k))) ∧ Hid (Below w.heap.size w wr)) (fun _ i _ => M - (intOf i).toNat)
  case atStart => exact ⟨0, Nat.zero_le _, rfl, Gr.nil _ _ _ _, Below.refl _ _⟩
  case round =>
    obtain ⟨k, hk, rfl, hG, hB⟩ := hrel
    by_cases hlt : k < M
    · have HA : Hid (accs (readsN k) ++ [.int .i64 2, .int .i64 k, .bool false] = accs (readsN (k + 1))) := by
        unfold Hid; rw [readsN, accs_append]; rfl
      have hsz := hB.out.size
      go_wp2_with (at_builtin; refine wpList_app _ rfl (.tmp 9) (.tmp 12) 26 rfl w.heap.size 45 (.agg #[.int .i64 0, .int .i64 0, .bool false]) 3 24 Tryd.underlying26 Tryd.infoAcc rfl (by omega) u3 k (accs (readsN k)) rfl (hG.out.alloc _) _ 1 [.int .i64 2, .int .i64 k, .bool false] rfl (View.of_row (Row.new wr 45 _) rfl (by unfold maxLen; omega) (Nat.le_refl _)) (by simp [Value.oneCell']) (by unfold maxLen; omega) (by omega) (by simp; omega) ?_; intro v1 w1 g1 r1 k1; have G1 := Lib.hid g1; have R1 := Lib.hid r1; clear g1 r1 k1)
      go_roundw
      case rel => exact ⟨k + 1, hlt, by go_num, by rw [← HA.out]; exact G1.out, (hB.out.alloc hsz _).grown R1.out (by simp; omega) (fun g hg => (hG.out.lt g hg).1)⟩
      case measure => simp [intOf]; omega
    · obtain rfl : k = M := by omega
      go_wp2
      go_ret
      exact HF.out _ _ hG.out hB.out
theorem spec_reads (M : Nat) (w : World) (hM : M ≤ 256) : Calls Tryd.prog 25 #[.int .i64 M] w (AccsPost (readsN M) w) := by
  have HF : Hid (∀ u w', Gr w' w.heap.size 45 3 u M (accs (readsN M)) → Below w.heap.size w w' → AccsPost (readsN M) w (.returned u) w') := fun u w' hg hb => ⟨u, rfl, by rw [readsN_length]; exact hg, hb⟩
  have HB0 : Hid (Below w.heap.size w (w.alloc (.cells #[] 45))) := (Below.refl w.heap.size w).alloc (Nat.le_refl _) (.cells #[] 45)
  go_enter Tryd.func25, Tryd.ntmps25
  go_wp2
  go_loopw [3, 4] (fun u i wr => ∃ k : Nat, k ≤ M ∧ i = .int .i64 k ∧ Hid (Gr wr w.heap.size 45 3 u k (accs (readsN k))) ∧ Hid (Below w.heap.size w wr)) (fun _ i _ => M - (intOf i).toNat)
  case atStart => exact ⟨0, Nat.zero_le _, rfl, Gr.none0 _ _ _ _ _, HB0.out⟩
  case round =>
    obtain ⟨k, hk, rfl, hG, hB⟩ := hrel
    by_cases hlt : k < M
    · have HA : Hid (accs (readsN k) ++ [.int .i64 2, .int .i64 k, .bool false] = accs (readsN (k + 1))) := by
        unfold Hid; rw [readsN, accs_append]; rfl
      have hsz := hB.out.size
      go_wp2_with (at_builtin; refine wpList_app _ rfl (.tmp 11) (.tmp 14) 26 rfl w.heap.size 45 (.agg #[.int .i64 0, .int .i64 0, .bool false]) 3 24 Tryd.underlying26 Tryd.infoAcc rfl (by omega) u3 k (accs (readsN k)) rfl (hG.out.alloc _) _ 1 [.int .i64 2, .int .i64 k, .bool false] rfl (View.of_row (Row.new wr 45 _) rfl (by unfold maxLen; omega) (Nat.le_refl _)) (by simp [Value.oneCell']) (by unfold maxLen; omega) (by omega) (by simp; omega) ?_; intro v1 w1 g1 r1 k1; have G1 := Lib.hid g1; have R1 := Lib.hid r1; clear g1 r1 k1)
      go_roundw
      case rel => exact ⟨k + 1, hlt, by go_num, by rw [← HA.out]; exact G1.out, (hB.out.alloc hsz _).grown R1.out (by simp; omega) (fun g hg => (hG.out.lt g hg).1)⟩
      case measure => simp [intOf]; omega
    · obtain rfl : k = M := by omega
      go_wp2
      go_ret
      exact HF.out _ _ hG.out hB.out
/-- a number and a list of accesses -/
def IntAccsPost (x : Int) (ys : List (Int × Int × Bool)) (w : World) (e : Ending) (w' : World) : Prop := ∃ u, e = .returned (.tuple #[.int .i64 x, u]) ∧ Gr w' w.heap.size 45 3 u ys.length (accs ys) ∧ Below w.heap.size w w'
theorem intAccs_own {x : Int} {ys : List (Int × Int × Bool)} {w w' : World} {e : Ending} (h : IntAccsPost x ys w e w') : ∃ v b, e = .returned (.tuple #[.int .i64 x, v]) ∧ OwnA w' b v ys ∧ From w.heap.size b ∧ Below w.heap.size w w' := by
  obtain ⟨u, he, hg, hb⟩ := h
  obtain ⟨b, h1, h2, _⟩ := hg.own
  exact ⟨u, b, he, h1, h2, hb⟩
/-- what ScanRead has after k places -/
def rdK (xs : List Int) (a : Int) (k : Nat) : Int := if 0 ≤ a ∧ a < k then xs[a.toNat]?.getD 0 else 0
theorem rdK_hit {xs : List Int} {a : Int} {k : Nat} (h : (k : Int) = a) : rdK xs a (k + 1) = xs[k]?.getD 0 := by
  subst h; unfold rdK; rw [if_pos (by omega)]; simp
theorem rdK_miss {xs : List Int} {a : Int} {k : Nat} (h : ¬ (k : Int) = a) : rdK xs a (k + 1) = rdK xs a k := by
  unfold rdK
  by_cases h1 : 0 ≤ a ∧ a < k
  · rw [if_pos h1, if_pos (by omega)]
  · rw [if_neg h1, if_neg (by omega)]
def readV (xs : List Int) (a : Int) : Int := if xs.length ≤ 256 then rdK xs a xs.length else 0
theorem impl_ScanRead (v : Value) (xs : List Int) (a : Int) (w : World) (h : Ints w v xs) : Calls Tryd.prog 13 #[v, .int .i64 a] w (IntAccsPost (readV xs a) (readsV xs.length) w) := by
  obtain ⟨ad, c, rfl, hmax, hop⟩ := h.open
  unfold maxLen at hmax
  have HOP := Lib.hid hop
  clear hop h
  by_cases hbig : 256 < xs.length
  · have HF : Hid (IntAccsPost (readV xs a) (readsV xs.length) w (.returned (.tuple #[.int .i64 0, .slice none 0 0])) w) := by
      unfold readV readsV; rw [if_neg (by omega), if_neg (by omega)]; exact ⟨_, rfl, Gr.nil _ _ _ _, Below.refl _ _⟩
    go_enter Tryd.func13, Tryd.ntmps13
    go_wp2
    go_ret2
    exact HF.out
  · have hbig' : decide ((256 : Int) < (xs.length : Int)) = false := by simp; omega
    have HF : Hid (∀ e w', AccsPost (readsN xs.length) w e w' → ∃ u, e = .returned u ∧ IntAccsPost (readV xs a) (readsV xs.length) w (.returned (.tuple #[.int .i64 (rdK xs a xs.length), u])) w') := fun e w' ⟨u, he, hg, hb⟩ => by
      unfold readV readsV; rw [if_pos (by omega), if_pos (by omega)]; exact ⟨u, he, u, rfl, hg, hb⟩
    go_enter Tryd.func13, Tryd.ntmps13
    go_wp2
    go_loop [6, 14] (fun x i => ∃ k : Nat, k ≤ xs.length ∧ i = .int .i64 k ∧ x = .int .i64 (rdK xs a k)) (fun _ i => xs.length - (intOf i).toNat)
    case atStart => exact ⟨0, Nat.zero_le _, rfl, by simp [rdK]; omega⟩
    case round =>
      obtain ⟨k, hk, rfl, rfl⟩ := hrel
      by_cases hlt : k < xs.length
      · obtain ⟨b, off, rfl, hcell⟩ := HOP.out k hlt
        have hc1 := hcell k hlt
        obtain ⟨y, hy⟩ : ∃ y, xs[k]?.getD 0 = y := ⟨_, rfl⟩
        have hx : iv xs k = .int .i64 y := by rw [iv, hy]
        rw [hx] at hc1
        obtain ⟨z, hz⟩ : ∃ z, rdK xs a k = z := ⟨_, rfl⟩
        by_cases hka : (k : Int) = a
        · have HN : Hid (rdK xs a (k + 1) = y) := by unfold Hid; rw [rdK_hit hka, hy]
          have hka2 : ((k : Int) == a) = true := by simpa using hka
          rw [hz]
          clear hcell hx hy hka hz
          go_wp2
          go_round
          case rel => exact ⟨k + 1, hlt, by go_num, by rw [HN.out]⟩
          case measure => simp [intOf]; omega
        · have HN : Hid (rdK xs a (k + 1) = z) := by unfold Hid; rw [rdK_miss hka, hz]
          have hka2 : ((k : Int) == a) = false := by simpa using hka
          rw [hz]
          clear hcell hx hy hka hz
          go_wp2
          go_round
          case rel => exact ⟨k + 1, hlt, by go_num, by rw [HN.out]⟩
          case measure => simp [intOf]; omega
      · obtain rfl : k = xs.length := by omega
        go_wp2_with fail
        refine (impl_reads xs.length _ (by omega)).mono ?_
        intro e w2 hp
        obtain ⟨u, rfl, hq⟩ := HF.out e w2 hp
        have HQ := Lib.hid hq
        clear hp hq
        go_wp2
        go_ret2
        exact HQ.out
theorem impl_ScanRead_own (v : Value) (xs : List Int) (a : Int) (w : World) (h : Ints w v xs) (_ : xs.length ≤ 1048576) : Calls Tryd.prog 13 #[v, .int .i64 a] w fun e w' => ∃ v b, e = .returned (.tuple #[.int .i64 (readV xs a), v]) ∧ OwnA w' b v (readsV xs.length) ∧ From w.heap.size b ∧ Below w.heap.size w w' :=
  (impl_ScanRead v xs a w h).mono fun _ _ h => intAccs_own h
theorem spec_ScanRead (v : Value) (xs : List Int) (a : Int) (w : World) (h : Ints w v xs) : Calls Tryd.prog 14 #[v, .int .i64 a] w (IntAccsPost (readV xs a) (readsV xs.length) w) := by
  obtain ⟨ad, c, rfl, hmax, hop⟩ := h.open
  unfold maxLen at hmax
  have HOP := Lib.hid hop
  clear hop h
  by_cases hbig : 256 < xs.length
  · have HF : Hid (IntAccsPost (readV xs a) (readsV xs.length) w (.returned (.tuple #[.int .i64 0, .slice (some ⟨w.heap.size, 0, none⟩) 0 0])) (w.alloc (.cells #[] 45))) := by
      unfold readV readsV; rw [if_neg (by omega), if_neg (by omega)]; exact ⟨_, rfl, Gr.none0 _ _ _ _ _, (Below.refl w.heap.size w).alloc (Nat.le_refl _) _⟩
    go_enter Tryd.func14, Tryd.ntmps14
    go_wp2
    go_ret2
    exact HF.out
  · have hbig' : decide ((256 : Int) < (xs.length : Int)) = false := by simp; omega
    have HF : Hid (∀ e w', AccsPost (readsN xs.length) w e w' → ∃ u, e = .returned u ∧ IntAccsPost (readV xs a) (readsV xs.length) w (.returned (.tuple #[.int .i64 (rdK xs a xs.length), u])) w') := fun e w' ⟨u, he, hg, hb⟩ => by
      unfold readV readsV; rw [if_pos (by omega), if_pos (by omega)]; exact ⟨u, he, u, rfl, hg, hb⟩
    go_enter Tryd.func14, Tryd.ntmps14
    go_wp2
    go_loop [6, 7] (fun x i => ∃ k : Nat, k ≤ xs.length ∧ i = .int .i64 k ∧ x = .int .i64 (rdK xs a k)) (fun _ i => xs.length - (intOf i).toNat)
    case atStart => exact ⟨0, Nat.zero_le _, rfl, by simp [rdK]; omega⟩
    case round =>
      obtain ⟨k, hk, rfl, rfl⟩ := hrel
      by_cases hlt : k < xs.length
      · obtain ⟨b, off, rfl, hcell⟩ := HOP.out k hlt
        have hc1 := hcell k hlt
        obtain ⟨y, hy⟩ : ∃ y, xs[k]?.getD 0 = y := ⟨_, rfl⟩
        have hx : iv xs k = .int .i64 y := by rw [iv, hy]
        rw [hx] at hc1
        obtain ⟨z, hz⟩ : ∃ z, rdK xs a k = z := ⟨_, rfl⟩
        by_cases hka : (k : Int) = a
        · have HN : Hid (rdK xs a (k + 1) = y) := by unfold Hid; rw [rdK_hit hka, hy]
          have hka2 : ((k : Int) == a) = true := by simpa using hka
          rw [hz]
          clear hcell hx hy hka hz
          go_wp2
          go_round
          case rel => exact ⟨k + 1, hlt, by go_num, by rw [HN.out]⟩
          case measure => simp [intOf]; omega
        · have HN : Hid (rdK xs a (k + 1) = z) := by unfold Hid; rw [rdK_miss hka, hz]
          have hka2 : ((k : Int) == a) = false := by simpa using hka
          rw [hz]
          clear hcell hx hy hka hz
          go_wp2
          go_round
          case rel => exact ⟨k + 1, hlt, by go_num, by rw [HN.out]⟩
          case measure => simp [intOf]; omega
      · obtain rfl : k = xs.length := by omega
        go_wp2_with fail
        refine (spec_reads xs.length _ (by omega)).mono ?_
        intro e w2 hp
        obtain ⟨u, rfl, hq⟩ := HF.out e w2 hp
        have HQ := Lib.hid hq
        clear hp hq
        go_wp2
        go_ret2
        exact HQ.out
theorem spec_ScanRead_own (v : Value) (xs : List Int) (a : Int) (w : World) (h : Ints w v xs) (_ : xs.length ≤ 1048576) : Calls Tryd.prog 14 #[v, .int .i64 a] w fun e w' => ∃ v b, e = .returned (.tuple #[.int .i64 (readV xs a), v]) ∧ OwnA w' b v (readsV xs.length) ∧ From w.heap.size b ∧ Below w.heap.size w w' :=
  (spec_ScanRead v xs a w h).mono fun _ _ h => intAccs_own h
/-- the first place of a value, from place i on -/
def firstAt (a : Int) : List Int → Nat → Int
  | [], _ => -1
  | x :: xs, i => if x = a then i else firstAt a xs (i + 1)
theorem firstAt_hit {a : Int} {xs : List Int} {k : Nat} (hk : k < xs.length) (h : xs[k]?.getD 0 = a) : firstAt a (xs.drop k) k = k := by
  rw [List.drop_eq_getElem_cons hk, firstAt, if_pos (by simpa [hk] using h)]
theorem firstAt_miss {a : Int} {xs : List Int} {k : Nat} (hk : k < xs.length) (h : ¬ xs[k]?.getD 0 = a) : firstAt a (xs.drop k) k = firstAt a (xs.drop (k + 1)) (k + 1) := by
  rw [List.drop_eq_getElem_cons hk, firstAt, if_neg (by simpa [hk] using h)]
theorem firstAt_end (a : Int) (xs : List Int) : firstAt a (xs.drop xs.length) xs.length = -1 := by simp [firstAt]
theorem firstAt_zero (a : Int) (xs : List Int) : firstAt a (xs.drop 0) 0 = firstAt a xs 0 := by simp
def findV (xs : List Int) (a : Int) : Int := if xs.length ≤ 256 then firstAt a xs 0 else -1
theorem index_any (v : Value) (xs : List Int) (a : Int) (w : World) (h : Ints w v xs) : Calls Tryd.prog 23 #[v, .int .i64 a] w fun e w' => e = .returned (.int .i64 (firstAt a xs 0)) ∧ w = w' := by
  obtain ⟨ad, c, rfl, hmax, hop⟩ := h.open
  unfold maxLen at hmax
  have HOP := Lib.hid hop
  clear hop h
  go_enter Tryd.func23, Tryd.ntmps23
  go_wp2
  go_loop [8] (fun i => ∃ k : Nat, k ≤ xs.length ∧ i = .int .i64 k ∧ Hid (firstAt a (xs.drop k) k = firstAt a xs 0)) (fun i => xs.length - (intOf i).toNat)
  case atStart => exact ⟨0, Nat.zero_le _, rfl, firstAt_zero _ _⟩
  case round =>
    obtain ⟨k, hk, rfl, hF⟩ := hrel
    by_cases hlt : k < xs.length
    · obtain ⟨b, off, rfl, hcell⟩ := HOP.out k hlt
      have hc1 := hcell k hlt
      obtain ⟨y, hy⟩ : ∃ y, xs[k]?.getD 0 = y := ⟨_, rfl⟩
      have hx : iv xs k = .int .i64 y := by rw [iv, hy]
      rw [hx] at hc1
      by_cases hya : y = a
      · have HN : Hid (firstAt a xs 0 = k) := by unfold Hid; rw [← hF.out]; exact firstAt_hit hlt (by rw [hy]; exact hya)
        have hka2 : (a == y) = true := by simpa using hya.symm
        clear hcell hx hy hya
        go_wp2
        go_ret
        exact ⟨ret_int HN.out.symm, rfl⟩
      · have HN : Hid (firstAt a (xs.drop (k + 1)) (k + 1) = firstAt a xs 0) := by unfold Hid; rw [← hF.out]; exact (firstAt_miss hlt (by rw [hy]; exact hya)).symm
        have hka2 : (a == y) = false := by simpa using fun e => hya e.symm
        clear hcell hx hy hya
        go_wp2
        go_round
        case rel => exact ⟨k + 1, hlt, by go_num, HN.out⟩
        case measure => simp [intOf]; omega
    · obtain rfl : k = xs.length := by omega
      have HN : Hid (firstAt a xs 0 = -1) := by unfold Hid; rw [← hF.out]; exact firstAt_end _ _
      go_wp2
      go_ret
      exact ⟨ret_int HN.out.symm, rfl⟩
theorem impl_ScanFind (v : Value) (xs : List Int) (a : Int) (w : World) (h : Ints w v xs) : Calls Tryd.prog 8 #[v, .int .i64 a] w (IntAccsPost (findV xs a) (readsV xs.length) w) := by
  have HH := Lib.hid h
  obtain ⟨ad, c, rfl, hmax, hop⟩ := h.open
  unfold maxLen at hmax
  clear hop h
  by_cases hbig : 256 < xs.length
  · have HF : Hid (IntAccsPost (findV xs a) (readsV xs.length) w (.returned (.tuple #[.int .i64 (-1), .slice none 0 0])) w) := by
      unfold findV readsV; rw [if_neg (by omega), if_neg (by omega)]; exact ⟨_, rfl, Gr.nil _ _ _ _, Below.refl _ _⟩
    go_enter Tryd.func8, Tryd.ntmps8
    go_wp2
    go_ret2
    exact HF.out
  · have hbig' : decide ((256 : Int) < (xs.length : Int)) = false := by simp; omega
    have HF : Hid (∀ e w', AccsPost (readsN xs.length) w e w' → ∃ u, e = .returned u ∧ IntAccsPost (findV xs a) (readsV xs.length) w (.returned (.tuple #[.int .i64 (firstAt a xs 0), u])) w') := fun e w' ⟨u, he, hg, hb⟩ => by
      unfold findV readsV; rw [if_pos (by omega), if_pos (by omega)]; exact ⟨u, he, u, rfl, hg, hb⟩
    go_enter Tryd.func8, Tryd.ntmps8
    go_wp2_with (go_at_call 23; refine (index_any _ xs _ _ HH.out).mono ?_; rintro e w' ⟨rfl, rfl⟩)
    refine (impl_reads xs.length _ (by omega)).mono ?_
    intro e w2 hp
    obtain ⟨u, rfl, hq⟩ := HF.out e w2 hp
    have HQ := Lib.hid hq
    clear hp hq
    go_wp2
    go_ret2
    exact HQ.out
theorem impl_ScanFind_own (v : Value) (xs : List Int) (a : Int) (w : World) (h : Ints w v xs) (_ : xs.length ≤ 1048576) : Calls Tryd.prog 8 #[v, .int .i64 a] w fun e w' => ∃ v b, e = .returned (.tuple #[.int .i64 (findV xs a), v]) ∧ OwnA w' b v (readsV xs.length) ∧ From w.heap.size b ∧ Below w.heap.size w w' :=
  (impl_ScanFind v xs a w h).mono fun _ _ h => intAccs_own h
theorem spec_ScanFind (v : Value) (xs : List Int) (a : Int) (w : World) (h : Ints w v xs) : Calls Tryd.prog 9 #[v, .int .i64 a] w (IntAccsPost (findV xs a) (readsV xs.length) w) := by
  obtain ⟨ad, c, rfl, hmax, hop⟩ := h.open
  unfold maxLen at hmax
  have HOP := Lib.hid hop
  clear hop h
  by_cases hbig : 256 < xs.length
  · have HF : Hid (IntAccsPost (findV xs a) (readsV xs.length) w (.returned (.tuple #[.int .i64 (-1), .slice (some ⟨w.heap.size, 0, none⟩) 0 0])) (w.alloc (.cells #[] 45))) := by
      unfold findV readsV; rw [if_neg (by omega), if_neg (by omega)]; exact ⟨_, rfl, Gr.none0 _ _ _ _ _, (Below.refl w.heap.size w).alloc (Nat.le_refl _) _⟩
    go_enter Tryd.func9, Tryd.ntmps9
    go_wp2
    go_ret2
    exact HF.out
  · have hbig' : decide ((256 : Int) < (xs.length : Int)) = false := by simp; omega
    have HF : Hid (∀ e w', AccsPost (readsN xs.length) w e w' → ∃ u, e = .returned u ∧ IntAccsPost (findV xs a) (readsV xs.length) w (.returned (.tuple #[.int .i64 (firstAt a xs 0), u])) w') := fun e w' ⟨u, he, hg, hb⟩ => by
      unfold findV readsV; rw [if_pos (by omega), if_pos (by omega)]; exact ⟨u, he, u, rfl, hg, hb⟩
    go_enter Tryd.func9, Tryd.ntmps9
    go_wp2
    go_loop [6, 7] (fun x i => ∃ k : Nat, k ≤ xs.length ∧ i = .int .i64 ((k : Int) - 1) ∧ x = .int .i64 (firstAt a (xs.drop k) k)) (fun _ i => (intOf i + 1).toNat)
    case atStart => exact ⟨xs.length, Nat.le_refl _, rfl, by rw [firstAt_end]⟩
    case round =>
      obtain ⟨k, hk, rfl, rfl⟩ := hrel
      obtain ⟨z, hz⟩ : ∃ z, firstAt a (xs.drop k) k = z := ⟨_, rfl⟩
      by_cases hk0 : k = 0
      · subst hk0
        have HZ : Hid (z = firstAt a xs 0) := by unfold Hid; rw [← hz, firstAt_zero]
        rw [hz]
        clear hz
        go_wp2_with fail
        refine (spec_reads xs.length _ (by omega)).mono ?_
        intro e w2 hp
        obtain ⟨u, rfl, hq⟩ := HF.out e w2 hp
        rw [← HZ.out] at hq
        have HQ := Lib.hid hq
        clear hp hq
        go_wp2
        go_ret2
        exact HQ.out
      · obtain ⟨q, rfl⟩ : ∃ q, k = q + 1 := ⟨k - 1, by omega⟩
        have hlt : q < xs.length := by omega
        obtain ⟨b, off, rfl, hcell⟩ := HOP.out q hlt
        have hc1 := hcell q hlt
        obtain ⟨y, hy⟩ : ∃ y, xs[q]?.getD 0 = y := ⟨_, rfl⟩
        have hx : iv xs q = .int .i64 y := by rw [iv, hy]
        rw [hx] at hc1
        have e1 : ((q + 1 : Nat) : Int) - 1 = (q : Int) := by omega
        rw [e1, hz]
        by_cases hya : y = a
        · have HN : Hid (firstAt a (xs.drop q) q = q) := firstAt_hit hlt (by rw [hy]; exact hya)
          have hka2 : (y == a) = true := by simpa using hya
          clear hcell hx hy hya hz e1
          go_wp2
          go_round
          case rel => exact ⟨q, by omega, rfl, by rw [HN.out]⟩
          case measure => simp [intOf] <;> omega
        · have HN : Hid (firstAt a (xs.drop q) q = z) := by unfold Hid; rw [← hz]; exact firstAt_miss hlt (by rw [hy]; exact hya)
          have hka2 : (y == a) = false := by simpa using hya
          clear hcell hx hy hya hz e1
          go_wp2
          go_round
          case rel => exact ⟨q, by omega, rfl, by rw [HN.out]⟩
          case measure => simp [intOf] <;> omega
theorem spec_ScanFind_own (v : Value) (xs : List Int) (a : Int) (w : World) (h : Ints w v xs) (_ : xs.length ≤ 1048576) : Calls Tryd.prog 9 #[v, .int .i64 a] w fun e w' => ∃ v b, e = .returned (.tuple #[.int .i64 (findV xs a), v]) ∧ OwnA w' b v (readsV xs.length) ∧ From w.heap.size b ∧ Below w.heap.size w w' :=
  (spec_ScanFind v xs a w h).mono fun _ _ h => intAccs_own h
theorem clone_any (v : Value) (xs : List Int) (w : World) (h : Ints w v xs) (hn : xs.length ≤ 1048576) : Calls Tryd.prog 28 #[v] w (IntsPost xs w) := by
  have HH := Lib.hid h
  obtain ⟨ad, c, rfl, hmax, hop⟩ := h.open
  cases ad with
  | none =>
    have h0 : xs.length = 0 := by
      by_cases h : xs.length = 0
      · exact h
      · obtain ⟨b, off, hb, _⟩ := hop 0 (by omega); cases hb
    obtain rfl : xs = [] := List.eq_nil_of_length_eq_zero h0
    have HF : Hid (IntsPost [] w (.returned (.slice none 0 0)) w) := ⟨_, rfl, Gr.nil _ _ _ _, Below.refl _ _⟩
    clear hop h h0
    have hq := Lib.run_eql_slice_nil (P := Tryd.prog) w 23 3 none 0 c 0 0 Tryd.underlying23
    go_enter Tryd.func28, Tryd.ntmps28
    go_wp2
    go_ret
    exact HF.out
  | some a =>
    clear hop h
    have HF : Hid (∀ u w', Gr w' w.heap.size 3 1 u (0 + xs.length) ([] ++ ints xs) → Below w.heap.size w w' → IntsPost xs w (.returned u) w') := fun u w' hg hb => ⟨u, rfl, by simpa using hg, hb⟩
    have hq := Lib.run_eql_slice_nil (P := Tryd.prog) w 23 3 (some a) xs.length c 0 0 Tryd.underlying23
    have HB0 : Hid (Below w.heap.size w (w.alloc (.cells #[] 3))) := (Below.refl w.heap.size w).alloc (Nat.le_refl _) (.cells #[] 3)
    unfold maxLen at hmax
    go_enter Tryd.func28, Tryd.ntmps28
    go_wp2_with (at_builtin; refine wpList_app _ rfl (.tmp 5) (.tmp 6) 23 rfl w.heap.size 3 (.int .i64 0) 1 8 Tryd.underlying23 Tryd.infoInt rfl (by omega) (.slice (some ⟨w.heap.size, 0, none⟩) 0 0) 0 [] rfl (Gr.none0 _ _ _ _ _) _ xs.length (ints xs) rfl (HH.out.mono HB0.out (Nat.le_refl _)) (one_ints _) (by unfold maxLen; omega) (by omega) (by simp) ?_; intro v1 w1 g1 r1 k1; have G1 := Lib.hid g1; have R1 := Lib.hid r1; clear g1 r1 k1)
    go_ret
    exact HF.out _ _ G1.out (HB0.out.grown R1.out (by simp) (fun g hg => by simp [gBlock] at hg))
/-- a list and a list of accesses, apart -/
def IntsAccsPost (xs : List Int) (ys : List (Int × Int × Bool)) (w : World) (e : Ending) (w' : World) : Prop := ∃ u v, e = .returned (.tuple #[u, v]) ∧ Gr w' w.heap.size 3 1 u xs.length (ints xs) ∧ Gr w' w.heap.size 45 3 v ys.length (accs ys) ∧ (∀ g, gBlock u = some g → gBlock v ≠ some g) ∧ Below w.heap.size w w'
theorem intsAccs_own {xs : List Int} {ys : List (Int × Int × Bool)} {w w' : World} {e : Ending} (h : IntsAccsPost xs ys w e w') : ∃ v u b c, e = .returned (.tuple #[v, u]) ∧ OwnI w' b v xs ∧ From w.heap.size b ∧ OwnA w' c u ys ∧ From w.heap.size c ∧ (∀ g, b = some g → c ≠ some g) ∧ Below w.heap.size w w' := by
  obtain ⟨u, v, he, hg, hg2, hap, hb⟩ := h
  obtain ⟨b, h1, h2, h3⟩ := hg.own
  obtain ⟨c, k1, k2, k3⟩ := hg2.own
  exact ⟨u, v, b, c, he, h1, h2, k1, k2, fun g e1 e2 => hap g (h3 g e1) (k3 g e2), hb⟩
theorem passV_n {n : Nat} (h : n ≤ 256) : passV 2 n = passN 2 n := by
  unfold passV passOk
  rw [inB_true (by omega) (by omega), inB_true (by omega) (by omega)]
  simp
theorem passV_big {n : Nat} (h : 256 < n) : passV 2 n = [] := by
  unfold passV passOk
  rw [inB_hi (lo := 0) (hi := 256) (by omega)]
  simp
/-- what ScanWrite has after k places -/
def wrK (xs : List Int) (a b : Int) (k : Nat) : Int := if (k : Int) = a then b else xs[k]?.getD 0
def writeV (xs : List Int) (a b : Int) : List Int := if xs.length ≤ 256 then tab xs.length (wrK xs a b) else []
def writesV (n : Nat) : List (Int × Int × Bool) := passV 2 n
theorem writeV_le (xs : List Int) (a b : Int) : (writeV xs a b).length ≤ 256 := by unfold writeV; split <;> simp; assumption
theorem writesV_le (n : Nat) : (writesV n).length ≤ 512 := passV_le _ _
theorem spec_ScanWrite (v : Value) (xs : List Int) (a b : Int) (w : World) (h : Ints w v xs) : Calls Tryd.prog 17 #[v, .int .i64 a, .int .i64 b] w (IntsAccsPost (writeV xs a b) (writesV xs.length) w) := by
  obtain ⟨ad, c, rfl, hmax, hop⟩ := h.open
  unfold maxLen at hmax
  have HOP := Lib.hid hop
  clear hop h
  have HB0 : Hid (Below w.heap.size w (w.alloc (.cells #[] 3))) := (Below.refl w.heap.size w).alloc (Nat.le_refl _) (.cells #[] 3)
  by_cases hbig : 256 < xs.length
  · have HF : Hid (IntsAccsPost (writeV xs a b) (writesV xs.length) w (.returned (.tuple #[.slice (some ⟨w.heap.size, 0, none⟩) 0 0, .slice (some ⟨w.heap.size + 1, 0, none⟩) 0 0])) ((w.alloc (.cells #[] 3)).alloc (.cells #[] 45))) := by
      unfold writeV writesV; rw [if_neg (by omega), passV_big hbig]; exact ⟨_, _, rfl, Gr.none0 _ _ _ _ _, Gr.none0 _ _ _ _ _, (fun g hg => by simp [gBlock] at hg), HB0.out.alloc (by simp) _⟩
    go_enter Tryd.func17, Tryd.ntmps17
    go_wp2
    go_ret2
    exact HF.out
  · have hbig' : decide ((256 : Int) < (xs.length : Int)) = false := by simp; omega
    have HF : Hid (∀ u v w', Gr w' w.heap.size 3 1 u xs.length (ints (tab xs.length (wrK xs a b))) → Gr w' w.heap.size 45 3 v (2 * xs.length) (accs (passN 2 xs.length)) → (∀ g, gBlock u = some g → gBlock v ≠ some g) → Below w.heap.size w w' → IntsAccsPost (writeV xs a b) (writesV xs.length) w (.returned (.tuple #[u, v])) w') := fun u v w' hg hg2 hap hb => by
      unfold writeV writesV; rw [if_pos (by omega), passV_n (by omega)]
      exact ⟨u, v, rfl, by rw [tab_length]; exact hg, by rw [passN_length]; exact hg2, hap, hb⟩
    go_enter Tryd.func17, Tryd.ntmps17
    go_wp2
    go_loopw [8, 9] (fun u i wr => ∃ k : Nat, k ≤ xs.length ∧ i = .int .i64 k ∧ Hid (Gr wr w.heap.size 3 1 u k (ints (tab k (wrK xs a b)))) ∧ Hid (Below w.heap.size w wr)) (fun _ i _ => xs.length - (intOf i).toNat)
    case atStart => exact ⟨0, Nat.zero_le _, rfl, Gr.none0 _ _ _ _ _, HB0.out⟩
    case round =>
      obtain ⟨k, hk, rfl, hG, hB⟩ := hrel
      by_cases hlt : k < xs.length
      · obtain ⟨p, off, rfl, hcell⟩ := HOP.out k hlt
        have hc1 := hcell k hlt
        have hc1 : wr.cell? ⟨p, off + k, none⟩ = some (iv xs k) := (hB.out.cell (p := ⟨p, off + k, none⟩) (World.block_lt_of_cell? w _ hc1)).trans hc1
        obtain ⟨y, hy⟩ : ∃ y, xs[k]?.getD 0 = y := ⟨_, rfl⟩
        have hx : iv xs k = .int .i64 y := by rw [iv, hy]
        rw [hx] at hc1
        have hsz := hB.out.size
        by_cases hka : (k : Int) = a
        · have HA : Hid (ints (tab k (wrK xs a b)) ++ [.int .i64 b] = ints (tab (k + 1) (wrK xs a b))) := tabI_snoc (by unfold wrK; rw [if_pos hka])
          have hka2 : ((k : Int) == a) = true := by simpa using hka
          clear hcell hx hy hka
          go_wp2_with (at_builtin; refine wpList_app _ rfl (.tmp 25) (.tmp 27) 23 rfl w.heap.size 3 (.int .i64 0) 1 8 Tryd.underlying23 Tryd.infoInt rfl (by omega) u8 k (ints (tab k (wrK xs a b))) rfl (hG.out.alloc _) _ 1 [.int .i64 b] rfl (view_one _ _ _) (by simp [Value.oneCell']) (by unfold maxLen; omega) (by omega) (by simp; omega) ?_; intro v1 w1 g1 r1 k1; have G1 := Lib.hid g1; have R1 := Lib.hid r1; clear g1 r1 k1)
          go_roundw
          case rel => exact ⟨k + 1, hlt, by go_num, by rw [← HA.out]; exact G1.out, (hB.out.alloc hsz _).grown R1.out (by simp; omega) (fun g hg => (hG.out.lt g hg).1)⟩
          case measure => simp [intOf]; omega
        · have HA : Hid (ints (tab k (wrK xs a b)) ++ [.int .i64 y] = ints (tab (k + 1) (wrK xs a b))) := tabI_snoc (by unfold wrK; rw [if_neg hka, hy])
          have hka2 : ((k : Int) == a) = false := by simpa using hka
          clear hcell hx hy hka
          go_wp2_with (at_builtin; refine wpList_app _ rfl (.tmp 29) (.tmp 34) 23 rfl w.heap.size 3 (.int .i64 0) 1 8 Tryd.underlying23 Tryd.infoInt rfl (by omega) u8 k (ints (tab k (wrK xs a b))) rfl (hG.out.alloc _) _ 1 [.int .i64 y] rfl (view_one _ _ _) (by simp [Value.oneCell']) (by unfold maxLen; omega) (by omega) (by simp; omega) ?_; intro v1 w1 g1 r1 k1; have G1 := Lib.hid g1; have R1 := Lib.hid r1; clear g1 r1 k1)
          go_roundw
          case rel => exact ⟨k + 1, hlt, by go_num, by rw [← HA.out]; exact G1.out, (hB.out.alloc hsz _).grown R1.out (by simp; omega) (fun g hg => (hG.out.lt g hg).1)⟩
          case measure => simp [intOf]; omega
      · obtain rfl : k = xs.length := by omega
        go_wp2_with fail
        refine (spec_PassTrace 2 xs.length _).mono ?_
        rintro e w2 ⟨x, rfl, hg, hb⟩
        rw [passV_n (by omega), passN_length] at hg
        have HQ := Lib.hid (HF.out u8 x w2 (hG.out.mono hb (Nat.le_refl _)) (hg.low hB.out.size) (fun g e1 e2 => by have := (hG.out.lt g e1).2; have := (hg.lt g e2).1; omega) (hB.out.trans (hb.mono hB.out.size)))
        clear hg hb hG hB
        go_wp2
        go_ret2
        exact HQ.out
theorem spec_ScanWrite_own (v : Value) (xs : List Int) (a b : Int) (w : World) (h : Ints w v xs) (_ : xs.length ≤ 1048576) : Calls Tryd.prog 17 #[v, .int .i64 a, .int .i64 b] w fun e w' => ∃ v u p q, e = .returned (.tuple #[v, u]) ∧ OwnI w' p v (writeV xs a b) ∧ From w.heap.size p ∧ OwnA w' q u (writesV xs.length) ∧ From w.heap.size q ∧ (∀ g, p = some g → q ≠ some g) ∧ Below w.heap.size w w' :=
  (spec_ScanWrite v xs a b w h).mono fun _ _ h => intsAccs_own h
theorem impl_ScanWrite (v : Value) (xs : List Int) (a b : Int) (w : World) (h : Ints w v xs) : Calls Tryd.prog 16 #[v, .int .i64 a, .int .i64 b] w (IntsAccsPost (writeV xs a b) (writesV xs.length) w) := by
  have HH := Lib.hid h
  obtain ⟨ad, c, rfl, hmax, hop⟩ := h.open
  unfold maxLen at hmax
  clear hop h
  by_cases hbig : 256 < xs.length
  · have HF : Hid (IntsAccsPost (writeV xs a b) (writesV xs.length) w (.returned (.tuple #[.slice none 0 0, .slice none 0 0])) w) := by
      unfold writeV writesV; rw [if_neg (by omega), passV_big hbig]; exact ⟨_, _, rfl, Gr.nil _ _ _ _, Gr.nil _ _ _ _, (fun g hg => by simp [gBlock] at hg), Below.refl _ _⟩
    go_enter Tryd.func16, Tryd.ntmps16
    go_wp2
    go_ret2
    exact HF.out
  · have hbig' : decide ((256 : Int) < (xs.length : Int)) = false := by simp; omega
    have HF : Hid (∀ u v w', Gr w' w.heap.size 3 1 u xs.length (ints (tab xs.length (wrK xs a b))) → Gr w' w.heap.size 45 3 v (2 * xs.length) (accs (passN 2 xs.length)) → (∀ g, gBlock u = some g → gBlock v ≠ some g) → Below w.heap.size w w' → IntsAccsPost (writeV xs a b) (writesV xs.length) w (.returned (.tuple #[u, v])) w') := fun u v w' hg hg2 hap hb => by
      unfold writeV writesV; rw [if_pos (by omega), passV_n (by omega)]
      exact ⟨u, v, rfl, by rw [tab_length]; exact hg, by rw [passN_length]; exact hg2, hap, hb⟩
    go_enter Tryd.func16, Tryd.ntmps16
    go_wp2_with fail
    refine (clone_any _ xs _ HH.out (by omega)).mono ?_
    rintro e w1 ⟨u, rfl, hg, hb⟩
    rw [ints_tab, show tab xs.length (iv xs) = tab xs.length (mix 0 (fun k => .int .i64 (wrK xs a b k)) (iv xs)) from (mix_zero _ _ _).symm] at hg
    obtain ⟨ad2, c2, hu⟩ := hg.lit
    subst hu
    have HG := Lib.hid hg
    have HB := Lib.hid hb
    clear hg hb
    go_wp2
    go_loopw [17] (fun i wr => ∃ k : Nat, k ≤ xs.length ∧ i = .int .i64 k ∧ Hid (Gr wr w.heap.size 3 1 (.slice ad2 xs.length c2) xs.length (tab xs.length (mix k (fun k => .int .i64 (wrK xs a b k)) (iv xs)))) ∧ Hid (Below w.heap.size w wr)) (fun i _ => xs.length - (intOf i).toNat)
    case atStart => exact ⟨0, Nat.zero_le _, rfl, HG.out, HB.out⟩
    case round =>
      obtain ⟨k, hk, rfl, hG, hB⟩ := hrel
      by_cases hlt : k < xs.length
      · have HS := Lib.hid (mix_step xs.length k (fun k => .int .i64 (wrK xs a b k)) (iv xs))
        obtain ⟨y, hy⟩ : ∃ y, xs[k]?.getD 0 = y := ⟨_, rfl⟩
        have hx : iv xs k = .int .i64 y := by rw [iv, hy]
        obtain ⟨g, c3, hv, hBg, _, _, hfr, hcl, hset⟩ := hG.out.at (by omega)
        cases hv
        have hc1 := hcl k _ (mix_at xs.length k _ (iv xs) hlt)
        rw [hx] at hc1
        have hf1 := hfr k
        have HSet := Lib.hid (hset k (.int .i64 (wrK xs a b k)) hlt)
        clear hfr hcl hset
        by_cases hka : (k : Int) = a
        · have HW : Hid (wrK xs a b k = b) := by unfold Hid wrK; rw [if_pos hka]
          have hka2 : ((k : Int) == a) = true := by simpa using hka
          clear hx hy hka
          go_wp2
          go_roundw
          case rel => exact ⟨k + 1, hlt, by go_num, by rw [← HS.out]; have := HSet.out; rw [HW.out] at this ⊢; exact this, hB.out.setCell hBg _⟩
          case measure => simp [intOf]; omega
        · have HE : Hid (tab xs.length (mix k (fun k => .int .i64 (wrK xs a b k)) (iv xs)) = tab xs.length (mix (k + 1) (fun k => .int .i64 (wrK xs a b k)) (iv xs))) := by
            unfold Hid
            refine tab_congr fun i hi => ?_
            unfold mix
            by_cases h1 : i < k
            · rw [if_pos h1, if_pos (by omega)]
            · by_cases h2 : i = k
              · subst h2; rw [if_neg h1, if_pos (by omega), hx]; show Value.int .i64 y = .int .i64 (wrK xs a b i); unfold wrK; rw [if_neg hka, hy]
              · rw [if_neg h1, if_neg (by omega)]
          have hka2 : ((k : Int) == a) = false := by simpa using hka
          clear hx hy hka
          go_wp2
          go_roundw
          case rel => exact ⟨k + 1, hlt, by go_num, by rw [← HE.out]; exact hG.out, hB.out⟩
          case measure => simp [intOf]; omega
      · obtain rfl : k = xs.length := by omega
        go_wp2_with fail
        refine (impl_PassTrace 2 xs.length _).mono ?_
        rintro e w2 ⟨x, rfl, hg, hb⟩
        rw [passV_n (by omega), passN_length] at hg
        have hG2 := hG.out
        rw [mix_full, ← ints_tabf] at hG2
        have HQ := Lib.hid (HF.out _ x w2 (hG2.mono hb (Nat.le_refl _)) (hg.low hB.out.size) (fun g e1 e2 => by have := (hG.out.lt g e1).2; have := (hg.lt g e2).1; omega) (hB.out.trans (hb.mono hB.out.size)))
        clear hg hb hG hB hG2
        go_wp2
        go_ret2
        exact HQ.out
theorem impl_ScanWrite_own (v : Value) (xs : List Int) (a b : Int) (w : World) (h : Ints w v xs) (_ : xs.length ≤ 1048576) : Calls Tryd.prog 16 #[v, .int .i64 a, .int .i64 b] w fun e w' => ∃ v u p q, e = .returned (.tuple #[v, u]) ∧ OwnI w' p v (writeV xs a b) ∧ From w.heap.size p ∧ OwnA w' q u (writesV xs.length) ∧ From w.heap.size q ∧ (∀ g, p = some g → q ≠ some g) ∧ Below w.heap.size w w' :=
  (impl_ScanWrite v xs a b w h).mono fun _ _ h => intsAccs_own h
end Go.Proofs.YtkfhfhcjgeigeaaDoor
