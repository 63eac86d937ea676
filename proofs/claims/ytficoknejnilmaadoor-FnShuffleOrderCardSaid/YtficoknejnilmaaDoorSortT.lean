/- contract of slices.SortStableFunc for at most 32 places ordered by tags -/
import Derived.Test.YtficoknejnilmaaDoorSortS
namespace Go.Proofs.YtficoknejnilmaaDoor
open Go.RowKit
/-- numbers that are different and small are all there -/
theorem onto_of : ∀ (n : Nat) (f : Nat → Nat), (∀ x, x < n → f x < n) → (∀ x y, x < n → y < n → f x = f y → x = y) → ∀ z, z < n → ∃ x, x < n ∧ f x = z
  | 0, _, _, _, z, hz => by omega
  | n + 1, f, hf, hi, z, hz => by
    have ha := hf n (by omega)
    have ih := onto_of n (fun x => if f x = n then f n else f x) (fun x hx => by
      have h1 := hf x (by omega)
      show (if f x = n then f n else f x) < n
      split
      · rename_i e
        have : f n ≠ n := fun e' => by have := hi x n (by omega) (by omega) (by rw [e, e']); omega
        omega
      · omega) (fun x y hx hy e => by
      have h1 : f x ≠ f n := fun e' => by have := hi x n (by omega) (by omega) e'; omega
      have h2 : f y ≠ f n := fun e' => by have := hi y n (by omega) (by omega) e'; omega
      split at e <;> split at e
      · rename_i e1 e2; exact hi x y (by omega) (by omega) (by rw [e1, e2])
      · exact absurd e.symm h2
      · exact absurd e h1
      · exact hi x y (by omega) (by omega) e)
    by_cases hzn : z = n
    · subst hzn
      by_cases h : ∃ x, x < z ∧ f x = z
      · obtain ⟨x, h1, h2⟩ := h; exact ⟨x, by omega, h2⟩
      · have hsm : ∀ x, x < z → f x < z := fun x hx => by
          have := hf x (by omega)
          have : f x ≠ z := fun e => h ⟨x, hx, e⟩
          omega
        by_cases hfz : f z = z
        · exact ⟨z, by omega, hfz⟩
        · obtain ⟨x, hx, he⟩ := onto_of z f hsm (fun x y hx hy e => hi x y (by omega) (by omega) e) (f z) (by omega)
          have := hi x z (by omega) (by omega) he
          omega
    · obtain ⟨x, hx, he⟩ := ih z (by omega)
      split at he
      · exact ⟨n, by omega, he⟩
      · exact ⟨x, by omega, he⟩
/-- the places in their order are the order -/
theorem sorted_ord {t : Nat → Int} {n : Nat} {X Y : Nat → Nat} (hX : ∀ i, i < n → X i = i) (hM : Mv 0 n X Y) (hA : Asc t Y 0 n) : tab n Y = ordI t n := by
  obtain ⟨s, h1, h2, h3, h4⟩ := hM
  have hs : ∀ i, i < n → s i < n := fun i hi => (h1 i (Nat.zero_le _) hi).2
  have hY : ∀ i, i < n → Y i = s i := fun i hi => by rw [h4, hX _ (hs i hi)]
  refine order_unique (List.pairwise_iff_getElem.2 fun i j hi hj hij => ?_) (ordI_sorted t n) fun y => ?_
  · simp only [tab, List.length_map, List.length_range] at hi hj
    simp only [tab, List.getElem_map, List.getElem_range]
    exact hA i j (Nat.zero_le _) hij hj
  · rw [ordI_mem]
    simp only [tab, List.mem_map, List.mem_range]
    constructor
    · rintro ⟨i, hi, rfl⟩; rw [hY i hi]; exact hs i hi
    · intro hy
      obtain ⟨x, hx, e⟩ := onto_of n s hs (fun x y _ _ e => h3 x y e) y hy
      exact ⟨x, hx, by rw [hY x hx, e]⟩
theorem insertion_none (v cv : Value) (w : World) : Calls Tryd.prog 32 #[v, .int .i64 0, .int .i64 0, cv] w fun e w' => e = .returned (.tuple #[]) ∧ w = w' := by
  go_enter Tryd.func32, Tryd.ntmps32
  go_wp2
  go_loopw [8] (fun vi wr => vi = .int .i64 1 ∧ w = wr) (fun _ _ => 0)
  case atStart => exact ⟨rfl, rfl⟩
  case round =>
    obtain ⟨rfl, rfl⟩ := hrel
    go_wp2
    go_end0
    exact ⟨rfl, rfl⟩
theorem stable_none (v cv : Value) (w : World) : Calls Tryd.prog 28 #[v, .int .i64 0, cv] w fun e w' => e = .returned (.tuple #[]) ∧ w = w' := by
  go_enter Tryd.func28, Tryd.ntmps28
  go_wp2
  go_loopw [7, 8] (fun va vb wr => va = .int .i64 0 ∧ vb = .int .i64 20 ∧ w = wr) (fun _ _ _ => 0)
  case atStart => exact ⟨rfl, rfl, rfl⟩
  case round =>
    obtain ⟨rfl, rfl, rfl⟩ := hrel
    go_wp2_with (go_at_call 32; refine (insertion_none _ _ _).mono ?_; rintro e w' ⟨rfl, rfl⟩)
    go_loopw [6] (fun va wr => va = .int .i64 20 ∧ w = wr) (fun _ _ => 0)
    case atStart => exact ⟨rfl, rfl⟩
    case round =>
      obtain ⟨rfl, rfl⟩ := hrel
      go_wp2
      go_end0
      exact ⟨rfl, rfl⟩
set_option maxRecDepth 20000 in
set_option maxHeartbeats 2000000 in
theorem stable_any (w0 w : World) (g n c : Nat) (X : Nat → Nat) (r : List Value) (p : Value) (t : Nat → Int) (h : Srt w0 w g n X r) (hC : CmpC 23 p w0 g n t) (hn : n ≤ 32) (hX : ∀ i, i < n → X i = i) :
    Calls Tryd.prog 28 #[.slice (some ⟨g, 0, none⟩) n c, .int .i64 n, .func (.func 23) #[] #[p]] w fun e w' => e = .returned (.tuple #[]) ∧ ∃ Y, Srt w0 w' g n Y r ∧ tab n Y = ordI t n := by
  have H := Lib.hid h
  have HC := Lib.hid hC
  have HX := Lib.hid hX
  have HB : Hid (∀ i, i < n → X i < n) := fun i hi => by rw [hX i hi]; exact hi
  have HN : Hid (n ≤ 1000000) := by show _ ≤ _; omega
  clear h hC hX
  go_enter Tryd.func28, Tryd.ntmps28
  go_wp2
  go_loopw [7, 8] (fun va vb wr => ∃ (a b : Nat) (Y : Nat → Nat), va = .int .i64 a ∧ vb = .int .i64 b ∧ Srt w0 wr g n Y r ∧ b = a + 20 ∧ a ≤ n ∧ a ≤ 20 ∧ Hid ((a = 0 ∨ a = 20) ∧ Mv 0 a X Y ∧ Asc t Y 0 a)) (fun va _ _ => 20 - (intOf va).toNat)
  case atStart => exact ⟨0, 20, X, rfl, rfl, H.out, rfl, Nat.zero_le _, by omega, .inl rfl, Mv.refl _ _ _, fun i j h1 h2 h3 => by omega⟩
  case round =>
    obtain ⟨a, b, Y, rfl, rfl, hs, hba, han, ha20, HM⟩ := hrel
    have HS := Lib.hid hs
    have HBA := Lib.hid hba
    have HYB : Hid (∀ i, i < n → Y i < n) := HM.out.2.1.bd han HB.out
    have HYX : Hid (∀ i, a ≤ i → i < n → Y i = i) := fun i h1 h2 => by
      obtain ⟨s, q1, q2, q3, q4⟩ := HM.out.2.1
      rw [q4, q2 i (.inr h1), HX.out i h2]
    clear hs
    by_cases hbn : b ≤ n
    · have hbz : (b : Int) ≤ n := by omega
      have ha0 : a = 0 := by have := HM.out.1; omega
      have HA0 := Lib.hid ha0
      have hab : a ≤ b := by omega
      have e1 : IntKind.i64.wrap ((b : Int) + 20) = ((b + 20 : Nat) : Int) := wrapF (by omega) (by omega) (by omega)
      clear hba ha0
      go_wp2_with (go_at_call 32; refine (insertion_any w0 _ g n _ Y r a b _ p t rfl HS.out HC.out hab hbn HN.out HYB.out (fun k l h1 h2 h3 => by rw [HYX.out k h1 (by omega), HYX.out l (by omega) (by omega)]; exact h2)).mono ?_; rintro e w1 ⟨rfl, Z, hz1, hz2, hz3⟩; have HZ1 := Lib.hid hz1; have HZ2 := Lib.hid hz2; have HZ3 := Lib.hid hz3; clear hz1 hz2 hz3)
      go_roundw
      case rel =>
        have q := HBA.out
        have q0 := HA0.out
        refine ⟨b, b + 20, Z, rfl, by go_num, HZ1.out, rfl, hbn, by omega, .inr (by omega), ?_, ?_⟩
        · exact (HM.out.2.1.wide (Nat.le_refl _) hab).trans (HZ2.out.wide (Nat.zero_le _) (Nat.le_refl _))
        · have := HZ3.out; rwa [q0] at this
      case measure => have q := HBA.out; have q0 := HA0.out; simp [intOf]; omega
    · have hbz : decide ((b : Int) ≤ n) = false := by simp; omega
      have hbz' : ¬ (b : Int) ≤ n := by omega
      go_wp2_with (go_at_call 32; refine (insertion_any w0 _ g n _ Y r a n _ p t rfl HS.out HC.out han (Nat.le_refl _) HN.out HYB.out (fun k l h1 h2 h3 => by rw [HYX.out k h1 (by omega), HYX.out l (by omega) h3]; exact h2)).mono ?_; rintro e w1 ⟨rfl, Z, hz1, hz2, hz3⟩; have HZ1 := Lib.hid hz1; have HZ2 := Lib.hid hz2; have HZ3 := Lib.hid hz3; clear hz1 hz2 hz3)
      have HXZ : Hid (Mv 0 n X Z) := (HM.out.2.1.wide (Nat.le_refl _) han).trans (HZ2.out.wide (Nat.zero_le _) (Nat.le_refl _))
      have HFS : Hid (n ≤ 20 → Asc t Z 0 n) := fun q => by
        have hM := HM.out
        rcases hM.1 with rfl | rfl
        · exact HZ3.out
        · intro i j h1 h2 h3
          have hn20 : n = 20 := by omega
          subst hn20
          exact (HZ2.out.keep hM.2.2 (.inl (Nat.le_refl _))) i j h1 h2 h3
      have HFM : Hid (20 < n → MIn t Z 0 20 n) := fun q => by
        have hM := HM.out
        have q1 := HBA.out
        have ha : a = 20 := by
          rcases hM.1 with e | e
          · omega
          · exact e
        subst ha
        refine ⟨HZ2.out.keep hM.2.2 (.inl (Nat.le_refl _)), HZ3.out, fun i j h1 h2 h3 h4 => ?_⟩
        obtain ⟨s, s1, s2, s3, s4⟩ := HZ2.out
        obtain ⟨u, u1, u2, u3, u4⟩ := hM.2.1
        have k1 := s1 j h3 h4
        rw [s4, s4, s2 i (.inl h2), HYX.out _ k1.1 k1.2, u4]
        have k2 := u1 i h1 h2
        rw [HX.out _ (by omega)]
        omega
      have HZ1' : Hid (Srt w0 w1 g n Z r) := HZ1.out
      go_loopw [6] (fun vs wr => ∃ (s : Nat) (V : Nat → Nat), vs = .int .i64 s ∧ 20 ≤ s ∧ s ≤ 40 ∧ Srt w0 wr g n V r ∧ Hid (s = 20 ∧ V = Z ∨ n ≤ s ∧ s = 40 ∧ Mv 0 n X V ∧ Asc t V 0 n)) (fun vs _ => 40 - (intOf vs).toNat)
      case atStart => exact ⟨20, Z, rfl, by omega, by omega, HZ1.out, .inl ⟨rfl, rfl⟩⟩
      case round =>
        obtain ⟨s, V, rfl, hs1, hs2, hsv, HV⟩ := hrel
        have HSV := Lib.hid hsv
        clear hsv
        by_cases hsn : s < n
        · have HVZ : Hid (V = Z) := by
            rcases HV.out with q | q
            · exact q.2
            · omega
          have hs20 : s = 20 := by
            rcases HV.out with q | q
            · exact q.1
            · omega
          subst hs20
          have hsz : (20 : Int) < n := by omega
          have hnn20 : 20 < n := by omega
          have hq : ∀ W, Srt w0 W g n V r → Calls Tryd.prog 33 #[.slice (some ⟨g, 0, none⟩) n c, .int .i64 0, .int .i64 20, .int .i64 n, .func (.func 23) #[] #[p]] W (Mrg w0 g n t V r 0 n) := fun W hW =>
            symMerge_any w0 g n c r p t HC.out HN.out n W V 0 20 n (Nat.le_of_eq rfl) (by omega) hnn20 (Nat.le_refl _) hW (by rw [HVZ.out]; exact HXZ.out.bd (Nat.le_refl _) HB.out) (by rw [HVZ.out]; exact HFM.out hnn20)
          have HQ := Lib.hid hq
          clear hq
          go_wp2
          generalize wr = wo at HSV ⊢
          go_loopw [7, 8] (fun va vb wr => va = .int .i64 0 ∧ vb = .int .i64 40 ∧ wo = wr) (fun _ _ _ => 0)
          case atStart => exact ⟨rfl, rfl, rfl⟩
          case round =>
            obtain ⟨rfl, rfl, rfl⟩ := hrel
            have h40 : decide ((40 : Int) ≤ n) = false := by simp; omega
            have h40' : ¬ (40 : Int) ≤ n := by omega
            go_wp2_with (go_at_call 33; refine (HQ.out _ HSV.out).mono ?_; rintro e w2 ⟨rfl, U, hu1, hu2, hu3⟩; have HU1 := Lib.hid hu1; have HU2 := Lib.hid hu2; have HU3 := Lib.hid hu3; clear hu1 hu2 hu3)
            go_roundw
            case rel => exact ⟨40, U, rfl, by omega, by omega, HU1.out, .inr ⟨by omega, rfl, HXZ.out.trans (by have := HU2.out; rwa [HVZ.out] at this), HU3.out⟩⟩
            case measure => simp [intOf]
        · have hsz : ¬ (s : Int) < n := by omega
          have hsz' : decide ((s : Int) < n) = false := by simp; omega
          go_wp2
          go_end0
          refine ⟨rfl, V, HSV.out, ?_⟩
          rcases HV.out with q | q
          · rw [q.2]; exact sorted_ord HX.out HXZ.out (HFS.out (by omega))
          · exact sorted_ord HX.out q.2.2.1 q.2.2.2
theorem sortStable_none (v cv : Value) (w : World) (hv : v = .slice none 0 0) : Calls Tryd.prog 22 #[v, cv] w fun e w' => e = .returned (.tuple #[]) ∧ w = w' := by
  subst hv
  go_enter Tryd.func22, Tryd.ntmps22
  go_wp2_with (go_at_call 28; refine (stable_none _ _ _).mono ?_; rintro e w' ⟨rfl, rfl⟩)
  go_end0
  exact ⟨rfl, rfl⟩
theorem sortStable_any (w0 w : World) (g n c : Nat) (X : Nat → Nat) (r : List Value) (p : Value) (t : Nat → Int) (h : Srt w0 w g n X r) (hC : CmpC 23 p w0 g n t) (hn : n ≤ 32) (hX : ∀ i, i < n → X i = i) :
    Calls Tryd.prog 22 #[.slice (some ⟨g, 0, none⟩) n c, .func (.func 23) #[] #[p]] w fun e w' => e = .returned (.tuple #[]) ∧ ∃ Y, Srt w0 w' g n Y r ∧ tab n Y = ordI t n := by
  have H := Lib.hid (stable_any w0 w g n c X r p t h hC hn hX)
  clear h hC hX
  go_enter Tryd.func22, Tryd.ntmps22
  go_wp2_with (go_at_call 28; refine H.out.mono ?_; rintro e w' ⟨rfl, h'⟩; have H' := Lib.hid h'; clear h')
  go_end0
  exact ⟨rfl, H'.out⟩
end Go.Proofs.YtficoknejnilmaaDoor
