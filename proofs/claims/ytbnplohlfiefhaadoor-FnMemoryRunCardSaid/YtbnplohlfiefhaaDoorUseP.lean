/- the plain law of MemoryUse: what the result's blocks are -/
import Derived.Test.YtbnplohlfiefhaaDoorMemoU
namespace Go.Proofs.YtbnplohlfiefhaaDoor
section
open Go.RowKit
def UsePost (ok : Bool) (n : Nat) (ls : Nat → List (Int × Int × Int)) (had : Int) (ps : List Int) (w : World) (e : Ending) (w' : World) : Prop := ∃ mv pv, e = .returned (.tuple #[mv, .int .i64 had, pv, .bool ok]) ∧ MO w' w.heap.size mv n ls ∧ Gr w' w.heap.size 3 1 pv ps.length (ints ps) ∧ Below w.heap.size w w'
def useOk (n : Nat) (f : Nat → List (Int × Int × Int)) (st : List (Int × Int × Int)) (a v l : Int) : Bool := validB n f st && inB a 0 7 && inB v (-100000) 100000 && inB l 0 3
set_option maxRecDepth 20000 in
set_option maxHeartbeats 2000000 in
theorem impl_Use_no (mv : Value) (n : Nat) (f : Nat → List (Int × Int × Int)) (st : List (Int × Int × Int)) (a : Int) (t : Bool) (v l : Int) (w : World) (h : MemIn w mv n f st) (hs : Small n f st) (hk : useOk n f st a v l = false) :
    Calls Tryd.prog 14 #[mv, .int .i64 a, .bool t, .int .i64 v, .int .i64 l] w (UsePost false 0 (fun _ => []) 0 [] w) := by
  have HM := Lib.hid h
  obtain ⟨bs, sv, rfl, h1, h2⟩ := h
  have HSM := Lib.hid hs
  clear h1 h2 hs
  obtain ⟨w1, hw1⟩ : ∃ w1, w1 = (w.alloc (.cells #[bs, sv] 29)).alloc (.cells #[.slice none 0 0, .slice none 0 0] 29) := ⟨_, rfl⟩
  have HW1 := Lib.hid hw1
  have HB1 : Hid (Below w.heap.size w w1) := by rw [hw1]; exact ((Below.refl _ _).alloc (Nat.le_refl _) _).alloc (by simp) _
  have HR1 : Hid (Row w1 (w.heap.size + 1) 29 [.slice none 0 0, .slice none 0 0]) := by
    have := Row.new (w.alloc (.cells #[bs, sv] 29)) 29 [.slice none 0 0, .slice none 0 0]
    rw [World.size_alloc] at this
    rw [hw1]; exact this
  clear hw1
  have HEND : Hid (∀ w2, Below w1.heap.size w1 w2 → Row w2 (w.heap.size + 1) 29 [.slice none 0 0, .slice none 0 0]) := fun w2 hb => HR1.out.mono hb HR1.out.lt
  have HZ : Hid (∀ w2, Below w.heap.size w w2 → UsePost false 0 (fun _ => []) 0 [] w (.returned (.tuple #[.agg #[.slice none 0 0, .slice none 0 0], .int .i64 0, .slice none 0 0, .bool false])) w2) := fun w2 hb => ⟨_, _, rfl, MO.zero _ _, Gr.nil _ _ _ _, hb⟩
  unfold useOk at hk
  cases hv : validB n f st with
  | false =>
    have HV := Lib.hid hv
    clear hv hk
    go_enter Tryd.func14, Tryd.ntmps14
    go_wp2_with fail
    rw [← HW1.out]
    refine (impl_MemoryValid _ n f st w1 (HM.out.mono HB1.out (Nat.le_refl _)) HSM.out).mono ?_
    rw [HV.out]
    rintro e w2 ⟨rfl, hb⟩
    have HB2 : Hid (Below w.heap.size w w2) := HB1.out.trans (hb.mono HB1.out.size)
    have HR2 := Lib.hid (HEND.out w2 hb)
    clear hb
    have y0 := HR2.out.cell (i := 0) rfl
    have y1 := HR2.out.cell (i := 1) rfl
    have z0 := HR2.out.free 0
    have z1 := HR2.out.free 1
    go_wp2
    have hrow := (HR2.out.set 0 (.slice none 0 0)).set 1 (.slice none 0 0)
    have f0 := hrow.cell (i := 0) rfl
    have f1 := hrow.cell (i := 1) rfl
    have hg1 : w2.grownBy ((w2.setCell ⟨w.heap.size + 1, 0, none⟩ (.slice none 0 0)).setCell ⟨w.heap.size + 1, 1, none⟩ (.slice none 0 0)) (some (w.heap.size + 1)) := grown_set (set_other w2 ⟨w.heap.size + 1, 0, none⟩ _ rfl) _ _
    exact bodyPost_ret (v := .tuple #[.agg #[.slice none 0 0, .slice none 0 0], .int .i64 0, .slice none 0 0, .bool false]) (by simp [results, Tryd.results14, go_sem, f0, f1]) rfl (HZ.out _ (HB2.out.grown hg1 HB2.out.size (fun g hg => by cases hg; omega)))
  | true =>
    have HV := Lib.hid hv
    cases ha : inB a 0 7 with
    | false =>
      have HA := Lib.hid ha
      clear hv hk ha
      go_enter Tryd.func14, Tryd.ntmps14
      go_wp2_with fail
      rw [← HW1.out]
      refine (impl_MemoryValid _ n f st w1 (HM.out.mono HB1.out (Nat.le_refl _)) HSM.out).mono ?_
      rw [HV.out]
      rintro e w2 ⟨rfl, hb⟩
      have HB2 : Hid (Below w.heap.size w w2) := HB1.out.trans (hb.mono HB1.out.size)
      have HR2 := Lib.hid (HEND.out w2 hb)
      clear hb
      have y0 := HR2.out.cell (i := 0) rfl
      have y1 := HR2.out.cell (i := 1) rfl
      have z0 := HR2.out.free 0
      have z1 := HR2.out.free 1
      go_wp2_with (first | (go_at_call 32; refine (isAddress_any _ _).mono ?_; rw [HA.out]; rintro e w' ⟨rfl, rfl⟩))
      have hrow := (HR2.out.set 0 (.slice none 0 0)).set 1 (.slice none 0 0)
      have f0 := hrow.cell (i := 0) rfl
      have f1 := hrow.cell (i := 1) rfl
      have hg1 : w2.grownBy ((w2.setCell ⟨w.heap.size + 1, 0, none⟩ (.slice none 0 0)).setCell ⟨w.heap.size + 1, 1, none⟩ (.slice none 0 0)) (some (w.heap.size + 1)) := grown_set (set_other w2 ⟨w.heap.size + 1, 0, none⟩ _ rfl) _ _
      exact bodyPost_ret (v := .tuple #[.agg #[.slice none 0 0, .slice none 0 0], .int .i64 0, .slice none 0 0, .bool false]) (by simp [results, Tryd.results14, go_sem, f0, f1]) rfl (HZ.out _ (HB2.out.grown hg1 HB2.out.size (fun g hg => by cases hg; omega)))
    | true =>
      have HA := Lib.hid ha
      cases hvv : inB v (-100000) 100000 with
      | false =>
        have HVV := Lib.hid hvv
        clear hv hk ha hvv
        go_enter Tryd.func14, Tryd.ntmps14
        go_wp2_with fail
        rw [← HW1.out]
        refine (impl_MemoryValid _ n f st w1 (HM.out.mono HB1.out (Nat.le_refl _)) HSM.out).mono ?_
        rw [HV.out]
        rintro e w2 ⟨rfl, hb⟩
        have HB2 : Hid (Below w.heap.size w w2) := HB1.out.trans (hb.mono HB1.out.size)
        have HR2 := Lib.hid (HEND.out w2 hb)
        clear hb
        have y0 := HR2.out.cell (i := 0) rfl
        have y1 := HR2.out.cell (i := 1) rfl
        have z0 := HR2.out.free 0
        have z1 := HR2.out.free 1
        go_wp2_with (first | (go_at_call 32; refine (isAddress_any _ _).mono ?_; rw [HA.out]; rintro e w' ⟨rfl, rfl⟩) | (go_at_call 33; refine (isValue_any _ _).mono ?_; rw [HVV.out]; rintro e w' ⟨rfl, rfl⟩))
        have hrow := (HR2.out.set 0 (.slice none 0 0)).set 1 (.slice none 0 0)
        have f0 := hrow.cell (i := 0) rfl
        have f1 := hrow.cell (i := 1) rfl
        have hg1 : w2.grownBy ((w2.setCell ⟨w.heap.size + 1, 0, none⟩ (.slice none 0 0)).setCell ⟨w.heap.size + 1, 1, none⟩ (.slice none 0 0)) (some (w.heap.size + 1)) := grown_set (set_other w2 ⟨w.heap.size + 1, 0, none⟩ _ rfl) _ _
        exact bodyPost_ret (v := .tuple #[.agg #[.slice none 0 0, .slice none 0 0], .int .i64 0, .slice none 0 0, .bool false]) (by simp [results, Tryd.results14, go_sem, f0, f1]) rfl (HZ.out _ (HB2.out.grown hg1 HB2.out.size (fun g hg => by cases hg; omega)))
      | true =>
        have HVV := Lib.hid hvv
        cases hl : inB l 0 3 with
        | false =>
          have HL := Lib.hid hl
          clear hv hk ha hvv hl
          go_enter Tryd.func14, Tryd.ntmps14
          go_wp2_with fail
          rw [← HW1.out]
          refine (impl_MemoryValid _ n f st w1 (HM.out.mono HB1.out (Nat.le_refl _)) HSM.out).mono ?_
          rw [HV.out]
          rintro e w2 ⟨rfl, hb⟩
          have HB2 : Hid (Below w.heap.size w w2) := HB1.out.trans (hb.mono HB1.out.size)
          have HR2 := Lib.hid (HEND.out w2 hb)
          clear hb
          have y0 := HR2.out.cell (i := 0) rfl
          have y1 := HR2.out.cell (i := 1) rfl
          have z0 := HR2.out.free 0
          have z1 := HR2.out.free 1
          go_wp2_with (first | (go_at_call 32; refine (isAddress_any _ _).mono ?_; rw [HA.out]; rintro e w' ⟨rfl, rfl⟩) | (go_at_call 33; refine (isValue_any _ _).mono ?_; rw [HVV.out]; rintro e w' ⟨rfl, rfl⟩) | (go_at_call 34; refine (isLeaf_any _ _).mono ?_; rw [HL.out]; rintro e w' ⟨rfl, rfl⟩))
          have hrow := (HR2.out.set 0 (.slice none 0 0)).set 1 (.slice none 0 0)
          have f0 := hrow.cell (i := 0) rfl
          have f1 := hrow.cell (i := 1) rfl
          have hg1 : w2.grownBy ((w2.setCell ⟨w.heap.size + 1, 0, none⟩ (.slice none 0 0)).setCell ⟨w.heap.size + 1, 1, none⟩ (.slice none 0 0)) (some (w.heap.size + 1)) := grown_set (set_other w2 ⟨w.heap.size + 1, 0, none⟩ _ rfl) _ _
          exact bodyPost_ret (v := .tuple #[.agg #[.slice none 0 0, .slice none 0 0], .int .i64 0, .slice none 0 0, .bool false]) (by simp [results, Tryd.results14, go_sem, f0, f1]) rfl (HZ.out _ (HB2.out.grown hg1 HB2.out.size (fun g hg => by cases hg; omega)))
        | true => rw [hv, ha, hvv, hl] at hk; cases hk
end
open Go.RowKit
/-- all blocks of the nine lists but the second one -/
def allL (ls : Nat → List (Int × Int × Int)) : List (Int × Int × Int) := allM 7 (fun i => ls (i + 2)) (ls 0)
theorem allL_eq (ls : Nat → List (Int × Int × Int)) : allL ls = ls 0 ++ (ls 2 ++ (ls 3 ++ (ls 4 ++ (ls 5 ++ (ls 6 ++ (ls 7 ++ ls 8)))))) := by
  unfold allL allM tab
  simp [List.range_succ]
theorem allL_lsOf (f : Nat → List (Int × Int × Int)) (st : List (Int × Int × Int)) : allL (lsOf f st) = allM 7 f st := rfl
theorem p_cases {p : Nat} (hp : p < 7) : p = 0 ∨ p = 1 ∨ p = 2 ∨ p = 3 ∨ p = 4 ∨ p = 5 ∨ p = 6 := by omega
theorem allL_gath (ls : Nat → List (Int × Int × Int)) {p : Nat} (hp : p < 7) : (allL (gath ls p)).Perm (allL ls) := by
  rw [List.perm_iff_count]
  intro b
  rw [allL_eq, allL_eq]
  rcases p_cases hp with rfl | rfl | rfl | rfl | rfl | rfl | rfl
  all_goals
    simp only [gath, upd, List.count_append]
    simp
    omega
theorem fillOne_perm (p : Nat) (r : List (Int × Int × Int) × List (Int × Int × Int)) (b : Int × Int × Int) : ((fillOne p r b).1 ++ (fillOne p r b).2).Perm (r.1 ++ r.2 ++ [b]) := by
  rw [List.perm_iff_count]
  intro x
  unfold fillOne
  split
  · simp only [List.count_append]; omega
  · simp only [List.count_append]; omega
theorem fillR_perm (p : Nat) (ls : Nat → List (Int × Int × Int)) : ∀ i, i ≤ (ls 0).length → ((fillR p ls i).1 ++ (fillR p ls i).2).Perm (ls (p + 2) ++ (ls 0).take i)
  | 0, _ => by rw [fillR_zero]; simp
  | i + 1, h => by
    rw [fillR_succ (by omega), take_bat (by omega), ← List.append_assoc]
    exact (fillOne_perm _ _ _).trans ((fillR_perm p ls i (by omega)).append_right _)
theorem allL_step (ls : Nat → List (Int × Int × Int)) {p : Nat} (hp : p < 7) : (allL (step3 ls p)).Perm (allL ls) := by
  have h := fillR_perm p ls (ls 0).length (Nat.le_refl _)
  rw [List.take_length] at h
  rw [List.perm_iff_count] at h ⊢
  intro b
  have hb := h b
  rw [List.count_append, List.count_append] at hb
  rw [allL_eq, allL_eq]
  rcases p_cases hp with rfl | rfl | rfl | rfl | rfl | rfl | rfl
  all_goals
    simp only [step3, upd, List.count_append]
    simp at hb ⊢
    omega
theorem allL_gathK (ls : Nat → List (Int × Int × Int)) {o : Int} (ho : inB o 0 3 = true) : ∀ k, k ≤ 3 → (allL (gathK ls o k)).Perm (allL ls)
  | 0, _ => List.Perm.refl _
  | k + 1, hk => (allL_gath _ (pN_path ho (k := k) (by omega)).2).trans (allL_gathK ls ho k (by omega))
theorem allL_stepK (ls : Nat → List (Int × Int × Int)) {o : Int} (ho : inB o 0 3 = true) : ∀ k, k ≤ 3 → (allL (stepK ls o k)).Perm (allL ls)
  | 0, _ => List.Perm.refl _
  | k + 1, hk => (allL_step _ (pN_path ho (k := 2 - k) (by omega)).2).trans (allL_stepK ls ho k (by omega))
/-- buckets hold at most two blocks, on their leaves' ways -/
def BktOk (ls : Nat → List (Int × Int × Int)) : Prop := ∀ i, i < 7 → (ls (i + 2)).length ≤ 2 ∧ ∀ b ∈ ls (i + 2), onB i b.2.2 = true
theorem BktOk.gath {ls : Nat → List (Int × Int × Int)} (h : BktOk ls) {p : Nat} : BktOk (gath ls p) := fun i hi => by
  unfold Go.Proofs.YtbnplohlfiefhaaDoor.gath
  by_cases e : i + 2 = p + 2
  · rw [e, upd_same]; exact ⟨by simp, fun b hb => by cases hb⟩
  · rw [upd_other _ _ e, upd_other _ _ (by omega)]; exact h i hi
theorem BktOk.gathK {ls : Nat → List (Int × Int × Int)} (h : BktOk ls) (o : Int) : ∀ k, BktOk (gathK ls o k)
  | 0 => h
  | k + 1 => (BktOk.gathK h o k).gath
theorem BktOk.setS {ls : Nat → List (Int × Int × Int)} (h : BktOk ls) (a : Int) (t : Bool) (v l : Int) : BktOk (setS ls a t v l) := fun i hi => by
  unfold Go.Proofs.YtbnplohlfiefhaaDoor.setS
  rw [upd_other _ _ (by omega)]; exact h i hi
theorem fillR_fit {p : Nat} {ls : Nat → List (Int × Int × Int)} (h : (ls (p + 2)).length ≤ 2 ∧ ∀ b ∈ ls (p + 2), onB p b.2.2 = true) : ∀ i, i ≤ (ls 0).length → (fillR p ls i).1.length ≤ 2 ∧ ∀ b ∈ (fillR p ls i).1, onB p b.2.2 = true
  | 0, _ => by rw [fillR_zero]; exact h
  | i + 1, hi => by
    have ih := fillR_fit h i (by omega)
    rw [fillR_succ (by omega)]
    unfold fillOne
    split
    · next hc =>
      rw [Bool.and_eq_true, decide_eq_true_eq] at hc
      refine ⟨by rw [List.length_append]; simp; omega, fun b hb => ?_⟩
      rcases List.mem_append.1 hb with hb | hb
      · exact ih.2 b hb
      · simp at hb; rw [hb]; exact hc.2
    · exact ih
theorem BktOk.step {ls : Nat → List (Int × Int × Int)} (h : BktOk ls) {p : Nat} (hp : p < 7) : BktOk (step3 ls p) := fun i hi => by
  unfold step3
  rw [upd_other _ _ (by omega), upd_other _ _ (by omega)]
  by_cases e : i + 2 = p + 2
  · have e' : i = p := by omega
    subst e'
    rw [upd_same]; exact fillR_fit (h i hi) _ (Nat.le_refl _)
  · rw [upd_other _ _ e]; exact h i hi
theorem BktOk.stepK {ls : Nat → List (Int × Int × Int)} (h : BktOk ls) {o : Int} (ho : inB o 0 3 = true) : ∀ k, k ≤ 3 → BktOk (stepK ls o k)
  | 0, _ => h
  | k + 1, hk => (BktOk.stepK h ho k (by omega)).step (pN_path ho (k := 2 - k) (by omega)).2
/-- a bucket on the way is empty once it was gathered -/
theorem gathK_empty (ls : Nat → List (Int × Int × Int)) (o : Int) : ∀ k j, j < k → gathK ls o k (pN o j + 2) = []
  | 0, j, h => by omega
  | k + 1, j, h => by
    show gath (gathK ls o k) (pN o k) (pN o j + 2) = []
    unfold gath
    by_cases e : pN o j + 2 = pN o k + 2
    · rw [e, upd_same]
    · rw [upd_other _ _ e, upd_other _ _ (by omega)]
      exact gathK_empty ls o k j (by by_cases e2 : j = k; subst e2; exact (e rfl).elim; omega)
/-- the buckets off the way are as they were -/
theorem gathK_sub (ls : Nat → List (Int × Int × Int)) (o : Int) : ∀ k i, i < 7 → ∀ b ∈ gathK ls o k (i + 2), b ∈ ls (i + 2)
  | 0, _, _, _, hb => hb
  | k + 1, i, hi, b, hb => by
    change b ∈ gath (gathK ls o k) (pN o k) (i + 2) at hb
    unfold gath at hb
    by_cases e : i + 2 = pN o k + 2
    · rw [e, upd_same] at hb; cases hb
    · rw [upd_other _ _ e, upd_other _ _ (by omega)] at hb
      exact gathK_sub ls o k i hi b hb
theorem onB_pN {o : Int} (ho : inB o 0 3 = true) {i : Nat} (h : onB i o = true) : ∃ j, j < 3 ∧ pN o j = i := by
  rw [onB_path ho] at h
  have hm : (i : Int) ∈ pathL o := by simpa using h
  unfold pathL at hm
  simp only [List.mem_cons, List.not_mem_nil, or_false] at hm
  rcases leaf_cases ho with rfl | rfl | rfl | rfl
  all_goals
    rcases hm with hm | hm | hm
    · exact ⟨0, by omega, by simp [pN, pathL]; omega⟩
    · exact ⟨1, by omega, by simp [pN, pathL]; omega⟩
    · exact ⟨2, by omega, by simp [pN, pathL]; omega⟩
/-- what MemoryUse makes of the blocks -/
theorem use_perm {f : Nat → List (Int × Int × Int)} {st : List (Int × Int × Int)} (h : ValidM 7 f st) {a : Int} (ha : inB a 0 7 = true) (t : Bool) (v l : Int) :
    (allL (useLs (lsOf f st) (blkAt (allM 7 f st) a).2.2 a t v l)).Perm ((allM 7 f st).map (upB a t v l)) := by
  obtain ⟨b, hb, hba⟩ := valid_at h ha
  have hbl : blkAt (allM 7 f st) a = b := blkAt_of h.nodup hb hba
  have ho : inB b.2.2 0 3 = true := by
    have := h.ok b hb
    unfold blkOk at this
    rw [Bool.and_eq_true] at this; exact this.2
  rw [hbl]
  unfold useLs
  refine (allL_stepK _ ho 3 (Nat.le_refl _)).trans ?_
  have hg := allL_gathK (lsOf f st) ho 3 (Nat.le_refl _)
  rw [allL_lsOf] at hg
  refine List.Perm.trans ?_ (hg.map _)
  have hkeep : ∀ i, i < 7 → (gathK (lsOf f st) b.2.2 3 (i + 2)).map (upB a t v l) = gathK (lsOf f st) b.2.2 3 (i + 2) := fun i hi => by
    rw [List.map_congr_left (g := id)]
    · simp
    · intro c hc
      unfold upB
      rw [if_neg]; rfl
      intro hca
      have hca : c.1 = a := by simpa using hca
      have hc2 := gathK_sub (lsOf f st) b.2.2 3 i hi c hc
      have hcf : c ∈ f i := by
        unfold lsOf at hc2
        rw [if_neg (by omega), if_neg (by omega)] at hc2; exact hc2
      have hcb : c = b := nodup_inj h.nodup (allM_mem.2 (.inr ⟨i, hi, hcf⟩)) hb (by rw [hca, hba])
      subst hcb
      obtain ⟨j, hj, hji⟩ := onB_pN ho ((h.fits i hi).2 c hcf)
      rw [← hji, gathK_empty _ _ 3 j hj] at hc
      cases hc
  rw [allL_eq, allL_eq]
  unfold setS
  simp only [List.map_append]
  rw [upd_same, upd_other _ _ (by omega), upd_other _ _ (by omega), upd_other _ _ (by omega), upd_other _ _ (by omega), upd_other _ _ (by omega), upd_other _ _ (by omega), upd_other _ _ (by omega), hkeep 0 (by omega), hkeep 1 (by omega), hkeep 2 (by omega), hkeep 3 (by omega), hkeep 4 (by omega), hkeep 5 (by omega), hkeep 6 (by omega)]
theorem upB_adr (a : Int) (t : Bool) (v l : Int) (b : Int × Int × Int) : (upB a t v l b).1 = b.1 := by unfold upB; split <;> rfl
/-- the memory behind a use is valid -/
theorem use_valid {f : Nat → List (Int × Int × Int)} {st : List (Int × Int × Int)} {a v l : Int} (t : Bool) (hk : useOk 7 f st a v l = true) :
    ValidM 7 (fun i => useLs (lsOf f st) (blkAt (allM 7 f st) a).2.2 a t v l (i + 2)) (useLs (lsOf f st) (blkAt (allM 7 f st) a).2.2 a t v l 0) := by
  unfold useOk at hk
  rw [Bool.and_eq_true, Bool.and_eq_true, Bool.and_eq_true] at hk
  obtain ⟨⟨⟨hv, ha⟩, hvv⟩, hl⟩ := hk
  have h := validB_iff.1 hv
  have hp := use_perm h ha t v l
  obtain ⟨b, hb, hba⟩ := valid_at h ha
  have hbl : blkAt (allM 7 f st) a = b := blkAt_of h.nodup hb hba
  have ho : inB b.2.2 0 3 = true := by
    have := h.ok b hb
    unfold blkOk at this
    rw [Bool.and_eq_true] at this; exact this.2
  have hadr : adrs ((allM 7 f st).map (upB a t v l)) = adrs (allM 7 f st) := by
    unfold adrs
    rw [List.map_map]
    exact List.map_congr_left fun b _ => upB_adr a t v l b
  refine ⟨rfl, fun c hc => ?_, ?_, ?_, ?_⟩
  · obtain ⟨b', hb', rfl⟩ := List.mem_map.1 (hp.mem_iff.1 hc)
    have h0 := h.ok b' hb'
    unfold blkOk at h0 ⊢
    rw [Bool.and_eq_true, Bool.and_eq_true] at h0
    unfold upB
    split
    · rw [Bool.and_eq_true, Bool.and_eq_true]
      refine ⟨⟨h0.1.1, ?_⟩, hl⟩
      cases t
      · exact h0.1.2
      · exact hvv
    · rw [Bool.and_eq_true, Bool.and_eq_true]; exact h0
  · have := (hp.map (·.1)).nodup_iff.2 (by have := h.nodup; rw [← hadr] at this; exact this)
    exact this
  · exact hp.length_eq.trans (by rw [List.length_map]; exact h.eight)
  · have hfit : BktOk (lsOf f st) := fun i hi => by
      unfold lsOf
      rw [if_neg (by omega), if_neg (by omega)]
      exact h.fits i hi
    rw [hbl]
    exact fun i hi => ((hfit.gathK b.2.2 3).setS a t v l).stepK ho 3 (Nat.le_refl _) i hi
theorem use_small {f : Nat → List (Int × Int × Int)} {st : List (Int × Int × Int)} {a v l : Int} (t : Bool) (hk : useOk 7 f st a v l = true) :
    Small 7 (fun i => useLs (lsOf f st) (blkAt (allM 7 f st) a).2.2 a t v l (i + 2)) (useLs (lsOf f st) (blkAt (allM 7 f st) a).2.2 a t v l 0) := small_valid (use_valid t hk)
/-- the block of an address behind a use -/
theorem use_at {f : Nat → List (Int × Int × Int)} {st : List (Int × Int × Int)} {a v l : Int} (t : Bool) (hk : useOk 7 f st a v l = true) {k : Int} (hin : inB k 0 7 = true) :
    blkAt (allL (useLs (lsOf f st) (blkAt (allM 7 f st) a).2.2 a t v l)) k = upB a t v l (blkAt (allM 7 f st) k) := by
  have hv := use_valid t hk
  unfold useOk at hk
  rw [Bool.and_eq_true, Bool.and_eq_true, Bool.and_eq_true] at hk
  obtain ⟨⟨⟨hv0, ha⟩, _⟩, _⟩ := hk
  have h := validB_iff.1 hv0
  have hp := use_perm h ha t v l
  obtain ⟨b, hb, hbk⟩ := valid_at h hin
  rw [blkAt_of h.nodup hb hbk]
  exact blkAt_of hv.nodup (hp.mem_iff.2 (List.mem_map.2 ⟨b, hb, rfl⟩)) (by rw [upB_adr]; exact hbk)
end Go.Proofs.YtbnplohlfiefhaaDoor
