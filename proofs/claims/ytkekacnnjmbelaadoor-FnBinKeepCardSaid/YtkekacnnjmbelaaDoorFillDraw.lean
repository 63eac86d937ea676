/- rows compared; what the laws of FillBins ask -/
import Derived.Test.YtkekacnnjmbelaaDoorFillC
import Derived.Test.YtkekacnnjmbelaaDoorBinsDraw
namespace Go.Proofs.YtkekacnnjmbelaaDoor
open Go.RowKit
theorem sameRows_same (v u : Value) (n : Nat) (f : Nat → List Int) (w : World) (h : IntSS w v n f) (g : IntSS w u n f) :
    Calls Tryd.prog 28 #[v, u] w fun e w' => e = .returned (.bool true) ∧ Below w.heap.size w w' := by
  obtain ⟨ad, c, rfl, hmax, hop⟩ := h.open
  obtain ⟨ad2, c2, rfl, _, hop2⟩ := g.open
  unfold maxLen at hmax
  have HOP := Lib.hid hop
  have HOP2 := Lib.hid hop2
  clear hop hop2 h g
  go_enter Tryd.func28, Tryd.ntmps28
  go_wp2
  go_loopw [5] (fun i wr => ∃ k : Nat, k ≤ n ∧ i = .int .i64 k ∧ Hid (Below w.heap.size w wr)) (fun i _ => n - (intOf i).toNat)
  case atStart => exact ⟨0, Nat.zero_le _, rfl, Below.refl _ _⟩
  case round =>
    obtain ⟨k, hk, rfl, hB⟩ := hrel
    by_cases hlt : k < n
    · obtain ⟨b, off, rfl, hcell⟩ := HOP.out k hlt
      obtain ⟨b2, off2, rfl, hcell2⟩ := HOP2.out k hlt
      obtain ⟨a', c', h1, h2⟩ := hcell k hlt
      obtain ⟨a2', c2', h3, h4⟩ := hcell2 k hlt
      have c0 := (hB.out.cell (p := ⟨b, off + k, none⟩) (World.block_lt_of_cell? w _ h1)).trans h1
      have d0 := (hB.out.cell (p := ⟨b2, off2 + k, none⟩) (World.block_lt_of_cell? w _ h3)).trans h3
      have HB2 : Hid (Below w.heap.size w wr.drew) := hB.out.drew
      have H2 := Lib.hid (h2.mono HB2.out (Nat.le_refl _))
      have H4 := Lib.hid (h4.mono HB2.out (Nat.le_refl _))
      obtain ⟨xs, hxs⟩ : ∃ xs, f k = xs := ⟨_, rfl⟩
      rw [hxs] at c0 d0 H2 H4
      clear hcell hcell2 hxs h1 h2 h3 h4
      go_wp2
      go_still_tail 8, (by kernel_rfl)
      change wpList _ _ _ _ _ wr.drew
      generalize wr.drew = w2 at HB2 H2 H4 ⊢
      clear c0 d0 hB
      have hsz := HB2.out.size
      go_wp2_with fail
      refine (sameInts_same _ _ xs _ H2.out H4.out).mono ?_
      rintro e w3 ⟨rfl, hb3⟩
      have HB3 : Hid (Below w.heap.size w w3) := HB2.out.trans (hb3.mono hsz)
      clear hb3 HB2 hsz H2 H4
      go_wp2
      go_roundw
      case rel => exact ⟨k + 1, hlt, by go_num, HB3.out⟩
      case measure => simp [intOf]; omega
    · obtain rfl : k = n := by omega
      go_wp2
      go_ret
      exact ⟨rfl, hB.out⟩
/-- values, bins, how many, the room -/
def DrawnFill (w : World) (e : Ending) (w' : World) : Prop := ∃ u xs u2 bs m r, e = .returned (.tuple #[u, u2, .int .i64 m, .int .i64 r]) ∧ Ints w' u xs ∧ Ints w' u2 bs ∧ xs.length ≤ 11 ∧ bs.length ≤ 11 ∧ 1 ≤ m ∧ m ≤ 4 ∧ 0 ≤ r ∧ r ≤ 17 ∧ Below w.heap.size w w'
theorem binL_from {vs bs : List Int} {b : Nat} : ∀ {k : Nat} {x : Int}, x ∈ binL vs bs b k → ∃ i, i < k ∧ bs[i]?.getD 0 = (b : Int) ∧ vs[i]?.getD 0 = x
  | 0, x, h => by cases h
  | k + 1, x, h => by
    by_cases e : bs[k]?.getD 0 = (b : Int)
    · rw [binL_hit e] at h
      rcases List.mem_append.1 h with h | h
      · obtain ⟨i, h1, h2⟩ := binL_from h; exact ⟨i, by omega, h2⟩
      · exact ⟨k, by omega, e, (List.mem_singleton.1 h).symm⟩
    · rw [binL_miss e] at h
      obtain ⟨i, h1, h2⟩ := binL_from h; exact ⟨i, by omega, h2⟩
theorem binL_mem {vs bs : List Int} {b i : Nat} (hb : bs[i]?.getD 0 = (b : Int)) : ∀ {k : Nat}, i < k → vs[i]?.getD 0 ∈ binL vs bs b k
  | k + 1, h => by
    by_cases e : i = k
    · subst e; rw [binL_hit hb]; simp
    · have ih := binL_mem (vs := vs) hb (show i < k by omega)
      rw [binL]; split
      · exact List.mem_append.2 (.inl ih)
      · exact ih
theorem padTo_get {l : List Int} {r j : Nat} (hj : j < r) : (padTo l r)[j]?.getD 0 = if j < l.length then l[j]?.getD 0 else -1 := by
  unfold padTo
  by_cases h : j < l.length
  · rw [if_pos h, List.getElem?_append_left h]
  · rw [if_neg h, List.getElem?_append_right (by omega), List.getElem?_replicate, if_pos (by omega)]; rfl
theorem mem_getD {l : List Int} {j : Nat} (h : j < l.length) : l[j]?.getD 0 ∈ l := by simp [h]
/-- what holds of good arguments -/
theorem fill_good {xs bs : List Int} {M R : Nat} (h : fillB xs bs M R = true) : xs.length = bs.length ∧ M ≤ 8 ∧ 1 ≤ M ∧ R ≤ 16 ∧ fillN xs bs M R = M ∧ loadsV bs M = tab M (cntAt bs bs.length) ∧
    (∀ b, b < M → (fillF xs bs R b).length = R ∧ (binL xs bs b xs.length).length ≤ R ∧ cntAt bs bs.length b = ((binL xs bs b xs.length).length : Int)) ∧
    (∀ b j, b < M → j < R → j < (binL xs bs b xs.length).length → 0 ≤ (fillF xs bs R b)[j]?.getD 0) ∧ (∀ b j, b < M → j < R → ¬ j < (binL xs bs b xs.length).length → (fillF xs bs R b)[j]?.getD 0 = -1) ∧
    (∀ k, k < xs.length → ∃ b : Nat, bs[k]?.getD 0 = (b : Int) ∧ b < M ∧ xs[k]?.getD 0 ∈ fillF xs bs R b) := by
  obtain ⟨h1, h2, h3, h4, h5⟩ := fillB_iff.1 h
  have hm := inB_iff.1 h2
  have hr := inB_iff.1 h3
  have hlen : ∀ b, b < M → (binL xs bs b xs.length).length ≤ R := fun b hb => by
    have h6 := h5 b (by simpa using hb)
    simp only [roomOk, decide_eq_true_eq] at h6
    omega
  refine ⟨h1, by omega, by omega, by omega, ?_, ?_, ?_, ?_, ?_, ?_⟩
  · unfold fillN; rw [if_pos h, Int.toNat_natCast]
  · unfold loadsV; rw [if_pos (fill_bins h), Int.toNat_natCast]
  · intro b hb
    refine ⟨by unfold fillF; rw [Int.toNat_natCast]; exact padTo_length (hlen b hb), hlen b hb, ?_⟩
    rw [binL_length _ _ _ _ (by omega), h1]; rfl
  · intro b j hb hj hjl
    unfold fillF; rw [Int.toNat_natCast, padTo_get hj, if_pos hjl]
    obtain ⟨i, i1, i2, i3⟩ := binL_from (mem_getD hjl)
    have := inB_iff.1 (valOk_iff.1 (h4 i i1)).1
    omega
  · intro b j hb hj hjl
    unfold fillF; rw [Int.toNat_natCast, padTo_get hj, if_neg hjl]
  · intro k hk
    obtain ⟨k0, k1⟩ := inB_iff.1 (valOk_iff.1 (h4 k hk)).2
    obtain ⟨b, hb⟩ := Int.eq_ofNat_of_zero_le k0
    refine ⟨b, hb, by omega, ?_⟩
    unfold fillF padTo
    exact List.mem_append.2 (.inl (binL_mem hb hk))
end Go.Proofs.YtkekacnnjmbelaaDoor
