/- plain laws of stacks: what was put on is taken, what was taken is put back -/
import Derived.Test.YtmdjkaghjljbfaaDoorPushSpec
namespace Go.Proofs.YtmdjkaghjljbfaaDoor
open Go.RowKit
theorem cellOk_iff {cs : List Int} {m : Int} {k : Nat} : cellOk cs m k = true ↔ (0 ≤ cs[k]?.getD 0 ∧ cs[k]?.getD 0 ≤ 100000) ∧ (m ≤ k → cs[k]?.getD 0 = 0) := by
  unfold cellOk
  generalize cs[k]?.getD 0 = y
  rw [Bool.and_eq_true, inB_iff]
  refine and_congr_right fun _ => ?_
  by_cases h1 : m ≤ (k : Int) <;> by_cases h2 : y = 0 <;> simp [h1, h2]
theorem stackB_at {cs : List Int} {m : Int} : stackB cs m = true ↔ cs.length = 8 ∧ 0 ≤ m ∧ m ≤ 8 ∧ ∀ k : Nat, k < 8 → (0 ≤ cs[k]?.getD 0 ∧ cs[k]?.getD 0 ≤ 100000) ∧ (m ≤ k → cs[k]?.getD 0 = 0) := by
  rw [stackB_iff, inB_iff]
  constructor
  · rintro ⟨h1, ⟨h2, h3⟩, h4⟩
    exact ⟨h1, h2, h3, fun k hk => cellOk_iff.1 (h4 k (by omega))⟩
  · rintro ⟨h1, h2, h3, h4⟩
    exact ⟨h1, ⟨h2, h3⟩, fun k hk => cellOk_iff.2 (h4 k (by omega))⟩
theorem set_getD (cs : List Int) (i k : Nat) (a : Int) (hi : i < cs.length) : (cs.set i a)[k]?.getD 0 = if i = k then a else cs[k]?.getD 0 := by
  rw [List.getElem?_set]
  by_cases h : i = k
  · subst h; rw [if_pos rfl, if_pos rfl, if_pos hi]; rfl
  · rw [if_neg h, if_neg h]
theorem set_back (cs : List Int) (i : Nat) (a : Int) (hi : i < cs.length) : (cs.set i a).set i (cs[i]?.getD 0) = cs := by
  rw [List.set_set, List.getElem?_eq_getElem hi]
  exact List.set_getElem_self hi
/-- the stack behind a value put on -/
theorem stackB_set {cs : List Int} {M : Nat} {a : Int} (h : stackB cs (M : Int) = true) (hM : M < 8) (h0 : 0 ≤ a) (h1 : a ≤ 100000) : stackB (cs.set M a) ((M : Int) + 1) = true := by
  obtain ⟨hl, _, _, hc⟩ := stackB_at.1 h
  refine stackB_at.2 ⟨by rw [List.length_set]; exact hl, by omega, by omega, fun k hk => ?_⟩
  rw [set_getD _ _ _ _ (by omega)]
  split
  · exact ⟨⟨h0, h1⟩, fun e => by omega⟩
  · exact ⟨(hc k hk).1, fun e => (hc k hk).2 (by omega)⟩
/-- the stack behind a value taken -/
theorem stackB_unset {cs : List Int} {Q : Nat} (h : stackB cs ((Q : Int) + 1) = true) : stackB (cs.set Q 0) (Q : Int) = true := by
  obtain ⟨hl, _, h8, hc⟩ := stackB_at.1 h
  refine stackB_at.2 ⟨by rw [List.length_set]; exact hl, by omega, by omega, fun k hk => ?_⟩
  rw [set_getD _ _ _ _ (by omega)]
  split
  · exact ⟨⟨by omega, by omega⟩, fun _ => rfl⟩
  · exact ⟨(hc k hk).1, fun e => (hc k hk).2 (by omega)⟩
theorem pushA_iff {cs : List Int} {m a : Int} : pushA cs m a = true ↔ stackB cs m = true ∧ 0 ≤ a ∧ a ≤ 100000 := by
  unfold pushA; rw [Bool.and_eq_true, inB_iff]
/-- a value that is really put on -/
theorem push_done {cs : List Int} {m a : Int} (hA : pushA cs m a = true) (h8 : m ≠ 8) : ∃ M : Nat, m = M ∧ M < 8 ∧ pushC cs m a true = cs.set M a ∧ pushM cs m a true = (M : Int) + 1 ∧ pushOk cs m a true = true ∧ stackB (cs.set M a) ((M : Int) + 1) = true := by
  obtain ⟨hs, a0, a1⟩ := pushA_iff.1 hA
  obtain ⟨_, m0, m8, _⟩ := stackB_at.1 hs
  obtain ⟨M, rfl⟩ := Int.eq_ofNat_of_zero_le m0
  have hb : ((M : Int) == 8) = false := by simp; omega
  have hD : pushDo (M : Int) true = true := by unfold pushDo; rw [hb]; rfl
  refine ⟨M, rfl, by omega, ?_, ?_, ?_, stackB_set hs (by omega) a0 a1⟩
  · unfold pushC; rw [hA, hD]; rfl
  · unfold pushM; rw [hA, hD]; rfl
  · unfold pushOk; rw [hA, hb]; rfl
/-- a value that is really taken -/
theorem pop_done {cs : List Int} {m : Int} (hs : stackB cs m = true) (h0 : m ≠ 0) : ∃ Q : Nat, m = (Q : Int) + 1 ∧ Q < 8 ∧ popC cs m true = cs.set Q 0 ∧ popM cs m true = Q ∧ popV cs m true = cs[Q]?.getD 0 ∧ popOk cs m true = true ∧ stackB (cs.set Q 0) (Q : Int) = true := by
  obtain ⟨_, m0, m8, _⟩ := stackB_at.1 hs
  obtain ⟨Q, rfl⟩ : ∃ Q : Nat, m = (Q : Int) + 1 := ⟨(m - 1).toNat, by omega⟩
  have hb : ((Q : Int) + 1 == 0) = false := by simp; omega
  have hD : popDo ((Q : Int) + 1) true = true := by unfold popDo; rw [hb]; rfl
  have e1 : ((Q : Int) + 1 - 1) = (Q : Int) := by omega
  refine ⟨Q, rfl, by omega, ?_, ?_, ?_, ?_, stackB_unset hs⟩
  · unfold popC; rw [hs, hD, e1]; rfl
  · unfold popM; rw [hs, hD, e1]; rfl
  · unfold popV; rw [hs, hD, e1]; rfl
  · unfold popOk; rw [hs, hb]; rfl
/-- FnPushStack's law: what was put on is taken, and the stack is as before -/
theorem push_pop {cs : List Int} {m a : Int} (hA : pushA cs m a = true) (h8 : m ≠ 8) :
    stackB (pushC cs m a true) (pushM cs m a true) = true ∧ popOk (pushC cs m a true) (pushM cs m a true) true = true ∧ popV (pushC cs m a true) (pushM cs m a true) true = a ∧ popC (pushC cs m a true) (pushM cs m a true) true = cs ∧ popM (pushC cs m a true) (pushM cs m a true) true = m := by
  obtain ⟨M, rfl, hM, hC, hm, _, hs⟩ := push_done hA h8
  rw [hC, hm]
  obtain ⟨hl, _, _, hc⟩ := stackB_at.1 (pushA_iff.1 hA).1
  obtain ⟨Q, hQ, _, pC, pM, pV, pO, _⟩ := pop_done hs (by omega)
  obtain rfl : Q = M := by omega
  refine ⟨hs, pO, ?_, ?_, pM⟩
  · rw [pV, set_getD _ _ _ _ (by omega), if_pos rfl]
  · rw [pC, List.set_set]
    have := set_back cs Q 0 (by omega)
    rw [(hc Q hM).2 (Int.le_refl _), List.set_set] at this
    exact this
/-- FnPopStack's law: what was taken can be put back -/
theorem pop_push {cs : List Int} {m : Int} (hs : stackB cs m = true) (h0 : m ≠ 0) :
    stackB (popC cs m true) (popM cs m true) = true ∧ pushOk (popC cs m true) (popM cs m true) (popV cs m true) true = true ∧ pushC (popC cs m true) (popM cs m true) (popV cs m true) true = cs ∧ pushM (popC cs m true) (popM cs m true) (popV cs m true) true = m ∧ pushA (popC cs m true) (popM cs m true) (popV cs m true) = true := by
  obtain ⟨Q, rfl, hQ, pC, pM, pV, pO, hu⟩ := pop_done hs h0
  rw [pC, pM, pV]
  obtain ⟨hl, _, _, hc⟩ := stackB_at.1 hs
  have hA : pushA (cs.set Q 0) (Q : Int) (cs[Q]?.getD 0) = true := pushA_iff.2 ⟨hu, (hc Q hQ).1⟩
  obtain ⟨M, hM, _, hC, hm, hk, _⟩ := push_done hA (by omega)
  obtain rfl : M = Q := by omega
  exact ⟨hu, hk, by rw [hC]; exact set_back cs M 0 (by omega), hm, hA⟩
end Go.Proofs.YtmdjkaghjljbfaaDoor
