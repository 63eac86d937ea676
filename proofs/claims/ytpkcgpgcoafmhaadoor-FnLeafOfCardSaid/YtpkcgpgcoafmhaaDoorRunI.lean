/- MemoryRun of the program -/
import Derived.Test.YtpkcgpgcoafmhaaDoorRun
namespace Go.Proofs.YtpkcgpgcoafmhaaDoor
open Go.RowKit
theorem agg2 {a b c d : Value} (h : Value.agg #[a, b] = Value.agg #[c, d]) : a = c ∧ b = d := by
  injection h with h
  have := congrArg Array.toList h
  simp at this
  exact this
theorem MO.lits {w : World} {B : Nat} {bv s0 : Value} {ls : Nat → List (Int × Int × Int)} (h : MO w B (.agg #[bv, s0]) 7 ls) : ∃ a c a' c', bv = .slice a 7 c ∧ s0 = .slice a' (ls 0).length c' := by
  obtain ⟨bv', vs, e, hb, hf⟩ := h
  obtain ⟨rfl, rfl⟩ := agg2 e
  obtain ⟨a, c, h1⟩ := hb.lit
  obtain ⟨a', c', h2⟩ := (hf 0 (by omega)).1.lit
  exact ⟨a, c, a', c', h1, h2⟩
end Go.Proofs.YtpkcgpgcoafmhaaDoor
