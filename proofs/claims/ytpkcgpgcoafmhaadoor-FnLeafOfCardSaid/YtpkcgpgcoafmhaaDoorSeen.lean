/- a set of numbers, as a map to bools that the call makes -/
import Derived.Test.YtpkcgpgcoafmhaaDoorRes
import Derived.Maps.OwnSet
namespace Go.Proofs.YtpkcgpgcoafmhaaDoor
open Go.RowKit
open Go.Maps (Keyed)
theorem Tryd.keyInt : Keyed Tryd.prog 3 := Go.Maps.int_keyed Tryd.underlying3
theorem Tryd.zeroBool (w : World) : (zeroValue 4).run Tryd.prog w = .ok (.bool false) w := by kernel_rfl
theorem wf_fit {x : Int} (h : -9223372036854775808 ≤ x ∧ x ≤ 9223372036854775807) : (Lit.int .i64 x).wf = true := WalkArith.wf_i64 (by omega)
/-- block b holds the set L -/
def Seen (w : World) (b : Nat) (L : List Int) : Prop := ∃ D : DataW Unit, w.ownsMap Tryd.prog 3 (plainElem Tryd.prog 4) b L.length D ∧ (∀ x : Int, D.atKey (.int .i64 x) (.lit (.bool false)) = .lit (.bool (L.contains x))) ∧ Maps.size D = L.length ∧ ∀ x : Int, Maps.has D (.int .i64 x) = L.contains x
theorem Seen.made (w : World) : Seen (w.alloc (.map #[] 0)) w.heap.size [] :=
  ⟨.map [], World.ownsMap_made _ _ _ _, fun x => rfl, rfl, fun x => rfl⟩
theorem Seen.kept {w w' : World} {b : Nat} {L : List Int} {row : Option Nat} (h : Seen w b L) (hg : w.grownBy w' row) (hne : some b ≠ row) : Seen w' b L := by
  obtain ⟨D, h1, h2⟩ := h
  exact ⟨D, h1.kept hg hne, h2⟩
theorem Seen.lt {w : World} {b : Nat} {L : List Int} (h : Seen w b L) : b < w.heap.size := by
  obtain ⟨D, h1, _⟩ := h; exact h1.lt
theorem Seen.look {w : World} {b : Nat} {L : List Int} (h : Seen w b L) {x : Int} (hx : -9223372036854775808 ≤ x ∧ x ≤ 9223372036854775807) : (Instr.lookup 56 (.map (some b)) (.int .i64 x) false).run Tryd.prog w = .ok (.bool (L.contains x)) w := by
  obtain ⟨D, h1, h2, _⟩ := h
  obtain ⟨v, ps, hrun, hv⟩ := h1.lookup Tryd.keyInt Tryd.underlying56 (Tryd.zeroBool w) (plainElem_bool Tryd.underlying4 false) (Go.Maps.keyOf_int_mk Tryd.underlying3 (wf_fit hx))
  rw [h2 x] at hv
  have : v = .bool (L.contains x) := by
    unfold plainElem at hv
    rw [Tryd.underlying4] at hv
    cases v <;> simp at hv
    rw [hv.1]
    simp
  rw [this] at hrun
  exact hrun
theorem Seen.put {w : World} {b : Nat} {L : List Int} (h : Seen w b L) {x : Int} (hx : -9223372036854775808 ≤ x ∧ x ≤ 9223372036854775807) (hn : L.contains x = false) (hl : L.length < maxLen) :
    ∃ w', (Instr.mapUpdate 56 (.map (some b)) (.int .i64 x) (.bool true)).run Tryd.prog w = .ok () w' ∧ Seen w' b (L ++ [x]) ∧ w.grownBy w' (some b) := by
  obtain ⟨D, h1, h2, h3, h4⟩ := h
  have ht := h1.tidy Tryd.keyInt
  obtain ⟨w', hrun, hown, hg⟩ := h1.update Tryd.keyInt Tryd.underlying56 hl (Go.Maps.keyOf_int_mk Tryd.underlying3 (wf_fit hx)) (plainElem_bool Tryd.underlying4 true)
  have hkl : WideAt.IsKeyLit (.int .i64 x) := by trivial
  refine ⟨w', hrun, ⟨_, by rw [List.length_append]; exact hown, fun y => ?_, ?_, fun y => ?_⟩, hg⟩
  · by_cases e : y = x
    · subst e
      rw [Maps.atKey_put_same ht.isMap hkl]
      simp
    · rw [Maps.atKey_put_other (fun q => e (by cases q; rfl)), h2]
      simp [e]
  · rw [Maps.size_put ht, h4, hn, h3]; simp
  · by_cases e : y = x
    · subst e
      rw [Maps.has_put_same ht.isMap hkl]
      simp
    · rw [Maps.has_put_other (fun q => e (by cases q; rfl)), h4]
      simp [e]
theorem Seen.len {w : World} {b : Nat} {L : List Int} (h : Seen w b L) (ty : TypeId) : (Builtin.len_ #[56] ty #[.map (some b)]).run Tryd.prog w = .ok (.int .i64 (L.length : Int)) w := by
  obtain ⟨D, h1, _, h3, _⟩ := h
  rw [h1.len Tryd.underlying56, h3]
end Go.Proofs.YtpkcgpgcoafmhaaDoor
