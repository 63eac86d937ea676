/- tokens of a row's text: plain laws -/
import Derived.Test.YtajgghifamebkaaDoorTxtT
namespace Go.Proofs.YtajgghifamebkaaDoor
set_option linter.unusedSimpArgs false
set_option linter.unusedVariables false
open Go
def isLet (b : UInt8) : Bool := decide (97 ≤ b.toNat ∧ b.toNat ≤ 122)
def isDig (b : UInt8) : Bool := decide (48 ≤ b.toNat ∧ b.toNat ≤ 57)
def runL (p : UInt8 → Bool) (l : List UInt8) : Nat := (l.takeWhile p).length
/-- what stands behind a word of a row's text -/
def Behind (l : List UInt8) : Prop := ∀ x t, l = x :: t → x = 32
theorem runL_all {p : UInt8 → Bool} {a b : List UInt8} (ha : ∀ x ∈ a, p x = true) (hb : ∀ x t, b = x :: t → p x = false) : runL p (a ++ b) = a.length := by
  unfold runL
  rw [List.takeWhile_append_of_pos ha]
  cases b with
  | nil => simp
  | cons x t => rw [List.takeWhile_cons_of_neg (by rw [hb x t rfl]; simp)]; simp
theorem dec_dig (u : Nat) : ∀ x ∈ Lib.decDigits u, isDig x = true := fun x hx => decide_eq_true (dec_mem u x hx)
theorem behind_dig {l : List UInt8} (h : Behind l) : ∀ x t, l = x :: t → isDig x = false := fun x t e => by rw [h x t e]; rfl
theorem run_dec (u : Nat) {l : List UInt8} (h : Behind l) : runL isDig (Lib.decDigits u ++ l) = (Lib.decDigits u).length := runL_all (dec_dig u) (behind_dig h)
theorem run_let {m : Int} (h : NumOk m) (l : List UInt8) : runL isLet (Lib.itoa m ++ l) = 0 := by
  have h1 := (itoa_len h).1
  cases hi : Lib.itoa m with
  | nil => rw [hi] at h1; simp at h1
  | cons b t =>
    have h2 := itoa_mem (n := m) b (by rw [hi]; simp)
    unfold runL
    rw [List.cons_append, List.takeWhile_cons_of_neg]; · rfl
    unfold isLet
    rw [decide_eq_true_eq]
    omega
/-- a number's text: its digits, a sign ahead of them or none -/
theorem itoa_sign {m : Int} (h : NumOk m) : ∃ u : Nat, (Lib.itoa m = 45 :: Lib.decDigits u) ∨ (Lib.itoa m = Lib.decDigits u ∧ ∀ x t, Lib.decDigits u = x :: t → x ≠ 45) := by
  by_cases hm : m < 0
  · exact ⟨_, .inl (itoa_neg hm)⟩
  · refine ⟨_, .inr ⟨itoa_pos (by omega), fun x t e hx => ?_⟩⟩
    have := dec_mem m.toNat x (by rw [e]; simp)
    rw [hx] at this
    revert this; decide
theorem rowT_cons (m : Int) (t : List Int) : rowT (m :: t) = Lib.itoa m ++ Lib.joinTail spL (t.map Lib.itoa) := by
  unfold rowT; rw [List.map_cons, Lib.join_cons]
theorem tail_cons (m : Int) (t : List Int) : Lib.joinTail spL ((m :: t).map Lib.itoa) = 32 :: rowT (m :: t) := by
  rw [rowT_cons, List.map_cons]
  simp [Lib.joinTail, spL]
theorem tail_behind (t : List Int) : Behind (Lib.joinTail spL (t.map Lib.itoa)) := fun x l e => by
  cases t with
  | nil => simp [Lib.joinTail] at e
  | cons m t => rw [tail_cons] at e; exact (List.cons.inj e).1.symm
/-- a row's text while its words are taken: k words are behind -/
def Left (r : List Int) (k : Nat) (l : List UInt8) : Prop := (k < r.length ∧ l = rowT (r.drop k)) ∨ l = Lib.joinTail spL ((r.drop k).map Lib.itoa)
theorem Left.start {r : List Int} (h : RowOk r) : Left r 0 (rowT r) := .inl ⟨by have := h.1; omega, rfl⟩
theorem drop_at {r : List Int} {k : Nat} (h : k < r.length) : r.drop k = r[k] :: r.drop (k + 1) := List.drop_eq_getElem_cons h
theorem Left.nil {r : List Int} {k : Nat} {l : List UInt8} (hr : RowOk r) (h : Left r k l) (hl : l = []) (hk : k ≤ r.length) : k = r.length := by
  by_cases hlt : k < r.length
  · rcases h with ⟨-, h⟩ | h
    · rw [drop_at hlt, rowT_cons, hl] at h
      have h1 := (itoa_len (hr.2.2 r[k] (List.getElem_mem hlt))).1
      have := congrArg List.length h
      rw [List.length_append] at this
      simp at this
      omega
    · rw [drop_at hlt, tail_cons, hl] at h
      cases h
  · omega
/-- a space ahead: it is skipped -/
theorem Left.space {r : List Int} {k : Nat} {t : List UInt8} (hr : RowOk r) (h : Left r k (32 :: t)) : k < r.length ∧ Left r k t := by
  by_cases hlt : k < r.length
  · refine ⟨hlt, ?_⟩
    rcases h with ⟨-, h⟩ | h
    · exfalso
      rw [drop_at hlt, rowT_cons] at h
      have h1 := itoa_PW (hr.2.2 r[k] (List.getElem_mem hlt))
      cases hi : Lib.itoa r[k] with
      | nil => exact h1.1 hi
      | cons b l =>
        rw [hi, List.cons_append] at h
        have := (List.cons.inj h).1
        exact h1.2.1 (by rw [hi, ← this]; simp)
    · rw [drop_at hlt, tail_cons] at h
      refine .inl ⟨hlt, ?_⟩
      rw [drop_at hlt]
      exact (List.cons.inj h).2
  · exfalso
    rcases h with ⟨h, -⟩ | h
    · exact hlt h
    · rw [List.drop_of_length_le (by omega)] at h
      simp [Lib.joinTail] at h
/-- no space ahead: a number's text -/
theorem Left.word {r : List Int} {k : Nat} {b : UInt8} {t : List UInt8} (hr : RowOk r) (h : Left r k (b :: t)) (hb : b ≠ 32) : ∃ m, k < r.length ∧ r[k]? = some m ∧ NumOk m ∧ ∃ l, b :: t = Lib.itoa m ++ l ∧ Behind l ∧ Left r (k + 1) l := by
  rcases h with ⟨hlt, h⟩ | h
  · rw [drop_at hlt, rowT_cons] at h
    exact ⟨r[k], hlt, List.getElem?_eq_getElem hlt, hr.2.2 _ (List.getElem_mem hlt), _, h, tail_behind _, .inr rfl⟩
  · exact absurd (tail_behind _ b t h.symm) hb
end Go.Proofs.YtajgghifamebkaaDoor
