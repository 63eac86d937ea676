/- sorting by tags: plain functions and laws -/
import Derived.Test.YtficoknejnilmaaDoorInts
namespace Go.Proofs.YtficoknejnilmaaDoor
/-- where x comes in: from the back, past all with greater tags -/
def posI (t : Nat → Int) (x : Nat) (xs : List Nat) : Nat → Nat
  | 0 => 0
  | j + 1 => if t x < t (xs.getD j 0) then posI t x xs j else j + 1
def insI (t : Nat → Int) (x : Nat) (xs : List Nat) : List Nat := xs.take (posI t x xs xs.length) ++ x :: xs.drop (posI t x xs xs.length)
/-- the places from a on, k of them, one after the other brought in -/
def ordB (t : Nat → Int) (a : Nat) : Nat → List Nat
  | 0 => []
  | k + 1 => insI t (a + k) (ordB t a k)
theorem posI_le (t : Nat → Int) (x : Nat) (xs : List Nat) : ∀ j, posI t x xs j ≤ j
  | 0 => Nat.le_refl _
  | j + 1 => by unfold posI; split; exact Nat.le_trans (posI_le t x xs j) (Nat.le_succ _); exact Nat.le_refl _
theorem insI_length (t : Nat → Int) (x : Nat) (xs : List Nat) : (insI t x xs).length = xs.length + 1 := by
  have := posI_le t x xs xs.length
  unfold insI; simp; omega
theorem ordB_length (t : Nat → Int) (a : Nat) : ∀ k, (ordB t a k).length = k
  | 0 => rfl
  | k + 1 => by unfold ordB; rw [insI_length, ordB_length t a k]
theorem posI_after {t : Nat → Int} {x : Nat} {xs : List Nat} : ∀ {j i : Nat}, posI t x xs j ≤ i → i < j → t x < t (xs.getD i 0)
  | 0, i, _, h => by omega
  | j + 1, i, h1, h2 => by
    unfold posI at h1
    split at h1
    · rename_i hc
      by_cases e : i = j
      · subst e; exact hc
      · exact posI_after h1 (by omega)
    · omega
theorem posI_stop {t : Nat → Int} {x : Nat} {xs : List Nat} : ∀ {j p : Nat}, posI t x xs j = p + 1 → t (xs.getD p 0) ≤ t x
  | 0, p, h => by simp [posI] at h
  | j + 1, p, h => by
    unfold posI at h
    split at h
    · exact posI_stop h
    · have : p = j := by omega
      subst this; omega
/-- before: by tag, and by place where the tags are equal -/
def Lx (t : Nat → Int) (x y : Nat) : Prop := t x < t y ∨ t x = t y ∧ x < y
theorem Lx.trans {t : Nat → Int} {x y z : Nat} (h1 : Lx t x y) (h2 : Lx t y z) : Lx t x z := by unfold Lx at *; omega
theorem Lx.irrefl {t : Nat → Int} {x y : Nat} (h1 : Lx t x y) (h2 : Lx t y x) : False := by unfold Lx at *; omega
theorem Lx.le {t : Nat → Int} {x y : Nat} (h1 : Lx t x y) : t x ≤ t y := by unfold Lx at *; omega
theorem insI_sorted {t : Nat → Int} {x : Nat} {xs : List Nat} (hs : xs.Pairwise (Lx t)) (hx : ∀ y ∈ xs, y < x) : (insI t x xs).Pairwise (Lx t) := by
  have hp := posI_le t x xs xs.length
  unfold insI
  obtain ⟨p, hpp⟩ : ∃ p, posI t x xs xs.length = p := ⟨_, rfl⟩
  rw [hpp] at hp ⊢
  have hd : ∀ y ∈ xs.drop p, t x < t y := fun y hy => by
    obtain ⟨i, hi, rfl⟩ := List.getElem_of_mem hy
    rw [List.length_drop] at hi
    have := posI_after (t := t) (x := x) (xs := xs) (j := xs.length) (i := p + i) (by omega) (by omega)
    simpa [List.getD_eq_getElem?_getD, show p + i < xs.length by omega] using this
  have ht : ∀ y ∈ xs.take p, t y ≤ t x := fun y hy => by
    obtain ⟨i, hi, rfl⟩ := List.getElem_of_mem hy
    rw [List.length_take] at hi
    obtain ⟨q, rfl⟩ : ∃ q, p = q + 1 := ⟨p - 1, by omega⟩
    have h1 := posI_stop hpp
    simp only [List.getD_eq_getElem?_getD, show q < xs.length by omega, List.getElem?_eq_getElem, Option.getD_some] at h1
    rw [List.getElem_take]
    by_cases e : i = q
    · subst e; exact h1
    · have := (List.pairwise_iff_getElem.1 hs) i q (by omega) (by omega) (by omega)
      exact Int.le_trans this.le h1
  rw [List.pairwise_append]
  refine ⟨hs.sublist (List.take_sublist _ _), ?_, ?_⟩
  · rw [List.pairwise_cons]
    exact ⟨fun y hy => .inl (hd y hy), hs.sublist (List.drop_sublist _ _)⟩
  · intro y hy z hz
    rw [List.mem_cons] at hz
    have h1 := ht y hy
    rcases hz with rfl | hz
    · have := hx y (List.mem_of_mem_take hy)
      unfold Lx; omega
    · have := hd z hz
      unfold Lx; omega
theorem insI_mem {t : Nat → Int} {x y : Nat} {xs : List Nat} : y ∈ insI t x xs ↔ y = x ∨ y ∈ xs := by
  unfold insI
  rw [List.mem_append, List.mem_cons]
  constructor
  · rintro (h | h | h)
    · exact .inr (List.mem_of_mem_take h)
    · exact .inl h
    · exact .inr (List.mem_of_mem_drop h)
  · rintro (h | h)
    · exact .inr (.inl h)
    · rw [← List.take_append_drop (posI t x xs xs.length) xs, List.mem_append] at h
      rcases h with h | h
      · exact .inl h
      · exact .inr (.inr h)
theorem ordB_mem {t : Nat → Int} {a y : Nat} : ∀ {k : Nat}, y ∈ ordB t a k ↔ a ≤ y ∧ y < a + k
  | 0 => by simp [ordB] <;> omega
  | k + 1 => by unfold ordB; rw [insI_mem, ordB_mem (k := k)]; omega
theorem ordB_sorted (t : Nat → Int) (a : Nat) : ∀ k, (ordB t a k).Pairwise (Lx t)
  | 0 => List.Pairwise.nil
  | k + 1 => insI_sorted (ordB_sorted t a k) fun y hy => by have := ordB_mem.1 hy; omega
/-- two orders of the same places are the same -/
theorem order_unique {t : Nat → Int} {xs ys : List Nat} (h1 : xs.Pairwise (Lx t)) (h2 : ys.Pairwise (Lx t)) (h : ∀ y, y ∈ xs ↔ y ∈ ys) : xs = ys := by
  induction xs generalizing ys with
  | nil =>
    cases ys with
    | nil => rfl
    | cons b ys => have := (h b).2 (by simp); simp at this
  | cons a xs ih =>
    cases ys with
    | nil => have := (h a).1 (by simp); simp at this
    | cons b ys =>
      rw [List.pairwise_cons] at h1 h2
      have hab : a = b := by
        have ha := (h a).1 (by simp)
        have hb := (h b).2 (by simp)
        rw [List.mem_cons] at ha hb
        rcases ha with e | ha
        · exact e
        · rcases hb with e | hb
          · exact e.symm
          · exact ((h2.1 a ha).irrefl (h1.1 b hb)).elim
      subst hab
      rw [ih h1.2 h2.2 fun y => ?_]
      have := h y
      rw [List.mem_cons, List.mem_cons] at this
      constructor
      · intro hy
        rcases this.1 (.inr hy) with e | e
        · subst e; exact ((h1.1 y hy).irrefl (h1.1 y hy)).elim
        · exact e
      · intro hy
        rcases this.2 (.inr hy) with e | e
        · subst e; exact ((h2.1 y hy).irrefl (h2.1 y hy)).elim
        · exact e
/-- the order of the first n places -/
def ordI (t : Nat → Int) (n : Nat) : List Nat := ordB t 0 n
theorem ordI_mem {t : Nat → Int} {n y : Nat} : y ∈ ordI t n ↔ y < n := by unfold ordI; rw [ordB_mem]; omega
theorem ordI_length (t : Nat → Int) (n : Nat) : (ordI t n).length = n := ordB_length t 0 n
theorem ordI_sorted (t : Nat → Int) (n : Nat) : (ordI t n).Pairwise (Lx t) := ordB_sorted t 0 n
/-- tags that do not descend mix nothing -/
theorem ordI_range {t : Nat → Int} {n : Nat} (h : ∀ i j, i < j → j < n → t i ≤ t j) : ordI t n = List.range n :=
  order_unique (ordI_sorted t n) (List.pairwise_iff_getElem.2 fun i j hi hj hij => by
    simp at hi hj
    have := h i j hij hj
    simp only [List.getElem_range]
    unfold Lx; omega) fun y => by rw [ordI_mem, List.mem_range]
/-- the numbers of a list, as values -/
def nats (xs : List Nat) : List Value := xs.map fun (x : Nat) => Value.int .i64 (x : Int)
@[simp] theorem nats_length (xs : List Nat) : (nats xs).length = xs.length := by simp [nats]
theorem nats_get {xs : List Nat} {i : Nat} (h : i < xs.length) (r : List Value) : (nats xs ++ r)[i]? = some (.int .i64 ((xs.getD i 0 : Nat) : Int)) := by
  rw [List.getElem?_append_left (by simpa using h)]
  simp [nats, h]
theorem nats_set (xs : List Nat) (i y : Nat) (r : List Value) (h : i < xs.length) : (nats xs ++ r).set i (.int .i64 (y : Int)) = nats (xs.set i y) ++ r := by
  rw [List.set_append_left _ _ (by simpa using h)]
  simp [nats, List.map_set]
theorem nats_ints (xs : List Nat) : nats xs = ints (xs.map Int.ofNat) := by simp [nats, ints]
end Go.Proofs.YtficoknejnilmaaDoor
