/- merging in place: plain functions and laws -/
import Derived.Test.YtficoknejnilmaaDoorSortP
namespace Go.Proofs.YtficoknejnilmaaDoor
def swF (X : Nat → Nat) (i j : Nat) : Nat → Nat := fun k => if k = i then X j else if k = j then X i else X k
def swapR (a b n : Nat) (X : Nat → Nat) : Nat → Nat := fun i => if a ≤ i ∧ i < a + n then X (i - a + b) else if b ≤ i ∧ i < b + n then X (i - b + a) else X i
/-- the parts p..m and m..q change places -/
def rot (p m q : Nat) (X : Nat → Nat) : Nat → Nat := fun i => if p ≤ i ∧ i < q then (if i < p + (q - m) then X (i + (m - p)) else X (i - (q - m))) else X i
theorem swapR_zero (a b : Nat) (X : Nat → Nat) : swapR a b 0 X = X := by
  funext i; unfold swapR; rw [if_neg (by omega), if_neg (by omega)]
theorem swapR_succ {a b k : Nat} (X : Nat → Nat) (h : a + k < b) : swF (swapR a b k X) (a + k) (b + k) = swapR a b (k + 1) X := by
  funext i
  unfold swF swapR
  by_cases h1 : i = a + k
  · subst h1
    rw [if_pos rfl, if_neg (by omega), if_neg (by omega), if_pos (by omega)]
    congr 1; omega
  · rw [if_neg h1]
    by_cases h2 : i = b + k
    · subst h2
      rw [if_pos rfl, if_neg (by omega), if_neg (by omega), if_neg (by omega), if_pos (by omega)]
      congr 1; omega
    · rw [if_neg h2]
      by_cases h3 : a ≤ i ∧ i < a + k
      · rw [if_pos h3, if_pos (by omega)]
      · rw [if_neg h3]
        by_cases h4 : b ≤ i ∧ i < b + k
        · rw [if_pos h4, if_neg (by omega), if_pos (by omega)]
        · rw [if_neg h4, if_neg (by omega), if_neg (by omega)]
theorem rot_left {p m q : Nat} (X : Nat → Nat) (h : m = p ∨ m = q) (hpm : p ≤ m) (hmq : m ≤ q) : rot p m q X = X := by
  funext i
  unfold rot
  by_cases h1 : p ≤ i ∧ i < q
  · rw [if_pos h1]
    rcases h with rfl | rfl
    · rw [if_pos (by omega)]; congr 1; omega
    · rw [if_neg (by omega)]; congr 1; omega
  · rw [if_neg h1]
/-- the left part is the greater one: its first j change with the right part -/
theorem rot_gt {m i j : Nat} (X : Nat → Nat) (hi : i ≤ m) (hj : j < i) : rot (m - (i - j)) m (m + j) (swapR (m - i) m j X) = rot (m - i) m (m + j) X := by
  funext k
  unfold rot swapR
  by_cases h1 : m - i ≤ k ∧ k < m + j
  · rw [if_pos h1]
    by_cases h2 : k < m - i + j
    · rw [if_neg (by omega), if_pos (by omega), if_pos (by omega)]; congr 1; omega
    · rw [if_pos (by omega), if_neg (show ¬ k < m - i + (m + j - m) by omega)]
      by_cases h3 : k < m - (i - j) + (m + j - m)
      · rw [if_pos h3, if_neg (by omega), if_pos (by omega)]; congr 1; omega
      · rw [if_neg h3, if_neg (by omega), if_neg (by omega)]
  · rw [if_neg h1, if_neg (by omega), if_neg (by omega), if_neg (by omega)]
theorem rot_lt {m i j : Nat} (X : Nat → Nat) (hi : i ≤ m) (hj : i < j) : rot (m - i) m (m + (j - i)) (swapR (m - i) (m + j - i) i X) = rot (m - i) m (m + j) X := by
  funext k
  unfold rot swapR
  by_cases h1 : m - i ≤ k ∧ k < m + j
  · rw [if_pos h1]
    by_cases h2 : k < m + (j - i)
    · rw [if_pos (by omega)]
      by_cases h3 : k < m - i + (m + (j - i) - m)
      · rw [if_pos h3, if_neg (by omega), if_neg (by omega), if_pos (by omega)]
      · rw [if_neg h3, if_pos (by omega), if_pos (by omega)]; congr 1; omega
    · rw [if_neg (by omega), if_neg (by omega), if_pos (by omega), if_neg (by omega)]; congr 1; omega
  · rw [if_neg h1, if_neg (by omega), if_neg (by omega), if_neg (by omega)]
theorem rot_eq {m i : Nat} (X : Nat → Nat) (hi : i ≤ m) : swapR (m - i) m i X = rot (m - i) m (m + i) X := by
  funext k
  unfold rot swapR
  by_cases h1 : m - i ≤ k ∧ k < m + i
  · rw [if_pos h1]
    by_cases h2 : k < m
    · rw [if_pos (by omega), if_pos (by omega)]; congr 1; omega
    · rw [if_neg (by omega), if_pos (by omega), if_neg (by omega)]; congr 1; omega
  · rw [if_neg h1, if_neg (by omega), if_neg (by omega)]
/-- one at a time, to the right -/
theorem rot_one {a k : Nat} (X : Nat → Nat) (h : a ≤ k) : swF (rot a (a + 1) (k + 1) X) k (k + 1) = rot a (a + 1) (k + 2) X := by
  funext i
  unfold swF rot
  by_cases h1 : i = k
  · subst h1; rw [if_pos rfl, if_neg (by omega), if_pos (by omega), if_pos (by omega)]; congr 1; omega
  · rw [if_neg h1]
    by_cases h2 : i = k + 1
    · subst h2; rw [if_pos rfl, if_pos (by omega), if_neg (by omega), if_pos (by omega), if_neg (by omega)]; congr 1; omega
    · rw [if_neg h2]
      by_cases h3 : a ≤ i ∧ i < k + 1
      · rw [if_pos h3, if_pos (by omega), if_pos (by omega), if_pos (by omega)]
      · rw [if_neg h3, if_neg (by omega)]
/-- one at a time, to the left -/
theorem rot_one' {m k : Nat} (X : Nat → Nat) (h : k < m) : swF (rot (k + 1) m (m + 1) X) (k + 1) k = rot k m (m + 1) X := by
  funext i
  unfold swF rot
  by_cases h1 : i = k + 1
  · subst h1; rw [if_pos rfl, if_neg (by omega), if_pos (by omega), if_neg (by omega)]; congr 1; omega
  · rw [if_neg h1]
    by_cases h2 : i = k
    · subst h2; rw [if_pos rfl, if_pos (by omega), if_pos (by omega), if_pos (by omega), if_pos (by omega)]; congr 1; omega
    · rw [if_neg h2]
      by_cases h3 : k + 1 ≤ i ∧ i < m + 1
      · rw [if_pos h3, if_neg (by omega), if_pos (by omega), if_neg (by omega)]
      · rw [if_neg h3, if_neg (by omega)]
/-- Y is X with the places a..b mixed -/
def Mv (a b : Nat) (X Y : Nat → Nat) : Prop := ∃ s : Nat → Nat, (∀ i, a ≤ i → i < b → a ≤ s i ∧ s i < b) ∧ (∀ i, i < a ∨ b ≤ i → s i = i) ∧ (∀ i j, s i = s j → i = j) ∧ ∀ i, Y i = X (s i)
theorem Mv.refl (a b : Nat) (X : Nat → Nat) : Mv a b X X := ⟨id, fun _ h1 h2 => ⟨h1, h2⟩, fun _ _ => rfl, fun _ _ h => h, fun _ => rfl⟩
theorem Mv.wide {a b a' b' : Nat} {X Y : Nat → Nat} (h : Mv a b X Y) (ha : a' ≤ a) (hb : b ≤ b') : Mv a' b' X Y := by
  obtain ⟨s, h1, h2, h3, h4⟩ := h
  refine ⟨s, fun i hi hi2 => ?_, fun i hi => h2 i (by omega), h3, h4⟩
  by_cases h : a ≤ i ∧ i < b
  · have := h1 i h.1 h.2; omega
  · rw [h2 i (by omega)]; omega
theorem Mv.trans {a b : Nat} {X Y Z : Nat → Nat} (h : Mv a b X Y) (g : Mv a b Y Z) : Mv a b X Z := by
  obtain ⟨s, h1, h2, h3, h4⟩ := h
  obtain ⟨r, g1, g2, g3, g4⟩ := g
  refine ⟨fun i => s (r i), fun i hi hi2 => ?_, fun i hi => ?_, fun i j e => g3 _ _ (h3 _ _ e), fun i => by rw [g4, h4]⟩
  · have := g1 i hi hi2; exact h1 _ this.1 this.2
  · show s (r i) = i
    rw [g2 i hi, h2 i hi]
theorem Mv.rot {p m q : Nat} (X : Nat → Nat) (hpm : p ≤ m) (hmq : m ≤ q) : Mv p q X (rot p m q X) := by
  refine ⟨fun i => if p ≤ i ∧ i < q then (if i < p + (q - m) then i + (m - p) else i - (q - m)) else i, fun i h1 h2 => ?_, fun i h => ?_, fun i j e => ?_, fun i => ?_⟩
  · show _ ≤ (if _ then _ else _) ∧ (if _ then _ else _) < _
    rw [if_pos ⟨h1, h2⟩]; split <;> omega
  · show (if _ then _ else _) = _
    rw [if_neg (by omega)]
  · simp only at e
    split at e <;> split at e <;> (try split at e) <;> (try split at e) <;> omega
  · unfold Go.Proofs.YtficoknejnilmaaDoor.rot
    by_cases h : p ≤ i ∧ i < q
    · rw [if_pos h]; simp only [if_pos h]; split <;> rfl
    · rw [if_neg h]; simp only [if_neg h]
def Asc (t : Nat → Int) (X : Nat → Nat) (a b : Nat) : Prop := ∀ i j, a ≤ i → i < j → j < b → Lx t (X i) (X j)
/-- two parts in order, the left one's places before the right one's -/
structure MIn (t : Nat → Int) (X : Nat → Nat) (a m b : Nat) : Prop where
  l : Asc t X a m
  r : Asc t X m b
  x : ∀ i j, a ≤ i → i < m → m ≤ j → j < b → X i < X j
theorem Asc.mv {t : Nat → Int} {X : Nat → Nat} {a b i j : Nat} (h : Asc t X a b) (ha : a ≤ i) (hij : i ≤ j) (hj : j < b) {y : Nat} (hy : Lx t (X j) y) : Lx t (X i) y := by
  by_cases e : i = j
  · subst e; exact hy
  · exact (h i j ha (by omega) hj).trans hy
theorem Asc.mv' {t : Nat → Int} {X : Nat → Nat} {a b i j : Nat} (h : Asc t X a b) (ha : a ≤ i) (hij : i ≤ j) (hj : j < b) {y : Nat} (hy : Lx t y (X i)) : Lx t y (X j) := by
  by_cases e : i = j
  · subst e; exact hy
  · exact hy.trans (h i j ha (by omega) hj)
section
variable {t : Nat → Int} {X : Nat → Nat} {a m b s e : Nat}
theorem rot_at1 {i : Nat} (h1 : i < s) : rot s m e X i = X i := by unfold rot; rw [if_neg (by omega)]
theorem rot_at2 {i : Nat} (hse : s ≤ m) (hme : m ≤ e) (h1 : s ≤ i) (h2 : i < s + (e - m)) : rot s m e X i = X (i + (m - s)) := by unfold rot; rw [if_pos (by omega), if_pos h2]
theorem rot_at3 {i : Nat} (hse : s ≤ m) (hme : m ≤ e) (h1 : s + (e - m) ≤ i) (h2 : i < e) : rot s m e X i = X (i - (e - m)) := by unfold rot; rw [if_pos (by omega), if_neg (by omega)]
theorem rot_at4 {i : Nat} (h1 : e ≤ i) : rot s m e X i = X i := by unfold rot; rw [if_neg (by omega)]
/-- the two halves after the change -/
theorem MIn.halves (h : MIn t X a m b) (h1 : a ≤ s) (h2 : s ≤ m) (h3 : m ≤ e) (h4 : e ≤ b)
    (H1 : ∀ k l, a ≤ k → k < s → e ≤ l → l < b → Lx t (X k) (X l)) (H2 : ∀ l k, m ≤ l → l < e → s ≤ k → k < m → Lx t (X l) (X k)) :
    MIn t (rot s m e X) a s (s + (e - m)) ∧ MIn t (rot s m e X) (s + (e - m)) e b ∧ ∀ i j, a ≤ i → i < s + (e - m) → s + (e - m) ≤ j → j < b → Lx t (rot s m e X i) (rot s m e X j) := by
  refine ⟨⟨fun i j hi hij hj => ?_, fun i j hi hij hj => ?_, fun i j hi hij hj hj2 => ?_⟩, ⟨fun i j hi hij hj => ?_, fun i j hi hij hj => ?_, fun i j hi hij hj hj2 => ?_⟩, fun i j hi hij hj hj2 => ?_⟩
  · rw [rot_at1 (by omega), rot_at1 (by omega)]; exact h.l _ _ hi hij (by omega)
  · rw [rot_at2 h2 h3 (by omega) (by omega), rot_at2 h2 h3 (by omega) (by omega)]; exact h.r _ _ (by omega) (by omega) (by omega)
  · rw [rot_at1 (by omega), rot_at2 h2 h3 (by omega) (by omega)]; exact h.x _ _ hi (by omega) (by omega) (by omega)
  · rw [rot_at3 h2 h3 (by omega) (by omega), rot_at3 h2 h3 (by omega) (by omega)]; exact h.l _ _ (by omega) (by omega) (by omega)
  · rw [rot_at4 (by omega), rot_at4 (by omega)]; exact h.r _ _ (by omega) (by omega) (by omega)
  · rw [rot_at3 h2 h3 (by omega) (by omega), rot_at4 (by omega)]; exact h.x _ _ (by omega) (by omega) (by omega) (by omega)
  · by_cases c1 : i < s
    · rw [rot_at1 c1]
      by_cases c2 : j < e
      · rw [rot_at3 h2 h3 (by omega) (by omega)]; exact h.l _ _ hi (by omega) (by omega)
      · rw [rot_at4 (by omega)]; exact H1 _ _ hi c1 (by omega) hj2
    · rw [rot_at2 h2 h3 (by omega) (by omega)]
      by_cases c2 : j < e
      · rw [rot_at3 h2 h3 (by omega) (by omega)]; exact H2 _ _ (by omega) (by omega) (by omega) (by omega)
      · rw [rot_at4 (by omega)]; exact h.r _ _ (by omega) (by omega) (by omega)
/-- a part with one side only is in order -/
theorem MIn.one (h : MIn t X a m b) (hm : m = a ∨ m = b) : Asc t X a b := by
  rcases hm with rfl | rfl
  · exact h.r
  · exact h.l
theorem MIn.step (h : MIn t X a m b) (hs : ∀ i j, a ≤ i → i < m → m ≤ j → j < b → Lx t (X i) (X j)) : Asc t X a b := fun i j hi hij hj => by
  by_cases c1 : j < m
  · exact h.l _ _ hi hij c1
  · by_cases c2 : i < m
    · exact hs _ _ hi c2 (by omega) hj
    · exact h.r _ _ (by omega) hij hj
/-- a part mixed within keeps what stands between the parts -/
theorem Mv.cross {Y : Nat → Nat} {c : Nat} (h : Mv a c X Y) (hc : c ≤ b) (hL : ∀ i j, a ≤ i → i < c → c ≤ j → j < b → Lx t (X i) (X j)) : ∀ i j, a ≤ i → i < c → c ≤ j → j < b → Lx t (Y i) (Y j) := by
  obtain ⟨r, g1, g2, g3, g4⟩ := h
  intro i j hi hi2 hj hj2
  rw [g4, g4, g2 j (.inr hj)]
  have := g1 i hi hi2
  exact hL _ _ this.1 this.2 hj hj2
theorem Mv.cross' {Y : Nat → Nat} {c : Nat} (h : Mv c b X Y) (hc : a ≤ c) (hL : ∀ i j, a ≤ i → i < c → c ≤ j → j < b → Lx t (X i) (X j)) : ∀ i j, a ≤ i → i < c → c ≤ j → j < b → Lx t (Y i) (Y j) := by
  obtain ⟨r, g1, g2, g3, g4⟩ := h
  intro i j hi hi2 hj hj2
  rw [g4, g4, g2 i (.inl hi2)]
  have := g1 j hj hj2
  exact hL _ _ hi hi2 this.1 this.2
theorem Mv.keep {Y : Nat → Nat} {c d : Nat} (h : Mv c d X Y) (hA : Asc t X a b) (hd : b ≤ c ∨ d ≤ a) : Asc t Y a b := by
  obtain ⟨r, g1, g2, g3, g4⟩ := h
  intro i j hi hij hj
  rw [g4, g4, g2 i (by omega), g2 j (by omega)]
  exact hA _ _ hi hij hj
theorem Mv.keepM {Y : Nat → Nat} {c d : Nat} (h : Mv c d X Y) (hA : MIn t X a m b) (hd : b ≤ c ∨ d ≤ a) (hm1 : a ≤ m) (hm2 : m ≤ b) : MIn t Y a m b := by
  refine ⟨h.keep hA.l (by omega), h.keep hA.r (by omega), ?_⟩
  obtain ⟨r, g1, g2, g3, g4⟩ := h
  intro i j hi hi2 hj hj2
  rw [g4, g4, g2 i (by omega), g2 j (by omega)]
  exact hA.x _ _ hi hi2 hj hj2
/-- both halves in order, the left one below the right one -/
theorem Asc.join {c : Nat} (h1 : Asc t X a c) (h2 : Asc t X c b) (hL : ∀ i j, a ≤ i → i < c → c ≤ j → j < b → Lx t (X i) (X j)) : Asc t X a b := fun i j hi hij hj => by
  by_cases c1 : j < c
  · exact h1 _ _ hi hij c1
  · by_cases c2 : i < c
    · exact hL _ _ hi c2 (by omega) hj
    · exact h2 _ _ (by omega) hij hj
end
end Go.Proofs.YtficoknejnilmaaDoor
