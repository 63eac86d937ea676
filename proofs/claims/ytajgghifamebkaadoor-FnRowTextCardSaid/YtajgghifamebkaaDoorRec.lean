/- records laid side by side: plain lemmas on flat lists of cells; accesses -/
import Derived.Test.YtajgghifamebkaaDoorApp
namespace Go.Proofs.YtajgghifamebkaaDoor
set_option linter.unusedSimpArgs false
set_option linter.unusedVariables false
open Go.RowKit
theorem flat_length {α : Type} {sz : Nat} : ∀ (l : List (List α)), (∀ c ∈ l, c.length = sz) → l.flatten.length = l.length * sz
  | [], _ => by simp
  | c :: l, h => by
    have ih := flat_length l (fun x hx => h x (by simp [hx]))
    have hc := h c (by simp)
    rw [List.flatten_cons, List.length_append, ih, hc, List.length_cons, Nat.add_mul]; omega
theorem flat_get {α : Type} {sz : Nat} : ∀ (l : List (List α)) (k j : Nat) (c : List α), (∀ c ∈ l, c.length = sz) → l[k]? = some c → j < sz → l.flatten[k * sz + j]? = c[j]?
  | c0 :: l, 0, j, c, h, hk, hj => by
    obtain rfl : c0 = c := by simpa using hk
    have hc := h c0 (by simp)
    rw [List.flatten_cons, List.getElem?_append_left (by omega), Nat.zero_mul, Nat.zero_add]
  | c0 :: l, k + 1, j, c, h, hk, hj => by
    have hc := h c0 (by simp)
    rw [List.flatten_cons, List.getElem?_append_right (by rw [hc, Nat.add_mul]; omega)]
    have ih := flat_get l k j c (fun x hx => h x (by simp [hx])) (by simpa using hk) hj
    rw [show (k + 1) * sz + j - c0.length = k * sz + j by rw [hc, Nat.add_mul]; omega]
    exact ih
theorem flat_set {α : Type} {sz : Nat} (v : α) : ∀ (l : List (List α)) (k j : Nat) (c : List α), (∀ c ∈ l, c.length = sz) → l[k]? = some c → j < sz → l.flatten.set (k * sz + j) v = (l.set k (c.set j v)).flatten
  | c0 :: l, 0, j, c, h, hk, hj => by
    obtain rfl : c0 = c := by simpa using hk
    have hc := h c0 (by simp)
    rw [List.flatten_cons, Nat.zero_mul, Nat.zero_add, List.set_append_left _ _ (by omega), List.set_cons_zero, List.flatten_cons]
  | c0 :: l, k + 1, j, c, h, hk, hj => by
    have hc := h c0 (by simp)
    have ih := flat_set v l k j c (fun x hx => h x (by simp [hx])) (by simpa using hk) hj
    rw [List.flatten_cons, List.set_append_right _ _ (by rw [hc, Nat.add_mul]; omega), List.set_cons_succ, List.flatten_cons, ← ih]
    rw [show (k + 1) * sz + j - c0.length = k * sz + j by rw [hc, Nat.add_mul]; omega]
/-- a table of records, the first k of them done -/
def mixR {α : Type} (k : Nat) (f g : Nat → α) (i : Nat) : α := if i < k then f i else g i
theorem mixR_zero {α : Type} (n : Nat) (f g : Nat → α) : tab n (mixR 0 f g) = tab n g := tab_congr fun i _ => by simp [mixR]
theorem mixR_full {α : Type} (n : Nat) (f g : Nat → α) : tab n (mixR n f g) = tab n f := tab_congr fun i hi => by simp [mixR, hi]
theorem mixR_at {α : Type} (n k : Nat) (f g : Nat → α) (h : k < n) : (tab n (mixR k f g))[k]? = some (g k) := by rw [tab_get _ h]; simp [mixR]
theorem mixR_step {α : Type} (n k : Nat) (f g : Nat → α) : (tab n (mixR k f g)).set k (f k) = tab n (mixR (k + 1) f g) := by
  rw [tab_set]
  refine tab_congr fun i _ => ?_
  unfold mixR
  by_cases h : i = k
  · subst h; simp
  · rw [if_neg h]; by_cases h2 : i < k
    · rw [if_pos h2, if_pos (by omega)]
    · rw [if_neg h2, if_neg (by omega)]
theorem tab_mem {α : Type} {n : Nat} {f : Nat → α} {x : α} (h : x ∈ tab n f) : ∃ i, i < n ∧ f i = x := by
  unfold tab at h
  obtain ⟨i, hi, rfl⟩ := List.mem_map.1 h
  exact ⟨i, List.mem_range.1 hi, rfl⟩
/-- three cells of a record are set -/
theorem rec3_set {n k : Nat} {f g : Nat → List Value} (t : List Value) (h : k < n) {a b c : Value} (hf : f k = [a, b, c]) (hg : ∀ i, i < n → (mixR k f g i).length = 3) :
    ((((tab n (mixR k f g)).flatten ++ t).set (k * 3) a).set (k * 3 + 1) b).set (k * 3 + 2) c = (tab n (mixR (k + 1) f g)).flatten ++ t := by
  have hl : ∀ x ∈ tab n (mixR k f g), x.length = 3 := fun x hx => by obtain ⟨i, hi, rfl⟩ := tab_mem hx; exact hg i hi
  have hlen := flat_length _ hl
  rw [tab_length] at hlen
  have hat := mixR_at n k f g h
  have hgk : (g k).length = 3 := by have := hg k h; simpa [mixR] using this
  obtain ⟨x, y, z, hxyz⟩ : ∃ x y z, g k = [x, y, z] := by
    match g k, hgk with
    | [x, y, z], _ => exact ⟨x, y, z, rfl⟩
  rw [List.set_append_left _ _ (by omega), List.set_append_left _ _ (by rw [List.length_set]; omega), List.set_append_left _ _ (by rw [List.length_set, List.length_set]; omega)]
  congr 1
  have e0 := flat_set a _ k 0 _ hl hat (by omega)
  rw [Nat.add_zero] at e0
  rw [e0, hxyz, List.set_cons_zero]
  have hl1 : ∀ q ∈ (tab n (mixR k f g)).set k [a, y, z], q.length = 3 := fun q hq => by
    rcases List.mem_or_eq_of_mem_set hq with h | rfl
    · exact hl q h
    · rfl
  have hk1 : ((tab n (mixR k f g)).set k [a, y, z])[k]? = some [a, y, z] := by rw [List.getElem?_set_self (by simpa using h)]
  rw [flat_set b _ k 1 _ hl1 hk1 (by omega), List.set_set]
  have hl2 : ∀ q ∈ (tab n (mixR k f g)).set k [a, b, z], q.length = 3 := fun q hq => by
    rcases List.mem_or_eq_of_mem_set hq with h | rfl
    · exact hl q h
    · rfl
  have hk2 : ((tab n (mixR k f g)).set k [a, b, z])[k]? = some [a, b, z] := by rw [List.getElem?_set_self (by simpa using h)]
  have e2 := flat_set c _ k 2 _ hl2 hk2 (by omega)
  rw [List.set_set] at e2
  rw [show ([a, y, z] : List Value).set 1 b = [a, b, z] from rfl, e2, show ([a, b, z] : List Value).set 2 c = [a, b, c] from rfl, ← hf, mixR_step]
theorem rec3_cell {n k : Nat} {f g : Nat → List Value} (t : List Value) (h : k < n) {x y z : Value} (hgk : g k = [x, y, z]) (hg : ∀ i, i < n → (mixR k f g i).length = 3) :
    ((tab n (mixR k f g)).flatten ++ t)[k * 3]? = some x ∧ ((tab n (mixR k f g)).flatten ++ t)[k * 3 + 1]? = some y ∧ ((tab n (mixR k f g)).flatten ++ t)[k * 3 + 2]? = some z := by
  have hl : ∀ x ∈ tab n (mixR k f g), x.length = 3 := fun x hx => by obtain ⟨i, hi, rfl⟩ := tab_mem hx; exact hg i hi
  have hlen := flat_length _ hl
  rw [tab_length] at hlen
  have hat := mixR_at n k f g h
  rw [hgk] at hat
  have e0 := flat_get _ k 0 _ hl hat (by omega)
  have e1 := flat_get _ k 1 _ hl hat (by omega)
  have e2 := flat_get _ k 2 _ hl hat (by omega)
  rw [Nat.add_zero] at e0
  refine ⟨?_, ?_, ?_⟩
  · rw [List.getElem?_append_left (by omega), e0]; rfl
  · rw [List.getElem?_append_left (by omega), e1]; rfl
  · rw [List.getElem?_append_left (by omega), e2]; rfl
/-- an access: region, place, whether it writes -/
def accC (a : Int × Int × Bool) : List Value := [.int .i64 a.1, .int .i64 a.2.1, .bool a.2.2]
def accs (xs : List (Int × Int × Bool)) : List Value := (xs.map accC).flatten
@[simp] theorem accs_length (xs : List (Int × Int × Bool)) : (accs xs).length = xs.length * 3 := by
  unfold accs
  rw [flat_length (sz := 3) _ (fun c hc => by obtain ⟨a, _, rfl⟩ := List.mem_map.1 hc; rfl), List.length_map]
def aat (xs : List (Int × Int × Bool)) (k : Nat) : Int × Int × Bool := xs[k]?.getD (0, 0, false)
theorem accs_tab (xs : List (Int × Int × Bool)) : accs xs = (tab xs.length (fun k => accC (aat xs k))).flatten := by
  unfold accs
  congr 1
  exact tab_ext (by simp) fun i hi => by simp [aat, hi]
theorem accs_append (xs ys : List (Int × Int × Bool)) : accs (xs ++ ys) = accs xs ++ accs ys := by simp [accs]
theorem accs_get {xs : List (Int × Int × Bool)} {k : Nat} (h : k < xs.length) : (accs xs)[k * 3]? = some (.int .i64 (aat xs k).1) ∧ (accs xs)[k * 3 + 1]? = some (.int .i64 (aat xs k).2.1) ∧ (accs xs)[k * 3 + 2]? = some (.bool (aat xs k).2.2) := by
  have := rec3_cell (n := xs.length) (k := k) (f := fun k => accC (aat xs k)) (g := fun k => accC (aat xs k)) [] h rfl (fun i _ => by unfold mixR; split <;> rfl)
  rw [show tab xs.length (mixR k (fun k => accC (aat xs k)) (fun k => accC (aat xs k))) = tab xs.length (fun k => accC (aat xs k)) from tab_congr fun i _ => by simp [mixR], ← accs_tab, List.append_nil] at this
  exact this
theorem one_accs (l : List (Int × Int × Bool)) : ∀ u ∈ accs l, u.oneCell' = true := fun u hu => by
  unfold accs at hu
  obtain ⟨c, hc, hu⟩ := List.mem_flatten.1 hu
  obtain ⟨a, _, rfl⟩ := List.mem_map.1 hc
  simp only [accC, List.mem_cons, List.not_mem_nil, or_false] at hu
  rcases hu with rfl | rfl | rfl <;> rfl
def Accs (w : World) (v : Value) (xs : List (Int × Int × Bool)) : Prop := View w 3 v xs.length (accs xs)
theorem Accs.mono {w w' : World} {v xs} (h : Accs w v xs) {B : Nat} (hb : Below B w w') (hB : w.heap.size ≤ B) : Accs w' v xs := View.mono h hb hB
theorem Accs.open {w : World} {v xs} (h : Accs w v xs) : ∃ ad c, v = .slice ad xs.length c ∧ xs.length ≤ maxLen ∧ ∀ i, i < xs.length → ∃ b off, ad = some ⟨b, off, none⟩ ∧ ∀ i, i < xs.length →
    w.cell? ⟨b, off + i * 3, none⟩ = some (.int .i64 (aat xs i).1) ∧ w.cell? ⟨b, off + i * 3 + 1, none⟩ = some (.int .i64 (aat xs i).2.1) ∧ w.cell? ⟨b, off + i * 3 + 2, none⟩ = some (.bool (aat xs i).2.2) := by
  obtain ⟨h1, h2, ⟨h3, a, c, hv⟩ | ⟨h3, b, off, c, hv, hc, hcell⟩⟩ := h
  · rw [h3]; exact ⟨a, c, hv, Nat.zero_le _, fun i hi => by omega⟩
  · refine ⟨_, c, hv, h2, fun i hi => ⟨b, off, rfl, fun i hi => ?_⟩⟩
    obtain ⟨e0, e1, e2⟩ := accs_get hi
    exact ⟨hcell _ _ e0, hcell _ _ e1, hcell _ _ e2⟩
/-- what marking lays -/
def marksA (k0 : Int) (n : Nat) : List (Int × Int × Bool) := tab n (fun j => (k0 + 3 * j, k0 + 3 * j + 1, (k0 + 3 * j + 1 + 1) % 3 == 0))
@[simp] theorem marksA_length (k0 : Int) (n : Nat) : (marksA k0 n).length = n := by simp [marksA]
theorem aat_marks (k0 : Int) (n j : Nat) (h : j < n) : aat (marksA k0 n) j = (k0 + 3 * j, k0 + 3 * j + 1, (k0 + 3 * j + 1 + 1) % 3 == 0) := by simp [aat, marksA, tab_get _ h]
end Go.Proofs.YtajgghifamebkaaDoor
