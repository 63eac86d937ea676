/- plain laws of RoutePermutation -/
import Derived.Test.YtnmkficfbnnakaaDoorRoute
import Derived.Test.YtnmkficfbnnakaaDoorApply
namespace Go.Proofs.YtnmkficfbnnakaaDoor
theorem swap_route {p l : List Int} (hp : PermL 2 p) (hl : l.length = 2) : ∀ k, k < 2 → iI (swap1 (route2 p) l) k = iI l (pF p k) := by
  obtain ⟨h1, h2, h3⟩ := hp
  obtain ⟨a, b, rfl⟩ : ∃ a b, p = [a, b] := by
    match p, h1 with
    | [a, b], _ => exact ⟨a, b, rfl⟩
  obtain ⟨x, y, rfl⟩ : ∃ x y, l = [x, y] := by
    match l, hl with
    | [x, y], _ => exact ⟨x, y, rfl⟩
  have ha := h2 0 (by omega)
  have hb := h2 1 (by omega)
  have hab := h3 0 1 (by omega) (by omega)
  simp only [iI, List.getElem?_cons_zero, List.getElem?_cons_succ, Option.getD_some] at ha hb hab
  have hne : a ≠ b := fun e => by have := hab e; omega
  have hc : (a = 0 ∧ b = 1) ∨ (a = 1 ∧ b = 0) := by omega
  intro k hk
  rcases hc with ⟨rfl, rfl⟩ | ⟨rfl, rfl⟩ <;> (rcases (show k = 0 ∨ k = 1 by omega) with rfl | rfl) <;> simp [swap1, route2, iI, pF, bI]
theorem swap_len' (s : List Bool) (l : List Int) (h : l.length = 2) : (swap1 s l).length = 2 := swap1_len s l h
theorem send4_len' (s : List Bool) (l : List Int) (_ : l.length = 4) : (send4 s l).length = 4 := stepV_len _ _ _ _ _
theorem route4_send {p l : List Int} (hp : PermL 4 p) (hl : l.length = 4) : ∀ k, k < 4 → iI (send4 (route4 p) l) k = iI l (pF p k) := fun _ hk =>
  route_step (h := 2) (m := 1) (r := route2) (g := swap1) (fun _ _ => rfl) swap_len' (fun _ _ hq hl => swap_route hq hl) hp hl hk
theorem route8_send {p l : List Int} (hp : PermL 8 p) (hl : l.length = 8) : ∀ k, k < 8 → iI (send8 (route8 p) l) k = iI l (pF p k) := fun _ hk =>
  route_step (h := 4) (m := 6) (r := route4) (g := send4) (fun _ h => route4_len h) send4_len' (fun _ _ hq hl => route4_send hq hl) hp hl hk
/-- MAIN -/
theorem route_send {p l : List Int} (hk : permB p = true) (hl : l.length = p.length) : applyOk (routeV p) l = true ∧ (sendV (routeV p) l).length = p.length ∧ ∀ j, j < p.length → iI (sendV (routeV p) l) j = iI l (pF p j) := by
  have hle := routeV_len hk
  obtain ⟨hp, hc⟩ := permB_perm hk
  refine ⟨?_, ?_⟩
  · unfold applyOk
    rw [hle, hl, decide_eq_true_eq]
    rcases hc with e | e | e | e <;> rw [e] <;> rfl
  · unfold sendV routeV
    rw [hl]
    rcases hc with e | e | e | e
    · rw [e] at hp
      rw [if_pos e]
      refine ⟨hl, fun j hj => ?_⟩
      have := hp.2.1 0 (by omega)
      have : pF p 0 = 0 := by unfold pF; omega
      rw [show j = 0 by omega, this]
    · rw [e] at hp hl
      rw [if_neg (by omega), if_pos e, if_neg (by omega), if_pos e, e]
      exact ⟨swap1_len _ _ hl, swap_route hp hl⟩
    · rw [e] at hp hl
      rw [if_neg (by omega), if_neg (by omega), if_pos e, if_neg (by omega), if_neg (by omega), if_pos e, e]
      exact ⟨stepV_len _ _ _ _ _, route4_send hp hl⟩
    · rw [e] at hp hl
      rw [if_neg (by omega), if_neg (by omega), if_neg (by omega), if_neg (by omega), if_neg (by omega), if_neg (by omega), e]
      exact ⟨stepV_len _ _ _ _ _, route8_send hp hl⟩
/-- where a number stands, and what stands there -/
theorem PermL.back {n : Nat} {p : List Int} (h : PermL n p) : (∀ x, x < n → pF p x < n) ∧ (∀ x, x < n → pG p (pF p x) = x) ∧ (∀ y, y < n → pG p y < n ∧ pF p (pG p y) = y) := by
  have hlt : ∀ x, x < n → pF p x < n := fun x hx => by have := h.2.1 x hx; unfold pF; omega
  have hgf : ∀ x, x < n → pG p (pF p x) = x := fun x hx => by
    unfold pG
    rw [← h.int hx]
    have hm : iI p x ∈ p := by
      have : iI p x = p[x]'(by rw [h.1]; exact hx) := by simp [iI, h.1, hx]
      rw [this]; exact List.getElem_mem _
    have h1 := List.idxOf_lt_length_of_mem hm
    have h2 : iI p (p.idxOf (iI p x)) = iI p x := by
      have : iI p (p.idxOf (iI p x)) = p[p.idxOf (iI p x)] := by
        generalize p.idxOf (iI p x) = q at h1 ⊢
        simp [iI, h1]
      rw [this]
      exact List.getElem_idxOf h1
    exact h.2.2 _ _ (by rw [← h.1]; exact h1) hx h2
  have hsur := surj_of n (pF p) hlt (fun x y hx hy e => h.2.2 x y hx hy (by rw [h.int hx, h.int hy, e]))
  refine ⟨hlt, hgf, fun y hy => ?_⟩
  obtain ⟨x, hx, rfl⟩ := hsur y hy
  rw [hgf x hx]; exact ⟨hx, rfl⟩
/-- the permutation that leads back -/
def backL (n : Nat) (p : List Int) : List Int := tab n fun y => (pG p y : Int)
theorem backL_at {n : Nat} {p : List Int} {y : Nat} (hy : y < n) : iI (backL n p) y = (pG p y : Int) := by
  unfold backL iI; rw [tab_get _ hy]; rfl
theorem backL_pF {n : Nat} {p : List Int} {y : Nat} (hy : y < n) : pF (backL n p) y = pG p y := by
  unfold pF; rw [backL_at hy]; rfl
theorem backL_perm {n : Nat} {p : List Int} (h : PermL n p) : PermL n (backL n p) := by
  obtain ⟨h1, h2, h3⟩ := h.back
  refine ⟨by unfold backL; simp, fun x hx => ?_, fun x y hx hy e => ?_⟩
  · rw [backL_at hx]; have := h3 x hx; omega
  · rw [backL_at hx, backL_at hy] at e
    rw [← (h3 x hx).2, ← (h3 y hy).2, show pG p x = pG p y by omega]
theorem perm_permB {n : Nat} {p : List Int} (h : PermL n p) (hn : wideB n = true) : permB p = true := by
  obtain ⟨h1, h2, h3⟩ := h
  subst h1
  rw [permB_end, hn]
  intro k hk
  unfold okAt
  rw [Bool.and_eq_true]
  have := h2 k hk
  refine ⟨inB_iff.2 ?_, ?_⟩
  · unfold iI at this; omega
  · rw [Bool.not_eq_true', ← Bool.not_eq_true]
    intro hc
    have hm : iI p k ∈ p.take k := by simpa [iI] using hc
    obtain ⟨i, hi, e⟩ := List.getElem_of_mem hm
    have hik : i < k := by simp at hi; omega
    have : iI p i = iI p k := by rw [← e]; simp [iI, show i < p.length by omega]
    have := h3 i k (by omega) hk this
    omega
theorem backL_permB {p : List Int} (h : permB p = true) : permB (backL p.length p) = true := by
  obtain ⟨hp, hc⟩ := permB_perm h
  refine perm_permB (backL_perm hp) ?_
  rcases hc with e | e | e | e <;> rw [e] <;> decide
/-- there and back -/
theorem there_back {p l : List Int} (hk : permB p = true) (hl : l.length = p.length) : sendV (routeV (backL p.length p)) (sendV (routeV p) l) = l := by
  obtain ⟨-, e1, e2⟩ := route_send hk hl
  have hbl : (backL p.length p).length = p.length := by unfold backL; simp
  obtain ⟨-, e3, e4⟩ := route_send (backL_permB hk) (e1.trans hbl.symm)
  obtain ⟨hp, -⟩ := permB_perm hk
  obtain ⟨h1, h2, h3⟩ := hp.back
  rw [hbl] at e3 e4
  apply List.ext_getElem?
  intro i
  by_cases h : i < p.length
  · have := e4 i h
    rw [backL_pF h, e2 _ (h3 i h).1, (h3 i h).2] at this
    unfold iI at this
    rw [List.getElem?_eq_getElem (by omega), List.getElem?_eq_getElem (by omega)] at this ⊢
    simpa using this
  · rw [List.getElem?_eq_none (by omega), List.getElem?_eq_none (by omega)]
/-- the cells of the way back, when the first k places are written -/
def bkR (p : List Int) (k y : Nat) : Value := .int .i64 (if pG p y < k then (pG p y : Int) else 0)
theorem bk_zero (n : Nat) (p : List Int) : tab n (fun _ => Value.int .i64 0) = tab n (bkR p 0) := tab_congr fun i _ => by simp [bkR]
theorem bk_step {n : Nat} {p : List Int} (h : PermL n p) {k : Nat} (hk : k < n) : (tab n (bkR p k)).set (pF p k) (.int .i64 (k : Int)) = tab n (bkR p (k + 1)) := by
  obtain ⟨h1, h2, h3⟩ := h.back
  apply List.ext_getElem?
  intro i
  by_cases hi : i < n
  · rw [tab_get _ hi, List.getElem?_set]
    by_cases e : pF p k = i
    · rw [if_pos e, if_pos (by simp; exact h1 k hk), ← e]
      unfold bkR
      rw [h2 k hk, if_pos (by omega)]
    · rw [if_neg e, tab_get _ hi]
      unfold bkR
      have : pG p i ≠ k := fun e2 => e (by rw [← e2]; exact (h3 i hi).2)
      by_cases h4 : pG p i < k
      · rw [if_pos h4, if_pos (by omega)]
      · rw [if_neg h4, if_neg (by omega)]
  · rw [List.getElem?_eq_none (by simp; omega), List.getElem?_eq_none (by simp; omega)]
theorem bk_end {n : Nat} {p : List Int} (h : PermL n p) : tab n (bkR p n) = ints (backL n p) := by
  obtain ⟨h1, h2, h3⟩ := h.back
  unfold backL ints
  rw [show (tab n fun y => ((pG p y : Nat) : Int)).map (Value.int .i64) = tab n (fun y => Value.int .i64 (pG p y : Int)) by simp [tab]]
  exact tab_congr fun i hi => by unfold bkR; rw [if_pos (h3 i hi).1]
end Go.Proofs.YtnmkficfbnnakaaDoor
