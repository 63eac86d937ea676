/- routing a permutation: plain functions and laws -/
import Derived.Test.YtnmkficfbnnakaaDoorRouteM
import Derived.Test.YtnmkficfbnnakaaDoorSend
namespace Go.Proofs.YtnmkficfbnnakaaDoor
/-- numbers that are different and small are all there -/
theorem surj_of : ∀ (n : Nat) (f : Nat → Nat), (∀ x, x < n → f x < n) → (∀ x y, x < n → y < n → f x = f y → x = y) → ∀ z, z < n → ∃ x, x < n ∧ f x = z
  | 0, _, _, _, z, hz => by omega
  | n + 1, f, hf, hi, z, hz => by
    have ha := hf n (by omega)
    have ih := surj_of n (fun x => if f x = n then f n else f x) (fun x hx => by
      have h1 := hf x (by omega)
      show (if f x = n then f n else f x) < n
      split
      · rename_i e
        have : f n ≠ n := fun e' => by have := hi x n (by omega) (by omega) (by rw [e, e']); omega
        omega
      · omega) (fun x y hx hy e => by
      have h1 : f x ≠ f n := fun e' => by have := hi x n (by omega) (by omega) e'; omega
      have h2 : f y ≠ f n := fun e' => by have := hi y n (by omega) (by omega) e'; omega
      split at e <;> split at e
      · rename_i e1 e2; exact hi x y (by omega) (by omega) (by rw [e1, e2])
      · exact absurd e.symm h2
      · exact absurd e h1
      · exact hi x y (by omega) (by omega) e)
    by_cases ez : z = f n
    · exact ⟨n, by omega, ez.symm⟩
    · by_cases en : z = n
      · subst en
        obtain ⟨x, hx, hfx⟩ := ih (f z) (by omega)
        split at hfx
        · exact ⟨x, by omega, by assumption⟩
        · have := hi x z (by omega) (by omega) hfx; omega
      · obtain ⟨x, hx, hfx⟩ := ih z (by omega)
        split at hfx
        · exact absurd hfx.symm ez
        · exact ⟨x, by omega, hfx⟩
/-- what a place after gets; which place after gets it -/
def pF (p : List Int) (x : Nat) : Nat := (iI p x).toNat
def pG (p : List Int) (y : Nat) : Nat := (p.idxOf ((y : Nat) : Int))
/-- each of n numbers, and each once -/
def PermL (n : Nat) (p : List Int) : Prop := p.length = n ∧ (∀ x, x < n → 0 ≤ iI p x ∧ iI p x < n) ∧ ∀ x y, x < n → y < n → iI p x = iI p y → x = y
theorem PermL.int {n : Nat} {p : List Int} (h : PermL n p) {x : Nat} (hx : x < n) : iI p x = ((pF p x : Nat) : Int) := by
  unfold pF; have := h.2.1 x hx; omega
theorem PermL.prm {n : Nat} {p : List Int} (h : PermL n p) (hn : n % 2 = 0) : Prm n (pF p) (pG p) := by
  have hlt : ∀ x, x < n → pF p x < n := fun x hx => by have := h.2.1 x hx; unfold pF; omega
  have hgf : ∀ x, x < n → pG p (pF p x) = x := fun x hx => by
    unfold pG
    rw [← h.int hx]
    have hm : iI p x ∈ p := by
      have : iI p x = p[x]'(by rw [h.1]; exact hx) := by simp [iI, h.1, hx]
      rw [this]; exact List.getElem_mem _
    have h1 := List.idxOf_lt_length_of_mem hm
    have h2 : iI p (p.idxOf (iI p x)) = iI p x := by
      have : iI p (p.idxOf (iI p x)) = p[p.idxOf (iI p x)] := by
        generalize p.idxOf (iI p x) = q at h1 ⊢
        simp [iI, h1]
      rw [this]
      exact List.getElem_idxOf h1
    exact h.2.2 _ _ (by rw [← h.1]; exact h1) hx h2
  have hsur := surj_of n (pF p) hlt (fun x y hx hy e => h.2.2 x y hx hy (by rw [h.int hx, h.int hy, e]))
  refine ⟨hn, hlt, fun y hy => ?_, hgf, fun y hy => ?_⟩
  · obtain ⟨x, hx, rfl⟩ := hsur y hy
    rw [hgf x hx]; exact hx
  · obtain ⟨x, hx, rfl⟩ := hsur y hy
    rw [hgf x hx]
theorem permB_perm {p : List Int} (h : permB p = true) : PermL p.length p ∧ (p.length = 1 ∨ p.length = 2 ∨ p.length = 4 ∨ p.length = 8) := by
  unfold permB at h
  rw [Bool.and_eq_true, List.all_eq_true] at h
  obtain ⟨h1, h2⟩ := h
  have hk : ∀ k, k < p.length → okAt p k = true := fun k hk => h1 k (by simpa using hk)
  refine ⟨⟨rfl, fun x hx => ?_, ?_⟩, ?_⟩
  · have := hk x hx
    unfold okAt at this
    rw [Bool.and_eq_true] at this
    have := inB_iff.1 this.1
    unfold iI; omega
  · have key : ∀ x y, x < y → y < p.length → iI p x ≠ iI p y := fun x y hxy hy e => by
      have := hk y hy
      unfold okAt at this
      rw [Bool.and_eq_true] at this
      have h3 := this.2
      simp only [Bool.not_eq_true'] at h3
      have hm : p[y]?.getD 0 ∈ p.take y := by
        have e' : p[y]?.getD 0 = iI p x := e.symm
        rw [e']
        have : iI p x = (p.take y)[x]'(by simp; omega) := by
          simp [iI, show x < p.length by omega]
        rw [this]; exact List.getElem_mem _
      have : (p.take y).contains (p[y]?.getD 0) = true := by simpa using hm
      rw [h3] at this; cases this
    intro x y hx hy e
    rcases Nat.lt_trichotomy x y with h | h | h
    · exact absurd e (key x y h hy)
    · exact h
    · exact absurd e.symm (key y x h hx)
  · rcases wide_cases (p.length : Int) with h | h | h | h | h
    · omega
    · omega
    · omega
    · omega
    · rw [(wide_no h).1] at h2; cases h2
/-- the halves of a permutation -/
def hlv (n : Nat) (p : List Int) : Hs := halvesK n (pF p) (pG p) n
/-- what the half t gets: half places -/
def half (h : Nat) (p : List Int) (t : Bool) : List Int := tab h fun k => iI p (if (hlv (2 * h) p).O (2 * k) == t then 2 * k else 2 * k + 1) / 2
def stepR (h : Nat) (r : List Int → List Bool) (p : List Int) : List Bool :=
  tab h (fun k => !(hlv (2 * h) p).I (2 * k)) ++ r (half h p true) ++ r (half h p false) ++ tab h (fun k => !(hlv (2 * h) p).O (2 * k))
def route2 (p : List Int) : List Bool := [iI p 0 == 1]
def route4 : List Int → List Bool := stepR 2 route2
def route8 : List Int → List Bool := stepR 4 route4
def routeV (p : List Int) : List Bool := if p.length = 1 then [] else if p.length = 2 then route2 p else if p.length = 4 then route4 p else route8 p
/-- the place after of the pair k that goes through the half t -/
def pick' (h : Nat) (p : List Int) (t : Bool) (k : Nat) : Nat := if (hlv (2 * h) p).O (2 * k) == t then 2 * k else 2 * k + 1
theorem pick_half (h : Nat) (p : List Int) (t : Bool) (k : Nat) : pick' h p t k / 2 = k := by unfold pick'; split <;> omega
theorem pick_lt {h : Nat} (p : List Int) (t : Bool) {k : Nat} (hk : k < h) : pick' h p t k < 2 * h := by unfold pick'; split <;> omega
theorem nb_even (k : Nat) : nb (2 * k) = 2 * k + 1 := by unfold nb; rw [if_pos (by omega)]
theorem pick_O {h : Nat} {p : List Int} (hp : PermL (2 * h) p) (t : Bool) {k : Nat} (hk : k < h) : (hlv (2 * h) p).O (pick' h p t k) = t := by
  obtain ⟨_, h2, _⟩ := halves_full (hp.prm (by omega))
  unfold pick'
  have h3 := h2 (2 * k) (by omega)
  rw [nb_even] at h3
  cases e : (hlv (2 * h) p).O (2 * k) == t
  · simp only [Bool.false_eq_true, if_false]
    unfold hlv at e ⊢
    rw [h3]
    cases h4 : (halvesK (2 * h) (pF p) (pG p) (2 * h)).O (2 * k) <;> cases t <;> simp_all
  · simp only [if_true]
    exact by simpa using e
/-- the halves are permutations -/
theorem half_perm {h : Nat} {p : List Int} (hp : PermL (2 * h) p) (t : Bool) : PermL h (half h p t) := by
  have hpr := hp.prm (show 2 * h % 2 = 0 by omega)
  obtain ⟨h1, h2, h3⟩ := halves_full hpr
  have hval : ∀ k, k < h → iI (half h p t) k = (pF p (pick' h p t k) / 2 : Nat) := fun k hk => by
    have : iI (half h p t) k = iI p (pick' h p t k) / 2 := by
      unfold iI half
      rw [tab_get _ hk]
      rfl
    rw [this, hp.int (pick_lt p t hk)]
    omega
  refine ⟨by unfold half; simp, fun k hk => ?_, fun x y hx hy e => ?_⟩
  · rw [hval k hk]
    have := hpr.flt _ (pick_lt p t hk)
    omega
  · rw [hval x hx, hval y hy] at e
    have e' : pF p (pick' h p t x) / 2 = pF p (pick' h p t y) / 2 := by omega
    have hx' := pick_lt p t hx
    have hy' := pick_lt p t hy
    have ox := pick_O hp t hx
    have oy := pick_O hp t hy
    have ix := h1 _ hx'
    have iy := h1 _ hy'
    rcases half_eq e' with e2 | e2
    · have := hpr.inj hx' hy' e2
      have h4 := pick_half h p t x
      have h5 := pick_half h p t y
      omega
    · exfalso
      have h6 := h3 (pF p (pick' h p t y)) (hpr.flt _ hy')
      rw [← e2, ix, iy] at h6
      unfold hlv at ox oy
      rw [ox, oy] at h6
      cases t <;> cases h6
theorem stepR_len {h : Nat} {r : List Int → List Bool} {p : List Int} {m : Nat} (hr : ∀ q, PermL h q → (r q).length = m) (hp : PermL (2 * h) p) : (stepR h r p).length = 2 * h + 2 * m := by
  unfold stepR
  simp only [List.length_append, tab_length]
  rw [hr _ (half_perm hp true), hr _ (half_perm hp false)]
  omega
theorem route4_len {p : List Int} (hp : PermL 4 p) : (route4 p).length = 6 := stepR_len (h := 2) (m := 1) (fun _ _ => rfl) hp
theorem route8_len {p : List Int} (hp : PermL 8 p) : (route8 p).length = 20 := stepR_len (h := 4) (m := 6) (fun _ h => route4_len h) hp
/-- MAIN: what is sent through the switches of the permutation gives every place what it gets -/
theorem sub_first {α : Type} (a b : List α) (n : Nat) (h : a.length = n) : (a ++ b).drop n = b := by rw [← h, List.drop_left]
theorem route_step {h m : Nat} {r : List Int → List Bool} {g : List Bool → List Int → List Int} (hlen : ∀ q, PermL h q → (r q).length = m) (hg : ∀ s l, l.length = h → (g s l).length = h)
    (hr : ∀ q l, PermL h q → l.length = h → ∀ k, k < h → iI (g (r q) l) k = iI l (pF q k)) {p l : List Int} (hp : PermL (2 * h) p) (hl : l.length = 2 * h) {j : Nat} (hj : j < 2 * h) : iI (stepV h m g (stepR h r p) l) j = iI l (pF p j) := by
  have hpr := hp.prm (show 2 * h % 2 = 0 by omega)
  obtain ⟨h1, h2, h3⟩ := halves_full hpr
  obtain ⟨S, hS⟩ : ∃ S, stepR h r p = S := ⟨_, rfl⟩
  have hA : ∀ k, k < h → bI S k = !(hlv (2 * h) p).I (2 * k) := fun k hk => by
    rw [← hS]; unfold bI stepR
    rw [List.append_assoc, List.append_assoc, List.getElem?_append_left (by simpa using hk), tab_get _ hk]; rfl
  have hU : (S.drop h).take m = r (half h p true) := by
    rw [← hS]; unfold stepR
    rw [List.append_assoc, List.append_assoc, sub_first _ _ _ (by simp), List.take_left' (hlen _ (half_perm hp true))]
  have hV : (S.drop (h + m)).take m = r (half h p false) := by
    rw [← hS]; unfold stepR
    rw [List.append_assoc, sub_first _ _ _ (by rw [List.length_append, tab_length, hlen _ (half_perm hp true)]), List.take_left' (hlen _ (half_perm hp false))]
  have hB : ∀ k, k < h → bI S (h + 2 * m + k) = !(hlv (2 * h) p).O (2 * k) := fun k hk => by
    rw [← hS]; unfold bI stepR
    rw [List.getElem?_append_right (by simp only [List.length_append, tab_length]; rw [hlen _ (half_perm hp true), hlen _ (half_perm hp false)]; omega)]
    simp only [List.length_append, tab_length]
    rw [hlen _ (half_perm hp true), hlen _ (half_perm hp false), show h + 2 * m + k - (h + m + m) = k by omega, tab_get _ hk]; rfl
  rw [hS]
  unfold stepV
  rw [hU, hV]
  -- what comes through the half t at the place k
  have key : ∀ (t : Bool) (b : Nat), (b = if t then 0 else 1) → ∀ k, k < h → iI (g (r (half h p t)) (tab h (hv S l b))) k = iI l (pF p (pick' h p t k)) := fun t b hb k hk => by
    rw [hr _ _ (half_perm hp t) (by simp) k hk]
    have hx := pick_lt p t hk
    have hq : pF (half h p t) k = pF p (pick' h p t k) / 2 := by
      have e1 := (half_perm hp t).int hk
      have e2 : iI (half h p t) k = iI p (pick' h p t k) / 2 := by
        unfold iI half
        rw [tab_get _ hk]; rfl
      rw [e2, hp.int hx] at e1
      omega
    rw [hq]
    obtain ⟨y, hy⟩ : ∃ y, pF p (pick' h p t k) = y := ⟨_, rfl⟩
    have hyl : y < 2 * h := by rw [← hy]; exact hpr.flt _ hx
    have hI : (hlv (2 * h) p).I y = t := by
      rw [← hy]
      unfold hlv
      rw [h1 _ hx]
      exact pick_O hp t hk
    rw [hy]
    unfold iI
    rw [tab_get _ (by omega)]
    simp only [Option.getD_some]
    unfold hv iI
    rw [hA _ (by omega)]
    have h6 := h3 (2 * (y / 2)) (by omega)
    rw [nb_even] at h6
    unfold hlv at hI ⊢
    congr 2
    rcases Nat.mod_two_eq_zero_or_one y with e | e
    · have e2 : 2 * (y / 2) = y := by omega
      rw [e2, hI, hb]
      cases t <;> simp <;> omega
    · have e2 : 2 * (y / 2) + 1 = y := by omega
      rw [e2, hI] at h6
      have h7 : (halvesK (2 * h) (pF p) (pG p) (2 * h)).I (2 * (y / 2)) = !t := by
        rw [h6]; generalize (halvesK (2 * h) (pF p) (pG p) (2 * h)).I (2 * (y / 2)) = z
        cases z <;> rfl
      rw [h7, hb]
      cases t <;> simp <;> omega
  have k1 := key true 0 rfl
  have k0 := key false 1 rfl
  have hkj : j / 2 < h := by omega
  unfold iI
  rw [tab_get _ hj]
  simp only [Option.getD_some]
  unfold mixF
  rw [hB _ hkj, k0 _ hkj, k1 _ hkj]
  unfold iI pick'
  have h6 := h2 (2 * (j / 2)) (by omega)
  rcases Nat.mod_two_eq_zero_or_one j with e | e
  · have e2 : 2 * (j / 2) = j := by omega
    rw [e, e2]
    cases (hlv (2 * h) p).O j <;> simp
  · have e2 : 2 * (j / 2) + 1 = j := by omega
    rw [e, e2]
    cases (hlv (2 * h) p).O (2 * (j / 2)) <;> simp
end Go.Proofs.YtnmkficfbnnakaaDoor
