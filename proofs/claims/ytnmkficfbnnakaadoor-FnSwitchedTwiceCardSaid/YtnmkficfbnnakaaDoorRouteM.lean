/- plain theory of the halves of a permutation; no program -/
import Derived.Test.YtnmkficfbnnakaaDoorMem
namespace Go.Proofs.YtnmkficfbnnakaaDoor
/-- the neighbour -/
def nb (x : Nat) : Nat := if x % 2 = 0 then x + 1 else x - 1
theorem nb_nb (x : Nat) : nb (nb x) = x := by unfold nb; split <;> split <;> omega
theorem nb_ne (x : Nat) : nb x ≠ x := by unfold nb; split <;> omega
theorem nb_lt {n x : Nat} (hn : n % 2 = 0) (h : x < n) : nb x < n := by unfold nb; split <;> omega
theorem nb_half (x : Nat) : nb x / 2 = x / 2 := by unfold nb; split <;> omega
theorem nb_eq {x y : Nat} (h : nb x = y) : x = nb y := by rw [← h, nb_nb]
theorem half_eq {x y : Nat} (h : x / 2 = y / 2) : x = y ∨ x = nb y := by unfold nb; split <;> omega
/-- f is a permutation of the places below n, g leads back -/
structure Prm (n : Nat) (f g : Nat → Nat) : Prop where
  even : n % 2 = 0
  flt : ∀ x, x < n → f x < n
  glt : ∀ x, x < n → g x < n
  gf : ∀ x, x < n → g (f x) = x
  fg : ∀ x, x < n → f (g x) = x
/-- the place after that gets the neighbour of what x gets -/
def ptn (f g : Nat → Nat) (x : Nat) : Nat := g (nb (f x))
section
variable {n : Nat} {f g : Nat → Nat}
theorem Prm.ptn_lt (h : Prm n f g) {x : Nat} (hx : x < n) : ptn f g x < n := h.glt _ (nb_lt h.even (h.flt x hx))
theorem Prm.f_ptn (h : Prm n f g) {x : Nat} (hx : x < n) : f (ptn f g x) = nb (f x) := h.fg _ (nb_lt h.even (h.flt x hx))
theorem Prm.ptn_ptn (h : Prm n f g) {x : Nat} (hx : x < n) : ptn f g (ptn f g x) = x := by
  have := h.f_ptn hx
  unfold ptn at this ⊢
  rw [this, nb_nb, h.gf x hx]
theorem Prm.ptn_ne (h : Prm n f g) {x : Nat} (hx : x < n) : ptn f g x ≠ x := fun e => by
  have := h.f_ptn hx
  rw [e] at this
  exact nb_ne _ this.symm
theorem Prm.inj (h : Prm n f g) {x y : Nat} (hx : x < n) (hy : y < n) (e : f x = f y) : x = y := by rw [← h.gf x hx, e, h.gf y hy]
end
def upd {α : Type} (f : Nat → α) (i : Nat) (v : α) : Nat → α := fun j => if j = i then v else f j
theorem upd_at {α : Type} (f : Nat → α) (i : Nat) (v : α) : upd f i v i = v := by simp [upd]
theorem upd_ne {α : Type} (f : Nat → α) {i j : Nat} (v : α) (h : j ≠ i) : upd f i v j = f j := by simp [upd, h]
/-- known, upper half after, upper half before -/
structure Hs where
  K : Nat → Bool
  O : Nat → Bool
  I : Nat → Bool
def Hs.none : Hs := ⟨fun _ => false, fun _ => false, fun _ => false⟩
def Hs.step (f g : Nat → Nat) (s : Hs) (o : Nat) : Hs := ⟨upd (upd s.K o true) (ptn f g o) true, upd s.O o true, upd s.I (f o) true⟩
/-- what the places are is told as it should be -/
structure Core (n : Nat) (f g : Nat → Nat) (s : Hs) : Prop where
  a : ∀ x, x < n → s.K x = true → s.K (ptn f g x) = true
  c : ∀ x, x < n → s.K x = true → s.O (ptn f g x) = !s.O x
  e : ∀ x, x < n → s.I (f x) = s.O x
  f : ∀ x, x < n → s.K x = false → s.O x = false
theorem Core.none (n : Nat) (f g : Nat → Nat) : Core n f g Hs.none := ⟨fun _ _ h => (by cases h), fun _ _ h => (by cases h), fun _ _ => rfl, fun _ _ _ => rfl⟩
section
variable {n : Nat} {f g : Nat → Nat} {s : Hs} {o k : Nat}
theorem Core.un (h : Core n f g s) (hp : Prm n f g) (ho : o < n) (hk : s.K o = false) : s.K (ptn f g o) = false := by
  cases e : s.K (ptn f g o)
  · rfl
  · have := h.a _ (hp.ptn_lt ho) e
    rw [hp.ptn_ptn ho, hk] at this
    cases this
theorem step_K (s : Hs) (o x : Nat) : (s.step f g o).K x = true ↔ x = ptn f g o ∨ x = o ∨ s.K x = true := by
  unfold Hs.step upd
  simp only
  by_cases h1 : x = ptn f g o
  · simp [h1]
  · rw [if_neg h1]
    by_cases h2 : x = o
    · simp [h2]
    · simp [h1, h2]
theorem step_Kf (s : Hs) (o x : Nat) : (s.step f g o).K x = false ↔ x ≠ ptn f g o ∧ x ≠ o ∧ s.K x = false := by
  have := step_K (f := f) (g := g) s o x
  cases h : (s.step f g o).K x
  · rw [h] at this
    simp only [Bool.false_eq_true, false_iff, not_or] at this
    simp [this.1, this.2.1, this.2.2]
  · rw [h] at this
    simp only [true_iff] at this
    simp only [Bool.true_eq_false, false_iff, not_and]
    intro h1 h2
    rcases this with e | e | e
    · exact absurd e h1
    · exact absurd e h2
    · simp [e]
theorem step_O (s : Hs) (o x : Nat) : (s.step f g o).O x = if x = o then true else s.O x := rfl
theorem Core.step (h : Core n f g s) (hp : Prm n f g) (ho : o < n) (hk : s.K o = false) : Core n f g (s.step f g o) := by
  have hpk := h.un hp ho hk
  refine ⟨fun x hx hkx => ?_, fun x hx hkx => ?_, fun x hx => ?_, fun x hx hkx => ?_⟩
  · rcases (step_K s o x).1 hkx with rfl | rfl | e
    · rw [hp.ptn_ptn ho]; exact (step_K s o o).2 (.inr (.inl rfl))
    · exact (step_K s x _).2 (.inl rfl)
    · exact (step_K s o _).2 (.inr (.inr (h.a x hx e)))
  · rw [step_O, step_O]
    rcases (step_K s o x).1 hkx with rfl | rfl | e
    · rw [hp.ptn_ptn ho, if_pos rfl, if_neg (hp.ptn_ne ho), h.f _ hx hpk]; rfl
    · rw [if_pos rfl, if_neg (hp.ptn_ne hx), h.f _ (hp.ptn_lt hx) hpk]; rfl
    · have n1 : x ≠ o := fun e' => by rw [e', hk] at e; cases e
      have n2 : ptn f g x ≠ o := fun e' => by
        have := h.a x hx e
        rw [e', hk] at this; cases this
      rw [if_neg n1, if_neg n2]
      exact h.c x hx e
  · rw [step_O]
    show upd s.I (f o) true (f x) = _
    by_cases e : x = o
    · subst e; rw [if_pos rfl]; exact upd_at _ _ _
    · rw [if_neg e, upd_ne _ _ (fun e' => e (hp.inj hx ho e'))]
      exact h.e x hx
  · rw [step_O]
    obtain ⟨h1, h2, h3⟩ := (step_Kf s o x).1 hkx
    rw [if_neg h2]
    exact h.f x hx h3
/-- neighbours are known together, and told apart -/
def Shut (n : Nat) (s : Hs) : Prop := ∀ x, x < n → s.K x = true → s.K (nb x) = true ∧ s.O (nb x) = !s.O x
/-- on the way from the start k, at o -/
structure Way (n : Nat) (s : Hs) (k o : Nat) : Prop where
  b : ∀ x, x < n → s.K x = true → x ≠ k → nb x ≠ o → s.K (nb x) = true ∧ s.O (nb x) = !s.O x
  k1 : s.K k = true
  k2 : s.O k = true
  o1 : s.K (nb o) = true
  o2 : s.O (nb o) = false
  at' : s.K o = true → o = k
theorem Way.shut (h : Way n s k o) (hk : s.K o = true) : Shut n s := by
  obtain rfl := h.at' hk
  intro x hx hxk
  by_cases e1 : x = o
  · subst e1; exact ⟨h.o1, by rw [h.o2, h.k2]; rfl⟩
  by_cases e2 : nb x = o
  · have e3 := nb_eq e2
    subst e3
    rw [nb_nb]
    exact ⟨h.k1, by rw [h.k2, h.o2]; rfl⟩
  exact h.b x hx hxk e1 e2
theorem Way.first (hc : Core n f g s) (hp : Prm n f g) (hs : Shut n s) (hk : k < n) (hkk : s.K k = false) : Way n (s.step f g k) k (nb (ptn f g k)) := by
  have hpk := hc.un hp hk hkk
  refine ⟨fun x hx hxk h1 h2 => ?_, (step_K s k k).2 (.inr (.inl rfl)), by rw [step_O, if_pos rfl], by rw [nb_nb]; exact (step_K s k _).2 (.inl rfl), ?_, fun hx => ?_⟩
  · rcases (step_K s k x).1 hxk with e | e | e
    · exact absurd (by rw [e]) h2
    · exact absurd e h1
    · have := hs x hx e
      have n1 : nb x ≠ k := fun e' => by rw [e', hkk] at this; cases this.1
      rw [step_O, step_O, if_neg h1, if_neg n1]
      exact ⟨(step_K s k _).2 (.inr (.inr this.1)), this.2⟩
  · rw [nb_nb, step_O, if_neg (hp.ptn_ne hk)]; exact hc.f _ (hp.ptn_lt hk) hpk
  · rcases (step_K s k _).1 hx with e | e | e
    · exact absurd e (nb_ne _)
    · exact e
    · have := (hs _ (nb_lt hp.even (hp.ptn_lt hk)) e).1
      rw [nb_nb, hpk] at this; cases this
theorem Way.next (h : Way n s k o) (hc : Core n f g s) (hp : Prm n f g) (ho : o < n) (hok : s.K o = false) : Way n (s.step f g o) k (nb (ptn f g o)) := by
  have hpk := hc.un hp ho hok
  have nko : k ≠ o := fun e => by have := h.k1; rw [e, hok] at this; cases this
  refine ⟨fun x hx hxk h1 h2 => ?_, (step_K s o k).2 (.inr (.inr h.k1)), by rw [step_O, if_neg nko]; exact h.k2, by rw [nb_nb]; exact (step_K s o _).2 (.inl rfl), ?_, fun hx => ?_⟩
  · rcases (step_K s o x).1 hxk with e | e | e
    · exact absurd (by rw [e]) h2
    · subst e
      rw [step_O, step_O, if_pos rfl, if_neg (nb_ne x)]
      exact ⟨(step_K s x _).2 (.inr (.inr h.o1)), by rw [h.o2]; rfl⟩
    · have nxo : x ≠ o := fun e' => by rw [e', hok] at e; cases e
      by_cases e2 : nb x = o
      · have e3 := nb_eq e2
        subst e3
        rw [nb_nb, step_O, step_O, if_pos rfl, if_neg (nb_ne o), h.o2]
        exact ⟨(step_K s o _).2 (.inr (.inl rfl)), rfl⟩
      · have := h.b x hx e h1 e2
        rw [step_O, step_O, if_neg nxo, if_neg e2]
        exact ⟨(step_K s o _).2 (.inr (.inr this.1)), this.2⟩
  · rw [nb_nb, step_O, if_neg (hp.ptn_ne ho)]; exact hc.f _ (hp.ptn_lt ho) hpk
  · rcases (step_K s o _).1 hx with e | e | e
    · exact absurd e (nb_ne _)
    · exfalso
      have := h.o1
      rw [← e, nb_nb, hpk] at this; cases this
    · by_cases ek : nb (ptn f g o) = k
      · exact ek
      · exfalso
        have := (h.b _ (nb_lt hp.even (hp.ptn_lt ho)) e ek (by rw [nb_nb]; exact hp.ptn_ne ho)).1
        rw [nb_nb, hpk] at this; cases this
end
/-- how many places are not known yet -/
def unk (n : Nat) (K : Nat → Bool) : Nat := (List.range n).countP fun x => !K x
theorem unk_upd {n : Nat} {K : Nat → Bool} {o : Nat} (ho : o < n) (hk : K o = false) : unk n (upd K o true) < unk n K := by
  induction n with
  | zero => omega
  | succ n ih =>
    unfold unk at ih ⊢
    rw [List.range_succ, List.countP_append, List.countP_append]
    simp only [List.countP_cons, List.countP_nil]
    by_cases e : o = n
    · subst e
      have : (List.range o).countP (fun x => !upd K o true x) = (List.range o).countP (fun x => !K x) := List.countP_congr fun x hx => by
        rw [upd_ne _ _ (by have := List.mem_range.1 hx; omega)]
      rw [this, upd_at, hk]
      simp
    · have := ih (by omega)
      rw [upd_ne _ _ (fun e' => e e'.symm)]
      omega
theorem unk_le {n : Nat} {K : Nat → Bool} (o : Nat) : unk n (upd K o true) ≤ unk n K := by
  unfold unk
  refine List.countP_mono_left fun x _ h => ?_
  unfold upd at h
  split at h
  · simp at h
  · exact h
theorem unk_step {n : Nat} {f g : Nat → Nat} {s : Hs} {o : Nat} (ho : o < n) (hk : s.K o = false) : unk n (s.step f g o).K < unk n s.K :=
  Nat.lt_of_le_of_lt (unk_le _) (unk_upd ho hk)
/-- from the start on, until a place is known -/
def chase (f g : Nat → Nat) : Nat → Hs → Nat → Hs
  | 0, s, _ => s
  | m + 1, s, o => if s.K o then s else chase f g m (s.step f g o) (nb (ptn f g o))
theorem chase_known (f g : Nat → Nat) {s : Hs} {o : Nat} (h : s.K o = true) : ∀ m, chase f g m s o = s
  | 0 => rfl
  | m + 1 => by unfold chase; rw [if_pos h]
theorem chase_fuel {n : Nat} {f g : Nat → Nat} (hp : Prm n f g) : ∀ (m m' : Nat) (s : Hs) (o : Nat), o < n → unk n s.K ≤ m → unk n s.K ≤ m' → chase f g m s o = chase f g m' s o := by
  have key : ∀ {s : Hs} {o : Nat}, o < n → s.K o = false → 0 < unk n s.K := fun {s o} ho hk => Nat.lt_of_le_of_lt (Nat.zero_le _) (unk_upd ho hk)
  intro m
  induction m with
  | zero =>
    intro m' s o ho h1 h2
    have : s.K o = true := by
      cases e : s.K o
      · have := key ho e; omega
      · rfl
    rw [chase_known f g this, chase_known f g this]
  | succ m ih =>
    intro m' s o ho h1 h2
    cases e : s.K o
    · have h3 := unk_step (f := f) (g := g) ho e
      have h4 := key ho e
      cases m' with
      | zero => omega
      | succ m' =>
        unfold chase
        rw [e]
        exact ih m' _ _ (nb_lt hp.even (hp.ptn_lt ho)) (by omega) (by omega)
    · rw [chase_known f g e, chase_known f g e]
theorem chase_step {n : Nat} {f g : Nat → Nat} (hp : Prm n f g) {s : Hs} {o : Nat} (ho : o < n) (hk : s.K o = false) : chase f g (unk n s.K) s o = chase f g (unk n (s.step f g o).K) (s.step f g o) (nb (ptn f g o)) := by
  have h1 := unk_step (f := f) (g := g) ho hk
  obtain ⟨m, hm⟩ : ∃ m, unk n s.K = m + 1 := ⟨unk n s.K - 1, by omega⟩
  rw [hm]
  rw [show chase f g (m + 1) s o = chase f g m (s.step f g o) (nb (ptn f g o)) by rw [chase, hk]; rfl]
  exact chase_fuel hp _ _ _ _ (nb_lt hp.even (hp.ptn_lt ho)) (by omega) (Nat.le_refl _)
/-- the halves behind the first k starts -/
def halvesK (n : Nat) (f g : Nat → Nat) : Nat → Hs
  | 0 => Hs.none
  | k + 1 => let s := halvesK n f g k; chase f g (unk n s.K) s k
theorem chase_way {n : Nat} {f g : Nat → Nat} (hp : Prm n f g) {k : Nat} : ∀ (m : Nat) (s : Hs) (o : Nat), o < n → unk n s.K ≤ m → Core n f g s → Way n s k o → Core n f g (chase f g m s o) ∧ Shut n (chase f g m s o) ∧ (∀ x, s.K x = true → (chase f g m s o).K x = true) := by
  intro m
  induction m with
  | zero =>
    intro s o ho hm hc hw
    have hk : s.K o = true := by
      cases e : s.K o
      · have := unk_upd ho e; omega
      · rfl
    exact ⟨hc, hw.shut hk, fun _ h => h⟩
  | succ m ih =>
    intro s o ho hm hc hw
    cases e : s.K o
    · unfold chase
      rw [e]
      have h1 := unk_step (f := f) (g := g) ho e
      obtain ⟨q1, q2, q3⟩ := ih (s.step f g o) (nb (ptn f g o)) (nb_lt hp.even (hp.ptn_lt ho)) (by omega) (hc.step hp ho e) (hw.next hc hp ho e)
      exact ⟨q1, q2, fun x hx => q3 x ((step_K s o x).2 (.inr (.inr hx)))⟩
    · rw [chase_known f g e]
      exact ⟨hc, hw.shut e, fun _ h => h⟩
theorem chase_start {n : Nat} {f g : Nat → Nat} (hp : Prm n f g) {k : Nat} (hk : k < n) {s : Hs} (hc : Core n f g s) (hs : Shut n s) : Core n f g (chase f g (unk n s.K) s k) ∧ Shut n (chase f g (unk n s.K) s k) ∧ (∀ x, s.K x = true → (chase f g (unk n s.K) s k).K x = true) ∧ (chase f g (unk n s.K) s k).K k = true := by
  cases e : s.K k
  · rw [chase_step hp hk e]
    obtain ⟨q1, q2, q3⟩ := chase_way hp (k := k) _ (s.step f g k) (nb (ptn f g k)) (nb_lt hp.even (hp.ptn_lt hk)) (Nat.le_refl _) (hc.step hp hk e) (Way.first hc hp hs hk e)
    exact ⟨q1, q2, fun x hx => q3 x ((step_K s k x).2 (.inr (.inr hx))), q3 k ((step_K s k k).2 (.inr (.inl rfl)))⟩
  · rw [chase_known f g e]
    exact ⟨hc, hs, fun _ h => h, e⟩
theorem halves_ok {n : Nat} {f g : Nat → Nat} (hp : Prm n f g) : ∀ k, k ≤ n → Core n f g (halvesK n f g k) ∧ Shut n (halvesK n f g k) ∧ ∀ x, x < k → (halvesK n f g k).K x = true
  | 0, _ => ⟨Core.none n f g, fun _ _ h => (by cases h), fun x hx => by omega⟩
  | k + 1, hk => by
    obtain ⟨h1, h2, h3⟩ := halves_ok hp k (by omega)
    obtain ⟨q1, q2, q3, q4⟩ := chase_start hp (show k < n by omega) h1 h2
    refine ⟨q1, q2, fun x hx => ?_⟩
    by_cases e : x = k
    · rw [e]; exact q4
    · exact q3 x (h3 x (by omega))
/-- what the halves are: neighbours go different ways, and so do what they get -/
theorem halves_full {n : Nat} {f g : Nat → Nat} (hp : Prm n f g) : (∀ x, x < n → (halvesK n f g n).I (f x) = (halvesK n f g n).O x) ∧ (∀ x, x < n → (halvesK n f g n).O (nb x) = !(halvesK n f g n).O x) ∧ (∀ x, x < n → (halvesK n f g n).I (nb x) = !(halvesK n f g n).I x) := by
  obtain ⟨hc, hs, hk⟩ := halves_ok hp n (Nat.le_refl _)
  refine ⟨hc.e, fun x hx => (hs x hx (hk x hx)).2, fun x hx => ?_⟩
  have h1 := hp.glt x hx
  have h2 := hc.e (ptn f g (g x)) (hp.ptn_lt h1)
  rw [hp.f_ptn h1, hp.fg x hx, hc.c _ h1 (hk _ h1)] at h2
  have h3 := hc.e (g x) h1
  rw [hp.fg x hx] at h3
  rw [h2, h3]
end Go.Proofs.YtnmkficfbnnakaaDoor
