/- what FillBins gives: plain lemmas; rows that grow in turn -/
import Derived.Test.YtkekacnnjmbelaaDoorBins
import Derived.Test.YtkekacnnjmbelaaDoorIntSS
namespace Go.Proofs.YtkekacnnjmbelaaDoor
open Go.RowKit
/-- the values of bin b among the first k -/
def binL (vs bs : List Int) (b : Nat) : Nat → List Int
  | 0 => []
  | k + 1 => if bs[k]?.getD 0 = (b : Int) then binL vs bs b k ++ [vs[k]?.getD 0] else binL vs bs b k
theorem binL_length (vs bs : List Int) (b : Nat) : ∀ k, k ≤ bs.length → (binL vs bs b k).length = (bs.take k).count (b : Int)
  | 0, _ => by simp [binL]
  | k + 1, h => by
    have ih := binL_length vs bs b k (by omega)
    have hk : k < bs.length := by omega
    have e : bs[k]?.getD 0 = bs[k] := by simp [hk]
    rw [List.take_succ_eq_append_getElem hk, List.count_append, List.count_singleton, binL, e]
    by_cases hb : bs[k] = (b : Int)
    · rw [if_pos hb, List.length_append, ih, if_pos (by simpa using hb)]; rfl
    · rw [if_neg hb, ih, if_neg (by simpa using hb)]; rfl
theorem binL_hit {vs bs : List Int} {b k : Nat} (h : bs[k]?.getD 0 = (b : Int)) : binL vs bs b (k + 1) = binL vs bs b k ++ [vs[k]?.getD 0] := by rw [binL, if_pos h]
theorem binL_miss {vs bs : List Int} {b k : Nat} (h : ¬ bs[k]?.getD 0 = (b : Int)) : binL vs bs b (k + 1) = binL vs bs b k := by rw [binL, if_neg h]
theorem binL_mono (vs bs : List Int) (b : Nat) {k n : Nat} (h : k ≤ n) : (binL vs bs b k).length ≤ (binL vs bs b n).length := by
  induction n with
  | zero => obtain rfl : k = 0 := by omega
            exact Nat.le_refl _
  | succ n ih =>
    by_cases e : k = n + 1
    · subst e; exact Nat.le_refl _
    · refine Nat.le_trans (ih (by omega)) ?_
      rw [binL]; split <;> simp
def valOk (vs bs : List Int) (m : Int) (k : Nat) : Bool := inB (vs[k]?.getD 0) 0 100000 && inB (bs[k]?.getD 0) 0 (m - 1)
def roomOk (vs bs : List Int) (r : Int) (b : Nat) : Bool := decide (((binL vs bs b vs.length).length : Int) ≤ r)
def fillB (vs bs : List Int) (m r : Int) : Bool := decide (vs.length = bs.length) && (inB m 1 8 && (inB r 1 16 && ((List.range vs.length).all (valOk vs bs m) && (List.range m.toNat).all (roomOk vs bs r))))
theorem fillB_iff {vs bs : List Int} {m r : Int} : fillB vs bs m r = true ↔ vs.length = bs.length ∧ inB m 1 8 = true ∧ inB r 1 16 = true ∧ (∀ k, k < vs.length → valOk vs bs m k = true) ∧ ∀ b, b < m.toNat → roomOk vs bs r b = true := by
  simp only [fillB, Bool.and_eq_true, decide_eq_true_eq, List.all_eq_true, List.mem_range]
theorem fillB_no {vs bs : List Int} {m r : Int} (h : fillB vs bs m r = true → False) : fillB vs bs m r = false := by
  cases e : fillB vs bs m r
  · rfl
  · exact absurd e (fun e => h e)
theorem valOk_iff {vs bs : List Int} {m : Int} {k : Nat} : valOk vs bs m k = true ↔ inB (vs[k]?.getD 0) 0 100000 = true ∧ inB (bs[k]?.getD 0) 0 (m - 1) = true := by simp only [valOk, Bool.and_eq_true]
/-- pigeons -/
theorem fill_small {bs : List Int} {M R : Nat} (h : ∀ x ∈ bs, 0 ≤ x ∧ x < (M : Int)) (hr : ∀ b, b < M → bs.count (b : Int) ≤ R) : bs.length ≤ M * R := by
  have key : ∀ k, k ≤ M → cumC bs k ≤ k * R := by
    intro k
    induction k with
    | zero => intro _; rw [cumC_zero (fun x hx => (h x hx).1)]; omega
    | succ k ih =>
      intro hk
      have := ih (by omega)
      have := hr k (by omega)
      rw [cumC_step, Nat.add_mul]; omega
  have := key M (Nat.le_refl _)
  rwa [cumC_all (fun x hx => (h x hx).2)] at this
theorem fill_bins {vs bs : List Int} {m r : Int} (h : fillB vs bs m r = true) : binsOk bs m = true := by
  obtain ⟨h1, h2, h3, h4, h5⟩ := fillB_iff.1 h
  have hm := inB_iff.1 h2
  have hr := inB_iff.1 h3
  have hb : ∀ k, k < bs.length → binOk bs m k = true := fun k hk => (valOk_iff.1 (h4 k (by omega))).2
  refine binsOk_mk hm.1 hm.2 ?_ hb
  have hx := binOk_at hb
  have := fill_small (bs := bs) (M := m.toNat) (R := r.toNat) (fun x hx' => by have := hx x hx'; omega) (fun b hb' => by
    have h6 := h5 b hb'
    simp only [roomOk, decide_eq_true_eq] at h6
    rw [binL_length _ _ _ _ (by omega), h1, List.take_of_length_le (Nat.le_refl _)] at h6
    omega)
  have h7 : m.toNat * r.toNat ≤ 8 * 16 := Nat.mul_le_mul (by omega) (by omega)
  omega
/-- filled up with -1 -/
def padTo (l : List Int) (r : Nat) : List Int := l ++ List.replicate (r - l.length) (-1)
theorem padTo_full {l : List Int} {r : Nat} (h : r ≤ l.length) : padTo l r = l := by unfold padTo; rw [show r - l.length = 0 by omega]; simp
theorem padTo_length {l : List Int} {r : Nat} (h : l.length ≤ r) : (padTo l r).length = r := by unfold padTo; simp; omega
def fillN (vs bs : List Int) (m r : Int) : Nat := if fillB vs bs m r then m.toNat else 0
def fillF (vs bs : List Int) (r : Int) (b : Nat) : List Int := padTo (binL vs bs b vs.length) r.toNat
theorem fillN_le (vs bs : List Int) (m r : Int) : fillN vs bs m r ≤ 8 := by
  unfold fillN; split
  · rename_i h
    have := inB_iff.1 (fillB_iff.1 h).2.1
    omega
  · omega
theorem fillF_le {vs bs : List Int} {m r : Int} : ∀ b, b < fillN vs bs m r → (fillF vs bs r b).length ≤ 16 := by
  intro b hb
  unfold fillN at hb
  split at hb
  · rename_i h
    have h1 := fillB_iff.1 h
    have h3 := inB_iff.1 h1.2.2.1
    have h6 := h1.2.2.2.2 b hb
    simp only [roomOk, decide_eq_true_eq] at h6
    unfold fillF
    rw [padTo_length (by omega)]; omega
  · omega
/-- rows that grow in turn, in a table at block g0 -/
def Grid (wr : World) (g0 B M : Nat) (f : Nat → List Int) : Prop := ∃ vs : Nat → Value, Row wr g0 31 (tab M vs) ∧
  ∀ b, b < M → Gr wr B 3 1 (vs b) (f b).length (ints (f b)) ∧ gBlock (vs b) ≠ some g0 ∧ ∀ c, c < M → c ≠ b → ∀ g, gBlock (vs c) = some g → gBlock (vs b) ≠ some g
theorem Grid.congr {wr g0 B M f g} (h : Grid wr g0 B M f) (e : ∀ b, b < M → f b = g b) : Grid wr g0 B M g := by
  obtain ⟨vs, h1, h2⟩ := h
  exact ⟨vs, h1, fun b hb => by rw [← e b hb]; exact h2 b hb⟩
theorem set_other (w : World) (p : Addr) (u : Value) (hp : p.spot = none) : w.grownBy (w.setCell p u) (some p.block) := by
  obtain ⟨g, i, s⟩ := p
  cases hp
  exact grown_set (grown_refl _ _) _ _
theorem Grid.at {wr : World} {g0 B M : Nat} {f : Nat → List Int} (h : Grid wr g0 B M f) (hB : B ≤ g0) {z : Nat} (hz : z < M) : ∃ a c, wr.cell? ⟨g0, z, none⟩ = some (.slice a (f z).length c) ∧
    Gr wr B 3 1 (.slice a (f z).length c) (f z).length (ints (f z)) ∧ ∀ (o : Obj) (v1 : Value) (w1 : World) (l' : List Int) (n' : Nat), n' = l'.length → Gr w1 B 3 1 v1 n' (ints l') → (wr.alloc o).grownBy w1 (gBlock (.slice a (f z).length c)) →
      (gBlock v1 = gBlock (.slice a (f z).length c) ∨ gBlock v1 = some (wr.alloc o).heap.size) →
      w1.cell? ⟨g0, z, none⟩ = some (.slice a (f z).length c) ∧ w1.frozen? ⟨g0, z, none⟩ = false ∧ Grid (w1.setCell ⟨g0, z, none⟩ v1) g0 B M (fun b => if b = z then l' else f b) := by
  obtain ⟨vs, h1, h2⟩ := h
  obtain ⟨h3, h4, h5⟩ := h2 z hz
  obtain ⟨a, c, hv⟩ := h3.lit
  have hc := h1.cell (tab_get vs hz)
  have hg0 := h1.lt
  rw [hv] at hc
  refine ⟨a, c, hc, hv ▸ h3, ?_⟩
  intro o v1 w1 l' n' hn g1 r1 k1
  subst hn
  rw [← hv] at r1 k1 ⊢
  have hr1 : Row w1 g0 31 (tab M vs) := (h1.alloc o).grown r1 h4
  have hsz : (wr.alloc o).heap.size = wr.heap.size + 1 := by simp
  have hv1 : gBlock v1 ≠ some g0 := by
    rcases k1 with e | e
    · rw [e]; exact h4
    · rw [e, hsz]; exact fun e => by cases e; omega
  have hkeep : ∀ {x : Value} {l : List Int}, Gr w1 B 3 1 x l.length (ints l) → gBlock x ≠ some g0 → Gr (w1.setCell ⟨g0, z, none⟩ v1) B 3 1 x l.length (ints l) := fun hx hne =>
    hx.kept (set_other w1 ⟨g0, z, none⟩ v1 rfl) (fun g hg he => by cases he; exact hne hg)
  refine ⟨by rw [← hv] at hc; exact hr1.cell (tab_get vs hz), hr1.free z, fun b => if b = z then v1 else vs b, ?_, fun b hb => ?_⟩
  · rw [← tab_set]; exact hr1.set z v1
  · have hold : ∀ b, b < M → b ≠ z → Gr w1 B 3 1 (vs b) (f b).length (ints (f b)) := fun b hb hbz => ((h2 b hb).1.alloc o).kept r1 (fun g hg he => h5 b hb hbz g hg he)
    by_cases e : b = z
    · subst e
      simp only [if_true]
      refine ⟨hkeep g1 hv1, hv1, fun c hc hne g hg hg2 => ?_⟩
      rw [if_neg hne] at hg
      rcases k1 with e | e
      · rw [e] at hg2; exact h5 c hc hne g hg hg2
      · rw [e] at hg2
        have := ((h2 c hc).1.lt g hg).2
        cases hg2
        omega
    · simp only [if_neg e]
      refine ⟨hkeep (hold b hb e) (h2 b hb).2.1, (h2 b hb).2.1, fun c hc hne g hg hg2 => ?_⟩
      by_cases ec : c = z
      · rw [if_pos ec] at hg
        rcases k1 with e1 | e1
        · rw [e1] at hg; exact h5 b hb e g hg2 hg
        · rw [e1] at hg
          have := ((h2 b hb).1.lt g hg2).2
          cases hg
          omega
      · rw [if_neg ec] at hg
        exact (h2 b hb).2.2 c hc hne g hg hg2
theorem Grid.own {wr : World} {g0 B M : Nat} {f : Nat → List Int} (h : Grid wr g0 B M f) (hB : B ≤ g0) (hM : 0 < M) (hm : M ≤ maxLen) : OwnSS wr B (.slice (some ⟨g0, 0, none⟩) M M) M f := by
  obtain ⟨vs, h1, h2⟩ := h
  obtain ⟨gs, hgs⟩ := Classical.skolem.1 (fun b => (show ∃ g : Option Nat, b < M → OwnI wr g (vs b) (f b) ∧ From B g ∧ ∀ x, g = some x → gBlock (vs b) = some x from by
    by_cases hb : b < M
    · obtain ⟨g, k1, k2, k3⟩ := (h2 b hb).1.own
      exact ⟨g, fun _ => ⟨k1, k2, k3⟩⟩
    · exact ⟨none, fun h => absurd h hb⟩))
  refine ⟨vs, gs, some g0, Own.of_row h1 (by simp) hm (Nat.le_refl _) hM, fun g hg => by cases hg; exact hB, fun b hb => ?_⟩
  obtain ⟨k1, k2, k3⟩ := hgs b hb
  refine ⟨k1, k2, fun g e1 e2 => ?_, fun c hc hne g e1 e2 => ?_⟩
  · cases e1; exact (h2 b hb).2.1 (k3 _ e2)
  · exact (h2 b hb).2.2 c hc hne g ((hgs c hc).2.2 g e1) (k3 g e2)
theorem Grid.new {wr : World} {g0 B M : Nat} (h : Row wr g0 31 (tab M (fun _ => .slice none 0 0))) : Grid wr g0 B M (fun _ => []) :=
  ⟨_, h, fun b _ => ⟨Gr.nil _ _ _ _, (fun h => by simp [gBlock] at h), fun c _ _ g hg => by simp [gBlock] at hg⟩⟩
/-- the rows before b are filled up, row b but for gk places -/
def padS (L : Nat → List Int) (R b gk i : Nat) : List Int := if i < b then padTo (L i) R else if i = b then L b ++ List.replicate (R - (L b).length - gk) (-1) else L i
theorem padS_len {L : Nat → List Int} {R b gk : Nat} (h : (L b).length ≤ R) (hg : gk ≤ R - (L b).length) : (padS L R b gk b).length = R - gk := by
  unfold padS; rw [if_neg (Nat.lt_irrefl _), if_pos rfl]; simp; omega
theorem padS_step {L : Nat → List Int} {R b g : Nat} (hg : g + 1 ≤ R - (L b).length) (i : Nat) : (if i = b then padS L R b (g + 1) b ++ [-1] else padS L R b (g + 1) i) = padS L R b g i := by
  unfold padS
  by_cases h : i = b
  · subst h
    rw [if_pos rfl, if_neg (Nat.lt_irrefl _), if_pos rfl, if_neg (Nat.lt_irrefl _), if_pos rfl, List.append_assoc, ← List.replicate_succ', show R - (L i).length - (g + 1) + 1 = R - (L i).length - g by omega]
  · rw [if_neg h]
    by_cases h2 : i < b
    · rw [if_pos h2, if_pos h2]
    · rw [if_neg h2, if_neg h, if_neg h2, if_neg h]
theorem padS_start {L : Nat → List Int} {R b : Nat} (i : Nat) : padS L R b (R - (L b).length) i = if i < b then padTo (L i) R else L i := by
  unfold padS
  by_cases h2 : i < b
  · rw [if_pos h2, if_pos h2]
  · rw [if_neg h2, if_neg h2]
    by_cases h : i = b
    · subst h; simp
    · rw [if_neg h]
theorem padS_end {L : Nat → List Int} {R b : Nat} (i : Nat) : padS L R b 0 i = if i < b + 1 then padTo (L i) R else L i := by
  unfold padS
  by_cases h2 : i < b
  · rw [if_pos h2, if_pos (by omega)]
  · rw [if_neg h2]
    by_cases h : i = b
    · subst h; rw [if_pos rfl, if_pos (by omega)]; unfold padTo; simp
    · rw [if_neg h, if_neg (by omega)]
/-- a table and a bool -/
def OwnPost (n : Nat) (f : Nat → List Int) (t : Bool) (w : World) (e : Ending) (w' : World) : Prop := ∃ u, e = .returned (.tuple #[u, .bool t]) ∧ OwnSS w' w.heap.size u n f ∧ Below w.heap.size w w'
def ReadPost (n : Nat) (f : Nat → List Int) (t : Bool) (w : World) (e : Ending) (w' : World) : Prop := ∃ u, e = .returned (.tuple #[u, .bool t]) ∧ IntSS w' u n f ∧ Below w.heap.size w w'
theorem OwnSS.zero (w : World) (B : Nat) (a : Option Addr) (c : Nat) (f : Nat → List Int) : OwnSS w B (.slice a 0 c) 0 f := ⟨fun _ => .slice none 0 0, fun _ => none, none, ⟨rfl, Nat.zero_le _, .inl ⟨rfl, rfl, _, _, rfl⟩⟩, From.none _, fun i hi => by omega⟩
end Go.Proofs.YtkekacnnjmbelaaDoor
