/- sending a list through switches: plain functions -/
import Derived.Test.YtnmkficfbnnakaaDoorRes
import Derived.Test.YtnmkficfbnnakaaDoorPerm
namespace Go.Proofs.YtnmkficfbnnakaaDoor
open Go.RowKit
def bI (s : List Bool) (k : Nat) : Bool := s[k]?.getD false
def iI (l : List Int) (k : Nat) : Int := l[k]?.getD 0
theorem bv_bI (s : List Bool) (k : Nat) : bv s k = .bool (bI s k) := rfl
theorem iv_iI (l : List Int) (k : Nat) : iv l k = .int .i64 (iI l k) := rfl
/-- what the half b gets at its place j -/
def hv (s : List Bool) (l : List Int) (b j : Nat) : Int := iI l (2 * j + (if bI s j then 1 - b else b))
/-- what comes out at place j -/
def mixF (h c : Nat) (s : List Bool) (u v : List Int) (j : Nat) : Int := if (bI s (h + 2 * c + j / 2)) != (j % 2 == 1) then iI v (j / 2) else iI u (j / 2)
def stepV (h c : Nat) (g : List Bool → List Int → List Int) (s : List Bool) (l : List Int) : List Int :=
  tab (2 * h) (mixF h c s (g ((s.drop h).take c) (tab h (hv s l 0))) (g ((s.drop (h + c)).take c) (tab h (hv s l 1))))
def swap1 (s : List Bool) (l : List Int) : List Int := if bI s 0 then [iI l 1, iI l 0] else l
def send4 : List Bool → List Int → List Int := stepV 2 1 swap1
def send8 : List Bool → List Int → List Int := stepV 4 6 send4
def sendV (s : List Bool) (l : List Int) : List Int := if l.length = 1 then l else if l.length = 2 then swap1 s l else if l.length = 4 then send4 s l else send8 s l
theorem swap1_len (s : List Bool) (l : List Int) (h : l.length = 2) : (swap1 s l).length = 2 := by unfold swap1; split <;> simp [h]
theorem stepV_len (h c : Nat) (g : List Bool → List Int → List Int) (s : List Bool) (l : List Int) : (stepV h c g s l).length = 2 * h := by unfold stepV; simp
theorem mix_even {h c : Nat} {s : List Bool} {u v : List Int} (k : Nat) : mixF h c s u v (2 * k) = if bI s (h + 2 * c + k) then iI v k else iI u k := by
  unfold mixF
  rw [show 2 * k / 2 = k by omega, show (2 * k % 2 == 1) = false by simp]
  cases bI s (h + 2 * c + k) <;> rfl
theorem mix_odd {h c : Nat} {s : List Bool} {u v : List Int} (k : Nat) : mixF h c s u v (2 * k + 1) = if bI s (h + 2 * c + k) then iI u k else iI v k := by
  unfold mixF
  rw [show (2 * k + 1) / 2 = k by omega, show ((2 * k + 1) % 2 == 1) = true by simp]
  cases bI s (h + 2 * c + k) <;> rfl
theorem tab_two {n : Nat} {f : Nat → Int} {x y : Int} (hx : f n = x) (hy : f (n + 1) = y) : ints (tab n f) ++ [.int .i64 x, .int .i64 y] = ints (tab (n + 2) f) := by
  simp [ints, tab, List.range_succ, hx, hy]
theorem tab_one {n : Nat} {f : Nat → Int} {x : Int} (hx : f n = x) : ints (tab n f) ++ [.int .i64 x] = ints (tab (n + 1) f) := by
  simp [ints, tab, List.range_succ, hx]
/-- a part of a slice -/
theorem view_sub {w : World} {ab : Option Addr} {N cb lo hi : Nat} {cs : List Value} (h : View w 1 (.slice ab N cb) N cs) (h1 : lo ≤ hi) (h2 : hi ≤ N) : View w 1 (.slice (if cb = lo then ab else Option.map (fun x => x.add lo) ab) (hi - lo) (cb - lo)) (hi - lo) ((cs.drop lo).take (hi - lo)) := by
  obtain ⟨q1, q2, q3⟩ := h
  refine ⟨by rw [List.length_take, List.length_drop]; omega, by omega, ?_⟩
  by_cases h0 : hi = lo
  · subst h0; exact .inl ⟨by omega, _, _, by rw [Nat.sub_self]⟩
  · rcases q3 with ⟨q3, _⟩ | ⟨q3, b, off, c, hv, hc, hcell⟩
    · omega
    · cases hv
      refine .inr ⟨by omega, b, off + lo, cb - lo, ?_, by omega, fun i u hu => ?_⟩
      · rw [if_neg (by omega)]
        by_cases e : lo = 0
        · subst e; simp [Addr.add]
        · simp [Addr.add, e]
      · have hi' : (cs.drop lo)[i]? = some u := by
          rw [List.getElem?_take] at hu
          split at hu
          · exact hu
          · cases hu
        rw [List.getElem?_drop] at hi'
        have := hcell _ u hi'
        rwa [show off + (lo + i) = off + lo + i by omega] at this
theorem bools_sub {w : World} {ab : Option Addr} {N cb lo hi : Nat} {s : List Bool} (h : View w 1 (.slice ab N cb) N (bools s)) (hl : s.length = N) (h1 : lo ≤ hi) (h2 : hi ≤ N) : Bools w (.slice (if cb = lo then ab else Option.map (fun x => x.add lo) ab) (hi - lo) (cb - lo)) ((s.drop lo).take (hi - lo)) := by
  have := view_sub h h1 h2
  unfold Bools
  have e : ((s.drop lo).take (hi - lo)).length = hi - lo := by rw [List.length_take, List.length_drop]; omega
  rw [e]
  simpa [bools, List.map_drop, List.map_take] using this
/-- two rows that grow in turn, in a table at block g0 -/
def Grd (e : TypeId) (wr : World) (g0 B M : Nat) (f : Nat → List Int) : Prop := ∃ vs : Nat → Value, Row wr g0 e (tab M vs) ∧
  ∀ b, b < M → Gr wr B 3 1 (vs b) (f b).length (ints (f b)) ∧ gBlock (vs b) ≠ some g0 ∧ ∀ c, c < M → c ≠ b → ∀ g, gBlock (vs c) = some g → gBlock (vs b) ≠ some g
theorem Grd.congr {e : TypeId} {wr g0 B M f g} (h : Grd e wr g0 B M f) (q : ∀ b, b < M → f b = g b) : Grd e wr g0 B M g := by
  obtain ⟨vs, h1, h2⟩ := h
  exact ⟨vs, h1, fun b hb => by rw [← q b hb]; exact h2 b hb⟩
theorem Grd.drew {e : TypeId} {wr g0 B M f} (h : Grd e wr g0 B M f) : Grd e wr.drew g0 B M f := by
  obtain ⟨vs, h1, h2⟩ := h
  exact ⟨vs, h1, fun b hb => ⟨(h2 b hb).1.mono ((Below.refl wr.heap.size wr).drew) (Nat.le_refl _), (h2 b hb).2⟩⟩
theorem Grd.at {e : TypeId} {wr : World} {g0 B M : Nat} {f : Nat → List Int} (h : Grd e wr g0 B M f) {z : Nat} (hz : z < M) : ∃ a c, wr.cell? ⟨g0, z, none⟩ = some (.slice a (f z).length c) ∧
    Gr wr B 3 1 (.slice a (f z).length c) (f z).length (ints (f z)) ∧ ∀ (o : Obj) (v1 : Value) (w1 : World) (l' : List Int) (n' : Nat), n' = l'.length → Gr w1 B 3 1 v1 n' (ints l') → (wr.alloc o).grownBy w1 (gBlock (.slice a (f z).length c)) →
      (gBlock v1 = gBlock (.slice a (f z).length c) ∨ gBlock v1 = some (wr.alloc o).heap.size) →
      w1.cell? ⟨g0, z, none⟩ = some (.slice a (f z).length c) ∧ w1.frozen? ⟨g0, z, none⟩ = false ∧ Grd e (w1.setCell ⟨g0, z, none⟩ v1) g0 B M (fun b => if b = z then l' else f b) := by
  obtain ⟨vs, h1, h2⟩ := h
  obtain ⟨h3, h4, h5⟩ := h2 z hz
  obtain ⟨a, c, hv⟩ := h3.lit
  have hc := h1.cell (tab_get vs hz)
  have hg0 := h1.lt
  rw [hv] at hc
  refine ⟨a, c, hc, hv ▸ h3, ?_⟩
  intro o v1 w1 l' n' hn g1 r1 k1
  subst hn
  rw [← hv] at r1 k1 ⊢
  have hr1 : Row w1 g0 e (tab M vs) := (h1.alloc o).grown r1 h4
  have hsz : (wr.alloc o).heap.size = wr.heap.size + 1 := by simp
  have hv1 : gBlock v1 ≠ some g0 := by
    rcases k1 with q | q
    · rw [q]; exact h4
    · rw [q, hsz]; exact fun q => by cases q; omega
  have hkeep : ∀ {x : Value} {l : List Int}, Gr w1 B 3 1 x l.length (ints l) → gBlock x ≠ some g0 → Gr (w1.setCell ⟨g0, z, none⟩ v1) B 3 1 x l.length (ints l) := fun hx hne =>
    hx.kept (set_other w1 ⟨g0, z, none⟩ v1 rfl) (fun g hg he => by cases he; exact hne hg)
  refine ⟨by rw [← hv] at hc; exact hr1.cell (tab_get vs hz), hr1.free z, fun b => if b = z then v1 else vs b, ?_, fun b hb => ?_⟩
  · rw [← tab_set]; exact hr1.set z v1
  · have hold : ∀ b, b < M → b ≠ z → Gr w1 B 3 1 (vs b) (f b).length (ints (f b)) := fun b hb hbz => ((h2 b hb).1.alloc o).kept r1 (fun g hg he => h5 b hb hbz g hg he)
    by_cases q : b = z
    · subst q
      simp only [if_true]
      refine ⟨hkeep g1 hv1, hv1, fun c hc hne g hg hg2 => ?_⟩
      rw [if_neg hne] at hg
      rcases k1 with q | q
      · rw [q] at hg2; exact h5 c hc hne g hg hg2
      · rw [q] at hg2
        have := ((h2 c hc).1.lt g hg).2
        cases hg2
        omega
    · simp only [if_neg q]
      refine ⟨hkeep (hold b hb q) (h2 b hb).2.1, (h2 b hb).2.1, fun c hc hne g hg hg2 => ?_⟩
      by_cases ec : c = z
      · rw [if_pos ec] at hg
        rcases k1 with e1 | e1
        · rw [e1] at hg; exact h5 b hb q g hg2 hg
        · rw [e1] at hg
          have := ((h2 b hb).1.lt g hg2).2
          cases hg
          omega
      · rw [if_neg ec] at hg
        exact (h2 b hb).2.2 c hc hne g hg hg2
theorem Grd.new {e : TypeId} {wr : World} {g0 B M : Nat} (h : Row wr g0 e (tab M (fun _ => .slice none 0 0))) : Grd e wr g0 B M (fun _ => []) :=
  ⟨_, h, fun b _ => ⟨Gr.nil _ _ _ _, (fun h => by simp [gBlock] at h), fun c _ _ g hg => by simp [gBlock] at hg⟩⟩
theorem Grd.view {e : TypeId} {wr : World} {g0 B M : Nat} {f : Nat → List Int} (h : Grd e wr g0 B M f) {z : Nat} (hz : z < M) : ∃ v, wr.cell? ⟨g0, z, none⟩ = some v ∧ Ints wr v (f z) := by
  obtain ⟨vs, h1, h2⟩ := h
  exact ⟨_, h1.cell (tab_get vs hz), (h2 z hz).1.view⟩
end Go.Proofs.YtnmkficfbnnakaaDoor
