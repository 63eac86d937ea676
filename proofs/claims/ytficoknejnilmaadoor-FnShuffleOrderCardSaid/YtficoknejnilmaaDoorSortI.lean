/- contract of the library's insertion sort, over a whole block of places ordered by tags -/
import Derived.Test.YtficoknejnilmaaDoorSortW
namespace Go.Proofs.YtficoknejnilmaaDoor
open Go.RowKit
/-- the comparison: it reads only, in every world that is w0 but for the block g -/
def CmpC (f : FuncId) (p : Value) (w0 : World) (g n : Nat) (t : Nat → Int) : Prop := ∀ W, w0.grownBy W (some g) → ∀ x y : Nat, x < n → y < n →
  Calls Tryd.prog f #[.int .i64 x, .int .i64 y, p] W fun e w' => e = .returned (.int .i64 (cmpI (t x) (t y))) ∧ ∃ q, w' = W.drewN q
theorem Mv.bd {a b n : Nat} {X Y : Nat → Nat} (h : Mv a b X Y) (hb : b ≤ n) (hX : ∀ i, i < n → X i < n) : ∀ i, i < n → Y i < n := by
  obtain ⟨s, h1, h2, _, h4⟩ := h
  intro i hi
  rw [h4]
  by_cases q : a ≤ i ∧ i < b
  · have := h1 i q.1 q.2; exact hX _ (by omega)
  · rw [h2 i (by omega)]; exact hX _ hi
/-- the new one stands at j, all behind it are greater -/
def Inn (t : Nat → Int) (Y : Nat → Nat) (j i : Nat) : Prop := ∀ l, j ≤ l → l < i → t (Y i) < t (Y l)
theorem Inn.stop {t : Nat → Int} {Y : Nat → Nat} {a j i : Nat} (h : Inn t Y j i) (haj : a ≤ j) (hji : j ≤ i) (hA : Asc t Y a i) (hp : ∀ l, a ≤ l → l < i → Y l < Y i) (hs : j = a ∨ t (Y (j - 1)) ≤ t (Y i)) : Asc t (rot j i (i + 1) Y) a (i + 1) := by
  have hlow : ∀ l, a ≤ l → l < j → Lx t (Y l) (Y i) := fun l h1 h2 => by
    have hs : t (Y (j - 1)) ≤ t (Y i) := by omega
    have hle : t (Y l) ≤ t (Y (j - 1)) := by
      by_cases e : l = j - 1
      · rw [e]; exact Int.le_refl _
      · exact (hA l (j - 1) h1 (by omega) (by omega)).le
    have := hp l h1 (by omega)
    unfold Lx; omega
  intro k l hk hkl hl
  by_cases c1 : l < j
  · rw [rot_at1 (by omega), rot_at1 c1]; exact hA _ _ hk hkl (by omega)
  · by_cases c2 : l = j
    · subst c2
      rw [rot_at1 (by omega), rot_at2 (by omega) (by omega) (by omega) (by omega), show l + (i - l) = i by omega]
      exact hlow k hk hkl
    · rw [show rot j i (i + 1) Y l = Y (l - 1) by rw [rot_at3 (by omega) (by omega) (by omega) (by omega)]; congr 1; omega]
      by_cases c3 : k < j
      · rw [rot_at1 c3]; exact hA _ _ hk (by omega) (by omega)
      · by_cases c4 : k = j
        · subst c4
          rw [rot_at2 (by omega) (by omega) (by omega) (by omega), show k + (i - k) = i by omega]
          exact .inl (h (l - 1) (by omega) (by omega))
        · rw [show rot j i (i + 1) Y k = Y (k - 1) by rw [rot_at3 (by omega) (by omega) (by omega) (by omega)]; congr 1; omega]
          exact hA _ _ (by omega) (by omega) (by omega)
set_option maxHeartbeats 1000000 in
theorem insertion_any (w0 w : World) (g n c : Nat) (X : Nat → Nat) (r : List Value) (a b : Nat) (f : FuncId) (p : Value) (t : Nat → Int) (ef : f = 23) (h : Srt w0 w g n X r) (hC : CmpC f p w0 g n t) (hab : a ≤ b) (hb : b ≤ n) (hn : n ≤ 1000000) (hX : ∀ i, i < n → X i < n)
    (hI : ∀ k l, a ≤ k → k < l → l < b → X k < X l) :
    Calls Tryd.prog 32 #[.slice (some ⟨g, 0, none⟩) n c, .int .i64 a, .int .i64 b, .func (.func f) #[] #[p]] w fun e w' => e = .returned (.tuple #[]) ∧ ∃ Y, Srt w0 w' g n Y r ∧ Mv a b X Y ∧ Asc t Y a b := by
  subst ef
  have H := Lib.hid h
  have HC := Lib.hid hC
  have HX := Lib.hid hX
  have HI := Lib.hid hI
  have HBN := Lib.hid hb
  have HAB := Lib.hid hab
  clear h hC hX hI
  have e0 : IntKind.i64.wrap ((a : Int) + 1) = ((a + 1 : Nat) : Int) := wrapF (by omega) (by omega) (by omega)
  go_enter Tryd.func32, Tryd.ntmps32
  go_wp2
  clear e0
  go_loopw [8] (fun vi wr => ∃ (i : Nat) (Y : Nat → Nat), vi = .int .i64 i ∧ a < i ∧ i ≤ b + 1 ∧ Srt w0 wr g n Y r ∧ Hid (Mv a i X Y ∧ (i ≤ b ∨ i = a + 1) ∧ Asc t Y a i)) (fun vi _ => b + 1 - (intOf vi).toNat)
  case atStart => exact ⟨a + 1, X, by go_num, by omega, by omega, H.out, Mv.refl _ _ _, .inr rfl, fun i j h1 h2 h3 => by omega⟩
  case round =>
    obtain ⟨i, Y, rfl, hai, hib, hs, HM⟩ := hrel
    by_cases hlt : i < b
    · have hltz : (i : Int) < (b : Int) := by omega
      have HY : Hid ((∀ l, l < n → Y l < n) ∧ ∀ l, a ≤ l → l < i → Y l < Y i) := by
        refine ⟨HM.out.1.bd (by omega) HX.out, ?_⟩
        obtain ⟨⟨s, h1, h2, _, h4⟩, _, _⟩ := HM.out
        intro l hl hli
        have := h1 l hl hli
        rw [h4, h4, h2 i (by omega)]
        exact HI.out _ _ this.1 this.2 hlt
      have HS := Lib.hid hs
      have hin : i < n := by omega
      clear hs
      go_wp2
      generalize wr = wo at HS ⊢
      go_loopw [9] (fun vj wr => ∃ j : Nat, vj = .int .i64 j ∧ a ≤ j ∧ j ≤ i ∧ Srt w0 wr g n (rot j i (i + 1) Y) r ∧ Hid (Inn t Y j i)) (fun vj _ => (intOf vj).toNat)
      case atStart => exact ⟨i, rfl, by omega, Nat.le_refl _, by rw [show rot i i (i + 1) Y = Y from rot_left Y (.inl rfl) (by omega) (by omega)]; exact HS.out, fun l h1 h2 => by omega⟩
      case round =>
        obtain ⟨j, rfl, haj, hji, hs, HN⟩ := hrel
        have e3 : IntKind.i64.wrap ((i : Int) + 1) = ((i + 1 : Nat) : Int) := wrapF (by omega) (by omega) (by omega)
        have OUT : Hid ((j = a ∨ t (Y (j - 1)) ≤ t (Y i)) → Mv a (i + 1) X (rot j i (i + 1) Y) ∧ (i + 1 ≤ b ∨ i + 1 = a + 1) ∧ Asc t (rot j i (i + 1) Y) a (i + 1)) := fun hh =>
          ⟨(HM.out.1.wide (Nat.le_refl _) (by omega)).trans ((Mv.rot Y hji (by omega)).wide haj (Nat.le_refl _)), .inl hlt, HN.out.stop haj hji HM.out.2.2 HY.out.2 hh⟩
        by_cases hja : a < j
        · obtain ⟨jp, rfl⟩ : ∃ jp, j = jp + 1 := ⟨j - 1, by omega⟩
          obtain ⟨Z, hZ⟩ : ∃ Z, rot (jp + 1) i (i + 1) Y = Z := ⟨_, rfl⟩
          have HZ : Hid (swF Z (jp + 1) jp = rot jp i (i + 1) Y) := by rw [← hZ]; exact rot_one' Y (by omega)
          have hz1 : Z (jp + 1) = Y i := by rw [← hZ, rot_at2 (by omega) (by omega) (by omega) (by omega)]; congr 1; omega
          have hz0 : Z jp = Y jp := by rw [← hZ, rot_at1 (by omega)]
          rw [hZ] at hs OUT
          obtain ⟨x, hx⟩ : ∃ x, Y i = x := ⟨_, rfl⟩
          obtain ⟨y, hy⟩ : ∃ y, Y jp = y := ⟨_, rfl⟩
          rw [hx] at hz1
          rw [hy] at hz0
          have hxn : x < n := by rw [← hx]; exact HY.out.1 i hin
          have hyn : y < n := by rw [← hy]; exact HY.out.1 jp (by omega)
          obtain ⟨j1, hj1⟩ : ∃ j1, j1 = jp + 1 := ⟨_, rfl⟩
          have cj := hs.cell (i := jp + 1) (by omega)
          have cp := hs.cell (i := jp) (by omega)
          have HS := Lib.hid hs
          rw [hz1] at cj
          rw [hz0] at cp
          have HZ1 := Lib.hid hz1
          have HZ0 := Lib.hid hz0
          have HXX := Lib.hid hx
          have HYY := Lib.hid hy
          have fj := hs.free (jp + 1)
          have fp := hs.free jp
          have hwp : IntKind.i64.wrap (jp : Int) = (jp : Int) := wrapF rfl (by omega) (by omega)
          have hwj : IntKind.i64.wrap ((j1 : Int) - 1) = (jp : Int) := wrapF (by omega) (by omega) (by omega)
          have jz : (j1 : Int) < (n : Int) := by omega
          have jz1 : (jp : Int) < (n : Int) := by omega
          have hjaz : (a : Int) < (j1 : Int) := by omega
          have ej : ((jp + 1 : Nat) : Int) = (j1 : Int) := by omega
          have hc := fun m => Calls.quiet_of (HC.out (wr.drewN m) (HS.out.drewN m).1 x y hxn hyn)
          have hne : j1 ≠ jp := by omega
          have hne' : jp ≠ j1 := by omega
          rw [← hj1] at cj fj
          rw [ej]
          have J1 : Hid (j1 = jp + 1) := hj1
          have HHJ : Hid (a < jp + 1 ∧ jp + 1 ≤ i) := ⟨hja, hji⟩
          clear hs hZ hz1 hz0 hx hy hj1 ej hja hji haj
          by_cases hlv : cmpI (t x) (t y) < 0
          · have HLT : Hid (t (Y i) < t (Y jp)) := by rw [HXX.out, HYY.out]; exact cmpI_neg.1 hlv
            go_wp2_with fail
            go_quiet (exact hc _)
            go_wp2_with fail
            have cj2 : (wr.drewN nq).cell? ⟨g, j1, none⟩ = some (.int .i64 (x : Int)) := cj
            have cp2 : (wr.drewN nq).cell? ⟨g, jp, none⟩ = some (.int .i64 (y : Int)) := cp
            have fj2 : (wr.drewN nq).frozen? ⟨g, j1, none⟩ = false := fj
            have fp2 : (wr.drewN nq).frozen? ⟨g, jp, none⟩ = false := fp
            have HS2 : Hid (Srt w0 (wr.drewN nq) g n Z r) := HS.out.drewN nq
            clear cj cp fj fp hc
            generalize wr.drewN nq = wq at cj2 cp2 fj2 fp2 HS2 ⊢
            have HW : Hid (Srt w0 ((wq.setCell ⟨g, j1, none⟩ (.int .i64 (y : Int))).setCell ⟨g, jp, none⟩ (.int .i64 (x : Int))) g n (rot jp i (i + 1) Y) r) := by
              have q := HHJ.out
              have := HS2.out.swap (i := jp + 1) (j := jp) (by omega) (by omega) (by omega)
              rw [HZ.out, HZ1.out, HZ0.out] at this
              rw [J1.out]
              exact this
            go_big_region
            all_goals go_wp2
            all_goals go_roundw
            case rel =>
              have q := HHJ.out
              refine ⟨jp, by go_num, by omega, by omega, HW.out.drew, fun l h1 h2 => ?_⟩
              by_cases e : l = jp
              · rw [e]; exact HLT.out
              · exact HN.out l (by omega) h2
            case measure => have := J1.out; simp [intOf]; omega
          · have hlv' : decide (cmpI (t x) (t y) < 0) = false := by simpa using hlv
            have HLT : Hid (t (Y jp) ≤ t (Y i)) := by show _ ≤ _; rw [HXX.out, HYY.out]; exact Int.not_lt.1 fun q => hlv (cmpI_neg.2 q)
            go_wp2_with fail
            go_quiet (exact hc _)
            go_wp2
            go_roundw
            case rel => exact ⟨i + 1, Z, by go_num, by omega, by omega, HS.out.drewN _, OUT.out (.inr HLT.out)⟩
            case measure => simp [intOf]; omega
        · have hjaz : decide ((j : Int) > (a : Int)) = false := by simp; omega
          have hjaz' : ¬ (a : Int) < (j : Int) := by omega
          have HS := Lib.hid hs
          have HJA : Hid (j = a) := by show _ = _; omega
          clear hs
          go_wp2_with fail
          go_quiet (fail)
          go_wp2
          go_roundw
          case rel => exact ⟨i + 1, _, by go_num, by omega, by omega, HS.out.drewN _, OUT.out (.inl HJA.out)⟩
          case measure => simp [intOf]; omega
    · have hltz : ¬ (i : Int) < (b : Int) := by omega
      have HS := Lib.hid hs
      clear hs
      go_wp2
      go_end0
      refine ⟨rfl, Y, HS.out, ?_⟩
      obtain ⟨q1, q2, q3⟩ := HM.out
      have q4 := HAB.out
      by_cases e : i = b
      · subst e; exact ⟨q1, q3⟩
      · have e1 : a = b := by omega
        subst e1
        have e2 : i = a + 1 := by omega
        subst e2
        refine ⟨?_, fun k l h1 h2 h3 => by omega⟩
        obtain ⟨s, h1, h2, h3, h4⟩ := q1
        have hs : ∀ l, s l = l := fun l => by
          by_cases c : l = a
          · have := h1 l (by omega) (by omega); omega
          · exact h2 l (by omega)
        exact ⟨s, fun l k1 k2 => by omega, fun l _ => hs l, h3, h4⟩
end Go.Proofs.YtficoknejnilmaaDoor
