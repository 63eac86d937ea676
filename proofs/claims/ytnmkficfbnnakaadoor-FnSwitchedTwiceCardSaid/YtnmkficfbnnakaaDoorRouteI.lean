/- contracts of the program's route -/
import Derived.Test.YtnmkficfbnnakaaDoorRouteP
import Derived.Test.YtnmkficfbnnakaaDoorRes
namespace Go.Proofs.YtnmkficfbnnakaaDoor
open Go.RowKit
def BoolsPost (xs : List Bool) (w : World) (e : Ending) (w' : World) : Prop := ∃ u, e = .returned u ∧ Gr w' w.heap.size 4 1 u xs.length (bools xs) ∧ Below w.heap.size w w'
/-- the function F makes of a permutation of n places the switches that r says -/
def Routes (F n : Nat) (r : List Int → List Bool) : Prop := ∀ (v : Value) (p : List Int) (w : World), Ints w v p → PermL n p → Calls Tryd.prog F #[v] w (BoolsPost (r p) w)
theorem bits_nb (a : Nat) (h : a < 8) : bits .xor .i64 (a : Int) 1 = ((nb a : Nat) : Int) := by
  have : a = 0 ∨ a = 1 ∨ a = 2 ∨ a = 3 ∨ a = 4 ∨ a = 5 ∨ a = 6 ∨ a = 7 := by omega
  rcases this with rfl | rfl | rfl | rfl | rfl | rfl | rfl | rfl <;> rfl
def hvS (s : Hs) (x : Nat) : Int := if s.K x then (if s.O x then 1 else 2) else 0
def fvS (g : Nat → Nat) (s : Hs) (i : Nat) : Int := if s.K (g i) then (if s.I i then 1 else 2) else 0
def hR (s : Hs) (x : Nat) : Value := .int .i64 (hvS s x)
def fR (g : Nat → Nat) (s : Hs) (x : Nat) : Value := .int .i64 (fvS g s x)
def gR (g : Nat → Nat) (k i : Nat) : Value := .int .i64 (if g i < k then (g i : Int) else 0)
section
variable {n : Nat} {f g : Nat → Nat} {s : Hs} {x : Nat}
theorem half_step (hp : Prm n f g) (hc : Core n f g s) (hx : x < n) (hk : s.K x = false) : ((tab n (hR s)).set x (.int .i64 1)).set (ptn f g x) (.int .i64 2) = tab n (hR (s.step f g x)) := by
  rw [tab_set, tab_set]
  refine tab_congr fun i hi => ?_
  have hun := hc.un hp hx hk
  unfold hR hvS
  by_cases e1 : i = ptn f g x
  · rw [if_pos e1]
    have h1 : (s.step f g x).K i = true := (step_K s x i).2 (.inl e1)
    have h2 : (s.step f g x).O i = false := by rw [step_O, if_neg (by rw [e1]; exact hp.ptn_ne hx), e1]; exact hc.f _ (hp.ptn_lt hx) hun
    rw [h1, h2]; rfl
  · rw [if_neg e1]
    by_cases e2 : i = x
    · rw [if_pos e2]
      have h1 : (s.step f g x).K i = true := (step_K s x i).2 (.inr (.inl e2))
      have h2 : (s.step f g x).O i = true := by rw [step_O, if_pos e2]
      rw [h1, h2]; rfl
    · rw [if_neg e2]
      have h2 : (s.step f g x).O i = s.O i := by rw [step_O, if_neg e2]
      have h1 : (s.step f g x).K i = s.K i := by
        cases e : s.K i
        · exact (step_Kf s x i).2 ⟨e1, e2, e⟩
        · exact (step_K s x i).2 (.inr (.inr e))
      rw [h1, h2]
theorem from_step (hp : Prm n f g) (hc : Core n f g s) (hx : x < n) (hk : s.K x = false) : ((tab n (fR g s)).set (f x) (.int .i64 1)).set (nb (f x)) (.int .i64 2) = tab n (fR g (s.step f g x)) := by
  rw [tab_set, tab_set]
  refine tab_congr fun i hi => ?_
  have hun := hc.un hp hx hk
  unfold fR fvS
  by_cases e1 : i = nb (f x)
  · rw [if_pos e1]
    have h1 : (s.step f g x).K (g i) = true := (step_K s x _).2 (.inl (by rw [e1]; rfl))
    have h2 : (s.step f g x).I i = false := by
      show upd s.I (f x) true i = false
      rw [upd_ne _ _ (by rw [e1]; exact nb_ne _), e1, ← hp.f_ptn hx, hc.e _ (hp.ptn_lt hx)]
      exact hc.f _ (hp.ptn_lt hx) hun
    rw [h1, h2]; rfl
  · rw [if_neg e1]
    by_cases e2 : i = f x
    · rw [if_pos e2]
      have h1 : (s.step f g x).K (g i) = true := (step_K s x _).2 (.inr (.inl (by rw [e2, hp.gf x hx])))
      have h2 : (s.step f g x).I i = true := by rw [e2]; exact upd_at _ _ _
      rw [h1, h2]; rfl
    · rw [if_neg e2]
      have n1 : g i ≠ ptn f g x := fun e => e1 (by rw [← hp.f_ptn hx, ← e, hp.fg i hi])
      have n2 : g i ≠ x := fun e => e2 (by rw [← e, hp.fg i hi])
      have h2 : (s.step f g x).I i = s.I i := upd_ne _ _ e2
      have h1 : (s.step f g x).K (g i) = s.K (g i) := by
        cases e : s.K (g i)
        · exact (step_Kf s x _).2 ⟨n1, n2, e⟩
        · exact (step_K s x _).2 (.inr (.inr e))
      rw [h1, h2]
theorem gets_step (hp : Prm n f g) {k : Nat} (hk : k < n) : (tab n (gR g k)).set (f k) (.int .i64 (k : Int)) = tab n (gR g (k + 1)) := by
  rw [tab_set]
  refine tab_congr fun i hi => ?_
  unfold gR
  by_cases e : i = f k
  · rw [if_pos e, e, hp.gf k hk, if_pos (by omega)]
  · rw [if_neg e]
    have hne : g i ≠ k := fun e' => e (by rw [← e', hp.fg i hi])
    by_cases h : g i < k
    · rw [if_pos h, if_pos (by omega)]
    · rw [if_neg h, if_neg (by omega)]
theorem gets_zero (n : Nat) (g : Nat → Nat) : tab n (fun _ => Value.int .i64 0) = tab n (gR g 0) := tab_congr fun i _ => by simp [gR]
theorem half_zero (n : Nat) : tab n (fun _ => Value.int .i64 0) = tab n (hR Hs.none) := tab_congr fun i _ => by simp [hR, hvS, Hs.none]
theorem from_zero (n : Nat) (g : Nat → Nat) : tab n (fun _ => Value.int .i64 0) = tab n (fR g Hs.none) := tab_congr fun i _ => by simp [fR, fvS, Hs.none]
end
theorem tab_snocB {n : Nat} {f : Nat → Bool} {x : Bool} (h : f n = x) : bools (tab n f) ++ [.bool x] = bools (tab (n + 1) f) := by simp [bools, tab, List.range_succ, h]
theorem route_1 : Routes 26 1 (fun _ => []) := by
  intro v p w h hp
  have hl := hp.1
  obtain ⟨ad, c, hv, _, _⟩ := h.open
  rw [hl] at hv
  subst hv
  have HF : Hid (BoolsPost [] w (.returned (.slice none 0 0)) w) := ⟨_, rfl, Gr.nil _ _ _ _, Below.refl _ _⟩
  clear hl h hp
  go_enter Tryd.func26, Tryd.ntmps26
  go_wp2
  go_ret
  exact HF.out
theorem route_2 : Routes 26 2 route2 := by
  intro v p w h hp
  have hl := hp.1
  obtain ⟨ad, c, hv, _, hop⟩ := h.open
  rw [hl] at hv
  subst hv
  obtain ⟨b, off, rfl, hcell⟩ := hop 0 (by omega)
  have k0 := hcell 0 (by omega)
  rw [iv_iI, Nat.add_zero] at k0
  obtain ⟨x, hx⟩ : ∃ x, iI p 0 = x := ⟨_, rfl⟩
  obtain ⟨t, ht⟩ : ∃ t, (x == 1) = t := ⟨_, rfl⟩
  rw [hx] at k0
  have HF : Hid (BoolsPost (route2 p) w (.returned (.slice (some ⟨w.heap.size, 0, none⟩) 1 1)) (w.alloc (.cells #[.bool t] 4))) := by
    unfold Hid route2
    rw [hx, ht]
    exact ⟨_, rfl, Gr.of_made (Row.new w 4 (bools [t])) rfl (by unfold maxLen; omega) (Nat.le_refl _), (Below.refl _ _).alloc (Nat.le_refl _) _⟩
  clear hl h hp hop hcell hx
  go_enter Tryd.func26, Tryd.ntmps26
  go_wp2
  go_ret
  exact HF.out
set_option maxHeartbeats 20000000 in
set_option maxRecDepth 20000 in
theorem route_step_any (h m : Nat) (hh : h = 2 ∨ h = 4) (r : List Int → List Bool) (hm : m ≤ 6) (hlen : ∀ q, PermL h q → (r q).length = m) (IH : Routes 26 h r) : Routes 26 (2 * h) (stepR h r) := by
  obtain ⟨i0, hi, hz0, hz1, hz2⟩ := info_parts Tryd.infoInt
  intro v p w hI hp
  have hl := hp.1
  have HP := Lib.hid (hp.prm (show 2 * h % 2 = 0 by omega))
  have HPL := Lib.hid hp
  have HIH := Lib.hid IH
  have HLEN := Lib.hid hlen
  obtain ⟨n, hn⟩ : ∃ n, 2 * h = n := ⟨_, rfl⟩
  rw [hn] at hl HP
  have hn1 : n ≤ 2 * h := by omega
  have hn2 : 2 * h ≤ n := by omega
  have hn3 : n ≤ 8 := by omega
  have hn4 : 4 ≤ n := by omega
  have HN := Lib.hid hn
  obtain ⟨ad, c, hv, _, hop⟩ := hI.open
  rw [hl] at hv
  subst hv
  obtain ⟨b, off, rfl, hcell⟩ := hop 0 (by omega)
  have CP : Hid (∀ i, i < n → w.cell? ⟨b, off + i, none⟩ = some (.int .i64 ((pF p i : Nat) : Int))) := fun i hi => by
    have := hcell i (by omega)
    rwa [iv_iI, hp.int (by omega)] at this
  obtain ⟨f, hf⟩ : ∃ f, pF p = f := ⟨_, rfl⟩
  obtain ⟨g, hg⟩ : ∃ g, pG p = g := ⟨_, rfl⟩
  rw [hf, hg] at HP
  rw [hf] at CP
  have HFG : Hid (pF p = f ∧ pG p = g) := ⟨hf, hg⟩
  have hbw : b < w.heap.size := World.block_lt_of_cell? w _ (CP.out 0 (by omega))
  have d1 : ((n : Int) == 1) = false := beq_eq_false_iff_ne.2 (by omega)
  have d2 : ((n : Int) == 2) = false := beq_eq_false_iff_ne.2 (by omega)
  clear hI hp hl hop hcell IH hlen hf hg hn hh
  go_enter Tryd.func26, Tryd.ntmps26
  go_wp2_with (at_make; refine wpList_make_full _ rfl _ _ 24 rfl w.heap.size 3 i0 (.int .i64 0) 1 Tryd.underlying24 hi hz0 hz1 _ _ _ _ _ rfl rfl rfl rfl ?b2 ?b3 ?b4 ?_)
  case b2 => rw [hz2]; omega
  case b3 => unfold maxLen; omega
  case b4 => exact Nat.le_refl _
  intro w1 hown hgrow
  have hrow := (row_of_own hown).1
  rw [made_tab, gets_zero n g] at hrow
  have G1 := Lib.hid hrow
  have B1 : Hid (Below w.heap.size w w1) := (Below.refl _ _).grown hgrow (Nat.le_refl _) (by simp)
  have hg0 : w.heap.size < w1.heap.size := hrow.lt
  clear hown hgrow hrow
  go_wp2
  go_loopw [37] (fun i wr => ∃ k : Nat, k ≤ n ∧ i = .int .i64 k ∧ Hid (Row wr w.heap.size 3 (tab n (gR g k))) ∧ Hid (Below w.heap.size w wr)) (fun i _ => n - (intOf i).toNat)
  case atStart => exact ⟨0, Nat.zero_le _, rfl, G1, B1⟩
  case round =>
    obtain ⟨k, hk, rfl, hG, hB⟩ := hrel
    by_cases hlt : k < n
    · have kp := CP.out k hlt
      have kp : wr.cell? ⟨b, off + k, none⟩ = some (.int .i64 ((f k : Nat) : Int)) := (hB.out.cell (p := ⟨b, off + k, none⟩) hbw).trans kp
      have hfk := HP.out.flt k hlt
      have kg := hG.out.cell (tab_get (gR g k) hfk)
      have kf := hG.out.free (f k)
      have HS := Lib.hid (gets_step HP.out hlt)
      obtain ⟨y, hy⟩ : ∃ y, f k = y := ⟨_, rfl⟩
      rw [hy] at kp hfk kg kf HS
      have HY := Lib.hid hy
      clear hy
      go_wp2
      go_roundw
      case rel => exact ⟨k + 1, hlt, by go_num, by rw [← HS.out]; exact hG.out.set _ _, hB.out.setCell (p := ⟨w.heap.size, y, none⟩) (Nat.le_refl _) _⟩
      case measure => simp [intOf]; omega
    · have hkn : k = n := by omega
      subst hkn
      have hzr : w.heap.size < wr.heap.size := hG.out.lt
      clear hlt G1 B1 hg0
      go_wp2_with (at_make; refine wpList_make_full _ rfl _ _ 24 rfl wr.heap.size 3 i0 (.int .i64 0) 1 Tryd.underlying24 hi hz0 hz1 _ _ _ _ _ rfl rfl rfl rfl ?b2 ?b3 ?b4 ?_)
      case b2 => rw [hz2]; omega
      case b3 => unfold maxLen; omega
      case b4 => exact Nat.le_refl _
      intro w2 hown hgrow
      have hrow := (row_of_own hown).1
      rw [made_tab, half_zero] at hrow
      have H2 := Lib.hid hrow
      have B2a : Below wr.heap.size wr w2 := (Below.refl _ _).grown hgrow (Nat.le_refl _) (by simp)
      have G2 := Lib.hid (hG.out.mono B2a hG.out.lt)
      have B2 := Lib.hid (hB.out.trans (B2a.mono (Nat.le_of_lt hzr)))
      have hzr2 : wr.heap.size < w2.heap.size := hrow.lt
      obtain ⟨h0, hh0⟩ : ∃ h0, wr.heap.size = h0 := ⟨_, rfl⟩
      rw [hh0] at H2 hzr hzr2
      clear hown hgrow hrow B2a hG hB
      rw [hh0]
      clear hh0
      go_wp2_with (at_make; refine wpList_make_full _ rfl _ _ 24 rfl w2.heap.size 3 i0 (.int .i64 0) 1 Tryd.underlying24 hi hz0 hz1 _ _ _ _ _ rfl rfl rfl rfl ?b2 ?b3 ?b4 ?_)
      case b2 => rw [hz2]; omega
      case b3 => unfold maxLen; omega
      case b4 => exact Nat.le_refl _
      intro w3 hown hgrow
      have hrow := (row_of_own hown).1
      rw [made_tab, from_zero k g] at hrow
      have F3 := Lib.hid hrow
      have B3a : Below w2.heap.size w2 w3 := (Below.refl _ _).grown hgrow (Nat.le_refl _) (by simp)
      have G3 := Lib.hid (G2.out.mono B3a G2.out.lt)
      have H3 := Lib.hid (H2.out.mono B3a H2.out.lt)
      have B3 := Lib.hid (B2.out.trans (B3a.mono (by omega)))
      obtain ⟨f0, hf0⟩ : ∃ f0, w2.heap.size = f0 := ⟨_, rfl⟩
      rw [hf0] at F3 hzr2
      clear hown hgrow hrow B3a G2 H2 B2
      rw [hf0]
      clear hf0
      obtain ⟨g0, hg0⟩ : ∃ g0, w.heap.size = g0 := ⟨_, rfl⟩
      have HG0 := Lib.hid hg0
      have G3' : Hid (Row w3 g0 3 (tab k (gR g k))) := by have := G3.out; rwa [hg0] at this
      rw [hg0] at hzr hbw
      clear G3
      rw [hg0]
      clear hg0
      have ne1 : ¬ h0 = f0 := by omega
      have ne2 : ¬ g0 = f0 := by omega
      have ne3 : ¬ g0 = h0 := by omega
      have ne4 : ¬ f0 = h0 := by omega
      have ne5 : ¬ f0 = g0 := by omega
      have ne6 : ¬ h0 = g0 := by omega
      go_wp2
      go_loopw [52] (fun i wr => ∃ q : Nat, q ≤ k ∧ i = .int .i64 q ∧ Hid (Row wr h0 3 (tab k (hR (halvesK k f g q)))) ∧ Hid (Row wr f0 3 (tab k (fR g (halvesK k f g q)))) ∧ Hid (Row wr g0 3 (tab k (gR g k))) ∧ Hid (Below g0 w wr)) (fun i _ => k - (intOf i).toNat)
      case atStart => exact ⟨0, Nat.zero_le _, rfl, H3, F3, G3', by have := B3.out; rwa [HG0.out] at this⟩
      case round =>
        obtain ⟨q, hq, rfl, hH, hF, hG, hB⟩ := hrel
        by_cases hlq : q < k
        · have hcs := (halves_ok HP.out q hq).1
          have HC0 := Lib.hid hcs
          clear hcs
          go_wp2
          go_loopg [10] (unk k (halvesK k f g q).K) (fun e o wr => ∃ (s : Hs) (x : Nat), x < k ∧ o = .int .i64 x ∧ Hid (Core k f g s) ∧ Hid (chase f g (unk k s.K) s x = halvesK k f g (q + 1)) ∧ Hid (unk k s.K ≤ e) ∧ Hid (Row wr h0 3 (tab k (hR s))) ∧ Hid (Row wr f0 3 (tab k (fR g s))) ∧ Hid (Row wr g0 3 (tab k (gR g k))) ∧ Hid (Below g0 w wr))
          case atStart => exact ⟨_, q, hlq, rfl, HC0, rfl, Nat.le_refl _, hH, hF, hG, hB⟩
          case round =>
            obtain ⟨s, x, hx, rfl, hC, hch, hun, hH, hF, hG, hB⟩ := hrel
            have kh0 := hH.out.cell (tab_get (hR s) hx)
            cases hK : s.K x
            · have kh : wr.cell? ⟨h0, x, none⟩ = some (.int .i64 0) := by rw [kh0]; unfold hR hvS; rw [hK]; rfl
              clear kh0
              have fh := hH.out.free x
              have kp := CP.out x hx
              have kp : wr.cell? ⟨b, off + x, none⟩ = some (.int .i64 ((f x : Nat) : Int)) := (hB.out.cell (p := ⟨b, off + x, none⟩) hbw).trans kp
              have hfx := HP.out.flt x hx
              have hnx := nb_lt HP.out.even hfx
              have hpx := HP.out.ptn_lt hx
              have hnp := nb_lt HP.out.even hpx
              have HS1 := Lib.hid (half_step HP.out hC.out hx hK)
              have HS2 := Lib.hid (from_step HP.out hC.out hx hK)
              have HC1 := Lib.hid (hC.out.step HP.out hx hK)
              have HCH : Hid (chase f g (unk k (s.step f g x).K) (s.step f g x) (nb (ptn f g x)) = halvesK k f g (q + 1)) := by rw [← chase_step HP.out hx hK]; exact hch.out
              have HUN := Lib.hid (unk_step (f := f) (g := g) hx hK)
              have kg0 := hG.out.cell (tab_get (gR g k) hnx)
              have kg : wr.cell? ⟨g0, nb (f x), none⟩ = some (.int .i64 ((ptn f g x : Nat) : Int)) := by rw [kg0]; unfold gR; rw [if_pos (HP.out.glt _ hnx)]; rfl
              clear kg0
              have kf := hF.out.cell (tab_get (fR g s) hfx)
              have ff := hF.out.free (f x)
              have kf2 := hF.out.cell (tab_get (fR g s) hnx)
              have ff2 := hF.out.free (nb (f x))
              have kh2 := hH.out.cell (tab_get (hR s) hpx)
              have fh2 := hH.out.free (ptn f g x)
              have X1 : Hid (f x < 8 ∧ ptn f g x < 8) := ⟨by omega, by omega⟩
              have bx1 := bits_nb (f x) X1.out.1
              have bx2 := bits_nb (ptn f g x) X1.out.2
              obtain ⟨y, hy⟩ : ∃ y, f x = y := ⟨_, rfl⟩
              obtain ⟨z, hz⟩ : ∃ z, ptn f g x = z := ⟨_, rfl⟩
              rw [hy] at kp hfx hnx kg kf ff kf2 ff2 bx1 HS2
              rw [hz] at hpx hnp kg kh2 fh2 bx2 HS1 HCH
              obtain ⟨y2, hy2⟩ : ∃ y2, nb y = y2 := ⟨_, rfl⟩
              obtain ⟨z2, hz2⟩ : ∃ z2, nb z = z2 := ⟨_, rfl⟩
              rw [hy2] at hnx kg kf2 ff2 bx1 HS2
              rw [hz2] at hnp bx2 HCH
              have nxz : ¬ x = z := fun e => HP.out.ptn_ne hx (by rw [hz]; exact e.symm)
              have nyy : ¬ y = y2 := fun e => nb_ne y (by rw [hy2]; exact e.symm)
              clear hy hz hy2 hz2 hK X1 hC hch
              go_wp2
              go_roundg (unk k (s.step f g x).K)
              case measure => have := HUN.out; have := hun.out; omega
              case rel =>
                refine ⟨s.step f g x, z2, hnp, rfl, HC1, HCH, Nat.le_refl _, ?_, ?_, ?_, ?_⟩
                · rw [← HS1.out]; exact (((hH.out.set x _).setOther (p := ⟨f0, y, none⟩) ne1 _).setOther (p := ⟨f0, y2, none⟩) ne1 _).set z _
                · rw [← HS2.out]; exact ((((hF.out.setOther (p := ⟨h0, x, none⟩) ne4 _).set y _).set y2 _).setOther (p := ⟨h0, z, none⟩) ne4 _)
                · exact (((hG.out.setOther (p := ⟨h0, x, none⟩) ne3 _).setOther (p := ⟨f0, y, none⟩) ne2 _).setOther (p := ⟨f0, y2, none⟩) ne2 _).setOther (p := ⟨h0, z, none⟩) ne3 _
                · exact (((hB.out.setCell (p := ⟨h0, x, none⟩) (Nat.le_of_lt hzr) _).setCell (p := ⟨f0, y, none⟩) (by show g0 ≤ f0; omega) _).setCell (p := ⟨f0, y2, none⟩) (by show g0 ≤ f0; omega) _).setCell (p := ⟨h0, z, none⟩) (Nat.le_of_lt hzr) _
            · obtain ⟨v, kh, hv0⟩ : ∃ v : Int, wr.cell? ⟨h0, x, none⟩ = some (.int .i64 v) ∧ (v == 0) = false := by
                refine ⟨_, kh0, ?_⟩
                unfold hvS
                rw [hK]
                cases s.O x <;> rfl
              have hss : s = halvesK k f g (q + 1) := by rw [← hch.out, chase_known f g hK]
              subst hss
              clear kh0 hK hch hC
              go_wp2
              go_roundw
              case rel => exact ⟨q + 1, hlq, by go_num, hH, hF, hG, hB⟩
              case measure => simp [intOf]; omega
        · have hqk : q = k := by omega
          subst hqk
          have hall := (halves_ok HP.out q (Nat.le_refl _)).2.2
          obtain ⟨S, hS⟩ : ∃ S, halvesK q f g q = S := ⟨_, rfl⟩
          have HSV : Hid (hlv (2 * h) p = S) := by unfold Hid hlv; rw [HN.out, HFG.out.1, HFG.out.2]; exact hS
          rw [hS] at hH hF hall
          have KH : Hid (∀ x, x < q → wr.cell? ⟨h0, x, none⟩ = some (.int .i64 (if S.O x then 1 else 2))) := fun x hx => by
            rw [hH.out.cell (tab_get (hR S) hx)]; unfold hR hvS; rw [hall x hx]; rfl
          have KF : Hid (∀ x, x < q → wr.cell? ⟨f0, x, none⟩ = some (.int .i64 (if S.I x then 1 else 2))) := fun x hx => by
            rw [hF.out.cell (tab_get (fR g S) hx)]; unfold fR fvS; rw [hall _ (HP.out.glt x hx)]; rfl
          have hfl : f0 < wr.heap.size := hF.out.lt
          have hhl : h0 < wr.heap.size := hH.out.lt
          have CP2 : Hid (∀ i, i < q → wr.cell? ⟨b, off + i, none⟩ = some (.int .i64 (iI p i))) := fun i hi => by
            have := CP.out i hi
            rw [← HFG.out.1, ← HPL.out.int (by have := HN.out; omega)] at this
            exact (hB.out.cell (p := ⟨b, off + i, none⟩) hbw).trans this
          have BW : Hid (Below w.heap.size w wr) := by have := hB.out; rwa [← HG0.out] at this
          have hbl : b < wr.heap.size := by omega
          have hnn : 2 ≤ h := by omega
          have hn4' : h ≤ 4 := by omega
          clear hS hall hH hF hG hB H3 F3 G3' B3 CP HP hi hz0 hz1 hz2 hlq hq ne1 ne2 ne3 ne4 ne5 ne6 hk
          generalize wr = wE at KH KF hfl hhl CP2 BW hbl ⊢
          obtain ⟨A, hA⟩ : ∃ A : Nat → Bool, (fun k => !S.I (2 * k)) = A := ⟨_, rfl⟩
          obtain ⟨Z, hZ⟩ : ∃ Z : Nat → Bool, (fun k => !S.O (2 * k)) = Z := ⟨_, rfl⟩
          have HA := Lib.hid hA
          have HZ := Lib.hid hZ
          clear hA hZ
          go_wp2
          go_loopw [13, 14] (fun u i wr => ∃ j J : Nat, j ≤ h ∧ J ≤ 2 * j ∧ 2 * j ≤ J ∧ i = .int .i64 J ∧ Hid (Gr wr wE.heap.size 4 1 u j (bools (tab j A))) ∧ Hid (Below wE.heap.size wE wr)) (fun _ i _ => q - (intOf i).toNat)
          case atStart => exact ⟨0, 0, Nat.zero_le _, by omega, by omega, rfl, Gr.nil _ _ _ _, Below.refl _ _⟩
          case round =>
            obtain ⟨j, J, hj, hJ1, hJ2, rfl, hG, hB⟩ := hrel
            by_cases hlt : J < q
            · obtain ⟨v, kv, hv⟩ : ∃ v : Int, wr.cell? ⟨f0, J, none⟩ = some (.int .i64 v) ∧ (v == 2) = A j := by
                refine ⟨_, (hB.out.cell (p := ⟨f0, J, none⟩) hfl).trans (KF.out J hlt), ?_⟩
                rw [← HA.out, show J = 2 * j by omega]
                show ((if S.I (2 * j) = true then (1 : Int) else 2) == 2) = !S.I (2 * j)
                cases S.I (2 * j) <;> rfl
              obtain ⟨t, ht⟩ : ∃ t, A j = t := ⟨_, rfl⟩
              rw [ht] at hv
              have HTT := Lib.hid ht
              have zB := hB.out.size
              clear ht
              go_wp2_with (at_builtin; refine wpList_app _ rfl (.tmp 93) (.tmp 99) 23 rfl wE.heap.size 4 (.bool false) 1 1 Tryd.underlying23 Tryd.infoBool rfl (by omega) u13 j (bools (tab j A)) rfl (hG.out.alloc _) _ 1 [.bool t] rfl (view_one _ _ _) (by simp [Value.oneCell']) (by unfold maxLen; omega) (by omega) (by simp; omega) ?_; intro v4 w4 g4 r4 k4; have G4 := Lib.hid g4; have R4 := Lib.hid r4; clear g4 r4 k4)
              go_roundw
              case rel => exact ⟨j + 1, J + 2, by omega, by omega, by omega, by go_num, (by have := G4.out; rw [tab_snocB HTT.out] at this; exact this), (hB.out.alloc zB _).grown R4.out (by simp; omega) (fun g hg => (hG.out.lt g hg).1)⟩
              case measure => simp [intOf]; omega
            · have hjh : j = h := by omega
              subst hjh
              obtain ⟨U, hU⟩ : ∃ U, r (half j p true) = U := ⟨_, rfl⟩
              obtain ⟨V, hV⟩ : ∃ V, r (half j p false) = V := ⟨_, rfl⟩
              have hUl : U.length = m := by rw [← hU]; exact HLEN.out _ (half_perm HPL.out true)
              have hVl : V.length = m := by rw [← hV]; exact HLEN.out _ (half_perm HPL.out false)
              have HU : Hid (r (half j p true) = U ∧ U.length = m) := ⟨hU, hUl⟩
              have HV : Hid (r (half j p false) = V ∧ V.length = m) := ⟨hV, hVl⟩
              have hb5 : Below wE.heap.size wr (wr.alloc (.cells #[.int .i64 1, .int .i64 2] 3)) := (Below.refl _ _).alloc hB.out.size _
              have HL5 : Hid (Row (wr.alloc (.cells #[.int .i64 1, .int .i64 2] 3)) wr.heap.size 3 (ints [1, 2])) := Row.new wr 3 (ints [1, 2])
              have HG5 := Lib.hid (hG.out.alloc (.cells #[.int .i64 1, .int .i64 2] 3))
              have HB5 := Lib.hid (hB.out.trans hb5)
              have zL : wE.heap.size ≤ wr.heap.size := hB.out.size
              have hap5 : ∀ g, gBlock u13 = some g → g < wr.heap.size := fun g hg => (hG.out.lt g hg).2
              clear hU hV hUl hVl hb5 hG hB hn4 d1 d2 hzr hzr2 hbw KF HFG HG0 hnn
              obtain ⟨lb, hlb⟩ : ∃ lb, wr.heap.size = lb := ⟨_, rfl⟩
              have HAP : Hid (gBlock u13 ≠ some lb) := fun e => by have := hap5 lb e; omega
              rw [hlb] at HL5 zL
              clear hap5
              go_wp2
              clear hJ1 hJ2 hj hlt
              go_loopw [13, 103] (fun u i wr => ∃ t l : Nat, ∃ xs : List Bool, t ≤ 2 ∧ i = .int .i64 t ∧ Hid (xs = if t = 0 then tab j A else if t = 1 then tab j A ++ U else tab j A ++ U ++ V) ∧ Hid (xs.length = l) ∧ l ≤ 4 + 6 * t ∧ Hid (gBlock u ≠ some lb) ∧ Hid (Gr wr wE.heap.size 4 1 u l (bools xs)) ∧ Hid (Row wr lb 3 (ints [1, 2])) ∧ Hid (Below wE.heap.size wE wr) ∧ Hid (lb < wr.heap.size)) (fun _ i _ => 2 - (intOf i).toNat)
              case atStart => exact ⟨0, j, tab j A, by omega, rfl, rfl, by simp [Hid], by omega, HAP, HG5, HL5, HB5, HL5.out.lt⟩
              case round =>
                obtain ⟨t, l, xs, ht, rfl, hxs, hxl, hl16, hap, hG, hL, hB, hlt5⟩ := hrel
                by_cases hlt : t < 2
                · obtain ⟨tb, htb⟩ : ∃ tb : Bool, (t == 0) = tb := ⟨_, rfl⟩
                  obtain ⟨pt, hpt⟩ : ∃ pt : Int, (t : Int) + 1 = pt := ⟨_, rfl⟩
                  have kL : wr.cell? ⟨lb, t, none⟩ = some (.int .i64 pt) := hL.out.cell (by rw [← hpt]; rcases (show t = 0 ∨ t = 1 by omega) with rfl | rfl <;> rfl)
                  obtain ⟨wo, rfl⟩ : ∃ wo, wo = wr := ⟨_, rfl⟩
                  have HTB := Lib.hid htb
                  have HPT := Lib.hid hpt
                  have zB := hB.out.size
                  have hlti : (t : Int) < 2 := by omega
                  have hltd : decide ((t : Int) < 2) = true := by simp; omega
                  clear htb hpt
                  go_wp2
                  go_loopw [17, 18] (fun u' i' w8 => ∃ a J : Nat, a ≤ j ∧ J ≤ 2 * a ∧ 2 * a ≤ J ∧ i' = .int .i64 J ∧ Hid (Gr w8 wo.heap.size 3 1 u' a (ints (tab a (fun k => iI p (pick' j p tb k) / 2)))) ∧ Hid (Below wo.heap.size wo w8)) (fun _ i _ => q - (intOf i).toNat)
                  case atStart => exact ⟨0, 0, Nat.zero_le _, by omega, by omega, rfl, Gr.nil _ _ _ _, Below.refl _ _⟩
                  case round =>
                    obtain ⟨a, J, ha, hJ1, hJ2, rfl, hG6, hB6⟩ := hrel
                    have zB6 := hB6.out.size
                    by_cases hlt6 : J < q
                    · obtain ⟨e, he⟩ : ∃ e, (S.O J == tb) = e := ⟨_, rfl⟩
                      obtain ⟨v, kv, hv⟩ : ∃ v : Int, wr.cell? ⟨h0, J, none⟩ = some (.int .i64 v) ∧ (v != pt) = !e := by
                        refine ⟨_, (hB6.out.cell (p := ⟨h0, J, none⟩) (by have := hB.out.size; show h0 < wo.heap.size; omega)).trans ((hB.out.cell (p := ⟨h0, J, none⟩) (by show h0 < wE.heap.size; omega)).trans (KH.out J hlt6)), ?_⟩
                        rw [← he, ← HTB.out, ← HPT.out]
                        rcases (show t = 0 ∨ t = 1 by omega) with rfl | rfl <;> cases S.O J <;> rfl
                      cases e
                      · have hpk : pick' j p tb a = J + 1 := by unfold pick'; rw [HSV.out, if_neg (by rw [show 2 * a = J by omega]; simp [he])]; omega
                        obtain ⟨Y, hY⟩ : ∃ Y : Nat, iI p (J + 1) = (Y : Int) := ⟨_, HPL.out.int (by have := HN.out; omega)⟩
                        have hYq := (HPL.out.2.1 (J + 1) (by have := HN.out; omega)).2
                        rw [hY] at hYq
                        have kp := CP2.out (J + 1) (by omega)
                        have kp : wr.cell? ⟨b, off + (J + 1), none⟩ = some (.int .i64 (Y : Int)) := by
                          rw [hY] at kp
                          exact (hB6.out.cell (p := ⟨b, off + (J + 1), none⟩) (by have := hB.out.size; show b < wo.heap.size; omega)).trans ((hB.out.cell (p := ⟨b, off + (J + 1), none⟩) hbl).trans kp)
                        obtain ⟨Y2, hY2⟩ : ∃ Y2 : Nat, (Y : Int) / 2 = (Y2 : Int) := ⟨Y / 2, by omega⟩
                        have HF2 : Hid (iI p (pick' j p tb a) / 2 = (Y2 : Int)) := by unfold Hid; rw [hpk, hY]; exact hY2
                        have hY8 : Y2 ≤ 8 := by have := HN.out; omega
                        have hYb : Y ≤ 16 := by have := HN.out; omega
                        have hJ0 : (0 : Int) ≤ (J : Int) + 1 := by omega
                        have hJ9 : (J : Int) + 1 < (q : Int) := by omega
                        have hJ8 : IntKind.i64.wrap ((J : Int) + 1) = (J : Int) + 1 := by rw [IntKind.wrap_i64]; omega
                        clear hpk hY hYq he
                        go_wp2_with (at_builtin; refine wpList_app _ rfl (.tmp 121) (.tmp 127) 24 rfl wo.heap.size 3 (.int .i64 0) 1 8 Tryd.underlying24 Tryd.infoInt rfl (by omega) u17 a (ints (tab a (fun k => iI p (pick' j p tb k) / 2))) rfl (hG6.out.alloc _) _ 1 [.int .i64 Y2] rfl (view_one _ _ _) (by simp [Value.oneCell']) (by unfold maxLen; omega) (by omega) (by simp; omega) ?_; intro v4 w4 g4 r4 k4; have G4 := Lib.hid g4; have R4 := Lib.hid r4; clear g4 r4 k4)
                        go_roundw
                        case rel => exact ⟨a + 1, J + 2, by omega, by omega, by omega, by go_num, (by have := G4.out; rw [tab_one (n := a) (f := fun k => iI p (pick' j p tb k) / 2) HF2.out] at this; exact this), (hB6.out.alloc zB6 _).grown R4.out (by simp; omega) (fun g hg => (hG6.out.lt g hg).1)⟩
                        case measure => simp [intOf]; omega
                      · have hpk : pick' j p tb a = J := by unfold pick'; rw [HSV.out, if_pos (by rw [show 2 * a = J by omega]; exact he)]; omega
                        obtain ⟨Y, hY⟩ : ∃ Y : Nat, iI p J = (Y : Int) := ⟨_, HPL.out.int (by have := HN.out; omega)⟩
                        have hYq := (HPL.out.2.1 J (by have := HN.out; omega)).2
                        rw [hY] at hYq
                        have kp := CP2.out J (by omega)
                        have kp : wr.cell? ⟨b, off + J, none⟩ = some (.int .i64 (Y : Int)) := by
                          rw [hY] at kp
                          exact (hB6.out.cell (p := ⟨b, off + J, none⟩) (by have := hB.out.size; show b < wo.heap.size; omega)).trans ((hB.out.cell (p := ⟨b, off + J, none⟩) hbl).trans kp)
                        obtain ⟨Y2, hY2⟩ : ∃ Y2 : Nat, (Y : Int) / 2 = (Y2 : Int) := ⟨Y / 2, by omega⟩
                        have HF2 : Hid (iI p (pick' j p tb a) / 2 = (Y2 : Int)) := by unfold Hid; rw [hpk, hY]; exact hY2
                        have hY8 : Y2 ≤ 8 := by have := HN.out; omega
                        have hYb : Y ≤ 16 := by have := HN.out; omega
                        have hJ0 : (0 : Int) ≤ (J : Int) := by omega
                        have hJ9 : (J : Int) < (q : Int) := by omega
                        have hJ8 : IntKind.i64.wrap (J : Int) = (J : Int) := by rw [IntKind.wrap_i64]; omega
                        clear hpk hY hYq he
                        go_wp2_with (at_builtin; refine wpList_app _ rfl (.tmp 121) (.tmp 127) 24 rfl wo.heap.size 3 (.int .i64 0) 1 8 Tryd.underlying24 Tryd.infoInt rfl (by omega) u17 a (ints (tab a (fun k => iI p (pick' j p tb k) / 2))) rfl (hG6.out.alloc _) _ 1 [.int .i64 Y2] rfl (view_one _ _ _) (by simp [Value.oneCell']) (by unfold maxLen; omega) (by omega) (by simp; omega) ?_; intro v4 w4 g4 r4 k4; have G4 := Lib.hid g4; have R4 := Lib.hid r4; clear g4 r4 k4)
                        go_roundw
                        case rel => exact ⟨a + 1, J + 2, by omega, by omega, by omega, by go_num, (by have := G4.out; rw [tab_one (n := a) (f := fun k => iI p (pick' j p tb k) / 2) HF2.out] at this; exact this), (hB6.out.alloc zB6 _).grown R4.out (by simp; omega) (fun g hg => (hG6.out.lt g hg).1)⟩
                        case measure => simp [intOf]; omega
                    · have haj : a = j := by omega
                      subst haj
                      obtain ⟨W, hW⟩ : ∃ W, r (half a p tb) = W := ⟨_, rfl⟩
                      have hWl : W.length = m := by rw [← hW]; exact HLEN.out _ (half_perm HPL.out tb)
                      have HW := Lib.hid hW
                      have IQ : Hid (Ints wr u17 (half a p tb)) := hG6.out.ints (by first | (unfold half; simp; done) | simp)
                      have HG7 := Lib.hid ((hG.out.mono hB6.out (Nat.le_refl _)))
                      have HB7 := Lib.hid (hB.out.trans (hB6.out.mono zB))
                      have HL7 := Lib.hid (hL.out.mono hB6.out hlt5.out)
                      have HWL := Lib.hid hWl
                      clear hW hWl hG hB hG6 hL
                      go_wp2_with fail
                      refine (HIH.out _ (half a p tb) _ IQ.out (half_perm HPL.out tb)).mono ?_
                      rw [HW.out]
                      rintro e w7 ⟨uw, rfl, hgw, hb7⟩
                      rw [HWL.out] at hgw
                      have VW := Lib.hid (hgw.view)
                      have G8 := Lib.hid (HG7.out.mono hb7 (Nat.le_refl _))
                      have B8 := Lib.hid (HB7.out.trans (hb7.mono HB7.out.size))
                      have L8 := Lib.hid (HL7.out.mono hb7 HL7.out.lt)
                      have z8 := B8.out.size
                      have zl8 : lb < w7.heap.size := L8.out.lt
                      clear hgw hb7 HG7 HB7 HL7 IQ
                      go_wp2_with (at_builtin; refine wpList_app _ rfl (.tmp 129) (.tmp 131) 23 rfl wE.heap.size 4 (.bool false) 1 1 Tryd.underlying23 Tryd.infoBool rfl (by omega) u13 l (bools xs) rfl G8.out _ m (bools W) rfl VW.out (one_bools _) (by unfold maxLen; omega) (by omega) z8 ?_; intro v4 w4 g4 r4 k4; have G4 := Lib.hid g4; have R4 := Lib.hid r4; have K4 := Lib.hid k4; clear g4 r4 k4)
                      go_roundw
                      case rel =>
                        refine ⟨t + 1, l + m, xs ++ W, by omega, by go_num, ?_, by unfold Hid; rw [List.length_append, hxl.out, HWL.out], by omega, ?_, ?_, L8.out.grown R4.out hap.out, B8.out.grown R4.out z8 (fun g hg => (G8.out.lt g hg).1), Nat.lt_of_lt_of_le zl8 R4.out.size⟩
                        · have h1 := hxs.out
                          have h2 := HTB.out
                          have h3 := HW.out
                          rcases (show t = 0 ∨ t = 1 by omega) with rfl | rfl
                          · have : tb = true := by rw [← h2]; rfl
                            rw [this, HU.out.1] at h3
                            simp at h1 ⊢
                            rw [h1, h3]
                            exact (rfl : _ = _)
                          · have : tb = false := by rw [← h2]; rfl
                            rw [this, HV.out.1] at h3
                            simp at h1 ⊢
                            rw [h1, h3, List.append_assoc]
                            exact (rfl : _ = _)
                        · rcases K4.out with e | e
                          · rw [e]; exact hap.out
                          · rw [e]; exact fun e' => by cases e'; omega
                        · have := G4.out; simpa [Hid, bools] using this
                      case measure => simp [intOf]; omega
                · have ht2 : t = 2 := by omega
                  have hxs2 : xs = tab j A ++ U ++ V := by have := hxs.out; rw [ht2] at this; simpa using this
                  have HXS := Lib.hid hxs2
                  have hl16' : l ≤ 16 := by omega
                  have hti : ¬ ((t : Int) < 2) := by omega
                  have htd : decide ((t : Int) < 2) = false := by simp; omega
                  clear hxs2 hL hxs hap ht2 hl16
                  go_wp2
                  clear hti htd hlt ht
                  go_loopw [13, 20] (fun u' i' w8 => ∃ a J : Nat, a ≤ j ∧ J ≤ 2 * a ∧ 2 * a ≤ J ∧ i' = .int .i64 J ∧ Hid (Gr w8 wE.heap.size 4 1 u' (l + a) (bools (xs ++ tab a Z))) ∧ Hid (Below wE.heap.size wE w8)) (fun _ i _ => q - (intOf i).toNat)
                  case atStart => exact ⟨0, 0, Nat.zero_le _, by omega, by omega, rfl, by simpa [Hid, tab] using hG.out, hB⟩
                  case round =>
                    obtain ⟨a, J, ha, hJ1, hJ2, rfl, hG6, hB6⟩ := hrel
                    have zB6 := hB6.out.size
                    by_cases hlt6 : J < q
                    · obtain ⟨v, kv, hv⟩ : ∃ v : Int, wr.cell? ⟨h0, J, none⟩ = some (.int .i64 v) ∧ (v == 2) = Z a := by
                        refine ⟨_, (hB6.out.cell (p := ⟨h0, J, none⟩) hhl).trans (KH.out J hlt6), ?_⟩
                        rw [← HZ.out, show J = 2 * a by omega]
                        show ((if S.O (2 * a) = true then (1 : Int) else 2) == 2) = !S.O (2 * a)
                        cases S.O (2 * a) <;> rfl
                      obtain ⟨t, ht⟩ : ∃ t, Z a = t := ⟨_, rfl⟩
                      rw [ht] at hv
                      have HTT := Lib.hid ht
                      clear ht
                      go_wp2_with (at_builtin; refine wpList_app _ rfl (.tmp 139) (.tmp 145) 23 rfl wE.heap.size 4 (.bool false) 1 1 Tryd.underlying23 Tryd.infoBool rfl (by omega) u13 (l + a) (bools (xs ++ tab a Z)) rfl (hG6.out.alloc _) _ 1 [.bool t] rfl (view_one _ _ _) (by simp [Value.oneCell']) (by unfold maxLen; omega) (by omega) (by simp; omega) ?_; intro v4 w4 g4 r4 k4; have G4 := Lib.hid g4; have R4 := Lib.hid r4; clear g4 r4 k4)
                      go_roundw
                      case rel => exact ⟨a + 1, J + 2, by omega, by omega, by omega, by go_num, (by have := G4.out; rw [show bools (xs ++ tab a Z) ++ [.bool t] = bools xs ++ (bools (tab a Z) ++ [.bool t]) by simp [bools], tab_snocB HTT.out] at this; unfold Hid; rw [show bools (xs ++ tab (a + 1) Z) = bools xs ++ bools (tab (a + 1) Z) by simp [bools]]; exact this), (hB6.out.alloc zB6 _).grown R4.out (by simp; omega) (fun g hg => (hG6.out.lt g hg).1)⟩
                      case measure => simp [intOf]; omega
                    · have haj : a = j := by omega
                      have HF1 : Hid (BoolsPost (stepR j r p) w (.returned u13) wr) := by
                        have e : stepR j r p = xs ++ tab a Z := by
                          unfold stepR
                          rw [HSV.out, HU.out.1, HV.out.1, HA.out, HZ.out, HXS.out, haj]
                        refine ⟨_, rfl, ?_, BW.out.trans (hB6.out.mono BW.out.size)⟩
                        rw [e, List.length_append, hxl.out, tab_length]
                        exact hG6.out.low BW.out.size
                      clear haj
                      go_wp2
                      go_ret
                      exact HF1.out
end Go.Proofs.YtnmkficfbnnakaaDoor
