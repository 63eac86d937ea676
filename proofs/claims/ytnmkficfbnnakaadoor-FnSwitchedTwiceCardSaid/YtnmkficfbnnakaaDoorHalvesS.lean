/- the contract of the specification's l26Halves -/
import Derived.Test.YtnmkficfbnnakaaDoorRouteI
namespace Go.Proofs.YtnmkficfbnnakaaDoor
open Go.RowKit
theorem besideR_any (n : Nat) (w : World) (hn : n ≤ 1000000) : Calls Tryd.prog 31 #[.int .i64 n] w fun e w' => e = .returned (.int .i64 ((nb n : Nat) : Int)) ∧ w = w' := by
  have hm : (n : Int) % 2 = 0 ∧ n % 2 = 0 ∨ (n : Int) % 2 = 1 ∧ n % 2 = 1 := by omega
  have HR : Hid ((nb n : Nat) = if n % 2 = 0 then n + 1 else n - 1) := rfl
  rcases hm with ⟨h1, h2⟩ | ⟨h1, h2⟩
  · go_enter Tryd.func31, Tryd.ntmps31
    go_wp2
    go_ret
    exact ⟨ret_int (by rw [HR.out, if_pos h2]; omega), rfl⟩
  · go_enter Tryd.func31, Tryd.ntmps31
    go_wp2
    go_ret
    exact ⟨ret_int (by rw [HR.out, if_neg (by omega)]; omega), rfl⟩
def bR (B : Nat → Bool) (x : Nat) : Value := .bool (B x)
theorem bools_zero (n : Nat) : tab n (fun _ => Value.bool false) = tab n (bR fun _ => false) := rfl
theorem bR_set (n x : Nat) (B : Nat → Bool) : (tab n (bR B)).set x (.bool true) = tab n (bR (upd B x true)) := by
  rw [tab_set]
  refine tab_congr fun i _ => ?_
  unfold bR upd
  by_cases e : i = x
  · rw [if_pos e, if_pos e]
  · rw [if_neg e, if_neg e]
def HalvesPost (n : Nat) (s : Hs) (w : World) (e : Ending) (w' : World) : Prop := ∃ u v, e = .returned (.tuple #[u, v]) ∧ Bools w' u (tab n s.I) ∧ Bools w' v (tab n s.O) ∧ Below w.heap.size w w'
theorem bools_tabR (n : Nat) (B : Nat → Bool) : tab n (bR B) = bools (tab n B) := by simp [bools, tab, bR]
set_option maxHeartbeats 20000000 in
set_option maxRecDepth 20000 in
theorem halves_any (n : Nat) (hn3 : n ≤ 8) (hn4 : 2 ≤ n) (hev : n % 2 = 0) (v : Value) (p : List Int) (w : World) (hI : Ints w v p) (hp : PermL n p) : Calls Tryd.prog 36 #[v] w (HalvesPost n (halvesK n (pF p) (pG p) n) w) := by
  obtain ⟨i0, hi, hz0, hz1, hz2⟩ := info_parts Tryd.infoInt
  obtain ⟨i1, hi1, hy0, hy1, hy2⟩ := info_parts Tryd.infoBool
  have hl := hp.1
  have HP := Lib.hid (hp.prm hev)
  obtain ⟨ad, c, hv, _, hop⟩ := hI.open
  rw [hl] at hv
  subst hv
  obtain ⟨b, off, rfl, hcell⟩ := hop 0 (by omega)
  have CP : Hid (∀ i, i < n → w.cell? ⟨b, off + i, none⟩ = some (.int .i64 ((pF p i : Nat) : Int))) := fun i hi => by
    have := hcell i (by omega)
    rwa [iv_iI, hp.int (by omega)] at this
  obtain ⟨f, hf⟩ : ∃ f, pF p = f := ⟨_, rfl⟩
  obtain ⟨g, hg⟩ : ∃ g, pG p = g := ⟨_, rfl⟩
  rw [hf, hg] at HP ⊢
  rw [hf] at CP
  have hbw : b < w.heap.size := World.block_lt_of_cell? w _ (CP.out 0 (by omega))
  clear hI hp hl hop hcell hf hg hev
  go_enter Tryd.func36, Tryd.ntmps36
  go_wp2_with (at_make; refine wpList_make_full _ rfl _ _ 23 rfl w.heap.size 4 i1 (.bool false) 1 Tryd.underlying23 hi1 hy0 hy1 _ _ _ _ _ rfl rfl rfl rfl ?b2 ?b3 ?b4 ?_)
  case b2 => rw [hy2]; omega
  case b3 => unfold maxLen; omega
  case b4 => exact Nat.le_refl _
  intro w1 hown hgrow
  have hrow := (row_of_own hown).1
  rw [made_tab, bools_zero] at hrow
  have M1 := Lib.hid hrow
  have hb : Below w.heap.size w w1 := (Below.refl _ _).grown hgrow (Nat.le_refl _) (by simp)
  have z1 : w.heap.size < w1.heap.size := hrow.lt
  have B1 := Lib.hid hb
  clear hown hgrow hrow hb
  go_wp2_with (at_make; refine wpList_make_full _ rfl _ _ 23 rfl w1.heap.size 4 i1 (.bool false) 1 Tryd.underlying23 hi1 hy0 hy1 _ _ _ _ _ rfl rfl rfl rfl ?b2 ?b3 ?b4 ?_)
  case b2 => rw [hy2]; omega
  case b3 => unfold maxLen; omega
  case b4 => exact Nat.le_refl _
  intro w2 hown hgrow
  have hrow := (row_of_own hown).1
  rw [made_tab, bools_zero] at hrow
  have M2 := Lib.hid hrow
  have hb : Below w1.heap.size w1 w2 := (Below.refl _ _).grown hgrow (Nat.le_refl _) (by simp)
  have z2 : w1.heap.size < w2.heap.size := hrow.lt
  have M1' := Lib.hid (M1.out.mono hb M1.out.lt)
  clear M1
  have M1 := M1'
  clear M1'
  have B2 := nxt B1 hb
  clear B1
  clear hown hgrow hrow hb
  go_wp2_with (at_make; refine wpList_make_full _ rfl _ _ 23 rfl w2.heap.size 4 i1 (.bool false) 1 Tryd.underlying23 hi1 hy0 hy1 _ _ _ _ _ rfl rfl rfl rfl ?b2 ?b3 ?b4 ?_)
  case b2 => rw [hy2]; omega
  case b3 => unfold maxLen; omega
  case b4 => exact Nat.le_refl _
  intro w3 hown hgrow
  have hrow := (row_of_own hown).1
  rw [made_tab, bools_zero] at hrow
  have M3 := Lib.hid hrow
  have hb : Below w2.heap.size w2 w3 := (Below.refl _ _).grown hgrow (Nat.le_refl _) (by simp)
  have z3 : w2.heap.size < w3.heap.size := hrow.lt
  have M1' := Lib.hid (M1.out.mono hb M1.out.lt)
  clear M1
  have M1 := M1'
  clear M1'
  have M2' := Lib.hid (M2.out.mono hb M2.out.lt)
  clear M2
  have M2 := M2'
  clear M2'
  have B3 := nxt B2 hb
  clear B2
  clear hown hgrow hrow hb
  go_wp2_with (at_make; refine wpList_make_full _ rfl _ _ 24 rfl w3.heap.size 3 i0 (.int .i64 0) 1 Tryd.underlying24 hi hz0 hz1 _ _ _ _ _ rfl rfl rfl rfl ?b2 ?b3 ?b4 ?_)
  case b2 => rw [hz2]; omega
  case b3 => unfold maxLen; omega
  case b4 => exact Nat.le_refl _
  intro w4 hown hgrow
  have hrow := (row_of_own hown).1
  rw [made_tab, gets_zero n g] at hrow
  have M4 := Lib.hid hrow
  have hb : Below w3.heap.size w3 w4 := (Below.refl _ _).grown hgrow (Nat.le_refl _) (by simp)
  have z4 : w3.heap.size < w4.heap.size := hrow.lt
  have M1' := Lib.hid (M1.out.mono hb M1.out.lt)
  clear M1
  have M1 := M1'
  clear M1'
  have M2' := Lib.hid (M2.out.mono hb M2.out.lt)
  clear M2
  have M2 := M2'
  clear M2'
  have M3' := Lib.hid (M3.out.mono hb M3.out.lt)
  clear M3
  have M3 := M3'
  clear M3'
  have B4 := nxt B3 hb
  clear B3
  clear hown hgrow hrow hb
  obtain ⟨bi, hbi⟩ : ∃ x, w.heap.size = x := ⟨_, rfl⟩
  obtain ⟨bo, hbo⟩ : ∃ x, w1.heap.size = x := ⟨_, rfl⟩
  obtain ⟨bk, hbk⟩ : ∃ x, w2.heap.size = x := ⟨_, rfl⟩
  obtain ⟨bg, hbg⟩ : ∃ x, w3.heap.size = x := ⟨_, rfl⟩
  have HBI := Lib.hid hbi
  have M1' : Hid (Row w4 bi 4 (tab n (bR fun _ => false))) := by have := M1.out; rwa [hbi] at this
  have B4' : Hid (Below bi w w4) := by have := B4.out; rwa [hbi] at this
  rw [hbo] at M2 z1 z2
  rw [hbk] at M3 z2 z3
  rw [hbg] at M4 z3 z4
  rw [hbi] at z1 hbw
  clear M1 B4
  rw [hbi, hbo, hbk, hbg]
  clear hbi hbo hbk hbg
  have n1 : ¬ bi = bo := by omega
  have n2 : ¬ bi = bk := by omega
  have n3 : ¬ bi = bg := by omega
  have n4 : ¬ bo = bi := by omega
  have n5 : ¬ bo = bk := by omega
  have n6 : ¬ bo = bg := by omega
  have n7 : ¬ bk = bi := by omega
  have n8 : ¬ bk = bo := by omega
  have n9 : ¬ bk = bg := by omega
  have n10 : ¬ bg = bi := by omega
  have n11 : ¬ bg = bo := by omega
  have n12 : ¬ bg = bk := by omega
  go_wp2
  go_loopw [8] (fun i wr => ∃ k : Nat, k ≤ n ∧ i = .int .i64 k ∧ Hid (Row wr bi 4 (tab n (bR fun _ => false))) ∧ Hid (Row wr bo 4 (tab n (bR fun _ => false))) ∧ Hid (Row wr bk 4 (tab n (bR fun _ => false))) ∧ Hid (Row wr bg 3 (tab n (gR g k))) ∧ Hid (Below bi w wr)) (fun i _ => n - (intOf i).toNat)
  case atStart => exact ⟨0, Nat.zero_le _, rfl, M1', M2, M3, M4, B4'⟩
  case round =>
    obtain ⟨k, hk, rfl, hX, hO, hK, hG, hB⟩ := hrel
    by_cases hlt : k < n
    · have kp := CP.out k hlt
      have kp : wr.cell? ⟨b, off + k, none⟩ = some (.int .i64 ((f k : Nat) : Int)) := (hB.out.cell (p := ⟨b, off + k, none⟩) hbw).trans kp
      have hfk := HP.out.flt k hlt
      have kg := hG.out.cell (tab_get (gR g k) hfk)
      have kf := hG.out.free (f k)
      have HS := Lib.hid (gets_step HP.out hlt)
      obtain ⟨y, hy⟩ : ∃ y, f k = y := ⟨_, rfl⟩
      rw [hy] at kp hfk kg kf HS
      clear hy
      go_wp2
      go_roundw
      case rel => exact ⟨k + 1, hlt, by go_num, hX.out.setOther (p := ⟨bg, y, none⟩) n3 _, hO.out.setOther (p := ⟨bg, y, none⟩) n6 _, hK.out.setOther (p := ⟨bg, y, none⟩) n9 _, by rw [← HS.out]; exact hG.out.set _ _, hB.out.setCell (p := ⟨bg, y, none⟩) (by show bi ≤ bg; omega) _⟩
      case measure => simp [intOf]; omega
    · have hkn : k = n := by omega
      subst hkn
      clear M1' M2 M3 M4 B4'
      go_wp2
      clear hlt
      go_loopw [9] (fun i wr => ∃ q : Nat, q ≤ k ∧ i = .int .i64 q ∧ Hid (Row wr bi 4 (tab k (bR (halvesK k f g q).I))) ∧ Hid (Row wr bo 4 (tab k (bR (halvesK k f g q).O))) ∧ Hid (Row wr bk 4 (tab k (bR (halvesK k f g q).K))) ∧ Hid (Row wr bg 3 (tab k (gR g k))) ∧ Hid (Below bi w wr)) (fun i _ => k - (intOf i).toNat)
      case atStart => exact ⟨0, Nat.zero_le _, rfl, hX, hO, hK, hG, hB⟩
      case round =>
        obtain ⟨q, hq, rfl, hX, hO, hK, hG, hB⟩ := hrel
        by_cases hlq : q < k
        · have hcs := (halves_ok HP.out q hq).1
          have HC0 := Lib.hid hcs
          clear hcs
          go_wp2
          go_loopg [10] (unk k (halvesK k f g q).K) (fun e o wr => ∃ (s : Hs) (x : Nat), x < k ∧ o = .int .i64 x ∧ Hid (Core k f g s) ∧ Hid (chase f g (unk k s.K) s x = halvesK k f g (q + 1)) ∧ Hid (unk k s.K ≤ e) ∧ Hid (Row wr bi 4 (tab k (bR s.I))) ∧ Hid (Row wr bo 4 (tab k (bR s.O))) ∧ Hid (Row wr bk 4 (tab k (bR s.K))) ∧ Hid (Row wr bg 3 (tab k (gR g k))) ∧ Hid (Below bi w wr))
          case atStart => exact ⟨_, q, hlq, rfl, HC0, rfl, Nat.le_refl _, hX, hO, hK, hG, hB⟩
          case round =>
            obtain ⟨s, x, hx, rfl, hC, hch, hun, hX, hO, hKn, hG, hB⟩ := hrel
            have kh0 := hKn.out.cell (tab_get (bR s.K) hx)
            cases hK : s.K x
            · have kh : wr.cell? ⟨bk, x, none⟩ = some (.bool false) := by rw [kh0]; unfold bR; rw [hK]
              clear kh0
              have fh := hKn.out.free x
              have kp := CP.out x hx
              have kp : wr.cell? ⟨b, off + x, none⟩ = some (.int .i64 ((f x : Nat) : Int)) := (hB.out.cell (p := ⟨b, off + x, none⟩) hbw).trans kp
              have hfx := HP.out.flt x hx
              have hnx := nb_lt HP.out.even hfx
              have hpx := HP.out.ptn_lt hx
              have hnp := nb_lt HP.out.even hpx
              have HC1 := Lib.hid (hC.out.step HP.out hx hK)
              have HCH : Hid (chase f g (unk k (s.step f g x).K) (s.step f g x) (nb (ptn f g x)) = halvesK k f g (q + 1)) := by rw [← chase_step HP.out hx hK]; exact hch.out
              have HUN := Lib.hid (unk_step (f := f) (g := g) hx hK)
              have kg0 := hG.out.cell (tab_get (gR g k) hnx)
              have kg : wr.cell? ⟨bg, nb (f x), none⟩ = some (.int .i64 ((ptn f g x : Nat) : Int)) := by rw [kg0]; unfold gR; rw [if_pos (HP.out.glt _ hnx)]; rfl
              clear kg0
              have ko := hO.out.cell (tab_get (bR s.O) hx)
              have fo := hO.out.free x
              have ki := hX.out.cell (tab_get (bR s.I) hfx)
              have fi := hX.out.free (f x)
              have kk2 := hKn.out.cell (tab_get (bR s.K) hpx)
              have fk2 := hKn.out.free (ptn f g x)
              have HKs : Hid (((tab k (bR s.K)).set x (.bool true)).set (ptn f g x) (.bool true) = tab k (bR (s.step f g x).K)) := by unfold Hid; rw [bR_set, bR_set]; rfl
              have HOs : Hid ((tab k (bR s.O)).set x (.bool true) = tab k (bR (s.step f g x).O)) := by unfold Hid; rw [bR_set]; rfl
              have HXs : Hid ((tab k (bR s.I)).set (f x) (.bool true) = tab k (bR (s.step f g x).I)) := by unfold Hid; rw [bR_set]; rfl
              obtain ⟨y, hy⟩ : ∃ y, f x = y := ⟨_, rfl⟩
              obtain ⟨z, hz⟩ : ∃ z, ptn f g x = z := ⟨_, rfl⟩
              rw [hy] at kp hfx hnx kg ki fi HXs
              rw [hz] at hpx hnp kg kk2 fk2 HKs HCH
              obtain ⟨y2, hy2⟩ : ∃ y2, nb y = y2 := ⟨_, rfl⟩
              obtain ⟨z2, hz2⟩ : ∃ z2, nb z = z2 := ⟨_, rfl⟩
              have HY2 := Lib.hid hy2
              have HZ2 := Lib.hid hz2
              rw [hy2] at hnx kg
              rw [hz2] at hnp HCH
              have nxz : ¬ x = z := fun e => HP.out.ptn_ne hx (by rw [hz]; exact e.symm)
              clear hy hz hy2 hz2 hK hC hch
              go_wp2_with (first
                | (go_at_call 31; refine (besideR_any y _ (by omega)).mono ?_; rw [HY2.out]; rintro e w' ⟨rfl, rfl⟩)
                | (go_at_call 31; refine (besideR_any z _ (by omega)).mono ?_; rw [HZ2.out]; rintro e w' ⟨rfl, rfl⟩))
              go_roundg (unk k (s.step f g x).K)
              case measure => have := HUN.out; have := hun.out; omega
              case rel =>
                refine ⟨s.step f g x, z2, hnp, rfl, HC1, HCH, Nat.le_refl _, ?_, ?_, ?_, ?_, ?_⟩
                · rw [← HXs.out]; exact (((hX.out.setOther (p := ⟨bk, x, none⟩) n2 _).setOther (p := ⟨bo, x, none⟩) n1 _).set y _).setOther (p := ⟨bk, z, none⟩) n2 _
                · rw [← HOs.out]; exact (((hO.out.setOther (p := ⟨bk, x, none⟩) n5 _).set x _).setOther (p := ⟨bi, y, none⟩) n4 _).setOther (p := ⟨bk, z, none⟩) n5 _
                · rw [← HKs.out]; exact (((hKn.out.set x _).setOther (p := ⟨bo, x, none⟩) n8 _).setOther (p := ⟨bi, y, none⟩) n7 _).set z _
                · exact (((hG.out.setOther (p := ⟨bk, x, none⟩) n12 _).setOther (p := ⟨bo, x, none⟩) n11 _).setOther (p := ⟨bi, y, none⟩) n10 _).setOther (p := ⟨bk, z, none⟩) n12 _
                · exact (((hB.out.setCell (p := ⟨bk, x, none⟩) (by show bi ≤ bk; omega) _).setCell (p := ⟨bo, x, none⟩) (by show bi ≤ bo; omega) _).setCell (p := ⟨bi, y, none⟩) (Nat.le_refl _) _).setCell (p := ⟨bk, z, none⟩) (by show bi ≤ bk; omega) _
            · have kh : wr.cell? ⟨bk, x, none⟩ = some (.bool true) := by rw [kh0]; unfold bR; rw [hK]
              have hss : s = halvesK k f g (q + 1) := by rw [← hch.out, chase_known f g hK]
              subst hss
              clear kh0 hK hch hC
              go_wp2
              go_roundw
              case rel => exact ⟨q + 1, hlq, by go_num, hX, hO, hKn, hG, hB⟩
              case measure => simp [intOf]; omega
        · have hqk : q = k := by omega
          subst hqk
          have HF : Hid (HalvesPost q (halvesK q f g q) w (.returned (.tuple #[.slice (some ⟨bi, 0, none⟩) q q, .slice (some ⟨bo, 0, none⟩) q q])) wr) :=
            ⟨_, _, rfl, Bools.of_row (by rw [← bools_tabR]; exact hX.out) (by simp) (by unfold maxLen; omega) (Nat.le_refl _), Bools.of_row (by rw [← bools_tabR]; exact hO.out) (by simp) (by unfold maxLen; omega) (Nat.le_refl _), by have := hB.out; rwa [← HBI.out] at this⟩
          clear hX hO hK hG hB
          go_wp2
          exact bodyPost_ret (v := .tuple #[.slice (some ⟨bi, 0, none⟩) q q, .slice (some ⟨bo, 0, none⟩) q q]) (by simp [results, Tryd.results36, go_sem]) rfl HF.out
end Go.Proofs.YtnmkficfbnnakaaDoor
