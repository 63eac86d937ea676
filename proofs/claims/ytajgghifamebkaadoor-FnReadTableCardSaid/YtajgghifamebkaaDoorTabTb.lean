/- the draw of a table -/
import Derived.Test.YtajgghifamebkaaDoorTabTs
import Derived.Deep.RegionLaw
namespace Go.Proofs.YtajgghifamebkaaDoor
set_option linter.unusedSimpArgs false
set_option linter.unusedVariables false
open Go.RowKit
theorem Tryd.mkL (l : Nat) (h : l = 1 ∨ l = 2 ∨ l = 3) (w : World) : (Instr.makeSlice 38 (.int .i64 (l : Int)) (.int .i64 (l : Int))).run Tryd.prog w = .ok (.slice (some ⟨w.heap.size, 0, none⟩) l l) (w.alloc (.cells (ints (List.replicate l 0)).toArray 3)) := by
  rcases h with rfl | rfl | rfl
  · kernel_rfl
  · kernel_rfl
  · kernel_rfl
theorem view_one4 (w : World) (o : Obj) (u : Value) (t : TypeId) : View ((w.alloc o).alloc (.cells #[u] t)) 1 (.slice (some ⟨w.heap.size + 1, 0, none⟩) 1 1) 1 [u] := by
  have := view_one (w.alloc o) u t
  rwa [World.size_alloc] at this
theorem x_subN1 {ρ : Operand → Value} {w : World} {o : Oper} {x : Operand} {n : Nat} {t u : TypeId} (ho : o.op = .binOp .sub t x (.const (.int .i64 1)) u) (_ : Tryd.prog.underlying t = some (.int .i64)) (hx : ρ x = .int .i64 ((n + 1 : Nat) : Int)) (hc : ∀ v, ρ (.const v) = v) (hn : n ≤ 1000) :
    (execOp ρ o).run Tryd.prog w = .ok (.value (.int .i64 (n : Int))) w := by
  unfold execOp
  simp only [ho, hx, hc]
  have e : ((n + 1 : Nat) : Int) - 1 = n := by omega
  have := IntWalk.i64_in (n : Int) ⟨by omega, by omega⟩
  simp [go_sem]
  first | exact this | (rw [← e]; simp [this]) | simpa using this
theorem x_indexI0 {ρ : Operand → Value} {w : World} {o : Oper} {x : Operand} {g n c : Nat} (ho : o.op = .indexAddr 38 x (.const (.int .i64 0))) (hx : ρ x = .slice (some ⟨g, 0, none⟩) n c) (hc : ∀ v, ρ (.const v) = v) (hk : 0 < n) : (execOp ρ o).run Tryd.prog w = .ok (.value (.pointer (some ⟨g, 0, none⟩))) w := by
  unfold execOp
  have h2 : (0 : Int) < (n : Int) := by omega
  simp only [ho, hx, hc]
  simp [go_sem, Tryd.underlying38, hk]
theorem rowsB_of {l n : Nat} {f : Nat → List Int} (hl : l ≤ 3) (hn : n ≤ 16) (h : ∀ i, i < n → (f i).length = l ∧ ∀ x ∈ f i, -3 ≤ x ∧ x ≤ 255) : RowsB n f :=
  ⟨by omega, fun i hi => ⟨by have := (h i hi).1; omega, fun x hx => by have := (h i hi).2 x hx; omega⟩⟩
set_option maxRecDepth 40000 in
set_option maxHeartbeats 4000000 in
theorem table_any (R : Nat) (v : Value) (bs : List Int) (kind : Nat) (m : Int) (p : Nat) (w : World) (h : Rd w R v bs p) (hp : p ≤ 50000000) (hk : kind < 3) (hm : -1000 ≤ m ∧ m ≤ 1000) :
    Calls Tryd.prog 25 #[.pointer (some ⟨R, 0, none⟩), .int .i64 kind, .int .i64 m] w (TabDr R v bs p w) := by
  obtain ⟨lowR, lowV⟩ := h.low
  have LV := Lib.hid lowV
  obtain ⟨W0, hW0⟩ : ∃ W0, W0 = (w.alloc (.cells #[.slice none 0 0, .slice none 0 0] 26)).alloc (.cells #[] 9) := ⟨_, rfl⟩
  have hB0 : Below w.heap.size w W0 := by rw [hW0]; exact ((Below.refl _ _).alloc (Nat.le_refl _) _).alloc (by simp) _
  have HR0 : Hid (Row W0 w.heap.size 26 [.slice none 0 0, .slice none 0 0]) := by rw [hW0]; exact (Row.new w 26 [.slice none 0 0, .slice none 0 0]).alloc _
  have HSZ : Hid (W0.heap.size = w.heap.size + 2) := by rw [hW0]; simp [Hid]
  have H := Lib.hid (h.below hB0 lowR lowV)
  have HG0 := Lib.hid (grown_below (grown_refl w (some R)) hB0)
  have HW := Lib.hid hW0
  clear h lowV hB0 hW0
  go_enter Tryd.func25, Tryd.ntmps25
  go_wp2_with fail
  rw [← HW.out]
  clear HW
  refine (names_any R v bs kind p _ H.out (by omega) hk).mono ?_
  rintro e w1 ⟨an, cn, ns, p1, rfl, hns, hl1, hl3, hs9, hp1, hp2, hr, hg⟩
  have hz1 : w.heap.size + 2 ≤ w1.heap.size := by have := hg.size; have := HSZ.out; omega
  have HNS := Lib.hid hns
  have HS9 := Lib.hid hs9
  have R1 := Lib.hid hr
  have G1 := Lib.hid (grown_trans HG0.out hg)
  have HR1 := Lib.hid (HR0.out.grown hg (some_ne (by omega)))
  obtain ⟨l, hl⟩ : ∃ l, ns.length = l := ⟨_, rfl⟩
  have HL := Lib.hid hl
  have HV1 : Hid (View w1 1 (.slice an l cn) l (strs ns)) := by have := hns; unfold Strs at this; rw [hl] at this; exact this
  rw [hl] at hl1 hl3 ⊢
  have hlc : l = 1 ∨ l = 2 ∨ l = 3 := by omega
  clear hns hs9 hr hg H HG0 HR0 hl HSZ
  go_wp2_with (at_builtin; refine wpList_app _ rfl (.tmp 8) (.tmp 11) 23 rfl (w.heap.size + 1) 9 (.string ByteArray.empty) 1 16 Tryd.underlying23 Tryd.infoStr rfl (by omega) (.slice (some ⟨w.heap.size + 1, 0, none⟩) 0 0) 0 [] rfl (Gr.none0 _ _ _ _ _) (.slice an l cn) l (strs ns) rfl HV1.out (one_strs _) (by unfold maxLen; omega) (by omega) (by omega) ?_; intro v2 w2 g2 r2 k2; have G2 := Lib.hid g2; have K2 := Lib.hid r2; obtain ⟨p2, q2, hv2⟩ := g2.lit; subst hv2; clear g2 r2 k2)
  obtain ⟨gx, hgx⟩ : ∃ gx, w2.heap.size = gx := ⟨_, rfl⟩
  have HTS : Hid (TS w R (w.heap.size + 1) gx v bs p1 (.slice p2 (0 + l) q2) (.slice none 0 0) (fun _ => undef) ns 0 (fun _ => []) (w2.alloc (.cells #[.slice p2 (0 + l) q2, .slice none 0 0] 26))) := by
    have hnn : ∀ g : Nat, gBlock (.slice (some ⟨w.heap.size + 1, 0, none⟩) 0 0) ≠ some g := fun g e => by simp [gBlock] at e
    have hb2 : Below w.heap.size w1 w2 := (Below.refl _ _).grown K2.out (by omega) (fun g hg => absurd hg (hnn g))
    have hz2 : w1.heap.size ≤ w2.heap.size := K2.out.size
    have hb3 : Below w.heap.size w1 (w2.alloc (.cells #[.slice p2 (0 + l) q2, .slice none 0 0] 26)) := hb2.alloc (by omega) _
    have hgn := G2.out
    rw [List.nil_append] at hgn
    refine ⟨by rw [← hgx]; exact Row.new w2 26 [.slice p2 (0 + l) q2, .slice none 0 0], (HR1.out.grown K2.out (hnn _)).alloc _, ?_, ⟨Gr.nil _ _ _ _, fun i hi => absurd hi (Nat.not_lt_zero _)⟩, R1.out.below hb3 lowR LV.out, grown_below G1.out hb3, ⟨lowR, by omega, by omega⟩, LV.out⟩
    rw [HL.out]
    have := hgn.alloc (.cells #[.slice p2 (0 + l) q2, .slice none 0 0] 26)
    rw [Nat.zero_add] at this ⊢
    exact this
  clear R1 G1 HR1 HV1 HNS G2 K2 hz1
  try rw [hgx]
  rw [Nat.zero_add] at HTS
  try rw [Nat.zero_add]
  generalize (w2.alloc (.cells #[.slice p2 l q2, .slice none 0 0] 26)) = W at HTS ⊢
  clear hgx
  have HX := Lib.hid HTS.out.x
  refine reader_region_last (R := R) (v := v) (bs := bs) (p0 := p1) [IsV (.pointer (some ⟨R, 0, none⟩)), IsV (.pointer (some ⟨gx, 0, none⟩)), IsV (.slice p2 l q2), IsV (.int .i64 l), IsV (.pointer (some ⟨R, 0, none⟩)), IsNat 6, IsV (.pointer (some ⟨R, 0, none⟩)), IsNat 6, LitP R 3 (fun x => 0 ≤ x ∧ x < (17 : Nat)), IsV (.pointer (some ⟨R, 0, none⟩)), IsNat 12, IsNat 3, ElemP R (fun x => 0 ≤ x ∧ x < (17 : Nat)), IsNat 17, RowsP R (w.heap.size + 1) l, IsV (.pointer (some ⟨gx, 1, none⟩))]
    97 [14, 15, 16, 17, 18, 19, 20, 21, 22, 23, 24, 25, 26, 27, 28, 29] _ rfl HTS.out.rd (by kernel_rfl) (by kernel_rfl) (by kernel_rfl) (by kernel_rfl)
    ⟨stab_v _ _, stab_v _ _, stab_v _ _, stab_v _ _, stab_v _ _, stab_n _ _, stab_v _ _, stab_n _ _, stab_l _ _ _, stab_v _ _, stab_n _ _, stab_n _ _, stab_e _ _, stab_n _ _, stab_r _ _ _, stab_v _ _, trivial⟩ rfl rfl rfl (by kernel_rfl) ?_ ?_
  · refine ⟨?_, ?_, ?_, ?_, ?_, ?_, ?_, ?_, ?_, ?_, ?_, ?_, ?_, ?_, ?_, ?_, trivial⟩
    · exact op_fresh rfl (.inl rfl) (by kernel_rfl) rfl rfl
    · exact op_run rfl fun a w' h => ⟨_, xt_field (ρ := a.eval) (k := 0) (q := gx) rfl (by omega) ((h.2 7 (by kernel_rfl)).trans rfl), rfl⟩
    · exact op_runB rfl fun a w' hg h => ⟨_, xt_load (ρ := a.eval) (.inl rfl) rfl (h.1 1 _ 15 rfl rfl (by kernel_rfl)) ((HX.out.grown (grown_drew hg) (some_ne (by have := HTS.out.ge; omega))).cell (i := 0) rfl), rfl⟩
    · exact op_run rfl fun a w' h => ⟨_, x_lenT (ρ := a.eval) (.inl rfl) rfl (h.1 2 _ 16 rfl rfl (by kernel_rfl)), rfl⟩
    · exact op_fresh rfl (.inl rfl) (by kernel_rfl) rfl rfl
    · exact op_pick (n := 6) (j := 4) rfl rfl rfl rfl (by kernel_rfl) rfl rfl (by omega) (by show p1 + 400 * 17 ≤ 1000000000; omega)
    · exact op_fresh rfl (.inl rfl) (by kernel_rfl) rfl rfl
    · exact op_pick (n := 6) (j := 6) rfl rfl rfl rfl (by kernel_rfl) rfl rfl (by omega) (by show p1 + 400 * 17 ≤ 1000000000; omega)
    · exact op_alloc rfl fun a w' hR h => by
        obtain ⟨x, hx, hxl⟩ := h.1 5 _ 19 rfl rfl (by kernel_rfl)
        obtain ⟨y, hy, hyl⟩ := h.1 7 _ 21 rfl rfl (by kernel_rfl)
        exact ⟨_, _, x_lit3 (ρ := a.eval) rfl hx hy rfl, lit_mk hR rfl (by intro z hz; simp at hz; omega)⟩
    · exact op_fresh rfl (.inl rfl) (by kernel_rfl) rfl rfl
    · exact op_pick (n := 12) (j := 9) rfl rfl rfl rfl (by kernel_rfl) rfl rfl (by omega) (by show p1 + 400 * 17 ≤ 1000000000; omega)
    · exact op_run rfl fun a w' h => by
        obtain ⟨x, hx, hxl⟩ := h.1 10 _ 24 rfl rfl (by kernel_rfl)
        exact ⟨_, x_quo5 (ρ := a.eval) rfl Tryd.underlying3 hx (fun _ => rfl) (by omega), x / 5, rfl, by omega⟩
    · exact op_index (j := 8) (k := 11) rfl rfl rfl rfl (by kernel_rfl) rfl rfl (by kernel_rfl) rfl rfl (Nat.le_refl _) rfl
    · exact op_load (j := 12) rfl rfl rfl rfl (by kernel_rfl) rfl rfl (fun y w h => nat_of y w h)
    · intro c a w' hc _ _ hI hd hf K hK
      obtain ⟨⟨pp, h1, h2, h3⟩, h4⟩ := hI
      have hv1 : a.tmps.getD 14 undef = .pointer (some ⟨R, 0, none⟩) := hd 0 _ 14 rfl rfl (by kernel_rfl)
      have hv2 : a.tmps.getD 17 undef = .int .i64 l := hd 3 _ 17 rfl rfl (by kernel_rfl)
      obtain ⟨x, hv3, hxl⟩ : IsNat 17 (a.tmps.getD 27 undef) w' := hd 13 _ 27 rfl rfl (by kernel_rfl)
      have hc17 : c < 17 := hc
      rw [if_pos (by simp [Region.wanted])]
      unfold Oper.wp
      rw [x_rows (ρ := a.eval) (w := w') (u1 := .pointer (some ⟨R, 0, none⟩)) (u2 := .int .i64 l) (u3 := .int .i64 x) ?e1 ?e2 ?e3 ?e4 rfl]
      case e1 => rfl
      case e2 => exact hv1
      case e3 => exact hv2
      case e4 => exact hv3
      refine (rows_any R v bs l x pp w' h3 (by omega) (by omega) (by omega)).mono ?_
      rintro e w3 ⟨u, vs3, f3, p3, rfl, ho, hf3, q1, q2, hr, hg⟩
      have hmul : 4 * l * x ≤ 192 := by
        have e1 : 4 * l ≤ 12 := by omega
        have e2 := Nat.mul_le_mul e1 (show x ≤ 16 by omega)
        omega
      exact hK _ w3 ⟨by omega, x, vs3, f3, by omega, ho.low (by have := HTS.out.size; have := h4.size; have e9 : W.drew.heap.size = W.heap.size := rfl; omega), hf3⟩ hg ⟨⟨p3, by omega, by omega, hr⟩, grown_trans h4 hg⟩
    · exact op_run rfl fun a w' h => ⟨_, xt_field (ρ := a.eval) (k := 1) (q := gx) rfl (by omega) ((h.2 7 (by kernel_rfl)).trans rfl), rfl⟩
  intro U w3 hr hg hφ
  obtain ⟨-, n, vs, f, hn17, ho, hfl⟩ : RowsP R (w.heap.size + 1) l (U 28) w3 := hφ 14 _ 28 (by decide) rfl rfl
  have h29 : U 29 = .pointer (some ⟨gx, 1, none⟩) := hφ 15 _ 29 (by decide) rfl rfl
  obtain ⟨p3, hp3, hp4, hrd⟩ := hr
  replace hp4 : p3 ≤ p1 + 400 * 17 := hp4
  obtain ⟨p5, q5, h28⟩ := ho.1.lit
  have HT3 := HTS.out.read hrd hg
  rw [h28] at ho
  refine ⟨_, x_storeRs (q := gx) rfl (by simpa [nf, Act.eval] using h29) (by simpa [nf, Act.eval] using h28) HT3.x, ?_⟩
  have HT4 := Lib.hid (HT3.rows ho)
  have HFL := Lib.hid hfl
  clear HT3 hrd hg hφ ho hfl HTS HX
  simp [nf]
  rw [h28, h29]
  clear h28 h29
  generalize (w3.setCell ⟨gx, 1, none⟩ (.slice p5 n q5)) = W3 at HT4 ⊢
  have H4 : Hid (ns.length ≤ 4) := by unfold Hid; rw [HL.out]; omega
  have HRB := Lib.hid (rowsB_of hl3 hn17 HFL.out)
  go_wp2_with fail
  refine (odd_any R v bs m p3 _ HT4.out.rd (by omega) (by omega)).mono ?_
  rintro e w4 ⟨t, p4, rfl, q1, q2', hr, hg, -⟩
  have HT5 := Lib.hid (HT4.out.read hr hg)
  clear hr hg HT4
  cases t
  · have fx0 := HT5.out.x.cell (i := 0) rfl
    have fx1 := HT5.out.x.cell (i := 1) rfl
    have fr0 := HT5.out.r.cell (i := 0) rfl
    have fr1 := HT5.out.r.cell (i := 1) rfl
    have ff0 := HT5.out.r.free 0
    have ff1 := HT5.out.r.free 1
    go_wp2
    have hrz := (HT5.out.r.set 0 (.slice p2 l q2)).set 1 (.slice p5 n q5)
    have g0 := hrz.cell (i := 0) rfl
    have g1 := hrz.cell (i := 1) rfl
    have HFIN := Lib.hid (HT5.out.fin (p0 := p) H4.out HS9.out HRB.out (by omega) (by omega))
    clear hrz fx0 fx1 fr0 fr1 ff0 ff1
    exact bodyPost_ret (v := .agg #[.slice p2 l q2, .slice p5 n q5]) (by simp [results, Tryd.results25, go_sem, g0, g1]) rfl HFIN.out
  · go_wp2_with fail
    refine (pick_nat R v bs 6 p4 _ HT5.out.rd (by omega) (by omega)).mono ?_
    rintro e w5 ⟨x, rfl, hx, hr, hg⟩
    have HT6 := Lib.hid (HT5.out.read hr hg)
    clear hr hg HT5
    have hxc : x = 0 ∨ x = 1 ∨ x = 2 ∨ x = 3 ∨ x = 4 ∨ x = 5 := by omega
    have hge := HT6.out.ge
    rcases hxc with rfl | rfl | rfl | rfl | rfl | rfl
    · clear hx
      go_wp2_with fail
      obtain ⟨gn, cn', hnv, -, -, -⟩ := HT6.out.name0 (by rw [HL.out]; omega) ByteArray.empty
      rw [HL.out] at hnv
      obtain ⟨rfl, rfl⟩ : p2 = some ⟨gn, 0, none⟩ ∧ q2 = cn' := by cases hnv; exact ⟨rfl, rfl⟩
      have HX := Lib.hid HT6.out.x
      refine reader_region_last (R := R) (v := v) (bs := bs) (p0 := p4 + 1) [IsV (.pointer (some ⟨gx, 0, none⟩)), IsV (.slice (some ⟨gn, 0, none⟩) l q2), IsV (.pointer (some ⟨R, 0, none⟩)), NameP, IsV (.pointer (some ⟨gn, 0, none⟩))]
        97 [39, 40, 41, 42, 43] _ rfl HT6.out.rd (by kernel_rfl) (by kernel_rfl) (by kernel_rfl) (by kernel_rfl)
        ⟨stab_v _ _, stab_v _ _, stab_v _ _, stab_nm _, stab_v _ _, trivial⟩ rfl rfl rfl (by kernel_rfl) ?_ ?_
      · refine ⟨?_, ?_, ?_, ?_, ?_, trivial⟩
        · exact op_run rfl fun a w' h => ⟨_, xt_field (ρ := a.eval) (k := 0) (q := gx) rfl (by omega) ((h.2 7 (by kernel_rfl)).trans rfl), rfl⟩
        · exact op_runB rfl fun a w' hg h => ⟨_, xt_load (ρ := a.eval) (.inl rfl) rfl (h.1 0 _ 39 rfl rfl (by kernel_rfl)) ((HX.out.grown (grown_drew hg) (some_ne (by omega))).cell (i := 0) rfl), rfl⟩
        · exact op_fresh rfl (.inl rfl) (by kernel_rfl) rfl rfl
        · intro c a w' hc _ _ hI hd hf K hK
          obtain ⟨⟨pp, h1, h2, h3⟩, h4⟩ := hI
          have hv1 : a.tmps.getD 41 undef = .pointer (some ⟨R, 0, none⟩) := hd 2 _ 41 rfl rfl (by kernel_rfl)
          have hc6 : c < 6 := hc
          rw [if_pos (by simp [Region.wanted])]
          unfold Oper.wp
          rw [x_name (ρ := a.eval) (w := w') (u1 := .pointer (some ⟨R, 0, none⟩)) (u2 := .int .i64 1) ?e1 ?e2 ?e3 rfl]
          case e1 => rfl
          case e2 => exact hv1
          case e3 => rfl
          refine (name_any R v bs 1 pp w' h3 (by omega) (by omega)).mono ?_
          rintro e w3 ⟨s, p8, rfl, hs, q1, q2, hr, hg⟩
          exact hK _ w3 ⟨s, rfl, hs⟩ hg ⟨⟨p8, by omega, by omega, hr⟩, grown_trans h4 hg⟩
        · exact op_run rfl fun a w' h => ⟨_, x_indexN0 (ρ := a.eval) rfl (h.1 1 _ 40 rfl rfl (by kernel_rfl)) (fun _ => rfl) (by omega), rfl⟩
      intro U w6 hr hg hφ
      obtain ⟨s, h42, hs⟩ : NameP (U 42) w6 := hφ 3 _ 42 (by decide) rfl rfl
      have h43 : U 43 = .pointer (some ⟨gn, 0, none⟩) := hφ 4 _ 43 (by decide) rfl rfl
      obtain ⟨p6, hp6, hp7, hrd⟩ := hr
      replace hp7 : p6 ≤ p4 + 1 + 400 * 6 := hp7
      have HT7 := HT6.out.read hrd hg
      obtain ⟨g7, c7, hv7, ⟨u7, hu7⟩, hf7, hT8⟩ := HT7.name0 (by rw [HL.out]; omega) s
      rw [HL.out] at hv7
      cases hv7
      have HT8 := Lib.hid hT8
      refine ⟨_, x_storeStr rfl (by simpa [nf, Act.eval] using h43) (by simpa [nf, Act.eval] using h42) hu7 hf7, ?_⟩
      clear HT7 hrd hg hφ HT6 HX hu7 hf7 hT8
      simp [nf]
      rw [h42, h43]
      clear h42 h43
      generalize (w6.setCell ⟨gn, 0, none⟩ (.string s)) = W8 at HT8 ⊢
      have H48 : Hid ((ns.set 0 s).length ≤ 4) := by unfold Hid; rw [List.length_set]; exact H4.out
      have HS98 : Hid (∀ q ∈ ns.set 0 s, q.size ≤ 9) := fun q hq => by
        rcases List.mem_or_eq_of_mem_set hq with h | rfl
        · exact HS9.out q h
        · exact hs
      have fx0 := HT8.out.x.cell (i := 0) rfl
      have fx1 := HT8.out.x.cell (i := 1) rfl
      have fr0 := HT8.out.r.cell (i := 0) rfl
      have fr1 := HT8.out.r.cell (i := 1) rfl
      have ff0 := HT8.out.r.free 0
      have ff1 := HT8.out.r.free 1
      go_wp2
      have hrz := (HT8.out.r.set 0 (.slice (some ⟨gn, 0, none⟩) l q2)).set 1 (.slice p5 n q5)
      have g0 := hrz.cell (i := 0) rfl
      have g1 := hrz.cell (i := 1) rfl
      have HFIN := Lib.hid (HT8.out.fin (p0 := p) H48.out HS98.out HRB.out (by omega) (by omega))
      clear hrz fx0 fx1 fr0 fr1 ff0 ff1
      exact bodyPost_ret (v := .agg #[.slice (some ⟨gn, 0, none⟩) l q2, .slice p5 n q5]) (by simp [results, Tryd.results25, go_sem, g0, g1]) rfl HFIN.out
    · clear hx
      obtain ⟨gn, cn', hnv, -, -, -⟩ := HT6.out.name0 (by rw [HL.out]; omega) ByteArray.empty
      rw [HL.out] at hnv
      obtain ⟨rfl, rfl⟩ : p2 = some ⟨gn, 0, none⟩ ∧ q2 = cn' := by cases hnv; exact ⟨rfl, rfl⟩
      obtain ⟨s, hs0⟩ : ∃ s, ns[0]? = some s := ⟨_, List.getElem?_eq_getElem (by rw [HL.out]; omega)⟩
      have HSN : Hid (s.size ≤ 9) := HS9.out s (List.mem_of_getElem? hs0)
      have hsc : w5.cell? ⟨gn, 0, none⟩ = some (.string s) := by
        obtain ⟨g9, c9, hv9, -, -, -, -, hcl9, -⟩ := HT6.out.nm.at (by rw [HL.out]; omega)
        cases hv9
        exact hcl9 0 _ (by unfold strs; rw [List.getElem?_map, hs0]; rfl)
      have x0 := HT6.out.x.cell (i := 0) rfl
      have hba : Below w5.heap.size w5 (w5.alloc (.cells #[.string s] 9)) := (Below.refl _ _).alloc (Nat.le_refl _) _
      have x0a := (HT6.out.below hba).x.cell (i := 0) rfl
      have HG6 : Hid (Gr (w5.alloc (.cells #[.string s] 9)).drew (w.heap.size + 1) 9 1 (.slice (some ⟨gn, 0, none⟩) l q2) l (strs ns)) := by
        have := (HT6.out.below hba).drew.nm
        rw [HL.out] at this
        exact this
      have HTA := Lib.hid ((HT6.out.below hba).drew)
      have hsz5 := HT6.out.size
      have hl0 : 0 < l := by omega
      clear hs0 hba
      go_wp2_with fail
      go_region_law (first
        | (refine step_app _ rfl (.tmp 47) (.tmp 52) 23 rfl (w.heap.size + 1) 9 (.string ByteArray.empty) 1 16 Tryd.underlying23 Tryd.infoStr rfl (by omega) (.slice (some ⟨gn, 0, none⟩) l q2) l (strs ns) rfl HG6.out _ 1 [.string s] rfl ((view_one w5 (.string s) 9).mono (Below.refl _ _).drew (Nat.le_refl _)) (by simp [Value.oneCell']) (by unfold maxLen; omega) (by omega) (by simp; omega) ?_
           intro v7 w7 g7 r7 k7
           have hg7 : Gr w7 (w.heap.size + 1) 9 1 v7 (ns ++ [s]).length (strs (ns ++ [s])) := by rw [List.length_append, HL.out, show strs (ns ++ [s]) = strs ns ++ [.string s] by simp [strs]]; exact g7
           obtain ⟨hx7, hT8⟩ := HTA.out.midN hg7 r7
           obtain ⟨a7, c7, hv7⟩ := g7.lit
           subst hv7
           have HT8 := Lib.hid hT8
           have s0 := hx7.cell (i := 0) rfl
           have sf := hx7.free 0
           clear g7 r7 k7 hg7 hx7 hT8))
      all_goals
        go_simp
        have H48 : Hid ((ns ++ [s]).length ≤ 4) := by unfold Hid; rw [List.length_append, HL.out]; simp; omega
        have HS98 : Hid (∀ q ∈ ns ++ [s], q.size ≤ 9) := fun q hq => by
          rcases List.mem_append.1 hq with h | h
          · exact HS9.out q h
          · obtain rfl : q = s := by simpa using h
            exact HSN.out
        clear x0 x0a s0 sf hsc
        generalize (w7.setCell ⟨gx, 0, none⟩ (.slice a7 (l + 1) c7)) = W8 at HT8 ⊢
        have fx0 := HT8.out.x.cell (i := 0) rfl
        have fx1 := HT8.out.x.cell (i := 1) rfl
        have fr0 := HT8.out.r.cell (i := 0) rfl
        have fr1 := HT8.out.r.cell (i := 1) rfl
        have ff0 := HT8.out.r.free 0
        have ff1 := HT8.out.r.free 1
        go_wp2
        have hrz := (HT8.out.r.set 0 (.slice a7 (l + 1) c7)).set 1 (.slice p5 n q5)
        have g0 := hrz.cell (i := 0) rfl
        have g1 := hrz.cell (i := 1) rfl
        have HFIN := Lib.hid (HT8.out.fin (p0 := p) H48.out HS98.out HRB.out (by omega) (by omega))
        clear hrz fx0 fx1 fr0 fr1 ff0 ff1
        exact bodyPost_ret (v := .agg #[.slice a7 (l + 1) c7, .slice p5 n q5]) (by simp [results, Tryd.results25, go_sem, g0, g1]) rfl HFIN.out
    · clear hx
      have hne : gx ≠ w.heap.size := by omega
      have hne' : w.heap.size ≠ gx := by omega
      have x0 := HT6.out.x.cell (i := 0) rfl
      have x1 := HT6.out.x.cell (i := 1) rfl
      have hba : Below w5.heap.size w5 (w5.alloc (.cells #[.int .i64 1, .int .i64 2, .int .i64 3, .int .i64 4, .int .i64 5, .int .i64 6, .int .i64 7] 3)) := (Below.refl _ _).alloc (Nat.le_refl _) _
      have HTA := Lib.hid (HT6.out.below hba)
      have HG7 : Hid (Gr (w5.alloc (.cells #[.int .i64 1, .int .i64 2, .int .i64 3, .int .i64 4, .int .i64 5, .int .i64 6, .int .i64 7] 3)) (w.heap.size + 1) 3 1 (.slice (some ⟨w5.heap.size, 0, none⟩) 7 7) ([1, 2, 3, 4, 5, 6, 7] : List Int).length (ints [1, 2, 3, 4, 5, 6, 7])) :=
        Gr.of_made (Row.new w5 3 (ints [1, 2, 3, 4, 5, 6, 7])) rfl (by unfold maxLen; simp) HT6.out.size
      have HZ5 := Lib.hid HT6.out.size
      have HRB8 : Hid (RowsB (n + 1) (upd f n [1, 2, 3, 4, 5, 6, 7])) := ⟨by omega, fun i hi => by
        by_cases e : i = n
        · subst e; rw [upd_same]; exact ⟨by simp, by decide⟩
        · rw [upd_other _ _ e]; exact HRB.out.2 i (by omega)⟩
      have HTB := Lib.hid (HTA.out.below ((Below.refl _ _).alloc (Nat.le_refl _) (.cells #[.slice (some ⟨w5.heap.size, 0, none⟩) 7 7] 38)))
      clear hba
      go_wp2_with (at_builtin; refine wpList_app _ rfl (.tmp 58) (.tmp 60) 24 rfl (w.heap.size + 1) 38 (.slice none 0 0) 1 24 Tryd.underlying24 Tryd.infoInts rfl (by omega) (.slice p5 n q5) n (tab n vs) rfl (HTA.out.o.1.alloc _) _ 1 [.slice (some ⟨w5.heap.size, 0, none⟩) 7 7] rfl (view_one4 _ _ _ _) (by simp [Value.oneCell']) (by unfold maxLen; omega) (by omega) (by have := HZ5.out; simp; omega) ?_; intro v7 w7 g7 r7 k7; obtain ⟨hx7, hT8⟩ := HTA.out.midR HG7.out ((Below.refl _ _).alloc (Nat.le_refl _) (.cells #[.slice (some ⟨w5.heap.size, 0, none⟩) 7 7] 38)) g7 r7; obtain ⟨a7, c7, hv7⟩ := g7.lit; subst hv7; have HT8 := Lib.hid hT8; have hr7 := (HTB.out.write r7 (fun g e => (HTB.out.o.1.lt g e).1)).1; have fx0 := hx7.cell (i := 0) rfl; have fx1 := hx7.cell (i := 1) rfl; have fr0 := hr7.cell (i := 0) rfl; have fr1 := hr7.cell (i := 1) rfl; have ff0 := hr7.free 0; have ff1 := hr7.free 1; have sf := hx7.free 1; clear g7 r7 k7 hx7 hT8 hr7)
      have HFIN := Lib.hid (HT8.out.fin (p0 := p) H4.out HS9.out HRB8.out (by omega) (by omega))
      have hrz := (HT8.out.r.set 0 (.slice p2 l q2)).set 1 (.slice a7 (n + 1) c7)
      have g0 := hrz.cell (i := 0) rfl
      have g1 := hrz.cell (i := 1) rfl
      clear hrz fx0 fx1 fr0 fr1 ff0 ff1 sf
      exact bodyPost_ret (v := .agg #[.slice p2 l q2, .slice a7 (n + 1) c7]) (by simp [results, Tryd.results25, go_sem, g0, g1]) rfl HFIN.out
    · clear hx
      have hne : gx ≠ w.heap.size := by omega
      have hne' : w.heap.size ≠ gx := by omega
      have x0 := HT6.out.x.cell (i := 0) rfl
      go_wp2_with fail
      refine (rows_any R v bs l 17 (p4 + 1) _ HT6.out.rd (by omega) (by omega) (by omega)).mono ?_
      rintro e w6 ⟨u6, vs6, f6, p6, rfl, ho, hf6, q3, q4, hr, hg⟩
      obtain ⟨a6, c6, hu6⟩ := ho.1.lit
      subst hu6
      have HT7 := HT6.out.read hr hg
      have HT8 := Lib.hid (HT7.rows (ho.low HT6.out.size))
      have fx0 := HT7.x.cell (i := 0) rfl; have fx1 := HT7.x.cell (i := 1) rfl; have fr0 := HT7.r.cell (i := 0) rfl; have fr1 := HT7.r.cell (i := 1) rfl; have ff0 := HT7.r.free 0; have ff1 := HT7.r.free 1
      have sf := HT7.x.free 1
      have hp6 : p6 ≤ p4 + 1 + 204 := by
        have e1 : 4 * l ≤ 12 := by omega
        have e2 := Nat.mul_le_mul_right 17 e1
        omega
      have HRB8 : Hid (RowsB 17 f6) := ⟨Nat.le_refl _, fun i hi => ⟨by have := (hf6 i hi).1; omega, fun x hx => by have := (hf6 i hi).2 x hx; omega⟩⟩
      clear hr hg ho hf6 HT7 q4 HT6 x0
      go_wp2
      have HFIN := Lib.hid (HT8.out.fin (p0 := p) H4.out HS9.out HRB8.out (by omega) (by omega))
      have hrz := (HT8.out.r.set 0 (.slice p2 l q2)).set 1 (.slice a6 17 c6)
      have g0 := hrz.cell (i := 0) rfl
      have g1 := hrz.cell (i := 1) rfl
      clear hrz fx0 fx1 fr0 fr1 ff0 ff1 sf
      exact bodyPost_ret (v := .agg #[.slice p2 l q2, .slice a6 17 c6]) (by simp [results, Tryd.results25, go_sem, g0, g1]) rfl HFIN.out
    · clear hx
      have hz5 := HT6.out.size
      obtain ⟨xs, hxs, hxl, hxz⟩ : ∃ xs : List Int, List.replicate l 0 = xs ∧ xs.length = l ∧ ∀ x ∈ xs, x = 0 := ⟨_, rfl, List.length_replicate, fun x hx => (List.mem_replicate.1 hx).2⟩
      have hmk := Tryd.mkL l hlc w5.drew
      rw [hxs] at hmk
      obtain ⟨W6, hW6⟩ : ∃ W6, w5.drew.alloc (.cells (ints xs).toArray 3) = W6 := ⟨_, rfl⟩
      have hb6 : Below w5.heap.size w5.drew W6 := by rw [← hW6]; exact (Below.refl w5.drew.heap.size w5.drew).alloc (Nat.le_refl _) _
      have HT7 := Lib.hid (HT6.out.drew.below hb6)
      have HG7 : Hid (Gr W6 (w.heap.size + 1) 3 1 (.slice (some ⟨w5.heap.size, 0, none⟩) l l) xs.length (ints xs)) := by
        have := Gr.of_made (n := l) (sz := 1) (B := w.heap.size + 1) (Row.new w5.drew 3 (ints xs)) (by simp [ints, hxl]) (by unfold maxLen; omega) hz5
        rw [hxl, ← hW6]
        exact this
      have HZ6 : Hid (W6.heap.size = w5.heap.size + 1) := by rw [← hW6]; exact World.size_alloc _ _
      rw [hW6] at hmk
      have hmk' : (Instr.makeSlice 38 (.int .i64 (l : Int)) (.int .i64 (l : Int))).run Tryd.prog w5.drew = .ok (.slice (some ⟨w5.heap.size, 0, none⟩) l l) W6 := hmk
      clear hmk hW6 hb6 hxs
      have hb8 : Below W6.heap.size W6 (W6.alloc (.cells #[.slice (some ⟨w5.heap.size, 0, none⟩) l l] 38)) := (Below.refl _ _).alloc (Nat.le_refl _) _
      have x0 := HT6.out.x.cell (i := 0) rfl
      have x1 := HT6.out.x.cell (i := 1) rfl
      have y1 := HT7.out.x.cell (i := 1) rfl
      have z1 := (HT7.out.below hb8).x.cell (i := 1) rfl
      have HT9 := Lib.hid (HT7.out.below hb8)
      have HRB8 : Hid (RowsB (n + 1) (upd f n xs)) := ⟨by omega, fun i hi => by
        by_cases e : i = n
        · subst e; rw [upd_same]; exact ⟨by omega, fun x hx => by rw [hxz x hx]; omega⟩
        · rw [upd_other _ _ e]; exact HRB.out.2 i (by omega)⟩
      have HD8 : Hid (∀ i, i < n + 1 → i ≠ n → ∀ g, gBlock (upd vs n (.slice (some ⟨w5.heap.size, 0, none⟩) l l) i) = some g → gBlock (upd vs n (.slice (some ⟨w5.heap.size, 0, none⟩) l l) n) ≠ some g) := fun i hi hne g hg he => by
        rw [upd_other _ _ hne] at hg
        rw [upd_same] at he
        have h1 := ((HT6.out.o.2 i (by omega)).lt g hg).2
        simp [gBlock] at he
        omega
      have HXL := Lib.hid hxl
      have HZ5 := Lib.hid hz5
      clear hxz hb8 hxl hz5
      go_wp2_with fail
      go_region_law (first
        | (refine step_app _ rfl (.tmp 74) (.tmp 79) 24 rfl (w.heap.size + 1) 38 (.slice none 0 0) 1 24 Tryd.underlying24 Tryd.infoInts rfl (by omega) (.slice p5 n q5) n (tab n vs) rfl HT9.out.o.1 _ 1 [.slice (some ⟨w5.heap.size, 0, none⟩) l l] rfl (view_one _ _ _) (by simp [Value.oneCell']) (by unfold maxLen; omega) (by omega) (by have h1 := HZ5.out; have h2 := HZ6.out; simp; omega) ?_
           intro v7 w7 g7 r7 k7
           obtain ⟨hx7, hT8⟩ := HT7.out.midR HG7.out ((Below.refl _ _).alloc (Nat.le_refl _) (.cells #[.slice (some ⟨w5.heap.size, 0, none⟩) l l] 38)) g7 r7
           obtain ⟨a7, c7, hv7⟩ := g7.lit
           subst hv7
           have HT8 := Lib.hid hT8
           have s1 := hx7.cell (i := 1) rfl
           have sf := hx7.free 1
           clear g7 r7 k7 hx7 hT8))
      all_goals
        go_simp
        clear x0 x1 y1 z1 s1 sf hmk' HT9 HT7 HG7 HT6
        generalize (w7.setCell ⟨gx, 1, none⟩ (.slice a7 (n + 1) c7)) = W8 at HT8 ⊢
        obtain ⟨gr, cr, gc, cc, hrv, hcr, -, -, -⟩ := HT8.out.cell0 (k := n) (by omega) (by rw [upd_same, HXL.out]; omega) HD8.out 0
        cases hrv
        have HX8 := Lib.hid HT8.out.x
        have hgrR : gr ≠ R := by
          obtain ⟨g9, c9, hv9, hB9, -⟩ := HT8.out.o.1.at (by omega)
          cases hv9
          omega
        rw [upd_same, HXL.out] at hcr
        go_wp2_with fail
        refine reader_region_last (R := R) (v := v) (bs := bs) (p0 := p4 + 1) [IsV (.pointer (some ⟨gx, 1, none⟩)), IsV (.slice (some ⟨gr, 0, none⟩) (n + 1) c7), IsV (.pointer (some ⟨gx, 1, none⟩)), IsV (.slice (some ⟨gr, 0, none⟩) (n + 1) c7), IsV (.int .i64 ((n + 1 : Nat) : Int)), IsV (.int .i64 (n : Int)), IsV (.pointer (some ⟨gr, n, none⟩)), IsV (.slice (some ⟨gc, 0, none⟩) l cc), LitP R 2 (fun x => -100001 ≤ x ∧ x ≤ 100001), IsV (.pointer (some ⟨R, 0, none⟩)), IsNat 2, ElemP R (fun x => -100001 ≤ x ∧ x ≤ 100001), IsP (fun x => -100001 ≤ x ∧ x ≤ 100001), IsV (.pointer (some ⟨gc, 0, none⟩))]
          97 [82, 83, 84, 85, 86, 87, 88, 89, 90, 91, 92, 93, 94, 95] _ rfl HT8.out.rd (by kernel_rfl) (by kernel_rfl) (by kernel_rfl) (by kernel_rfl)
          ⟨stab_v _ _, stab_v _ _, stab_v _ _, stab_v _ _, stab_v _ _, stab_v _ _, stab_v _ _, stab_v _ _, stab_l _ _ _, stab_v _ _, stab_n _ _, stab_e _ _, stab_p _ _, stab_v _ _, trivial⟩ rfl rfl rfl (by kernel_rfl) ?_ ?_
        · refine ⟨?_, ?_, ?_, ?_, ?_, ?_, ?_, ?_, ?_, ?_, ?_, ?_, ?_, ?_, trivial⟩
          · exact op_run rfl fun a w' h => ⟨_, xt_field (ρ := a.eval) (k := 1) (q := gx) rfl (by omega) ((h.2 7 (by kernel_rfl)).trans rfl), rfl⟩
          · exact op_runB rfl fun a w' hg h => ⟨_, xt_load (ρ := a.eval) (.inr rfl) rfl (h.1 0 _ 82 rfl rfl (by kernel_rfl)) ((HX8.out.grown (grown_drew hg) (some_ne (by omega))).cell (i := 1) rfl), rfl⟩
          · exact op_run rfl fun a w' h => ⟨_, xt_field (ρ := a.eval) (k := 1) (q := gx) rfl (by omega) ((h.2 7 (by kernel_rfl)).trans rfl), rfl⟩
          · exact op_runB rfl fun a w' hg h => ⟨_, xt_load (ρ := a.eval) (.inr rfl) rfl (h.1 2 _ 84 rfl rfl (by kernel_rfl)) ((HX8.out.grown (grown_drew hg) (some_ne (by omega))).cell (i := 1) rfl), rfl⟩
          · exact op_run rfl fun a w' h => ⟨_, x_lenT (ρ := a.eval) (.inr rfl) rfl (h.1 3 _ 85 rfl rfl (by kernel_rfl)), rfl⟩
          · exact op_run rfl fun a w' h => ⟨_, x_subN1 (ρ := a.eval) rfl Tryd.underlying3 (h.1 4 _ 86 rfl rfl (by kernel_rfl)) (fun _ => rfl) (by omega), rfl⟩
          · exact op_run rfl fun a w' h => ⟨_, x_indexRs (ρ := a.eval) rfl (h.1 1 _ 83 rfl rfl (by kernel_rfl)) (h.1 5 _ 87 rfl rfl (by kernel_rfl)) (by omega), rfl⟩
          · exact op_runB rfl fun a w' hg h => ⟨_, x_loadS (ρ := a.eval) rfl (h.1 6 _ 88 rfl rfl (by kernel_rfl)) ((grown_drew hg).cell hcr (fun e => hgrR (Option.some.inj e))), rfl⟩
          · exact op_alloc rfl fun a w' hR h => ⟨_, _, x_lit2 (ρ := a.eval) rfl rfl rfl, lit_mk hR rfl (by intro z hz; simp at hz; omega)⟩
          · exact op_fresh rfl (.inl rfl) (by kernel_rfl) rfl rfl
          · exact op_pick (n := 2) (j := 9) rfl rfl rfl rfl (by kernel_rfl) rfl rfl (by omega) (by show p4 + 1 + 400 * 15 ≤ 1000000000; omega)
          · exact op_index (j := 8) (k := 10) rfl rfl rfl rfl (by kernel_rfl) rfl rfl (by kernel_rfl) rfl rfl (Nat.le_refl _) rfl
          · exact op_load (j := 11) rfl rfl rfl rfl (by kernel_rfl) rfl rfl (fun y w h => ⟨y, rfl, h⟩)
          · exact op_run rfl fun a w' h => ⟨_, x_indexI0 (ρ := a.eval) rfl (h.1 7 _ 89 rfl rfl (by kernel_rfl)) (fun _ => rfl) (by omega), rfl⟩
        intro U2 w9 hr hg hφ
        obtain ⟨y, h94, hy⟩ : IsP (fun x => -100001 ≤ x ∧ x ≤ 100001) (U2 94) w9 := hφ 12 _ 94 (by decide) rfl rfl
        have h95 : U2 95 = .pointer (some ⟨gc, 0, none⟩) := hφ 13 _ 95 (by decide) rfl rfl
        obtain ⟨p6, hp6, hp7, hrd⟩ := hr
        replace hp7 : p6 ≤ p4 + 1 + 400 * 15 := hp7
        have HT7 := HT8.out.read hrd hg
        obtain ⟨gr2, cr2, gc2, cc2, hrv2, hcr2, ⟨u7, hu7⟩, hf7, hT10⟩ := HT7.cell0 (k := n) (by omega) (by rw [upd_same, HXL.out]; omega) HD8.out y
        cases hrv2
        have hcr3 := hg.cell hcr (fun e => hgrR (Option.some.inj e))
        rw [hcr3] at hcr2
        rw [upd_same, HXL.out] at hcr2
        cases hcr2
        have HT10 := Lib.hid hT10
        refine ⟨_, x_storeIn rfl (by simpa [nf, Act.eval] using h95) (by simpa [nf, Act.eval] using h94) hu7 hf7, ?_⟩
        clear HT7 hrd hg hφ HT8 HX8 hu7 hf7 hT10 hcr hcr3
        simp [nf]
        rw [h94, h95]
        clear h94 h95
        have HRB10 : Hid (RowsB (n + 1) (upd (upd f n xs) n ((upd f n xs n).set 0 y))) := ⟨HRB8.out.1, fun i hi => by
          by_cases e : i = n
          · subst e
            rw [upd_same]
            refine ⟨by rw [List.length_set]; exact (HRB8.out.2 i hi).1, fun x hx => ?_⟩
            rcases List.mem_or_eq_of_mem_set hx with h | rfl
            · exact (HRB8.out.2 i hi).2 x h
            · exact hy
          · rw [upd_other _ _ e]; exact HRB8.out.2 i hi⟩
        generalize (w9.setCell ⟨gc, 0, none⟩ (.int .i64 y)) = W10 at HT10 ⊢
        have fx0 := HT10.out.x.cell (i := 0) rfl
        have fx1 := HT10.out.x.cell (i := 1) rfl
        have fr0 := HT10.out.r.cell (i := 0) rfl
        have fr1 := HT10.out.r.cell (i := 1) rfl
        have ff0 := HT10.out.r.free 0
        have ff1 := HT10.out.r.free 1
        go_wp2
        have hrz := (HT10.out.r.set 0 (.slice p2 l q2)).set 1 (.slice (some ⟨gr, 0, none⟩) (n + 1) c7)
        have g0 := hrz.cell (i := 0) rfl
        have g1 := hrz.cell (i := 1) rfl
        have HFIN := Lib.hid (HT10.out.fin (p0 := p) H4.out HS9.out HRB10.out (by omega) (by omega))
        clear hrz fx0 fx1 fr0 fr1 ff0 ff1
        exact bodyPost_ret (v := .agg #[.slice p2 l q2, .slice (some ⟨gr, 0, none⟩) (n + 1) c7]) (by simp [results, Tryd.results25, go_sem, g0, g1]) rfl HFIN.out
    · clear hx
      have hne : gx ≠ w.heap.size := by omega
      have hne' : w.heap.size ≠ gx := by omega
      have hba : Below w5.heap.size w5 (w5.alloc (.cells #[] 9)) := (Below.refl _ _).alloc (Nat.le_refl _) _
      have HTA := HT6.out.below hba
      have HT8 := Lib.hid (HTA.names (ns' := []) ((Gr.none0 (w5.alloc (.cells #[] 9)) w5.heap.size 9 1 ⟨w5.heap.size, 0, none⟩).low HT6.out.size))
      have fx0 := HTA.x.cell (i := 0) rfl; have fx1 := HTA.x.cell (i := 1) rfl; have fr0 := HTA.r.cell (i := 0) rfl; have fr1 := HTA.r.cell (i := 1) rfl; have ff0 := HTA.r.free 0; have ff1 := HTA.r.free 1
      have sf := HTA.x.free 0
      clear HTA hba HT6
      go_wp2
      have HFIN := Lib.hid (HT8.out.fin (p0 := p) (by simp) (fun q hq => by cases hq) HRB.out (by omega) (by omega))
      have hrz := (HT8.out.r.set 0 (.slice (some ⟨w5.heap.size, 0, none⟩) 0 0)).set 1 (.slice p5 n q5)
      have g0 := hrz.cell (i := 0) rfl
      have g1 := hrz.cell (i := 1) rfl
      clear hrz fx0 fx1 fr0 fr1 ff0 ff1 sf
      exact bodyPost_ret (v := .agg #[.slice (some ⟨w5.heap.size, 0, none⟩) 0 0, .slice p5 n q5]) (by simp [results, Tryd.results25, go_sem, g0, g1]) rfl HFIN.out
end Go.Proofs.YtajgghifamebkaaDoor
