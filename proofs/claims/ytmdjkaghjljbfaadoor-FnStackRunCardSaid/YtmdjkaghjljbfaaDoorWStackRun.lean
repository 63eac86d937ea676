/- the walk of FnStackRun -/
import Derived.Test.YtmdjkaghjljbfaaDoorStackDraw4
import Derived.Test.YtmdjkaghjljbfaaDoorStackLaw
import Derived.Test.YtmdjkaghjljbfaaDoorStackRunS
import Derived.Test.YtmdjkaghjljbfaaDoorName
namespace Go.Proofs.YtmdjkaghjljbfaaDoor
open Go.RowKit
theorem runK_front {xs ys : List Int} : ∀ k, k ≤ xs.length → runK (xs ++ ys) k = runK xs k
  | 0, _ => rfl
  | k + 1, h => by
    show (runK (xs ++ ys) k).bind _ = (runK xs k).bind _
    rw [runK_front k (by omega), List.getElem?_append_left (by omega)]
theorem run_more {xs : List Int} (h : runOk xs = true) (hl : xs.length ≤ 37) : runOk (xs ++ [-2, 77, -1]) = false ∨ (runOk (xs ++ [-2, 77, -1]) = true ∧ runV (xs ++ [-2, 77, -1]) = runV xs ++ [77]) := by
  unfold runOk at h
  obtain ⟨⟨cs, m, out⟩, hs⟩ := Option.isSome_iff_exists.1 h
  have hV : runV xs = out := by unfold runV; rw [hs]
  have hk : runK xs xs.length = some (cs, m, out) := by
    unfold runR at hs
    rw [if_pos (by omega)] at hs
    exact hs
  have k0 : runK (xs ++ [-2, 77, -1]) xs.length = some (cs, m, out) := by rw [runK_front _ (Nat.le_refl _)]; exact hk
  have k1 : runK (xs ++ [-2, 77, -1]) (xs.length + 1) = some (cs, m, out) := (runK_next k0 (y := -2) (by simp)).trans (stp_two _)
  have k2 : runK (xs ++ [-2, 77, -1]) (xs.length + 1 + 1) = _ := runK_next k1 (y := 77) (by rw [List.getElem?_append_right (by omega)]; simp)
  rw [stp_push (by omega) (by omega)] at k2
  have hR : runR (xs ++ [-2, 77, -1]) = runK (xs ++ [-2, 77, -1]) (xs.length + 1 + 1 + 1) := by
    unfold runR
    rw [if_pos (by simp; omega)]
    simp
  cases hp : pushOk cs m 77 true
  · rw [hp] at k2
    left
    unfold runOk
    rw [hR, show runK (xs ++ [-2, 77, -1]) (xs.length + 1 + 1 + 1) = none from runK_none (k := xs.length + 1 + 1) k2 1]
    rfl
  · rw [hp] at k2
    simp only [if_true] at k2
    have hA : pushA cs m 77 = true ∧ m ≠ 8 := by
      unfold pushOk at hp
      simpa using hp
    obtain ⟨_, q2, q3, _, _⟩ := push_pop hA.1 hA.2
    have k3 : runK (xs ++ [-2, 77, -1]) (xs.length + 1 + 1 + 1) = _ := runK_next k2 (y := -1) (by rw [List.getElem?_append_right (by omega), show xs.length + 1 + 1 - xs.length = 2 by omega]; rfl)
    rw [stp_pop, q2, q3] at k3
    simp only [if_true] at k3
    right
    unfold runOk runV
    rw [hR, k3, hs]
    exact ⟨rfl, rfl⟩
theorem wpList_app_g {P : Program} (w : World) {ops : Array Oper} {rest : List Oper} {o : Oper} {a : Act} {Q : Exit → Act → World → Prop} (hw : Region.wanted o (yielded ops a.tmps) = true) (s x : Operand) (t : TypeId)
    (ho : o.op = .call { callee := .builtin .append, args := #[s, x], argTypes := #[t, t] })
    (base : Nat) (e : TypeId) (z : Value) (sz bytes : Nat) (ht : P.underlying t = some (.slice e)) (hi : (P.info? e).map (fun i => (i.zero, i.size, i.bytes)) = some (some z, sz, bytes)) (hzs : z.cells.size = sz) (hsz : 0 < sz)
    (v : Value) (n : Nat) (cs : List Value) (hs : a.eval s = v) (hown : Gr w base e sz v n cs) (xv : Value) (m : Nat) (news : List Value) (hx : a.eval x = xv) (hview : View w sz xv m news) (h1 : ∀ u ∈ news, u.oneCell' = true)
    (h63 : n + m ≤ maxLen) (hbytes : (n + m) * bytes ≤ 140737488355328) (hbase : base ≤ w.heap.size)
    (h : ∀ v' w', Gr w' base e sz v' (n + m) (cs ++ news) → w.grownBy w' (gBlock v) → (gBlock v' = gBlock v ∨ gBlock v' = some w.heap.size) → wpList P ops Q rest (a.put o.dst v') w') : wpList P ops Q (o :: rest) a w :=
  BigFrame.wpList_want hw fun _ hK => wp_app w s x t ho base e z sz bytes ht hi hzs hsz v n cs hs hown xv m news hx hview h1 h63 hbytes hbase fun v' w' h2 h3 h4 => hK _ _ (h v' w' h2 h3 h4)
set_option maxHeartbeats 2000000 in
theorem walk0_FnStackRun (w : World) (v : Value) (bs : List Int) (h : Bts w v bs) (hR : Resv w) :
    Calls Tryd.prog 7 #[v] w fun e w' => LawOk w e w' := by
  obtain ⟨ad, c, hv, hm⟩ := bts_lit h
  have H := Lib.hid h
  have HR := Lib.hid hR
  clear h hR
  subst hv
  by_cases hbig : 1048576 < bs.length
  · go_enter Tryd.func7, Tryd.ntmps7
    go_wp2
    go_ret
    exact ⟨rfl, Below.refl _ _⟩
  · go_enter Tryd.func7, Tryd.ntmps7
    go_wp2_with fail
    refine (draw_StackRun _ bs w H.out).mono ?_
    rintro e w1 ⟨u, xs, rfl, hG, hl, hb⟩
    have hI : Ints w1 u xs := hG.view
    obtain ⟨au, cu, hu⟩ := hG.lit
    subst hu
    obtain ⟨n, hn⟩ : ∃ n, xs.length = n := ⟨_, rfl⟩
    have HN := Lib.hid hn
    rw [hn] at hl hI
    rw [hn]
    have I1 := Lib.hid hI
    have B1 := nxt (Lib.hid (Below.refl _ _)) hb
    clear hb hG hI H hn
    obtain ⟨t, ht⟩ : ∃ t, runOk xs = t := ⟨_, rfl⟩
    obtain ⟨r, hr⟩ : ∃ r, runV xs = r := ⟨_, rfl⟩
    have hr40 : r.length ≤ 40 := by rw [← hr]; exact runV_le xs
    have HT := Lib.hid ht
    have HV := Lib.hid hr
    clear ht hr
    have htt : (t != t) = false := by simp
    go_wp2_with fail
    refine (impl_StackRun_own _ xs _ I1.out (by rw [HN.out]; omega)).mono ?_
    rw [HT.out, HV.out]
    rintro e w2 ⟨vx, _, rfl, ho, -, hb⟩
    have X2 := Lib.hid ho.ints
    have I2 := Lib.hid (I1.out.mono hb (Nat.le_refl _))
    have B2 := nxt B1 hb
    clear hb ho I1 B1
    go_wp2_with fail
    refine (spec_StackRun_own _ xs _ I2.out (by rw [HN.out]; omega)).mono ?_
    rw [HT.out, HV.out]
    rintro e w3 ⟨vy, _, rfl, ho, -, hb⟩
    have Y3 := Lib.hid ho.ints
    have X3 := Lib.hid (X2.out.mono hb (Nat.le_refl _))
    have I3 := Lib.hid (I2.out.mono hb (Nat.le_refl _))
    have B3 := nxt B2 hb
    clear hb ho I2 B2 X2
    go_wp2_with fail
    refine (sameInts_same _ _ r _ X3.out Y3.out).mono ?_
    rintro e w4 ⟨rfl, hb⟩
    have X4 := Lib.hid (X3.out.mono hb (Nat.le_refl _))
    have I4 := Lib.hid (I3.out.mono hb (Nat.le_refl _))
    have B4 := nxt B3 hb
    have HR4 := Lib.hid (HR.out.mono B4.out (Nat.le_refl _))
    clear hb I3 B3 X3 Y3 HR
    obtain ⟨ax, cx, hvx, _, _⟩ := X4.out.open
    subst hvx
    have h40 : decide ((40 : Int) < (n : Int) + 3) = false := by simp; omega
    cases t
    · have hr0 : r = [] := by
        have h1 := HT.out
        have h2 := HV.out
        unfold runOk at h1
        unfold runV at h2
        cases e : runR xs with
        | none => rw [e] at h2; exact h2.symm
        | some s => rw [e] at h1; cases h1
      subst hr0
      simp only [List.length_nil]
      go_wp2_with (go_at_call 11; refine (alive_any _ HR4.out).mono ?_; rintro e w' ⟨rfl, rfl⟩)
      go_ret
      exact ⟨rfl, B4.out⟩
    · have hrm := run_more HT.out (by rw [HN.out]; omega)
      rw [HV.out] at hrm
      obtain ⟨t2, ht2⟩ : ∃ t, runOk (xs ++ [-2, 77, -1]) = t := ⟨_, rfl⟩
      obtain ⟨r2, hr2⟩ : ∃ r, runV (xs ++ [-2, 77, -1]) = r := ⟨_, rfl⟩
      rw [ht2, hr2] at hrm
      have HT2 := Lib.hid ht2
      have HV2 := Lib.hid hr2
      have HRM := Lib.hid hrm
      clear ht2 hr2 hrm
      go_wp2_with (first
        | (at_builtin; refine wpList_app _ rfl (.tmp 52) (.tmp 53) 23 rfl w4.heap.size 3 (.int .i64 0) 1 8 Tryd.underlying23 Tryd.infoInt rfl (by omega) (.slice (some ⟨w4.heap.size, 0, none⟩) 0 0) 0 [] rfl (Gr.none0 _ _ _ _ _) _ n (ints xs) rfl (by have := I4.out.mono (w' := w4.alloc (.cells #[] 3)) ((Below.refl _ _).alloc (Nat.le_refl _) _) (Nat.le_refl _); unfold Ints at this; rwa [HN.out] at this) (one_ints xs) (by unfold maxLen; omega) (by omega) (by simp) ?_; intro v5 w5 g5 r5 k5; have G5 := Lib.hid g5; have B5 := Lib.hid (((Below.refl w4.heap.size w4).alloc (Nat.le_refl _) _).grown r5 (by simp) (fun g hg => by simp [gBlock] at hg)); clear g5 r5 k5)
        | (at_builtin; refine wpList_app _ rfl (.tmp 54) (.tmp 55) 23 rfl w4.heap.size 3 (.int .i64 0) 1 8 Tryd.underlying23 Tryd.infoInt rfl (by omega) v5 (0 + n) _ rfl (G5.out.alloc _) _ 3 (ints [-2, 77, -1]) rfl (View.of_row (Row.new _ _ _) rfl (by unfold maxLen; omega) (Nat.le_refl _)) (one_ints _) (by unfold maxLen; omega) (by omega) (by have := B5.out.size; simp; omega) ?_; intro v6 w6 g6 r6 k6; have G6 := Lib.hid g6; have B6 := Lib.hid ((B5.out.alloc B5.out.size _).grown r6 (by have := B5.out.size; simp; omega) (fun g hg => (G5.out.lt g hg).1)); clear g6 r6 k6))
      have I6 : Hid (Ints w6 v6 (xs ++ [-2, 77, -1])) := by
        have := G6.out.view
        have e : (xs ++ [-2, 77, -1] : List Int).length = 0 + n + 3 := by simp [HN.out]
        unfold Hid Ints
        rw [e]
        simpa [ints] using this
      have X6 := Lib.hid (X4.out.mono B6.out (Nat.le_refl _))
      have C6 := nxt B4 B6.out
      clear G5 G6 B5 B6 I4 X4 B4
      refine (impl_StackRun_own _ _ _ I6.out (by simp [HN.out]; omega)).mono ?_
      rw [HT2.out, HV2.out]
      rintro e w7 ⟨vz, _, rfl, ho, -, hb⟩
      have Z7 := Lib.hid ho.ints
      have X7 := Lib.hid (X6.out.mono hb (Nat.le_refl _))
      have B7 := nxt C6 hb
      clear hb ho C6 X6 I6
      cases t2
      · go_wp2
        go_ret
        exact ⟨rfl, B7.out⟩
      · have hr3 : r2 = r ++ [77] := by
          rcases HRM.out with h | h
          · cases h
          · exact h.2
        subst hr3
        have hx7 : Ints (w7.alloc (.cells #[] 3)) (.slice ax r.length cx) r := X7.out.mono (w' := w7.alloc (.cells #[] 3)) ((Below.refl _ _).alloc (Nat.le_refl _) _) (Nat.le_refl _)
        have HX7 := Lib.hid hx7
        clear hx7
        go_wp2_with (first
          | (at_builtin; refine wpList_app_g _ (by first | rfl | simp [Region.wanted, yielded]) (.tmp 64) (.tmp 65) 23 rfl w7.heap.size 3 (.int .i64 0) 1 8 Tryd.underlying23 Tryd.infoInt rfl (by omega) (.slice (some ⟨w7.heap.size, 0, none⟩) 0 0) 0 [] rfl (Gr.none0 _ _ _ _ _) _ r.length (ints r) rfl HX7.out (one_ints r) (by unfold maxLen; omega) (by omega) (by simp) ?_; intro v8 w8 g5 r5 k5; have G5 := Lib.hid g5; have B8 := Lib.hid (((Below.refl w7.heap.size w7).alloc (Nat.le_refl _) _).grown r5 (by simp) (fun g hg => by simp [gBlock] at hg)); clear g5 r5 k5)
          | (at_builtin; refine wpList_app_g _ (by first | rfl | simp [Region.wanted, yielded]) (.tmp 66) (.tmp 67) 23 rfl w7.heap.size 3 (.int .i64 0) 1 8 Tryd.underlying23 Tryd.infoInt rfl (by omega) v8 (0 + r.length) _ rfl (G5.out.alloc _) _ 1 (ints [77]) rfl (View.of_row (Row.new _ _ _) rfl (by unfold maxLen; omega) (Nat.le_refl _)) (one_ints _) (by unfold maxLen; omega) (by omega) (by have := B8.out.size; simp; omega) ?_; intro v9 w9 g6 r6 k6; have G6 := Lib.hid g6; have B9 := Lib.hid ((B8.out.alloc B8.out.size _).grown r6 (by have := B8.out.size; simp; omega) (fun g hg => (G5.out.lt g hg).1)); clear g6 r6 k6))
        have I9 : Hid (Ints w9 v9 (r ++ [77])) := by
          have := G6.out.view
          have e : (r ++ [77] : List Int).length = 0 + r.length + 1 := by simp
          unfold Hid Ints
          rw [e]
          simpa [ints] using this
        have Z9 := Lib.hid (Z7.out.mono B9.out (Nat.le_refl _))
        have C9 := nxt B7 B9.out
        clear G5 G6 B8 B9
        refine (sameInts_same _ _ _ _ Z9.out I9.out).mono ?_
        rintro e w10 ⟨rfl, hb⟩
        have C10 := nxt C9 hb
        clear hb
        go_wp2
        go_ret
        exact ⟨rfl, C10.out⟩
theorem walk_FnStackRun (w : World) (v : Value) (bs : List Int) (h : View w 1 v bs.length (bs.map (Value.int .u8)) ∧ ∀ b ∈ bs, 0 ≤ b ∧ b ≤ 255) (hR : Resv w) :
    Calls Tryd.prog 7 #[v] w fun e w' => e = .returned (.bool true) ∧ Below w.heap.size w w' := walk0_FnStackRun w v bs h hR
end Go.Proofs.YtmdjkaghjljbfaaDoor
