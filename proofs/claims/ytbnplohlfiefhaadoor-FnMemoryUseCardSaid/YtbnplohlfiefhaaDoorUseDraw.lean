/- the draw of a use -/
import Derived.Test.YtbnplohlfiefhaaDoorRegT
namespace Go.Proofs.YtbnplohlfiefhaaDoor
open Go.RowKit
def AnyB (v : Value) (_ : World) : Prop := ∃ b, v = .bool b
theorem mem_ne {w : World} {v : Value} {bs : List Int} {T e : Nat} {a c : Option Addr} {n k m l : Nat} (h : Bts w v bs) (hr : Row w T e [.slice a n k, .slice c m l]) : 0 < bs.length → ∀ g, v.ownBlock = some g → g ≠ T := by
  intro h0 g hg he
  subst he
  obtain ⟨⟨h1, h2, h3 | ⟨h3, b, off, c', hv, hc, hcell⟩⟩, _⟩ := h
  · omega
  · subst hv
    simp only [Value.ownBlock, Option.some.injEq] at hg
    subst hg
    obtain ⟨x, hx⟩ : ∃ x, bs[0]? = some x := ⟨_, List.getElem?_eq_getElem h0⟩
    have k := hcell 0 (.int .u8 x) (by simp [u8s, hx])
    rw [Nat.add_zero] at k
    unfold Row at hr
    simp only [World.cell?, hr] at k
    match off, k with
    | 0, k => simp at k
    | 1, k => simp at k
    | off + 2, k => simp at k
def DrawnUse (w : World) (e : Ending) (w' : World) : Prop :=
  ∃ a c a' c' n f st, ∃ (x : Nat) (t : Bool) (y l : Int), e = .returned (.tuple #[.agg #[.slice a n c, .slice a' st.length c'], .int .i64 x, .bool t, .int .i64 y, .int .i64 l]) ∧ MemIn w' (.agg #[.slice a n c, .slice a' st.length c']) n f st ∧ n ≤ 7 ∧ Small n f st ∧ 0 ≤ y ∧ y ≤ 100001 ∧ 0 ≤ l ∧ l ≤ 4 ∧ Below w.heap.size w w'
set_option maxRecDepth 20000 in
set_option maxHeartbeats 2000000 in
theorem draw_MemoryUse (v : Value) (bs : List Int) (w : World) (h : Bts w v bs) : Calls Tryd.prog 21 #[v] w (DrawnUse w) := by
  obtain ⟨W1, hW1⟩ : ∃ W1, W1 = w.alloc (.cells #[.slice none 0 0, .slice none 0 0] 29) := ⟨_, rfl⟩
  have HW1 := Lib.hid hW1
  have HB1 : Hid (Below w.heap.size w W1) := by rw [hW1]; exact (Below.refl _ _).alloc (Nat.le_refl _) _
  have HR1 : Hid (Row W1 w.heap.size 29 [.slice none 0 0, .slice none 0 0]) := by rw [hW1]; exact Row.new w 29 [.slice none 0 0, .slice none 0 0]
  have H := Lib.hid (h.mono HB1.out (Nat.le_refl _))
  clear h hW1
  go_enter Tryd.func21, Tryd.ntmps21
  go_wp2_with fail
  rw [← HW1.out]
  refine (open_any v bs W1 H.out).mono ?_
  rintro e w1 ⟨v1, bs1, rfl, hr, hb⟩
  have hg2 : w.heap.size < W1.heap.size := HR1.out.lt
  have HR := Lib.hid hr
  have lowR := hr.low.1
  have LV := Lib.hid hr.low.2
  have HB2 : Hid (Below w.heap.size w w1) := HB1.out.trans (hb.mono HB1.out.size)
  have HR2 := Lib.hid (HR1.out.mono hb HR1.out.lt)
  have hz1 : W1.heap.size ≤ w1.heap.size := hb.size
  clear hr hb H HB1 HR1 HW1
  obtain ⟨R, hRR⟩ : ∃ R, W1.heap.size = R := ⟨_, rfl⟩
  obtain ⟨g2, hgg⟩ : ∃ g2, w.heap.size = g2 := ⟨_, rfl⟩
  rw [hRR] at HR lowR hg2 hz1
  rw [hgg] at HR2 HB2 hg2
  have HGG := Lib.hid hgg
  go_wp2_with fail
  try rw [hRR]
  clear hRR hgg
  refine (mem_any R v1 bs1 12 0 w1 HR.out (by omega) (by omega) (by omega)).mono ?_
  rintro e w2 ⟨a, c, a', c', n, f, st, p2, rfl, hmk, hn, hs, q1, q2, hr, hg⟩
  have R2 := Lib.hid hr
  have HMK := Lib.hid hmk
  have HN := Lib.hid hn
  have HS := Lib.hid hs
  have HB3 : Hid (Below g2 w w2) := HB2.out.grown hg (by have := HGG.out; have := HB2.out.size; omega) (fun g hg => by cases hg; omega)
  have HR3 := Lib.hid (HR2.out.grown hg (fun e => by have := Option.some.inj e; omega))
  have hz2 : w1.heap.size ≤ w2.heap.size := hg.size
  clear hmk hr hg hn hs HB2 HR2 HR
  obtain ⟨m, hm⟩ : ∃ m, st.length = m := ⟨_, rfl⟩
  have HM := Lib.hid hm
  rw [hm] at HMK ⊢
  clear hm
  have hba : Below w2.heap.size w2 (w2.alloc (.cells #[.slice a n c, .slice a' m c'] 29)) := (Below.refl _ _).alloc (Nat.le_refl _) _
  have HROW : Hid (Row (w2.alloc (.cells #[.slice a n c, .slice a' m c'] 29)) w2.heap.size 29 [.slice a n c, .slice a' m c']) := Row.new w2 29 [.slice a n c, .slice a' m c']
  have R3 := Lib.hid (R2.out.below hba (by omega) (fun h0 g hg => by have := LV.out h0 g hg; omega))
  have HMK3 := Lib.hid (HMK.out.mono hba (Nat.le_refl _))
  have HB4 : Hid (Below g2 w (w2.alloc (.cells #[.slice a n c, .slice a' m c'] 29))) := HB3.out.trans (hba.mono (by omega))
  have HR4 := Lib.hid (HR3.out.alloc (.cells #[.slice a n c, .slice a' m c'] 29))
  obtain ⟨gx, hgx⟩ : ∃ gx, w2.heap.size = gx := ⟨_, rfl⟩
  rw [hgx] at HROW
  clear hba HB3 HR3 R2 HMK
  go_wp2_with fail
  try rw [hgx]
  generalize (w2.alloc (.cells #[.slice a n c, .slice a' m c'] 29)) = W at HROW R3 HMK3 HB4 HR4 ⊢
  have hgR : R < gx := by omega
  have hg2x : g2 < gx := by omega
  have hTR : g2 ≠ R := by omega
  have hRT : R ≠ g2 := by omega
  have hnev : 0 < bs1.length → ∀ g, v1.ownBlock = some g → g ≠ g2 := fun h0 g hg e => by
    subst e
    exact mem_ne R3.out.2.1 HR4.out h0 _ hg rfl
  have hgxW : gx < W.heap.size := HROW.out.lt
  have hgW : g2 < W.heap.size := HR4.out.lt
  clear hgx
  refine reader_region_store (R := R) (T := g2) (St := BoxIsM g2 (.slice a n c) (.slice a' m c')) (J := BoxAtM g2) (v := v1) (bs := bs1) (p0 := p2)
    [IsV (.agg #[.slice a n c, .slice a' m c']), IsV (.pointer (some ⟨R, 0, none⟩)), IsNat 8, IsV (.pointer (some ⟨R, 0, none⟩)), IsNat 14, IsNat 2, IsNat 9, IsNat 16, IsV (.pointer (some ⟨R, 0, none⟩)), IsNat 2, AnyB, IsV (.pointer (some ⟨R, 0, none⟩)), IsNat 256, LitB R W.heap.size 2 (fun y => 0 ≤ y ∧ y ≤ 100001), IsV (.pointer (some ⟨R, 0, none⟩)), IsNat 14, IsNat 2, ElemB R W.heap.size (fun y => 0 ≤ y ∧ y ≤ 100001), IsP (fun y => 0 ≤ y ∧ y ≤ 100001), IsV (.pointer (some ⟨R, 0, none⟩)), IsNat 4, LitB R W.heap.size 2 (fun y => 0 ≤ y ∧ y ≤ 4), IsV (.pointer (some ⟨R, 0, none⟩)), IsNat 14, IsNat 2, ElemB R W.heap.size (fun y => 0 ≤ y ∧ y ≤ 4), IsP (fun y => 0 ≤ y ∧ y ≤ 4), IsSt (BoxIsM g2 (.slice a n c) (.slice a' m c')), IsNat 16, AnyB, IsP (fun y => 0 ≤ y ∧ y ≤ 100001), IsP (fun y => 0 ≤ y ∧ y ≤ 4)] 40 [13, 14, 15, 16, 17, 18, 19, 20, 21, 22, 23, 24, 25, 26, 27, 28, 29, 30, 31, 32, 33, 34, 35, 36, 37, 38, 39, 3, 4, 5, 6] rfl R3.out ⟨_, _, HR4.out⟩
    (by kernel_rfl) (by kernel_rfl) (by kernel_rfl) (by kernel_rfl) ⟨stab2_v _ _ _ _, stab2_v _ _ _ _, stab2_n _ _ _ _, stab2_v _ _ _ _, stab2_n _ _ _ _, stab2_n _ _ _ _, stab2_n _ _ _ _, stab2_n _ _ _ _, stab2_v _ _ _ _, stab2_n _ _ _ _, stab2_any _ _ _ _, stab2_v _ _ _ _, stab2_n _ _ _ _, stab2_l _ _ _ (by omega) _ _, stab2_v _ _ _ _, stab2_n _ _ _ _, stab2_n _ _ _ _, stab2_e _ _ _ (by omega) _, stab2_p _ _ _ _, stab2_v _ _ _ _, stab2_n _ _ _ _, stab2_l _ _ _ (by omega) _ _, stab2_v _ _ _ _, stab2_n _ _ _ _, stab2_n _ _ _ _, stab2_e _ _ _ (by omega) _, stab2_p _ _ _ _, stab2_s _ _ _, stab2_n _ _ _ _, stab2_any _ _ _ _, stab2_p _ _ _ _, stab2_p _ _ _ _, trivial⟩ ?_ ?_
  · refine ⟨?_, ?_, ?_, ?_, ?_, ?_, ?_, ?_, ?_, ?_, ?_, ?_, ?_, ?_, ?_, ?_, ?_, ?_, ?_, ?_, ?_, ?_, ?_, ?_, ?_, ?_, ?_, ?_, ?_, ?_, ?_, ?_, trivial⟩
    · exact op2_run rfl fun a9 w9 hg9 h => ⟨_, xt_loadM (ρ := a9.eval) rfl (h.2 8 (by kernel_rfl)) (HROW.out.gr2 hg9.drew (by omega) (by omega)), rfl⟩
    · exact op2_fresh rfl (.inl rfl) (by kernel_rfl) rfl rfl
    · exact op2_pick (keep_atM hTR) (keep_isM hTR _ _) (n := 8) (j := 1) rfl rfl rfl rfl (by kernel_rfl) rfl rfl (by omega) (by show p2 + 32 ≤ 1000000000; omega)
    · exact op2_fresh rfl (.inl rfl) (by kernel_rfl) rfl rfl
    · exact op2_pick (keep_atM hTR) (keep_isM hTR _ _) (n := 14) (j := 3) rfl rfl rfl rfl (by kernel_rfl) rfl rfl (by omega) (by show p2 + 32 ≤ 1000000000; omega)
    · exact op2_run rfl fun a9 w9 _ h => by
        obtain ⟨y, hy, hy1⟩ := h.1 4 _ _ rfl rfl (by kernel_rfl)
        exact ⟨_, xt_quo (ρ := a9.eval) rfl hy rfl hy1, y / 13, rfl, by omega⟩
    · exact op2_run rfl fun a9 w9 _ h => by
        obtain ⟨y, hy, hy1⟩ := h.1 5 _ _ rfl rfl (by kernel_rfl)
        exact ⟨_, x_mul (ρ := a9.eval) rfl Tryd.underlying3 hy rfl (by omega) (by omega), y * 8, by simp, by omega⟩
    · exact op2_run rfl fun a9 w9 _ h => by
        obtain ⟨y, hy, hy1⟩ := h.1 2 _ _ rfl rfl (by kernel_rfl)
        obtain ⟨z, hz, hz1⟩ := h.1 6 _ _ rfl rfl (by kernel_rfl)
        exact ⟨_, x_add (ρ := a9.eval) rfl Tryd.underlying3 hy hz (by omega) (by omega), y + z, by simp, by omega⟩
    · exact op2_fresh rfl (.inl rfl) (by kernel_rfl) rfl rfl
    · exact op2_pick (keep_atM hTR) (keep_isM hTR _ _) (n := 2) (j := 8) rfl rfl rfl rfl (by kernel_rfl) rfl rfl (by omega) (by show p2 + 32 ≤ 1000000000; omega)
    · exact op2_run rfl fun a9 w9 _ h => by
        obtain ⟨y, hy, hy1⟩ := h.1 9 _ _ rfl rfl (by kernel_rfl)
        exact ⟨_, xt_eql (t := 0) (ρ := a9.eval) rfl hy rfl, _, rfl⟩
    · exact op2_fresh rfl (.inl rfl) (by kernel_rfl) rfl rfl
    · exact op2_pick (keep_atM hTR) (keep_isM hTR _ _) (n := 256) (j := 11) rfl rfl rfl rfl (by kernel_rfl) rfl rfl (by omega) (by show p2 + 32 ≤ 1000000000; omega)
    · exact op2_alloc (keep_atM hTR) (keep_isM hTR _ _) rfl fun a9 w9 hR9 hB9 h => by
        obtain ⟨y, hy, hy1⟩ := h.1 12 _ _ rfl rfl (by kernel_rfl)
        exact ⟨_, _, x_lit2 (ρ := a9.eval) rfl hy rfl, litB_mk hR9 hB9 rfl (by simp; omega)⟩
    · exact op2_fresh rfl (.inl rfl) (by kernel_rfl) rfl rfl
    · exact op2_pick (keep_atM hTR) (keep_isM hTR _ _) (n := 14) (j := 14) rfl rfl rfl rfl (by kernel_rfl) rfl rfl (by omega) (by show p2 + 32 ≤ 1000000000; omega)
    · exact op2_run rfl fun a9 w9 _ h => by
        obtain ⟨y, hy, hy1⟩ := h.1 15 _ _ rfl rfl (by kernel_rfl)
        exact ⟨_, xt_quo (ρ := a9.eval) rfl hy rfl hy1, y / 13, rfl, by omega⟩
    · exact op2_index (j := 13) (k := 16) rfl rfl rfl rfl (by kernel_rfl) rfl rfl (by kernel_rfl) rfl rfl (Nat.le_refl _) rfl
    · exact op2_load (j := 17) rfl rfl rfl rfl (by kernel_rfl) rfl rfl (fun y w h => ⟨y, rfl, h⟩)
    · exact op2_fresh rfl (.inl rfl) (by kernel_rfl) rfl rfl
    · exact op2_pick (keep_atM hTR) (keep_isM hTR _ _) (n := 4) (j := 19) rfl rfl rfl rfl (by kernel_rfl) rfl rfl (by omega) (by show p2 + 32 ≤ 1000000000; omega)
    · exact op2_alloc (keep_atM hTR) (keep_isM hTR _ _) rfl fun a9 w9 hR9 hB9 h => by
        obtain ⟨y, hy, hy1⟩ := h.1 20 _ _ rfl rfl (by kernel_rfl)
        exact ⟨_, _, x_lit2 (ρ := a9.eval) rfl hy rfl, litB_mk hR9 hB9 rfl (by simp; omega)⟩
    · exact op2_fresh rfl (.inl rfl) (by kernel_rfl) rfl rfl
    · exact op2_pick (keep_atM hTR) (keep_isM hTR _ _) (n := 14) (j := 22) rfl rfl rfl rfl (by kernel_rfl) rfl rfl (by omega) (by show p2 + 32 ≤ 1000000000; omega)
    · exact op2_run rfl fun a9 w9 _ h => by
        obtain ⟨y, hy, hy1⟩ := h.1 23 _ _ rfl rfl (by kernel_rfl)
        exact ⟨_, xt_quo (ρ := a9.eval) rfl hy rfl hy1, y / 13, rfl, by omega⟩
    · exact op2_index (j := 21) (k := 24) rfl rfl rfl rfl (by kernel_rfl) rfl rfl (by kernel_rfl) rfl rfl (Nat.le_refl _) rfl
    · exact op2_load (j := 25) rfl rfl rfl rfl (by kernel_rfl) rfl rfl (fun y w h => ⟨y, rfl, h⟩)
    · exact op2_boxM (j := 0) hRT hnev rfl rfl rfl (by kernel_rfl) rfl rfl rfl (by kernel_rfl) rfl rfl
    · exact op2_same (j := 7) rfl (.inr rfl) rfl rfl (by kernel_rfl) rfl
    · exact op2_same (j := 10) rfl (.inr rfl) rfl rfl (by kernel_rfl) rfl
    · exact op2_same (j := 18) rfl (.inr rfl) rfl rfl (by kernel_rfl) rfl
    · exact op2_same (j := 26) rfl (.inr rfl) rfl rfl (by kernel_rfl) rfl
  · intro U w9 hr hg hj hφ hact
    obtain ⟨x3, h3, x31⟩ : IsNat 16 (U 3) w9 := hφ 28 _ _ rfl rfl
    obtain ⟨t, h4⟩ : AnyB (U 4) w9 := hφ 29 _ _ rfl rfl
    obtain ⟨y5, h5, y50, y51⟩ : IsP (fun y => 0 ≤ y ∧ y ≤ 100001) (U 5) w9 := hφ 30 _ _ rfl rfl
    obtain ⟨y6, h6, y60, y61⟩ : IsP (fun y => 0 ≤ y ∧ y ≤ 4) (U 6) w9 := hφ 31 _ _ rfl rfl
    obtain ⟨_, hst⟩ : ∃ x, IsSt (BoxIsM g2 (.slice a n c) (.slice a' m c')) x w9 := hact 27 _ rfl rfl
    have hst : Row w9 g2 29 [.slice a n c, .slice a' m c'] := hst
    have k0 := hst.cell (i := 0) rfl
    have k1 := hst.cell (i := 1) rfl
    have HMK9 := Lib.hid (HMK3.out.gr2 hg (by omega) (by omega))
    have HB9 : Hid (Below g2 w w9) := HB4.out.trans (hg.below (B := g2) (by omega) (by omega) (Nat.le_refl _))
    clear hr hg hj hφ hact hst
    simp [nf]
    rw [h3, h4, h5, h6]
    clear h3 h4 h5 h6
    go_wp2_with fail
    refine bodyPost_ret (v := .tuple #[.agg #[.slice a n c, .slice a' m c'], .int .i64 x3, .bool t, .int .i64 y5, .int .i64 y6]) (by simp [results, Tryd.results21, go_sem, k0, k1]) rfl ?_
    refine ⟨a, c, a', c', n, f, st, x3, t, y5, y6, by rw [HM.out], ?_, HN.out, HS.out, y50, y51, y60, y61, ?_⟩
    · rw [HM.out]; exact HMK9.out.view
    · rw [HGG.out]; exact HB9.out
end Go.Proofs.YtbnplohlfiefhaaDoor
