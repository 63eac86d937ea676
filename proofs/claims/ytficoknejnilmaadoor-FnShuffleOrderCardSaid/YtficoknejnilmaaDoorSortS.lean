/- contract of the library's merging in place -/
import Derived.Test.YtficoknejnilmaaDoorSortR
namespace Go.Proofs.YtficoknejnilmaaDoor
open Go.RowKit
/-- what the search promises: the parts s..m and m..e change places -/
theorem sym_found {t : Nat → Int} {X : Nat → Nat} {a m b mid s e s0 r0 : Nat} (h : MIn t X a m b) (ham : a < m) (hmb : m < b) (hmid : mid = (a + b) / 2) (h0 : m > mid ∧ s0 + b = mid + m ∧ r0 = mid ∨ m ≤ mid ∧ s0 = a ∧ r0 = m) (h1 : s0 ≤ s) (h2 : s ≤ r0) (he : e + s = mid + m)
    (hl : s = s0 ∨ t (X (s - 1)) ≤ t (X e)) (hr : s = r0 ∨ t (X (e - 1)) < t (X s)) : a ≤ s ∧ s ≤ m ∧ m ≤ e ∧ e ≤ b ∧ (∀ k l, a ≤ k → k < s → e ≤ l → l < b → Lx t (X k) (X l)) ∧ ∀ l k, m ≤ l → l < e → s ≤ k → k < m → Lx t (X l) (X k) := by
  refine ⟨by omega, by omega, by omega, by omega, fun k l k1 k2 k3 k4 => ?_, fun l k k1 k2 k3 k4 => ?_⟩
  · have hl : t (X (s - 1)) ≤ t (X e) := by omega
    have q1 := h.l.le k1 (show k ≤ s - 1 by omega) (by omega)
    have q2 := h.r.le (show m ≤ e by omega) k3 k4
    have q3 := h.x k l k1 (by omega) (by omega) k4
    unfold Lx; omega
  · have hr : t (X (e - 1)) < t (X s) := by omega
    have q1 := h.r.le k1 (show l ≤ e - 1 by omega) (by omega)
    have q2 := h.l.le (show a ≤ s by omega) k3 k4
    unfold Lx; omega
/-- the induction's hypothesis: smaller parts are merged -/
def SymIH (w0 : World) (g n c : Nat) (r : List Value) (f : FuncId) (p : Value) (t : Nat → Int) (N : Nat) : Prop := ∀ (w : World) (X : Nat → Nat) (a m b : Nat), b - a ≤ N → a < m → m < b → b ≤ n → Srt w0 w g n X r → (∀ i, i < n → X i < n) → MIn t X a m b →
    Calls Tryd.prog 33 #[.slice (some ⟨g, 0, none⟩) n c, .int .i64 a, .int .i64 m, .int .i64 b, .func (.func f) #[] #[p]] w (Mrg w0 g n t X r a b)
theorem Asc.mid {t : Nat → Int} {X Y V : Nat → Nat} {a mid b : Nat} (h1 : Mv a mid X Y) (hA : Asc t Y a mid) (h2 : Mv mid b Y V) (hB : Asc t V mid b) (hab : a ≤ mid) (hmb : mid ≤ b) (hx : ∀ i j, a ≤ i → i < mid → mid ≤ j → j < b → Lx t (X i) (X j)) : Mv a b X V ∧ Asc t V a b :=
  ⟨(h1.wide (Nat.le_refl _) hmb).trans (h2.wide hab (Nat.le_refl _)), (h2.keep hA (.inl (Nat.le_refl _))).join hB (h2.cross' hab (h1.cross hmb hx))⟩
set_option maxRecDepth 20000 in
set_option maxHeartbeats 8000000 in
theorem sym_main (w0 : World) (g n c : Nat) (r : List Value) (f : FuncId) (p : Value) (t : Nat → Int) (ef : f = 23) (hC : CmpC f p w0 g n t) (hn : n ≤ 1000000) (N : Nat) (ih : SymIH w0 g n c r f p t N) (w : World) (X : Nat → Nat) (a m b : Nat) (hN : b - a ≤ N + 1) (ham0 : a + 1 < m) (hmb0 : m + 1 < b) (hbn : b ≤ n) (hs : Srt w0 w g n X r) (hX : ∀ i, i < n → X i < n) (hM : MIn t X a m b) :
    Calls Tryd.prog 33 #[.slice (some ⟨g, 0, none⟩) n c, .int .i64 a, .int .i64 m, .int .i64 b, .func (.func f) #[] #[p]] w (Mrg w0 g n t X r a b) := by
  subst ef
  have HC := Lib.hid hC
  have HX := Lib.hid hX
  have HM := Lib.hid hM
  have HS0 := Lib.hid hs
  have IH := Lib.hid ih
  have HN := Lib.hid hN
  obtain ⟨d, hd⟩ : ∃ d, m = a + d := ⟨m - a, by omega⟩
  obtain ⟨d', hd'⟩ : ∃ d, b = m + d := ⟨b - m, by omega⟩
  have e1 : IntKind.i64.wrap ((m : Int) - (a : Int)) = (d : Int) := wrapF (by omega) (by omega) (by omega)
  have e0 : ((d : Int) == 1) = false := by simp; omega
  have e2 : IntKind.i64.wrap ((b : Int) - (m : Int)) = (d' : Int) := wrapF (by omega) (by omega) (by omega)
  have e3 : ((d' : Int) == 1) = false := by simp; omega
  have ham : a < m := by omega
  have hmb : m < b := by omega
  obtain ⟨mid, hmid⟩ : ∃ mid, mid = (a + b) / 2 := ⟨_, rfl⟩
  obtain ⟨nn, hnn⟩ : ∃ nn, nn = mid + m := ⟨_, rfl⟩
  obtain ⟨pp, hpp⟩ : ∃ pp, nn = pp + 1 := ⟨nn - 1, by omega⟩
  have e4 : ((a : Int) + (b : Int)) / 2 = (mid : Int) := by omega
  have e5 : IntKind.i64.wrap ((mid : Int) + (m : Int)) = (nn : Int) := wrapF (by omega) (by omega) (by omega)
  have e6 : IntKind.i64.wrap ((nn : Int) - 1) = (pp : Int) := wrapF (by omega) (by omega) (by omega)
  have hma : a < mid := by omega
  have hmidb : mid < b := by omega
  have HMID := Lib.hid hmid
  have HNN := Lib.hid hnn
  have HPP := Lib.hid hpp
  obtain ⟨s0, hs0⟩ : ∃ s0, s0 = if m > mid then nn - b else a := ⟨_, rfl⟩
  obtain ⟨r0, hr0⟩ : ∃ r0, r0 = if m > mid then mid else m := ⟨_, rfl⟩
  have H0 : Hid (m > mid ∧ s0 + b = mid + m ∧ r0 = mid ∨ m ≤ mid ∧ s0 = a ∧ r0 = m) := by
    show _ ∨ _
    by_cases c : m > mid
    · rw [if_pos c] at hs0 hr0; left; omega
    · rw [if_neg c] at hs0 hr0; right; omega
  have e7 : m > mid → IntKind.i64.wrap ((nn : Int) - (b : Int)) = (s0 : Int) := fun c => by
    rw [if_pos c] at hs0
    exact wrapF (by omega) (by omega) (by omega)
  clear hs0 hr0 hC hX hM hs ih hN hd hd' hmid hnn hpp ham0 hmb0
  by_cases hc0 : mid < m
  · have hc0z : (mid : Int) < (m : Int) := by omega
    have e8 := e7 hc0
    have HR0 : Hid (r0 = mid) := by have := H0.out; show _ = _; omega
    have HR1 := HR0
    go_enter Tryd.func33, Tryd.ntmps33
    go_wp2
    clear e0 e1 e2 e3 e4 e5 e6
    go_loopw [20, 21] (fun vi vj wr => ∃ i j : Nat, vi = .int .i64 i ∧ vj = .int .i64 j ∧ s0 ≤ i ∧ i ≤ j ∧ j ≤ r0 ∧ Srt w0 wr g n X r ∧ Hid ((i = s0 ∨ t (X (i - 1)) ≤ t (X (mid + m - i))) ∧ (j = r0 ∨ t (X (mid + m - j - 1)) < t (X j)))) (fun vi vj _ => (intOf vj).toNat - (intOf vi).toNat)
    case atStart => exact ⟨s0, r0, by first | rfl | (rw [HR0.out]) | (rw [HR1.out]), by first | rfl | (rw [HR0.out]) | (rw [HR1.out]), Nat.le_refl _, by have := H0.out; omega, Nat.le_refl _, HS0.out, .inl rfl, .inl rfl⟩
    case round =>
      obtain ⟨i, j, rfl, rfl, hmi, hij, hjb, hs, HI⟩ := hrel
      by_cases hlt : i < j
      · have hltz : (i : Int) < (j : Int) := by omega
        have h0 := H0.out
        have hmid := HMID.out
        have hnn := HNN.out
        have hpp := HPP.out
        obtain ⟨h, hh⟩ : ∃ h, h = (i + j) / 2 := ⟨_, rfl⟩
        obtain ⟨q, hq⟩ : ∃ q, pp = q + h := ⟨pp - h, by omega⟩
        have e2 : ((i : Int) + (j : Int)) / 2 = (h : Int) := by omega
        have e3 : IntKind.i64.wrap ((h : Int) + 1) = ((h + 1 : Nat) : Int) := wrapF (by omega) (by omega) (by omega)
        have e4 : IntKind.i64.wrap ((pp : Int) - (h : Int)) = (q : Int) := wrapF (by omega) (by omega) (by omega)
        obtain ⟨x, hx⟩ : ∃ x, X h = x := ⟨_, rfl⟩
        obtain ⟨y, hy⟩ : ∃ y, X q = y := ⟨_, rfl⟩
        have HXX := Lib.hid hx
        have HYY := Lib.hid hy
        have hih : i ≤ h := by omega
        have hhj : h < j := by omega
        have hhn : h < n := by omega
        have hqn : q < n := by omega
        have hxn : x < n := by rw [← hx]; exact HX.out h hhn
        have hyn : y < n := by rw [← hy]; exact HX.out q hqn
        have HQ1 : Hid (mid + m - (h + 1) = q) := by show _ = _; omega
        have HQ2 : Hid (mid + m - h - 1 = q) := by show _ = _; omega
        have ch := hs.cell hhn
        have cq := hs.cell hqn
        have HS := Lib.hid hs
        rw [hx] at ch
        rw [hy] at cq
        have z1 : (h : Int) < n := by omega
        have z2 : (q : Int) < n := by omega
        have hc := fun u => Calls.quiet_of (HC.out (wr.drewN u) (HS.out.drewN u).1 y x hyn hxn)
        clear hs hh hx hy hq h0 hmid hnn hpp e7
        by_cases hlv : cmpI (t y) (t x) < 0
        · have HLT : Hid (t (X q) < t (X h)) := by rw [HXX.out, HYY.out]; exact cmpI_neg.1 hlv
          go_wp2_with fail
          go_quiet (exact hc _)
          go_wp2
          go_roundw
          case rel => exact ⟨i, h, rfl, rfl, hmi, hih, by omega, HS.out.drewN _, HI.out.1, .inr (by rw [HQ2.out]; exact HLT.out)⟩
          case measure => simp [intOf]; omega
        · have hlv' : decide (cmpI (t y) (t x) < 0) = false := by simpa using hlv
          have HLT : Hid (t (X h) ≤ t (X q)) := by show _ ≤ _; rw [HXX.out, HYY.out]; exact Int.not_lt.1 fun q => hlv (cmpI_neg.2 q)
          go_wp2_with fail
          go_quiet (exact hc _)
          go_wp2
          go_roundw
          case rel => exact ⟨h + 1, j, by go_num, rfl, by omega, by omega, hjb, HS.out.drewN _, .inr (by rw [HQ1.out]; exact HLT.out), HI.out.2⟩
          case measure => simp [intOf]; omega
      · obtain rfl : i = j := by omega
        have hltz : ¬ (i : Int) < (i : Int) := by omega
        have h0 := H0.out
        have hmid := HMID.out
        have hnn := HNN.out
        obtain ⟨s, hsi⟩ : ∃ s, s = i := ⟨_, rfl⟩
        obtain ⟨e, he⟩ : ∃ e, e + s = mid + m := ⟨mid + m - s, by omega⟩
        have hF := sym_found HM.out ham hmb hmid h0 (s := s) (e := e) (by omega) (by omega) he (by rw [hsi, show e = mid + m - i by omega]; exact HI.out.1) (by rw [hsi, show e - 1 = mid + m - i - 1 by omega]; exact HI.out.2)
        obtain ⟨q1, q2, q3, q4, q5, q6⟩ := hF
        obtain ⟨g1, g2, g3⟩ := HM.out.halves q1 q2 q3 q4 q5 q6
        rw [show s + (e - m) = mid by omega] at g1 g2 g3
        subst hsi
        have e8 : IntKind.i64.wrap ((nn : Int) - (s : Int)) = (e : Int) := wrapF (by omega) (by omega) (by omega)
        have HS := Lib.hid hs
        have HE := Lib.hid he
        have G1 := Lib.hid g1
        have G2 := Lib.hid g2
        have G3 := Lib.hid g3
        have HR : Hid (Mv a b X (rot s m e X)) := (Mv.rot X q2 q3).wide q1 q4
        have HZX : Hid (∀ i, i < n → rot s m e X i < n) := HR.out.bd hbn HX.out
        obtain ⟨Z, hZ⟩ : ∃ Z, rot s m e X = Z := ⟨_, rfl⟩
        rw [hZ] at HR HZX G1 G2 G3
        have HZ := Lib.hid hZ
        have HN1 : Hid (mid - a ≤ N ∧ b - mid ≤ N) := by have := HN.out; show _ ∧ _; omega
        clear q5 q6 g1 g2 g3 hs hZ h0 hmid hnn e7 hlt
        by_cases hA : s < m
        · by_cases hB : m < e
          · by_cases hC : a < s
            · by_cases hD : e < b
              · have c1 : s < m := by omega
                have c1z : (s : Int) < (m : Int) := by omega
                have c2 : m < e := by omega
                have c2z : (m : Int) < (e : Int) := by omega
                have c3 : a < s := by omega
                have c3z : (a : Int) < (s : Int) := by omega
                have c4 : e < b := by omega
                have c4z : (e : Int) < (b : Int) := by omega
                have c5 : s < mid := by omega
                have c5z : (s : Int) < (mid : Int) := by omega
                have c6 : mid < e := by omega
                have c6z : (mid : Int) < (e : Int) := by omega
                have HDONE := Lib.hid c1
                go_wp2_with (first | (have _hg := HY1.out; go_at_call 33; refine (IH.out _ Y mid e b HN1.out.2 c6 c4 hbn HY1.out (HY2.out.bd (by omega) HZX.out) (HY2.out.keepM G2.out (.inr (Nat.le_refl _)) (by omega) q4)).mono ?_; rintro e' w3 ⟨rfl, V, hv1, hv2, hv3⟩; have HV1 := Lib.hid hv1; have HV2 := Lib.hid hv2; have HV3 := Lib.hid hv3; clear hv1 hv2 hv3) | (go_at_call 35; refine (rotate_any w0 _ _ _ _ X r s m e _ HS.out c1 c2 (Nat.le_trans q4 hbn) hn).mono ?_; rintro e' w1 ⟨rfl, hs1⟩; rw [HZ.out] at hs1; have HS1 := Lib.hid hs1; clear hs1) | (go_at_call 33; refine (IH.out _ Z a s mid HN1.out.1 c3 c5 (by omega) HS1.out HZX.out G1.out).mono ?_; rintro e' w2 ⟨rfl, Y, hy1, hy2, hy3⟩; have HY1 := Lib.hid hy1; have HY2 := Lib.hid hy2; have HY3 := Lib.hid hy3; clear hy1 hy2 hy3))
                go_end0
                have HJ := Asc.mid HY2.out HY3.out HV2.out HV3.out (by omega) (by omega) G3.out
                exact ⟨rfl, V, HV1.out, HR.out.trans HJ.1, HJ.2⟩
              · have c1 : s < m := by omega
                have c1z : (s : Int) < (m : Int) := by omega
                have c2 : m < e := by omega
                have c2z : (m : Int) < (e : Int) := by omega
                have c3 : a < s := by omega
                have c3z : (a : Int) < (s : Int) := by omega
                have c4 : ¬ e < b := by omega
                have c4z : decide ((e : Int) < (b : Int)) = false := by simp; omega
                have c5 : s < mid := by omega
                have c5z : (s : Int) < (mid : Int) := by omega
                have c6 : mid < e := by omega
                have c6z : (mid : Int) < (e : Int) := by omega
                have HDONE := Lib.hid c1
                go_wp2_with (first | (go_at_call 35; refine (rotate_any w0 _ _ _ _ X r s m e _ HS.out c1 c2 (Nat.le_trans q4 hbn) hn).mono ?_; rintro e' w1 ⟨rfl, hs1⟩; rw [HZ.out] at hs1; have HS1 := Lib.hid hs1; clear hs1) | (go_at_call 33; refine (IH.out _ Z a s mid HN1.out.1 c3 c5 (by omega) HS1.out HZX.out G1.out).mono ?_; rintro e' w2 ⟨rfl, Y, hy1, hy2, hy3⟩; have HY1 := Lib.hid hy1; have HY2 := Lib.hid hy2; have HY3 := Lib.hid hy3; clear hy1 hy2 hy3))
                go_end0
                have AR : Hid (Asc t Y mid b) := (HY2.out.keep (G2.out.one (by omega)) (.inr (Nat.le_refl _)))
                have HJ := Asc.mid HY2.out HY3.out (Mv.refl mid b _) AR.out (by omega) (by omega) G3.out
                exact ⟨rfl, Y, HY1.out, HR.out.trans HJ.1, HJ.2⟩
            · by_cases hD : e < b
              · have c1 : s < m := by omega
                have c1z : (s : Int) < (m : Int) := by omega
                have c2 : m < e := by omega
                have c2z : (m : Int) < (e : Int) := by omega
                have c3 : ¬ a < s := by omega
                have c3z : decide ((a : Int) < (s : Int)) = false := by simp; omega
                have c4 : e < b := by omega
                have c4z : (e : Int) < (b : Int) := by omega
                have c5 : s < mid := by omega
                have c5z : (s : Int) < (mid : Int) := by omega
                have c6 : mid < e := by omega
                have c6z : (mid : Int) < (e : Int) := by omega
                have HDONE := Lib.hid c1
                go_wp2_with (first | (go_at_call 35; refine (rotate_any w0 _ _ _ _ X r s m e _ HS.out c1 c2 (Nat.le_trans q4 hbn) hn).mono ?_; rintro e' w1 ⟨rfl, hs1⟩; rw [HZ.out] at hs1; have HS1 := Lib.hid hs1; clear hs1) | (go_at_call 33; refine (IH.out _ Z mid e b HN1.out.2 c6 c4 hbn HS1.out HZX.out G2.out).mono ?_; rintro e' w3 ⟨rfl, V, hv1, hv2, hv3⟩; have HV1 := Lib.hid hv1; have HV2 := Lib.hid hv2; have HV3 := Lib.hid hv3; clear hv1 hv2 hv3))
                go_end0
                have AL : Hid (Asc t Z a mid) := G1.out.one (by omega)
                have HJ := Asc.mid (Mv.refl a mid Z) AL.out HV2.out HV3.out (by omega) (by omega) G3.out
                exact ⟨rfl, V, HV1.out, HR.out.trans HJ.1, HJ.2⟩
              · have c1 : s < m := by omega
                have c1z : (s : Int) < (m : Int) := by omega
                have c2 : m < e := by omega
                have c2z : (m : Int) < (e : Int) := by omega
                have c3 : ¬ a < s := by omega
                have c3z : decide ((a : Int) < (s : Int)) = false := by simp; omega
                have c4 : ¬ e < b := by omega
                have c4z : decide ((e : Int) < (b : Int)) = false := by simp; omega
                have c5 : s < mid := by omega
                have c5z : (s : Int) < (mid : Int) := by omega
                have c6 : mid < e := by omega
                have c6z : (mid : Int) < (e : Int) := by omega
                have HDONE := Lib.hid c1
                go_wp2_with (first | (go_at_call 35; refine (rotate_any w0 _ _ _ _ X r s m e _ HS.out c1 c2 (Nat.le_trans q4 hbn) hn).mono ?_; rintro e' w1 ⟨rfl, hs1⟩; rw [HZ.out] at hs1; have HS1 := Lib.hid hs1; clear hs1))
                go_end0
                have AL : Hid (Asc t Z a mid) := G1.out.one (by omega)
                have AR : Hid (Asc t Z mid b) := G2.out.one (by omega)
                have HJ := Asc.mid (Mv.refl a mid Z) AL.out (Mv.refl mid b _) AR.out (by omega) (by omega) G3.out
                exact ⟨rfl, Z, HS1.out, HR.out.trans HJ.1, HJ.2⟩
          · have c1 : s < m := by omega
            have c1z : (s : Int) < (m : Int) := by omega
            have c2 : ¬ m < e := by omega
            have c2z : decide ((m : Int) < (e : Int)) = false := by simp; omega
            have c3 : a < s := by omega
            have c3z : (a : Int) < (s : Int) := by omega
            have c4 : e < b := by omega
            have c4z : (e : Int) < (b : Int) := by omega
            have c5 : ¬ s < mid := by omega
            have c5z : decide ((s : Int) < (mid : Int)) = false := by simp; omega
            have c6 : mid < e := by omega
            have c6z : (mid : Int) < (e : Int) := by omega
            have HRL : Hid (rot s m e X = X) := rot_left X (by omega) q2 q3
            have HDONE := Lib.hid c1
            go_wp2_with (first | (go_at_call 33; refine (IH.out _ Z mid e b HN1.out.2 c6 c4 hbn (by rw [← HZ.out, HRL.out]; exact HS.out) HZX.out G2.out).mono ?_; rintro e' w3 ⟨rfl, V, hv1, hv2, hv3⟩; have HV1 := Lib.hid hv1; have HV2 := Lib.hid hv2; have HV3 := Lib.hid hv3; clear hv1 hv2 hv3))
            go_end0
            have AL : Hid (Asc t Z a mid) := G1.out.one (by omega)
            have HJ := Asc.mid (Mv.refl a mid Z) AL.out HV2.out HV3.out (by omega) (by omega) G3.out
            exact ⟨rfl, V, HV1.out, HR.out.trans HJ.1, HJ.2⟩
        · by_cases hB : m < e
          · have c1 : ¬ s < m := by omega
            have c1z : decide ((s : Int) < (m : Int)) = false := by simp; omega
            have c2 : m < e := by omega
            have c2z : (m : Int) < (e : Int) := by omega
            have c3 : a < s := by omega
            have c3z : (a : Int) < (s : Int) := by omega
            have c5 : s < mid := by omega
            have c5z : (s : Int) < (mid : Int) := by omega
            have c6 : ¬ mid < e := by omega
            have c6z : decide ((mid : Int) < (e : Int)) = false := by simp; omega
            have HRL : Hid (rot s m e X = X) := rot_left X (by omega) q2 q3
            have HDONE := Lib.hid c1
            go_wp2_with (first | (go_at_call 33; refine (IH.out _ Z a s mid HN1.out.1 c3 c5 (by omega) (by rw [← HZ.out, HRL.out]; exact HS.out) HZX.out G1.out).mono ?_; rintro e' w2 ⟨rfl, Y, hy1, hy2, hy3⟩; have HY1 := Lib.hid hy1; have HY2 := Lib.hid hy2; have HY3 := Lib.hid hy3; clear hy1 hy2 hy3))
            go_end0
            have AR : Hid (Asc t Y mid b) := (HY2.out.keep (G2.out.one (by omega)) (.inr (Nat.le_refl _)))
            have HJ := Asc.mid HY2.out HY3.out (Mv.refl mid b _) AR.out (by omega) (by omega) G3.out
            exact ⟨rfl, Y, HY1.out, HR.out.trans HJ.1, HJ.2⟩
          · have c1 : ¬ s < m := by omega
            have c1z : decide ((s : Int) < (m : Int)) = false := by simp; omega
            have c2 : ¬ m < e := by omega
            have c2z : decide ((m : Int) < (e : Int)) = false := by simp; omega
            have c3 : a < s := by omega
            have c3z : (a : Int) < (s : Int) := by omega
            have c5 : ¬ s < mid := by omega
            have c5z : decide ((s : Int) < (mid : Int)) = false := by simp; omega
            have c6 : ¬ mid < e := by omega
            have c6z : decide ((mid : Int) < (e : Int)) = false := by simp; omega
            have HRL : Hid (rot s m e X = X) := rot_left X (by omega) q2 q3
            have HDONE := Lib.hid c1
            go_wp2
            go_end0
            have AL : Hid (Asc t Z a mid) := G1.out.one (by omega)
            have AR : Hid (Asc t Z mid b) := G2.out.one (by omega)
            have HJ := Asc.mid (Mv.refl a mid Z) AL.out (Mv.refl mid b _) AR.out (by omega) (by omega) G3.out
            exact ⟨rfl, Z, (by rw [← HZ.out, HRL.out]; exact HS.out), HR.out.trans HJ.1, HJ.2⟩
  · have hc0z : decide ((m : Int) > (mid : Int)) = false := by simp; omega
    have hc0z' : ¬ (mid : Int) < (m : Int) := by omega
    have HR0 : Hid (r0 = m) := by have := H0.out; show _ = _; omega
    have HR1 : Hid (s0 = a) := by have := H0.out; show _ = _; omega
    go_enter Tryd.func33, Tryd.ntmps33
    go_wp2
    clear e0 e1 e2 e3 e4 e5 e6
    go_loopw [20, 21] (fun vi vj wr => ∃ i j : Nat, vi = .int .i64 i ∧ vj = .int .i64 j ∧ s0 ≤ i ∧ i ≤ j ∧ j ≤ r0 ∧ Srt w0 wr g n X r ∧ Hid ((i = s0 ∨ t (X (i - 1)) ≤ t (X (mid + m - i))) ∧ (j = r0 ∨ t (X (mid + m - j - 1)) < t (X j)))) (fun vi vj _ => (intOf vj).toNat - (intOf vi).toNat)
    case atStart => exact ⟨s0, r0, by first | rfl | (rw [HR0.out]) | (rw [HR1.out]), by first | rfl | (rw [HR0.out]) | (rw [HR1.out]), Nat.le_refl _, by have := H0.out; omega, Nat.le_refl _, HS0.out, .inl rfl, .inl rfl⟩
    case round =>
      obtain ⟨i, j, rfl, rfl, hmi, hij, hjb, hs, HI⟩ := hrel
      by_cases hlt : i < j
      · have hltz : (i : Int) < (j : Int) := by omega
        have h0 := H0.out
        have hmid := HMID.out
        have hnn := HNN.out
        have hpp := HPP.out
        obtain ⟨h, hh⟩ : ∃ h, h = (i + j) / 2 := ⟨_, rfl⟩
        obtain ⟨q, hq⟩ : ∃ q, pp = q + h := ⟨pp - h, by omega⟩
        have e2 : ((i : Int) + (j : Int)) / 2 = (h : Int) := by omega
        have e3 : IntKind.i64.wrap ((h : Int) + 1) = ((h + 1 : Nat) : Int) := wrapF (by omega) (by omega) (by omega)
        have e4 : IntKind.i64.wrap ((pp : Int) - (h : Int)) = (q : Int) := wrapF (by omega) (by omega) (by omega)
        obtain ⟨x, hx⟩ : ∃ x, X h = x := ⟨_, rfl⟩
        obtain ⟨y, hy⟩ : ∃ y, X q = y := ⟨_, rfl⟩
        have HXX := Lib.hid hx
        have HYY := Lib.hid hy
        have hih : i ≤ h := by omega
        have hhj : h < j := by omega
        have hhn : h < n := by omega
        have hqn : q < n := by omega
        have hxn : x < n := by rw [← hx]; exact HX.out h hhn
        have hyn : y < n := by rw [← hy]; exact HX.out q hqn
        have HQ1 : Hid (mid + m - (h + 1) = q) := by show _ = _; omega
        have HQ2 : Hid (mid + m - h - 1 = q) := by show _ = _; omega
        have ch := hs.cell hhn
        have cq := hs.cell hqn
        have HS := Lib.hid hs
        rw [hx] at ch
        rw [hy] at cq
        have z1 : (h : Int) < n := by omega
        have z2 : (q : Int) < n := by omega
        have hc := fun u => Calls.quiet_of (HC.out (wr.drewN u) (HS.out.drewN u).1 y x hyn hxn)
        clear hs hh hx hy hq h0 hmid hnn hpp e7
        by_cases hlv : cmpI (t y) (t x) < 0
        · have HLT : Hid (t (X q) < t (X h)) := by rw [HXX.out, HYY.out]; exact cmpI_neg.1 hlv
          go_wp2_with fail
          go_quiet (exact hc _)
          go_wp2
          go_roundw
          case rel => exact ⟨i, h, rfl, rfl, hmi, hih, by omega, HS.out.drewN _, HI.out.1, .inr (by rw [HQ2.out]; exact HLT.out)⟩
          case measure => simp [intOf]; omega
        · have hlv' : decide (cmpI (t y) (t x) < 0) = false := by simpa using hlv
          have HLT : Hid (t (X h) ≤ t (X q)) := by show _ ≤ _; rw [HXX.out, HYY.out]; exact Int.not_lt.1 fun q => hlv (cmpI_neg.2 q)
          go_wp2_with fail
          go_quiet (exact hc _)
          go_wp2
          go_roundw
          case rel => exact ⟨h + 1, j, by go_num, rfl, by omega, by omega, hjb, HS.out.drewN _, .inr (by rw [HQ1.out]; exact HLT.out), HI.out.2⟩
          case measure => simp [intOf]; omega
      · obtain rfl : i = j := by omega
        have hltz : ¬ (i : Int) < (i : Int) := by omega
        have h0 := H0.out
        have hmid := HMID.out
        have hnn := HNN.out
        obtain ⟨s, hsi⟩ : ∃ s, s = i := ⟨_, rfl⟩
        obtain ⟨e, he⟩ : ∃ e, e + s = mid + m := ⟨mid + m - s, by omega⟩
        have hF := sym_found HM.out ham hmb hmid h0 (s := s) (e := e) (by omega) (by omega) he (by rw [hsi, show e = mid + m - i by omega]; exact HI.out.1) (by rw [hsi, show e - 1 = mid + m - i - 1 by omega]; exact HI.out.2)
        obtain ⟨q1, q2, q3, q4, q5, q6⟩ := hF
        obtain ⟨g1, g2, g3⟩ := HM.out.halves q1 q2 q3 q4 q5 q6
        rw [show s + (e - m) = mid by omega] at g1 g2 g3
        subst hsi
        have e8 : IntKind.i64.wrap ((nn : Int) - (s : Int)) = (e : Int) := wrapF (by omega) (by omega) (by omega)
        have HS := Lib.hid hs
        have HE := Lib.hid he
        have G1 := Lib.hid g1
        have G2 := Lib.hid g2
        have G3 := Lib.hid g3
        have HR : Hid (Mv a b X (rot s m e X)) := (Mv.rot X q2 q3).wide q1 q4
        have HZX : Hid (∀ i, i < n → rot s m e X i < n) := HR.out.bd hbn HX.out
        obtain ⟨Z, hZ⟩ : ∃ Z, rot s m e X = Z := ⟨_, rfl⟩
        rw [hZ] at HR HZX G1 G2 G3
        have HZ := Lib.hid hZ
        have HN1 : Hid (mid - a ≤ N ∧ b - mid ≤ N) := by have := HN.out; show _ ∧ _; omega
        clear q5 q6 g1 g2 g3 hs hZ h0 hmid hnn e7 hlt
        by_cases hA : s < m
        · by_cases hB : m < e
          · by_cases hC : a < s
            · by_cases hD : e < b
              · have c1 : s < m := by omega
                have c1z : (s : Int) < (m : Int) := by omega
                have c2 : m < e := by omega
                have c2z : (m : Int) < (e : Int) := by omega
                have c3 : a < s := by omega
                have c3z : (a : Int) < (s : Int) := by omega
                have c4 : e < b := by omega
                have c4z : (e : Int) < (b : Int) := by omega
                have c5 : s < mid := by omega
                have c5z : (s : Int) < (mid : Int) := by omega
                have c6 : mid < e := by omega
                have c6z : (mid : Int) < (e : Int) := by omega
                have HDONE := Lib.hid c1
                go_wp2_with (first | (have _hg := HY1.out; go_at_call 33; refine (IH.out _ Y mid e b HN1.out.2 c6 c4 hbn HY1.out (HY2.out.bd (by omega) HZX.out) (HY2.out.keepM G2.out (.inr (Nat.le_refl _)) (by omega) q4)).mono ?_; rintro e' w3 ⟨rfl, V, hv1, hv2, hv3⟩; have HV1 := Lib.hid hv1; have HV2 := Lib.hid hv2; have HV3 := Lib.hid hv3; clear hv1 hv2 hv3) | (go_at_call 35; refine (rotate_any w0 _ _ _ _ X r s m e _ HS.out c1 c2 (Nat.le_trans q4 hbn) hn).mono ?_; rintro e' w1 ⟨rfl, hs1⟩; rw [HZ.out] at hs1; have HS1 := Lib.hid hs1; clear hs1) | (go_at_call 33; refine (IH.out _ Z a s mid HN1.out.1 c3 c5 (by omega) HS1.out HZX.out G1.out).mono ?_; rintro e' w2 ⟨rfl, Y, hy1, hy2, hy3⟩; have HY1 := Lib.hid hy1; have HY2 := Lib.hid hy2; have HY3 := Lib.hid hy3; clear hy1 hy2 hy3))
                go_end0
                have HJ := Asc.mid HY2.out HY3.out HV2.out HV3.out (by omega) (by omega) G3.out
                exact ⟨rfl, V, HV1.out, HR.out.trans HJ.1, HJ.2⟩
              · have c1 : s < m := by omega
                have c1z : (s : Int) < (m : Int) := by omega
                have c2 : m < e := by omega
                have c2z : (m : Int) < (e : Int) := by omega
                have c3 : a < s := by omega
                have c3z : (a : Int) < (s : Int) := by omega
                have c4 : ¬ e < b := by omega
                have c4z : decide ((e : Int) < (b : Int)) = false := by simp; omega
                have c5 : s < mid := by omega
                have c5z : (s : Int) < (mid : Int) := by omega
                have c6 : mid < e := by omega
                have c6z : (mid : Int) < (e : Int) := by omega
                have HDONE := Lib.hid c1
                go_wp2_with (first | (go_at_call 35; refine (rotate_any w0 _ _ _ _ X r s m e _ HS.out c1 c2 (Nat.le_trans q4 hbn) hn).mono ?_; rintro e' w1 ⟨rfl, hs1⟩; rw [HZ.out] at hs1; have HS1 := Lib.hid hs1; clear hs1) | (go_at_call 33; refine (IH.out _ Z a s mid HN1.out.1 c3 c5 (by omega) HS1.out HZX.out G1.out).mono ?_; rintro e' w2 ⟨rfl, Y, hy1, hy2, hy3⟩; have HY1 := Lib.hid hy1; have HY2 := Lib.hid hy2; have HY3 := Lib.hid hy3; clear hy1 hy2 hy3))
                go_end0
                have AR : Hid (Asc t Y mid b) := (HY2.out.keep (G2.out.one (by omega)) (.inr (Nat.le_refl _)))
                have HJ := Asc.mid HY2.out HY3.out (Mv.refl mid b _) AR.out (by omega) (by omega) G3.out
                exact ⟨rfl, Y, HY1.out, HR.out.trans HJ.1, HJ.2⟩
            · by_cases hD : e < b
              · have c1 : s < m := by omega
                have c1z : (s : Int) < (m : Int) := by omega
                have c2 : m < e := by omega
                have c2z : (m : Int) < (e : Int) := by omega
                have c3 : ¬ a < s := by omega
                have c3z : decide ((a : Int) < (s : Int)) = false := by simp; omega
                have c4 : e < b := by omega
                have c4z : (e : Int) < (b : Int) := by omega
                have c5 : s < mid := by omega
                have c5z : (s : Int) < (mid : Int) := by omega
                have c6 : mid < e := by omega
                have c6z : (mid : Int) < (e : Int) := by omega
                have HDONE := Lib.hid c1
                go_wp2_with (first | (go_at_call 35; refine (rotate_any w0 _ _ _ _ X r s m e _ HS.out c1 c2 (Nat.le_trans q4 hbn) hn).mono ?_; rintro e' w1 ⟨rfl, hs1⟩; rw [HZ.out] at hs1; have HS1 := Lib.hid hs1; clear hs1) | (go_at_call 33; refine (IH.out _ Z mid e b HN1.out.2 c6 c4 hbn HS1.out HZX.out G2.out).mono ?_; rintro e' w3 ⟨rfl, V, hv1, hv2, hv3⟩; have HV1 := Lib.hid hv1; have HV2 := Lib.hid hv2; have HV3 := Lib.hid hv3; clear hv1 hv2 hv3))
                go_end0
                have AL : Hid (Asc t Z a mid) := G1.out.one (by omega)
                have HJ := Asc.mid (Mv.refl a mid Z) AL.out HV2.out HV3.out (by omega) (by omega) G3.out
                exact ⟨rfl, V, HV1.out, HR.out.trans HJ.1, HJ.2⟩
              · have c1 : s < m := by omega
                have c1z : (s : Int) < (m : Int) := by omega
                have c2 : m < e := by omega
                have c2z : (m : Int) < (e : Int) := by omega
                have c3 : ¬ a < s := by omega
                have c3z : decide ((a : Int) < (s : Int)) = false := by simp; omega
                have c4 : ¬ e < b := by omega
                have c4z : decide ((e : Int) < (b : Int)) = false := by simp; omega
                have c5 : s < mid := by omega
                have c5z : (s : Int) < (mid : Int) := by omega
                have c6 : mid < e := by omega
                have c6z : (mid : Int) < (e : Int) := by omega
                have HDONE := Lib.hid c1
                go_wp2_with (first | (go_at_call 35; refine (rotate_any w0 _ _ _ _ X r s m e _ HS.out c1 c2 (Nat.le_trans q4 hbn) hn).mono ?_; rintro e' w1 ⟨rfl, hs1⟩; rw [HZ.out] at hs1; have HS1 := Lib.hid hs1; clear hs1))
                go_end0
                have AL : Hid (Asc t Z a mid) := G1.out.one (by omega)
                have AR : Hid (Asc t Z mid b) := G2.out.one (by omega)
                have HJ := Asc.mid (Mv.refl a mid Z) AL.out (Mv.refl mid b _) AR.out (by omega) (by omega) G3.out
                exact ⟨rfl, Z, HS1.out, HR.out.trans HJ.1, HJ.2⟩
          · have c1 : s < m := by omega
            have c1z : (s : Int) < (m : Int) := by omega
            have c2 : ¬ m < e := by omega
            have c2z : decide ((m : Int) < (e : Int)) = false := by simp; omega
            have c3 : a < s := by omega
            have c3z : (a : Int) < (s : Int) := by omega
            have c4 : e < b := by omega
            have c4z : (e : Int) < (b : Int) := by omega
            have c5 : ¬ s < mid := by omega
            have c5z : decide ((s : Int) < (mid : Int)) = false := by simp; omega
            have c6 : mid < e := by omega
            have c6z : (mid : Int) < (e : Int) := by omega
            have HRL : Hid (rot s m e X = X) := rot_left X (by omega) q2 q3
            have HDONE := Lib.hid c1
            go_wp2_with (first | (go_at_call 33; refine (IH.out _ Z mid e b HN1.out.2 c6 c4 hbn (by rw [← HZ.out, HRL.out]; exact HS.out) HZX.out G2.out).mono ?_; rintro e' w3 ⟨rfl, V, hv1, hv2, hv3⟩; have HV1 := Lib.hid hv1; have HV2 := Lib.hid hv2; have HV3 := Lib.hid hv3; clear hv1 hv2 hv3))
            go_end0
            have AL : Hid (Asc t Z a mid) := G1.out.one (by omega)
            have HJ := Asc.mid (Mv.refl a mid Z) AL.out HV2.out HV3.out (by omega) (by omega) G3.out
            exact ⟨rfl, V, HV1.out, HR.out.trans HJ.1, HJ.2⟩
        · by_cases hB : m < e
          · have c1 : ¬ s < m := by omega
            have c1z : decide ((s : Int) < (m : Int)) = false := by simp; omega
            have c2 : m < e := by omega
            have c2z : (m : Int) < (e : Int) := by omega
            have c3 : a < s := by omega
            have c3z : (a : Int) < (s : Int) := by omega
            have c5 : s < mid := by omega
            have c5z : (s : Int) < (mid : Int) := by omega
            have c6 : ¬ mid < e := by omega
            have c6z : decide ((mid : Int) < (e : Int)) = false := by simp; omega
            have HRL : Hid (rot s m e X = X) := rot_left X (by omega) q2 q3
            have HDONE := Lib.hid c1
            go_wp2_with (first | (go_at_call 33; refine (IH.out _ Z a s mid HN1.out.1 c3 c5 (by omega) (by rw [← HZ.out, HRL.out]; exact HS.out) HZX.out G1.out).mono ?_; rintro e' w2 ⟨rfl, Y, hy1, hy2, hy3⟩; have HY1 := Lib.hid hy1; have HY2 := Lib.hid hy2; have HY3 := Lib.hid hy3; clear hy1 hy2 hy3))
            go_end0
            have AR : Hid (Asc t Y mid b) := (HY2.out.keep (G2.out.one (by omega)) (.inr (Nat.le_refl _)))
            have HJ := Asc.mid HY2.out HY3.out (Mv.refl mid b _) AR.out (by omega) (by omega) G3.out
            exact ⟨rfl, Y, HY1.out, HR.out.trans HJ.1, HJ.2⟩
          · have c1 : ¬ s < m := by omega
            have c1z : decide ((s : Int) < (m : Int)) = false := by simp; omega
            have c2 : ¬ m < e := by omega
            have c2z : decide ((m : Int) < (e : Int)) = false := by simp; omega
            have c3 : a < s := by omega
            have c3z : (a : Int) < (s : Int) := by omega
            have c5 : ¬ s < mid := by omega
            have c5z : decide ((s : Int) < (mid : Int)) = false := by simp; omega
            have c6 : ¬ mid < e := by omega
            have c6z : decide ((mid : Int) < (e : Int)) = false := by simp; omega
            have HRL : Hid (rot s m e X = X) := rot_left X (by omega) q2 q3
            have HDONE := Lib.hid c1
            go_wp2
            go_end0
            have AL : Hid (Asc t Z a mid) := G1.out.one (by omega)
            have AR : Hid (Asc t Z mid b) := G2.out.one (by omega)
            have HJ := Asc.mid (Mv.refl a mid Z) AL.out (Mv.refl mid b _) AR.out (by omega) (by omega) G3.out
            exact ⟨rfl, Z, (by rw [← HZ.out, HRL.out]; exact HS.out), HR.out.trans HJ.1, HJ.2⟩
theorem symMerge_any (w0 : World) (g n c : Nat) (r : List Value) (p : Value) (t : Nat → Int) (hC : CmpC 23 p w0 g n t) (hn : n ≤ 1000000) : ∀ N, SymIH w0 g n c r 23 p t N
  | 0 => fun w X a m b h1 h2 h3 => by omega
  | N + 1 => fun w X a m b h1 h2 h3 h4 hs hX hM => by
    by_cases c1 : m = a + 1
    · exact sym_left w0 g n c r _ p t rfl hC hn w X a m b c1 h3 h4 hs hX hM
    · by_cases c2 : b = m + 1
      · exact sym_right w0 g n c r _ p t rfl hC hn w X a m b (by omega) c2 h4 hs hX hM
      · exact sym_main w0 g n c r _ p t rfl hC hn N (symMerge_any w0 g n c r p t hC hn N) w X a m b h1 (by omega) (by omega) h4 hs hX hM
end Go.Proofs.YtficoknejnilmaaDoor
