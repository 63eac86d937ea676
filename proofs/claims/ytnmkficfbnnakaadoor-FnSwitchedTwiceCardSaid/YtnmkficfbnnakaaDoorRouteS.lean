/- the contract of the specification's l26Route -/
import Derived.Test.YtnmkficfbnnakaaDoorHalvesS
namespace Go.Proofs.YtnmkficfbnnakaaDoor
open Go.RowKit
/-- two lists that lie apart -/
def Ap (v u : Value) : Prop := ∀ g, gBlock v = some g → gBlock u ≠ some g
theorem Ap.symm {v u : Value} (h : Ap v u) : Ap u v := fun g h1 h2 => h g h2 h1
theorem keep_one {wr w1 : World} {B sz n : Nat} {e : TypeId} {v u u' : Value} {cs : List Value} {o : Obj} (h : Gr wr B e sz v n cs) (ap : Ap v u) (r1 : (wr.alloc o).grownBy w1 (gBlock u)) (k1 : gBlock u' = gBlock u ∨ gBlock u' = some (wr.alloc o).heap.size) : Gr w1 B e sz v n cs ∧ Ap v u' := by
  refine ⟨(h.alloc o).kept r1 (fun g hg hu => ap g hg hu), fun g hg hu => ?_⟩
  rcases k1 with k | k
  · exact ap g hg (k ▸ hu)
  · have := (h.lt g hg).2
    rw [k] at hu
    simp at hu
    omega
theorem bv_tab {n i : Nat} (B : Nat → Bool) (h : i < n) : bv (tab n B) i = .bool (B i) := by unfold bv; rw [tab_get _ h]; rfl
theorem pick_nb (h : Nat) (p : List Int) (k : Nat) : nb (pick' h p true k) = pick' h p false k := by
  unfold pick'
  cases (hlv (2 * h) p).O (2 * k)
  · simp; have := nb_nb (2 * k); rw [nb_even] at this; exact this
  · simp; exact nb_even k
theorem routeS_1 : Routes 27 1 (fun _ => []) := by
  intro v p w h hp
  have hl := hp.1
  obtain ⟨ad, c, hv, _, _⟩ := h.open
  rw [hl] at hv
  subst hv
  have HF : Hid (BoolsPost [] w (.returned (.slice (some ⟨w.heap.size, 0, none⟩) 0 0)) (w.alloc (.cells #[] 4))) := ⟨_, rfl, Gr.none0 _ _ _ _ _, (Below.refl _ _).alloc (Nat.le_refl _) _⟩
  clear hl h hp
  go_enter Tryd.func27, Tryd.ntmps27
  go_wp2
  go_ret
  exact HF.out
theorem routeS_2 : Routes 27 2 route2 := by
  intro v p w h hp
  have hl := hp.1
  obtain ⟨ad, c, hv, _, hop⟩ := h.open
  rw [hl] at hv
  subst hv
  obtain ⟨b, off, rfl, hcell⟩ := hop 0 (by omega)
  have k0 := hcell 0 (by omega)
  rw [iv_iI, Nat.add_zero] at k0
  obtain ⟨x, hx⟩ : ∃ x, iI p 0 = x := ⟨_, rfl⟩
  obtain ⟨t, ht⟩ : ∃ t, (x == 1) = t := ⟨_, rfl⟩
  rw [hx] at k0
  have HF : Hid (BoolsPost (route2 p) w (.returned (.slice (some ⟨w.heap.size, 0, none⟩) 1 1)) (w.alloc (.cells #[.bool t] 4))) := by
    unfold Hid route2
    rw [hx, ht]
    exact ⟨_, rfl, Gr.of_made (Row.new w 4 (bools [t])) rfl (by unfold maxLen; omega) (Nat.le_refl _), (Below.refl _ _).alloc (Nat.le_refl _) _⟩
  clear hl h hp hop hcell hx
  go_enter Tryd.func27, Tryd.ntmps27
  go_wp2
  go_ret
  exact HF.out
set_option maxHeartbeats 20000000 in
set_option maxRecDepth 20000 in
theorem routeS_step (h m : Nat) (hh : h = 2 ∨ h = 4) (r : List Int → List Bool) (hm : m ≤ 6) (hlen : ∀ q, PermL h q → (r q).length = m) (IH : Routes 27 h r) : Routes 27 (2 * h) (stepR h r) := by
  intro v p w hI hp
  have hl := hp.1
  have HPL := Lib.hid hp
  have HIH := Lib.hid IH
  have HLEN := Lib.hid hlen
  obtain ⟨n, hn⟩ : ∃ n, 2 * h = n := ⟨_, rfl⟩
  rw [hn] at hl
  have hn1 : n ≤ 2 * h := by omega
  have hn2 : 2 * h ≤ n := by omega
  have hn3 : n ≤ 8 := by omega
  have hn4 : 4 ≤ n := by omega
  have hnn : 2 ≤ h := by omega
  have HN := Lib.hid hn
  have HPN : Hid (PermL n p) := by rw [← hn]; exact hp
  have HII := Lib.hid hI
  obtain ⟨ad, c, hv, _, hop⟩ := hI.open
  rw [hl] at hv
  subst hv
  obtain ⟨b, off, rfl, hcell⟩ := hop 0 (by omega)
  have CP : Hid (∀ i, i < n → w.cell? ⟨b, off + i, none⟩ = some (.int .i64 (iI p i))) := fun i hi => hcell i (by omega)
  have hbw : b < w.heap.size := World.block_lt_of_cell? w _ (CP.out 0 (by omega))
  have d1 : ((n : Int) < 2) = False := by simp; omega
  have d2 : ((n : Int) == 2) = false := beq_eq_false_iff_ne.2 (by omega)
  have hev : n % 2 = 0 := by omega
  have HEV := Lib.hid hev
  clear hI hp hl hop hcell IH hlen hn hh hev
  go_enter Tryd.func27, Tryd.ntmps27
  go_wp2_with fail
  refine (halves_any n hn3 (by omega) HEV.out _ p w HII.out HPN.out).mono ?_
  rintro e w1 ⟨ui, uo, rfl, hui, huo, hb⟩
  obtain ⟨S, hS⟩ : ∃ S, halvesK n (pF p) (pG p) n = S := ⟨_, rfl⟩
  have HSV : Hid (hlv (2 * h) p = S) := by unfold Hid hlv; rw [HN.out]; exact hS
  rw [hS] at hui huo
  obtain ⟨ai, ci, hvi, _, hopi⟩ := hui.open
  obtain ⟨ao, co, hvo, _, hopo⟩ := huo.open
  rw [tab_length] at hvi hvo hopi hopo
  subst hvi hvo
  obtain ⟨bi, oi, rfl, hci⟩ := hopi 0 (by omega)
  obtain ⟨bo, oo, rfl, hco⟩ := hopo 0 (by omega)
  have CI : Hid (∀ i, i < n → w1.cell? ⟨bi, oi + i, none⟩ = some (.bool (S.I i))) := fun i hi => by have := hci i hi; rwa [bv_tab _ hi] at this
  have CO : Hid (∀ i, i < n → w1.cell? ⟨bo, oo + i, none⟩ = some (.bool (S.O i))) := fun i hi => by have := hco i hi; rwa [bv_tab _ hi] at this
  have CP1 : Hid (∀ i, i < n → w1.cell? ⟨b, off + i, none⟩ = some (.int .i64 (iI p i))) := fun i hi => (hb.cell (p := ⟨b, off + i, none⟩) hbw).trans (CP.out i hi)
  have lbi := World.block_lt_of_cell? w1 _ (CI.out 0 (by omega))
  have lbo := World.block_lt_of_cell? w1 _ (CO.out 0 (by omega))
  have lbp : b < w1.heap.size := Nat.lt_of_lt_of_le hbw hb.size
  have B1 := Lib.hid hb
  obtain ⟨A, hA⟩ : ∃ A : Nat → Bool, (fun k => !S.I (2 * k)) = A := ⟨_, rfl⟩
  obtain ⟨Z, hZ⟩ : ∃ Z : Nat → Bool, (fun k => !S.O (2 * k)) = Z := ⟨_, rfl⟩
  have HA := Lib.hid hA
  have HZ := Lib.hid hZ
  have HB4 : Hid (Below w1.heap.size w1 ((((w1.alloc (.cells #[] 4)).alloc (.cells #[] 4)).alloc (.cells #[] 3)).alloc (.cells #[] 3))) := ((((Below.refl _ _).alloc (Nat.le_refl _) _).alloc (by simp) _).alloc (by simp; omega) _).alloc (by simp; omega) _
  have APN : Hid (∀ (x : Value) (q : Nat), Ap (.slice (some ⟨q, 0, none⟩) 0 0) x) := fun x q g hg => by simp [gBlock] at hg
  clear hb hui huo hopi hopo hci hco hS hA hZ CP hbw HII HPN HEV
  go_wp2
  clear d1 d2
  go_loopw [5, 6, 7, 8, 9] (fun u5 u6 u7 u8 i wr => ∃ j J : Nat, j ≤ h ∧ J ≤ 2 * j ∧ 2 * j ≤ J ∧ i = .int .i64 J ∧ Hid (Gr wr w1.heap.size 4 1 u5 j (bools (tab j A))) ∧ Hid (Gr wr w1.heap.size 4 1 u6 j (bools (tab j Z))) ∧ Hid (Gr wr w1.heap.size 3 1 u7 j (ints (tab j (fun k => iI p (pick' h p true k) / 2)))) ∧ Hid (Gr wr w1.heap.size 3 1 u8 j (ints (tab j (fun k => iI p (pick' h p false k) / 2)))) ∧ Hid (Ap u5 u6 ∧ Ap u5 u7 ∧ Ap u5 u8 ∧ Ap u6 u7 ∧ Ap u6 u8 ∧ Ap u7 u8) ∧ Hid (Below w1.heap.size w1 wr)) (fun _ _ _ _ i _ => n - (intOf i).toNat)
  case atStart => exact ⟨0, 0, Nat.zero_le _, by omega, by omega, rfl, Gr.none0 _ _ _ _ _, Gr.none0 _ _ _ _ _, Gr.none0 _ _ _ _ _, Gr.none0 _ _ _ _ _, ⟨APN.out _ _, APN.out _ _, APN.out _ _, APN.out _ _, APN.out _ _, APN.out _ _⟩, HB4⟩
  case round =>
    obtain ⟨j, J, hj, hJ1, hJ2, rfl, h5, h6, h7, h8, hap, hB⟩ := hrel
    by_cases hlt : J < n
    · have hJn : J + 1 < n := by have := HN.out; omega
      have hjj : 2 * j = J := by omega
      obtain ⟨ta, hta⟩ : ∃ t, A j = t := ⟨_, rfl⟩
      obtain ⟨tz, htz⟩ : ∃ t, Z j = t := ⟨_, rfl⟩
      obtain ⟨t, ht⟩ : ∃ t, S.O J = t := ⟨_, rfl⟩
      have hiJ : S.I J = !ta := by rw [← hta, ← HA.out]; show S.I J = !(!S.I (2 * j)); rw [hjj]; simp
      have htJ : tz = !t := by rw [← htz, ← HZ.out]; show (!S.O (2 * j)) = !t; rw [hjj, ht]
      have ki : wr.cell? ⟨bi, oi + J, none⟩ = some (.bool (!ta)) := by
        rw [← hiJ]; exact (hB.out.cell (p := ⟨bi, oi + J, none⟩) lbi).trans (CI.out J hlt)
      have HTA := Lib.hid hta
      have HTZ := Lib.hid htz
      have HTJ := Lib.hid htJ
      have HTJ := Lib.hid htJ
      have HTJ := Lib.hid htJ
      have HTJ := Lib.hid htJ
      have HTJ := Lib.hid htJ
      have HOT := Lib.hid ht
      obtain ⟨Y0, hY0⟩ : ∃ Y : Nat, iI p J = (Y : Int) := ⟨_, HPL.out.int (by have := HN.out; omega)⟩
      obtain ⟨Y1, hY1⟩ : ∃ Y : Nat, iI p (J + 1) = (Y : Int) := ⟨_, HPL.out.int (by have := HN.out; omega)⟩
      have hY0b := (HPL.out.2.1 J (by have := HN.out; omega)).2
      have hY1b := (HPL.out.2.1 (J + 1) (by have := HN.out; omega)).2
      rw [hY0] at hY0b
      rw [hY1] at hY1b
      have hY08 : Y0 < 16 := by omega
      have hY18 : Y1 < 16 := by omega
      obtain ⟨Q0, hQ0⟩ : ∃ Q : Nat, (Y0 : Int) / 2 = (Q : Int) := ⟨Y0 / 2, by omega⟩
      obtain ⟨Q1, hQ1⟩ : ∃ Q : Nat, (Y1 : Int) / 2 = (Q : Int) := ⟨Y1 / 2, by omega⟩
      have hJ9 : (J : Int) + 1 < (n : Int) := by omega
      have hJ0 : (0 : Int) ≤ (J : Int) + 1 := by omega
      have hJ8 : IntKind.i64.wrap ((J : Int) + 1) = (J : Int) + 1 := by rw [IntKind.wrap_i64]; omega
      have zB := hB.out.size
      clear hta htz hiJ hY0b hY1b
      cases t
      · have hOt := HOT.out
        have hpk : pick' h p true j = (J + 1) := by unfold pick'; rw [HSV.out, show 2 * j = J by omega, hOt]; rfl
        have hpn : pick' h p false j = J := by unfold pick'; rw [HSV.out, show 2 * j = J by omega, hOt]; rfl
        have HNB : Hid (nb (J + 1) = J) := by unfold Hid nb; rw [if_neg (by omega)]; omega
        have V7 : Hid (iI p (pick' h p true j) / 2 = (Q1 : Int)) := by unfold Hid; rw [hpk, hY1]; omega
        have V8 : Hid (iI p (pick' h p false j) / 2 = (Q0 : Int)) := by unfold Hid; rw [hpn, hY0]; omega
        have HTZ2 : Hid (Z j = true) := by have := HTZ.out; rw [HTJ.out] at this; exact this
        clear hOt hpk hpn
        go_wp2_with (first
          | (at_builtin; refine wpList_app _ rfl (.tmp 38) (.tmp 44) 23 rfl w1.heap.size 4 (.bool false) 1 1 Tryd.underlying23 Tryd.infoBool rfl (by omega) u5 j (bools (tab j A)) rfl (h5.out.alloc _) _ 1 [.bool ta] rfl (view_one _ _ _) (by simp [Value.oneCell']) (by unfold maxLen; omega) (by omega) (by simp <;> omega) ?_; intro v2 w2 g9 r9 k9; have G2 := Lib.hid g9; have R2 := Lib.hid r9; have K2 := Lib.hid k9; clear g9 r9 k9; have hB2 : Below w1.heap.size w1 w2 := (hB.out.alloc hB.out.size _).grown R2.out (by have := hB.out.size; simp <;> omega) (fun g hg => (h5.out.lt g hg).1); have z2 := hB2.size; have ko2 : w2.cell? ⟨bo, oo + J, none⟩ = some (.bool false) := (by have := (hB2.cell (p := ⟨bo, oo + J, none⟩) lbo).trans (CO.out J hlt); rwa [ht] at this); obtain ⟨k62a, apk62⟩ := keep_one h6.out hap.out.1.symm R2.out K2.out; have k62 := Lib.hid k62a; clear k62a; obtain ⟨k72a, apk72⟩ := keep_one h7.out hap.out.2.1.symm R2.out K2.out; have k72 := Lib.hid k72a; clear k72a; obtain ⟨k82a, apk82⟩ := keep_one h8.out hap.out.2.2.1.symm R2.out K2.out; have k82 := Lib.hid k82a; clear k82a; have HAP2 : Hid (Ap v2 u6 ∧ Ap v2 u7 ∧ Ap v2 u8 ∧ Ap u6 u7 ∧ Ap u6 u8 ∧ Ap u7 u8) := ⟨apk62.symm, apk72.symm, apk82.symm, hap.out.2.2.2.1, hap.out.2.2.2.2.1, hap.out.2.2.2.2.2⟩; clear apk62 apk72 apk82)
          | (at_builtin; refine wpList_app _ rfl (.tmp 46) (.tmp 52) 23 rfl w1.heap.size 4 (.bool false) 1 1 Tryd.underlying23 Tryd.infoBool rfl (by omega) u6 j (bools (tab j Z)) rfl (k62.out.alloc _) _ 1 [.bool true] rfl (view_one _ _ _) (by simp [Value.oneCell']) (by unfold maxLen; omega) (by omega) (by simp <;> omega) ?_; intro v3 w3 g9 r9 k9; have G3 := Lib.hid g9; have R3 := Lib.hid r9; have K3 := Lib.hid k9; clear g9 r9 k9; have hB3 : Below w1.heap.size w1 w3 := (hB2.alloc hB2.size _).grown R3.out (by have := hB2.size; simp <;> omega) (fun g hg => (k62.out.lt g hg).1); have z3 := hB3.size; have ko3 : w3.cell? ⟨bo, oo + J, none⟩ = some (.bool false) := (by have := (hB3.cell (p := ⟨bo, oo + J, none⟩) lbo).trans (CO.out J hlt); rwa [ht] at this); have kp3 : w3.cell? ⟨b, off + (J + 1), none⟩ = some (.int .i64 (Y1 : Int)) := (by have := (hB3.cell (p := ⟨b, off + (J + 1), none⟩) lbp).trans (CP1.out (J + 1) (by omega)); rwa [hY1] at this); obtain ⟨k53a, apk53⟩ := keep_one G2.out HAP2.out.1 R3.out K3.out; have k53 := Lib.hid k53a; clear k53a; obtain ⟨k73a, apk73⟩ := keep_one k72.out HAP2.out.2.2.2.1.symm R3.out K3.out; have k73 := Lib.hid k73a; clear k73a; obtain ⟨k83a, apk83⟩ := keep_one k82.out HAP2.out.2.2.2.2.1.symm R3.out K3.out; have k83 := Lib.hid k83a; clear k83a; have HAP3 : Hid (Ap v2 v3 ∧ Ap v2 u7 ∧ Ap v2 u8 ∧ Ap v3 u7 ∧ Ap v3 u8 ∧ Ap u7 u8) := ⟨apk53, HAP2.out.2.1, HAP2.out.2.2.1, apk73.symm, apk83.symm, HAP2.out.2.2.2.2.2⟩; clear apk53 apk73 apk83)
          | (at_builtin; refine wpList_app _ rfl (.tmp 62) (.tmp 68) 24 rfl w1.heap.size 3 (.int .i64 0) 1 8 Tryd.underlying24 Tryd.infoInt rfl (by omega) u7 j (ints (tab j (fun k => iI p (pick' h p true k) / 2))) rfl (k73.out.alloc _) _ 1 [.int .i64 Q1] rfl (view_one _ _ _) (by simp [Value.oneCell']) (by unfold maxLen; omega) (by omega) (by simp <;> omega) ?_; intro v4 w4 g9 r9 k9; have G4 := Lib.hid g9; have R4 := Lib.hid r9; have K4 := Lib.hid k9; clear g9 r9 k9; have hB4 : Below w1.heap.size w1 w4 := (hB3.alloc hB3.size _).grown R4.out (by have := hB3.size; simp <;> omega) (fun g hg => (k73.out.lt g hg).1); have z4 := hB4.size; have kp4 : w4.cell? ⟨b, off + J, none⟩ = some (.int .i64 (Y0 : Int)) := (by have := (hB4.cell (p := ⟨b, off + J, none⟩) lbp).trans (CP1.out J (by omega)); rwa [hY0] at this); obtain ⟨k54a, apk54⟩ := keep_one k53.out HAP3.out.2.1 R4.out K4.out; have k54 := Lib.hid k54a; clear k54a; obtain ⟨k64a, apk64⟩ := keep_one G3.out HAP3.out.2.2.2.1 R4.out K4.out; have k64 := Lib.hid k64a; clear k64a; obtain ⟨k84a, apk84⟩ := keep_one k83.out HAP3.out.2.2.2.2.2.symm R4.out K4.out; have k84 := Lib.hid k84a; clear k84a; have HAP4 : Hid (Ap v2 v3 ∧ Ap v2 v4 ∧ Ap v2 u8 ∧ Ap v3 v4 ∧ Ap v3 u8 ∧ Ap v4 u8) := ⟨HAP3.out.1, apk54, HAP3.out.2.2.1, apk64, HAP3.out.2.2.2.2.1, apk84.symm⟩; clear apk54 apk64 apk84)
          | (go_at_call 31; refine (besideR_any (J + 1) _ (by omega)).mono ?_; rw [HNB.out]; rintro e w' ⟨rfl, rfl⟩)
          | (at_builtin; refine wpList_app _ rfl (.tmp 70) (.tmp 77) 24 rfl w1.heap.size 3 (.int .i64 0) 1 8 Tryd.underlying24 Tryd.infoInt rfl (by omega) u8 j (ints (tab j (fun k => iI p (pick' h p false k) / 2))) rfl (k84.out.alloc _) _ 1 [.int .i64 Q0] rfl (view_one _ _ _) (by simp [Value.oneCell']) (by unfold maxLen; omega) (by omega) (by simp <;> omega) ?_; intro v5 w5 g9 r9 k9; have G5 := Lib.hid g9; have R5 := Lib.hid r9; have K5 := Lib.hid k9; clear g9 r9 k9; have hB5 : Below w1.heap.size w1 w5 := (hB4.alloc hB4.size _).grown R5.out (by have := hB4.size; simp <;> omega) (fun g hg => (k84.out.lt g hg).1); have z5 := hB5.size))
        go_roundw
        case rel =>
          have hap5 := HAP4.out
          obtain ⟨q5, ap5⟩ := keep_one k54.out hap5.2.2.1 R5.out K5.out
          obtain ⟨q6, ap6⟩ := keep_one k64.out hap5.2.2.2.2.1 R5.out K5.out
          obtain ⟨q7, ap7⟩ := keep_one G4.out hap5.2.2.2.2.2 R5.out K5.out
          have q8 := G5.out
          rw [tab_snocB HTA.out] at q5
          rw [tab_snocB HTZ2.out] at q6
          rw [tab_one (n := j) (f := fun k => iI p (pick' h p true k) / 2) V7.out] at q7
          rw [tab_one (n := j) (f := fun k => iI p (pick' h p false k) / 2) V8.out] at q8
          exact ⟨j + 1, J + 2, by omega, by omega, by omega, by go_num, q5, q6, q7, q8, ⟨hap5.1, hap5.2.1, ap5, hap5.2.2.2.1, ap6, ap7⟩, hB5⟩
        case measure => simp [intOf]; omega
      · have hOt := HOT.out
        have hpk : pick' h p true j = J := by unfold pick'; rw [HSV.out, show 2 * j = J by omega, hOt]; rfl
        have hpn : pick' h p false j = (J + 1) := by unfold pick'; rw [HSV.out, show 2 * j = J by omega, hOt]; rfl
        have HNB : Hid (nb J = J + 1) := by unfold Hid nb; rw [if_pos (by omega)]
        have V7 : Hid (iI p (pick' h p true j) / 2 = (Q0 : Int)) := by unfold Hid; rw [hpk, hY0]; omega
        have V8 : Hid (iI p (pick' h p false j) / 2 = (Q1 : Int)) := by unfold Hid; rw [hpn, hY1]; omega
        have HTZ2 : Hid (Z j = false) := by have := HTZ.out; rw [HTJ.out] at this; exact this
        clear hOt hpk hpn
        go_wp2_with (first
          | (at_builtin; refine wpList_app _ rfl (.tmp 38) (.tmp 44) 23 rfl w1.heap.size 4 (.bool false) 1 1 Tryd.underlying23 Tryd.infoBool rfl (by omega) u5 j (bools (tab j A)) rfl (h5.out.alloc _) _ 1 [.bool ta] rfl (view_one _ _ _) (by simp [Value.oneCell']) (by unfold maxLen; omega) (by omega) (by simp <;> omega) ?_; intro v2 w2 g9 r9 k9; have G2 := Lib.hid g9; have R2 := Lib.hid r9; have K2 := Lib.hid k9; clear g9 r9 k9; have hB2 : Below w1.heap.size w1 w2 := (hB.out.alloc hB.out.size _).grown R2.out (by have := hB.out.size; simp <;> omega) (fun g hg => (h5.out.lt g hg).1); have z2 := hB2.size; have ko2 : w2.cell? ⟨bo, oo + J, none⟩ = some (.bool true) := (by have := (hB2.cell (p := ⟨bo, oo + J, none⟩) lbo).trans (CO.out J hlt); rwa [ht] at this); obtain ⟨k62a, apk62⟩ := keep_one h6.out hap.out.1.symm R2.out K2.out; have k62 := Lib.hid k62a; clear k62a; obtain ⟨k72a, apk72⟩ := keep_one h7.out hap.out.2.1.symm R2.out K2.out; have k72 := Lib.hid k72a; clear k72a; obtain ⟨k82a, apk82⟩ := keep_one h8.out hap.out.2.2.1.symm R2.out K2.out; have k82 := Lib.hid k82a; clear k82a; have HAP2 : Hid (Ap v2 u6 ∧ Ap v2 u7 ∧ Ap v2 u8 ∧ Ap u6 u7 ∧ Ap u6 u8 ∧ Ap u7 u8) := ⟨apk62.symm, apk72.symm, apk82.symm, hap.out.2.2.2.1, hap.out.2.2.2.2.1, hap.out.2.2.2.2.2⟩; clear apk62 apk72 apk82)
          | (at_builtin; refine wpList_app _ rfl (.tmp 46) (.tmp 52) 23 rfl w1.heap.size 4 (.bool false) 1 1 Tryd.underlying23 Tryd.infoBool rfl (by omega) u6 j (bools (tab j Z)) rfl (k62.out.alloc _) _ 1 [.bool false] rfl (view_one _ _ _) (by simp [Value.oneCell']) (by unfold maxLen; omega) (by omega) (by simp <;> omega) ?_; intro v3 w3 g9 r9 k9; have G3 := Lib.hid g9; have R3 := Lib.hid r9; have K3 := Lib.hid k9; clear g9 r9 k9; have hB3 : Below w1.heap.size w1 w3 := (hB2.alloc hB2.size _).grown R3.out (by have := hB2.size; simp <;> omega) (fun g hg => (k62.out.lt g hg).1); have z3 := hB3.size; have ko3 : w3.cell? ⟨bo, oo + J, none⟩ = some (.bool true) := (by have := (hB3.cell (p := ⟨bo, oo + J, none⟩) lbo).trans (CO.out J hlt); rwa [ht] at this); have kp3 : w3.cell? ⟨b, off + J, none⟩ = some (.int .i64 (Y0 : Int)) := (by have := (hB3.cell (p := ⟨b, off + J, none⟩) lbp).trans (CP1.out J (by omega)); rwa [hY0] at this); obtain ⟨k53a, apk53⟩ := keep_one G2.out HAP2.out.1 R3.out K3.out; have k53 := Lib.hid k53a; clear k53a; obtain ⟨k73a, apk73⟩ := keep_one k72.out HAP2.out.2.2.2.1.symm R3.out K3.out; have k73 := Lib.hid k73a; clear k73a; obtain ⟨k83a, apk83⟩ := keep_one k82.out HAP2.out.2.2.2.2.1.symm R3.out K3.out; have k83 := Lib.hid k83a; clear k83a; have HAP3 : Hid (Ap v2 v3 ∧ Ap v2 u7 ∧ Ap v2 u8 ∧ Ap v3 u7 ∧ Ap v3 u8 ∧ Ap u7 u8) := ⟨apk53, HAP2.out.2.1, HAP2.out.2.2.1, apk73.symm, apk83.symm, HAP2.out.2.2.2.2.2⟩; clear apk53 apk73 apk83)
          | (at_builtin; refine wpList_app _ rfl (.tmp 62) (.tmp 68) 24 rfl w1.heap.size 3 (.int .i64 0) 1 8 Tryd.underlying24 Tryd.infoInt rfl (by omega) u7 j (ints (tab j (fun k => iI p (pick' h p true k) / 2))) rfl (k73.out.alloc _) _ 1 [.int .i64 Q0] rfl (view_one _ _ _) (by simp [Value.oneCell']) (by unfold maxLen; omega) (by omega) (by simp <;> omega) ?_; intro v4 w4 g9 r9 k9; have G4 := Lib.hid g9; have R4 := Lib.hid r9; have K4 := Lib.hid k9; clear g9 r9 k9; have hB4 : Below w1.heap.size w1 w4 := (hB3.alloc hB3.size _).grown R4.out (by have := hB3.size; simp <;> omega) (fun g hg => (k73.out.lt g hg).1); have z4 := hB4.size; have kp4 : w4.cell? ⟨b, off + (J + 1), none⟩ = some (.int .i64 (Y1 : Int)) := (by have := (hB4.cell (p := ⟨b, off + (J + 1), none⟩) lbp).trans (CP1.out (J + 1) (by omega)); rwa [hY1] at this); obtain ⟨k54a, apk54⟩ := keep_one k53.out HAP3.out.2.1 R4.out K4.out; have k54 := Lib.hid k54a; clear k54a; obtain ⟨k64a, apk64⟩ := keep_one G3.out HAP3.out.2.2.2.1 R4.out K4.out; have k64 := Lib.hid k64a; clear k64a; obtain ⟨k84a, apk84⟩ := keep_one k83.out HAP3.out.2.2.2.2.2.symm R4.out K4.out; have k84 := Lib.hid k84a; clear k84a; have HAP4 : Hid (Ap v2 v3 ∧ Ap v2 v4 ∧ Ap v2 u8 ∧ Ap v3 v4 ∧ Ap v3 u8 ∧ Ap v4 u8) := ⟨HAP3.out.1, apk54, HAP3.out.2.2.1, apk64, HAP3.out.2.2.2.2.1, apk84.symm⟩; clear apk54 apk64 apk84)
          | (go_at_call 31; refine (besideR_any J _ (by omega)).mono ?_; rw [HNB.out]; rintro e w' ⟨rfl, rfl⟩)
          | (at_builtin; refine wpList_app _ rfl (.tmp 70) (.tmp 77) 24 rfl w1.heap.size 3 (.int .i64 0) 1 8 Tryd.underlying24 Tryd.infoInt rfl (by omega) u8 j (ints (tab j (fun k => iI p (pick' h p false k) / 2))) rfl (k84.out.alloc _) _ 1 [.int .i64 Q1] rfl (view_one _ _ _) (by simp [Value.oneCell']) (by unfold maxLen; omega) (by omega) (by simp <;> omega) ?_; intro v5 w5 g9 r9 k9; have G5 := Lib.hid g9; have R5 := Lib.hid r9; have K5 := Lib.hid k9; clear g9 r9 k9; have hB5 : Below w1.heap.size w1 w5 := (hB4.alloc hB4.size _).grown R5.out (by have := hB4.size; simp <;> omega) (fun g hg => (k84.out.lt g hg).1); have z5 := hB5.size))
        go_roundw
        case rel =>
          have hap5 := HAP4.out
          obtain ⟨q5, ap5⟩ := keep_one k54.out hap5.2.2.1 R5.out K5.out
          obtain ⟨q6, ap6⟩ := keep_one k64.out hap5.2.2.2.2.1 R5.out K5.out
          obtain ⟨q7, ap7⟩ := keep_one G4.out hap5.2.2.2.2.2 R5.out K5.out
          have q8 := G5.out
          rw [tab_snocB HTA.out] at q5
          rw [tab_snocB HTZ2.out] at q6
          rw [tab_one (n := j) (f := fun k => iI p (pick' h p true k) / 2) V7.out] at q7
          rw [tab_one (n := j) (f := fun k => iI p (pick' h p false k) / 2) V8.out] at q8
          exact ⟨j + 1, J + 2, by omega, by omega, by omega, by go_num, q5, q6, q7, q8, ⟨hap5.1, hap5.2.1, ap5, hap5.2.2.2.1, ap6, ap7⟩, hB5⟩
        case measure => simp [intOf]; omega
    · have hjh : j = h := by omega
      subst hjh
      obtain ⟨U, hU⟩ : ∃ U, r (half j p true) = U := ⟨_, rfl⟩
      obtain ⟨V, hV⟩ : ∃ V, r (half j p false) = V := ⟨_, rfl⟩
      have hUl : U.length = m := by rw [← hU]; exact HLEN.out _ (half_perm HPL.out true)
      have hVl : V.length = m := by rw [← hV]; exact HLEN.out _ (half_perm HPL.out false)
      have HU : Hid (r (half j p true) = U ∧ U.length = m) := ⟨hU, hUl⟩
      have HV : Hid (r (half j p false) = V ∧ V.length = m) := ⟨hV, hVl⟩
      have I7 : Hid (Ints wr u7 (half j p true)) := h7.out.ints (by first | (unfold half; simp; done) | simp)
      have hj4 : j ≤ 4 := by omega
      clear hU hV hUl hVl hJ1 hJ2 hj h7
      go_wp2_with fail
      refine (HIH.out _ (half j p true) _ I7.out (half_perm HPL.out true)).mono ?_
      rw [HU.out.1]
      rintro e w2 ⟨ua, rfl, hga, hb2⟩
      rw [HU.out.2] at hga
      have VA := Lib.hid hga.view
      have k5 := Lib.hid (h5.out.mono hb2 (Nat.le_refl _))
      have k6 := Lib.hid (h6.out.mono hb2 (Nat.le_refl _))
      have k8 := Lib.hid (h8.out.mono hb2 (Nat.le_refl _))
      have hB2 := hB.out.trans (hb2.mono hB.out.size)
      have z2 := hB2.size
      have l6 : Hid (∀ g, gBlock u6 = some g → g < w2.heap.size) := fun g hg => (k6.out.lt g hg).2
      clear hga hb2 I7 h5 h6 h8 hB
      go_wp2_with (at_builtin; refine wpList_app _ rfl (.tmp 79) (.tmp 81) 23 rfl w1.heap.size 4 (.bool false) 1 1 Tryd.underlying23 Tryd.infoBool rfl (by omega) u5 j (bools (tab j A)) rfl k5.out _ m (bools U) rfl VA.out (one_bools _) (by unfold maxLen; omega) (by omega) z2 ?_; intro v3 w3 g9 r9 k9; have G3 := Lib.hid g9; have R3 := Lib.hid r9; have K3 := Lib.hid k9; clear g9 r9 k9)
      have q6 := Lib.hid (k6.out.kept R3.out (fun g hg he => hap.out.1 g he hg))
      have q8 := Lib.hid (k8.out.kept R3.out (fun g hg he => hap.out.2.2.1 g he hg))
      have ap63 : Hid (Ap u6 v3) := fun g hg he => by
        rcases K3.out with e | e
        · rw [e] at he; exact hap.out.1 g he hg
        · rw [e] at he; have := l6.out g hg; cases he; omega
      have hB3 := hB2.grown R3.out z2 (fun g hg => (k5.out.lt g hg).1)
      have I8 : Hid (Ints w3 u8 (half j p false)) := q8.out.ints (by first | (unfold half; simp; done) | simp)
      refine (HIH.out _ (half j p false) _ I8.out (half_perm HPL.out false)).mono ?_
      rw [HV.out.1]
      rintro e w4 ⟨ub, rfl, hgb, hb4⟩
      rw [HV.out.2] at hgb
      have VB := Lib.hid hgb.view
      have G4 := Lib.hid (G3.out.mono hb4 (Nat.le_refl _))
      have s6 := Lib.hid (q6.out.mono hb4 (Nat.le_refl _))
      have hB4 := hB3.trans (hb4.mono hB3.size)
      have z4 := hB4.size
      clear hgb hb4 I8 k5 k6 k8 q6 q8 G3 R3 K3 hap
      go_wp2_with (first
        | (at_builtin; refine wpList_app _ rfl (.tmp 82) (.tmp 84) 23 rfl w1.heap.size 4 (.bool false) 1 1 Tryd.underlying23 Tryd.infoBool rfl (by omega) v3 (j + m) (bools (tab j A) ++ bools U) rfl G4.out _ m (bools V) rfl VB.out (one_bools _) (by unfold maxLen; omega) (by omega) z4 ?_; intro v5 w5 g9 r9 k9; have G5 := Lib.hid g9; have R5 := Lib.hid r9; clear g9 r9 k9; have s6' := Lib.hid (s6.out.kept R5.out (fun g hg he => ap63.out g hg he)); have hB5 := hB4.grown R5.out z4 (fun g hg => (G4.out.lt g hg).1); have z5 := hB5.size)
        | (at_builtin; refine wpList_app _ rfl (.tmp 85) (.tmp 86) 23 rfl w1.heap.size 4 (.bool false) 1 1 Tryd.underlying23 Tryd.infoBool rfl (by omega) v5 (j + m + m) (bools (tab j A) ++ bools U ++ bools V) rfl G5.out _ j (bools (tab j Z)) rfl s6'.out.view (one_bools _) (by unfold maxLen; omega) (by omega) z5 ?_; intro v6 w6 g9 r9 k9; have G6 := Lib.hid g9; have R6 := Lib.hid r9; clear g9 r9 k9; have hB6 := hB5.grown R6.out z5 (fun g hg => (G5.out.lt g hg).1)))
      have HF1 : Hid (BoolsPost (stepR j r p) w (.returned v6) w6) := by
        have e : bools (stepR j r p) = bools (tab j A) ++ bools U ++ bools V ++ bools (tab j Z) := by
          unfold stepR
          rw [HSV.out, HU.out.1, HV.out.1, HA.out, HZ.out]
          simp [bools]
        have el : (stepR j r p).length = j + m + m + j := by
          unfold stepR
          rw [HU.out.1, HV.out.1]
          simp only [List.length_append, tab_length]
          rw [HU.out.2, HV.out.2]
        refine ⟨_, rfl, ?_, B1.out.trans (hB6.mono B1.out.size)⟩
        rw [e, el]
        exact G6.out.low B1.out.size
      clear hB6 hB5 hB4 hB3 hB2
      go_wp2
      go_ret
      exact HF1.out
end Go.Proofs.YtnmkficfbnnakaaDoor
