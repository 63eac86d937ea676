/- tables read: the walk of the program's ReadTable -/
import Derived.Test.YtajgghifamebkaaDoorTxtY
namespace Go.Proofs.YtajgghifamebkaaDoor
set_option linter.unusedSimpArgs false
set_option linter.unusedVariables false
open Go.RowKit
open Go
theorem RT.fin {w wr : World} {B gx gp n : Nat} {nv rv : Value} {vs : Nat → Value} {ns ps : List ByteArray} {f : Nat → List Int} (h : RT w B gx gp nv rv vs ns ps n f wr) (a b : Value) :
    TabX ((wr.setCell ⟨w.heap.size, 0, none⟩ a).setCell ⟨w.heap.size, 1, none⟩ b) w.heap.size (.agg #[nv, rv]) ns n f ∧ Below w.heap.size w ((wr.setCell ⟨w.heap.size, 0, none⟩ a).setCell ⟨w.heap.size, 1, none⟩ b) := by
  have hg : wr.grownBy ((wr.setCell ⟨w.heap.size, 0, none⟩ a).setCell ⟨w.heap.size, 1, none⟩ b) (some w.heap.size) := grown_set (set_other wr ⟨w.heap.size, 0, none⟩ _ rfl) _ _
  have hge := h.ge
  refine ⟨⟨nv, rv, vs, rfl, (h.nm.kept hg (fun g hg he => by have := (h.nm.lt g hg).1; cases he; omega)).low (by omega), (h.o.keptB hg (by omega)).low (by omega), h.d⟩, (h.bl.setCell (p := ⟨w.heap.size, 0, none⟩) (Nat.le_refl _) _).setCell (p := ⟨w.heap.size, 1, none⟩) (Nat.le_refl _) _⟩
set_option maxRecDepth 40000 in
set_option maxHeartbeats 1600000 in
theorem impl_ReadTable (s : ByteArray) (w : World) (hl : LibW w) (hs : s.size ≤ 4000000) : Calls Tryd.prog 12 #[.string s] w fun e w' => TabRd (tx s) w e w' ∧ Below w.heap.size w w' := by
  obtain ⟨W, hW⟩ : ∃ W, W = w.alloc (.cells #[.slice none 0 0, .slice none 0 0] 26) := ⟨_, rfl⟩
  have HW := Lib.hid hW
  have HB : Hid (Below w.heap.size w W) := by rw [hW]; exact (Below.refl _ _).alloc (Nat.le_refl _) _
  have HX : Hid (Row W w.heap.size 26 [.slice none 0 0, .slice none 0 0]) := by rw [hW]; exact Row.new w 26 [.slice none 0 0, .slice none 0 0]
  have HZ : Hid (W.heap.size = w.heap.size + 1) := by rw [hW]; simp [Hid]
  have HLW := Lib.hid hl
  clear hl hW
  go_enter Tryd.func12, Tryd.ntmps12
  go_wp2_with fail
  rw [← HW.out]
  refine (Split_any s ⟨#[32, 47, 32]⟩ W (HLW.out.mono HB.out (Nat.le_refl _)) hs (by decide)).mono ?_
  rintro e w1 ⟨ps, rfl, htx, hrow, hs1, hs2, hsz, hb⟩
  have HTX : Hid (txs ps = Lib.split (tx s) slL) := htx
  have HP := Lib.hid hrow
  have HSZ := Lib.hid hsz
  have HB1 := nxt HB hb
  have HX1 := Lib.hid (HX.out.mono hb HX.out.lt)
  obtain ⟨m, hm⟩ : ∃ m, ps.length = m + 1 := ⟨ps.length - 1, by omega⟩
  have HM := Lib.hid hm
  rw [hm] at hs2 ⊢
  obtain ⟨gp, hgp⟩ : ∃ gp, W.heap.size = gp := ⟨_, rfl⟩
  have HGP : Hid (w.heap.size < gp ∧ gp < w1.heap.size) := by
    have h1 := HP.out.lt
    have h2 := HZ.out
    rw [← hgp]
    exact ⟨by omega, h1⟩
  rw [hgp] at HP
  obtain ⟨x, hx, hxs⟩ := strs_at (ss := ps) (k := 0) (by omega)
  have d0 := HP.out.cell (i := 0) hxs
  have HX0 : Hid ((Lib.split (tx s) slL)[0]? = some (tx x)) := by
    unfold Hid
    rw [← HTX.out]
    unfold txs
    rw [List.getElem?_map, hx]; rfl
  have hxz : x.size ≤ 4000000 := Nat.le_trans (hsz x (List.mem_of_getElem? hx)) hs
  clear htx hrow hsz hb hs1 hm hx hxs HX HB
  go_wp2_with fail
  try rw [hgp]
  clear hgp
  refine (Split_any x ⟨#[32]⟩ w1 (HLW.out.mono HB1.out (Nat.le_refl _)) hxz (by decide)).mono ?_
  rintro e w2 ⟨ns, rfl, htx, hrow, hs3, hs4, hsz2, hb⟩
  have HTN : Hid (txs ns = Lib.split (tx x) spL) := htx
  have HSN : Hid (SmallS ns) := fun y hy => Nat.le_trans (hsz2 y hy) hxz
  have HB2 := nxt HB1 hb
  have hba : Below w2.heap.size w2 (w2.alloc (.cells #[.slice (some ⟨w1.heap.size, 0, none⟩) ns.length ns.length, .slice none 0 0] 26)) := (Below.refl _ _).alloc (Nat.le_refl _) _
  have HRT : Hid (RT w w1.heap.size w2.heap.size gp (.slice (some ⟨w1.heap.size, 0, none⟩) ns.length ns.length) (.slice none 0 0) (fun _ => undef) ns ps 0 (fun _ => []) (w2.alloc (.cells #[.slice (some ⟨w1.heap.size, 0, none⟩) ns.length ns.length, .slice none 0 0] 26))) := by
    have hP2 := HP.out.mono hb HP.out.lt
    have hX2 := HX1.out.mono hb HX1.out.lt
    have hg := HGP.out
    refine ⟨Row.new w2 26 [.slice (some ⟨w1.heap.size, 0, none⟩) ns.length ns.length, .slice none 0 0], hX2.mono hba hX2.lt, hP2.mono hba hP2.lt, ?_, ⟨Gr.nil _ _ _ _, fun i hi => absurd hi (Nat.not_lt_zero _)⟩, fun i j hi => absurd hi (Nat.not_lt_zero _), (nxt HB2 hba).out, ⟨hg.1, hg.2, hb.size⟩⟩
    exact (Gr.of_made (n := ns.length) (sz := 1) hrow (by simp [strs]) (by unfold maxLen; omega) (Nat.le_refl _)).mono hba (Nat.le_refl _)
  obtain ⟨B, hB⟩ : ∃ B, w1.heap.size = B := ⟨_, rfl⟩
  obtain ⟨gx, hgx⟩ : ∃ gx, w2.heap.size = gx := ⟨_, rfl⟩
  obtain ⟨l, hl⟩ : ∃ l, ns.length = l := ⟨_, rfl⟩
  have HLN := Lib.hid hl
  rw [hB, hgx, hl] at HRT
  rw [hl]
  clear htx hrow hsz2 hb hba hs3 hl HB1 HB2 HP HX1 HGP HZ d0
  by_cases hm0 : m = 0
  · subst hm0
    go_wp2_with fail
    try rw [hgx]
    try rw [hB]
    generalize (w2.alloc (.cells #[.slice (some ⟨B, 0, none⟩) l l, .slice none 0 0] 26)) = W3 at HRT ⊢
    clear hgx hB
    go_loopg [7, 8, 9, 20] 0 (fun gg _ _ _ i wr => ∃ (k : Nat) (rv : Value) (vs : Nat → Value) (f : Nat → List Int), k ≤ 0 ∧ 0 - k ≤ gg ∧ i = .int .i64 (k : Int) ∧ Hid (RT w B gx gp (.slice (some ⟨B, 0, none⟩) l l) rv vs ns ps k f wr) ∧ Hid (∀ i, i < k → RowOk (f i) ∧ (Lib.split (tx s) slL)[i + 1]? = some (rowT (f i))))
    case atStart => exact ⟨0, .slice none 0 0, fun _ => undef, fun _ => [], Nat.zero_le _, Nat.le_refl _, rfl, HRT.out, fun i hi => absurd hi (Nat.not_lt_zero _)⟩
    case round =>
      clear HRT
      obtain ⟨k, rv, vs, f, hk, hgg, rfl, hT, hF⟩ := hrel
      obtain ⟨ar, cr, hrv⟩ := hT.out.o.1.lit
      subst hrv
      have HLr := Lib.hid (HLW.out.mono hT.out.bl (Nat.le_refl _))
      by_cases hlt : k < 0
      · exact absurd hlt (Nat.not_lt_zero _)
      · obtain rfl : k = 0 := by omega
        have HLEN : Hid ((Lib.split (tx s) slL).length = 0 + 1) := by unfold Hid; rw [← HTX.out, txs_length]; exact HM.out
        have x0 := hT.out.x.cell (i := 0) rfl
        have x1 := hT.out.x.cell (i := 1) rfl
        cases hTB : tabB (txs ns) 0 f with
        | false =>
          have HTB := Lib.hid hTB
          have HNO : Hid (∀ ns n f, ¬ Canon (tx s) ns n f) := fun ns' n' f' hc => by
            have h1 := (hc.read HLEN.out HX0.out HTN.out hF.out).1
            rw [hTB] at h1
            cases h1
          clear hTB
          go_wp2_with fail
          refine (impl_TableValid (.agg #[(.slice (some ⟨B, 0, none⟩) l l), .slice ar 0 cr]) ns 0 f wr hT.out.inT HLr.out.res HSN.out).mono ?_
          rw [HTB.out]
          rintro e w5 ⟨rfl, hb⟩
          have hT5 := Lib.hid (hT.out.below hb)
          clear hb hT x0 x1
          have fr0 := hT5.out.r.cell (i := 0) rfl
          have fr1 := hT5.out.r.cell (i := 1) rfl
          have ff0 := hT5.out.r.free 0
          have ff1 := hT5.out.r.free 1
          go_wp2
          have hrz := (hT5.out.r.set 0 (.slice none 0 0)).set 1 (.slice none 0 0)
          have g0 := hrz.cell (i := 0) rfl
          have g1 := hrz.cell (i := 1) rfl
          have HFIN := Lib.hid (hT5.out.fin (.slice none 0 0) (.slice none 0 0)).2
          clear hrz fr0 fr1 ff0 ff1
          exact bodyPost_ret (v := .tuple #[.agg #[.slice none 0 0, .slice none 0 0], .bool false]) (by simp [results, Tryd.results12, go_sem, g0, g1]) rfl ⟨.inr ⟨HNO.out, rfl⟩, HFIN.out⟩
        | true =>
          have HTB := Lib.hid hTB
          have HTT : Hid (tabTx (txs ns) 0 f = tabT (txs ns) 0 f) := if_pos hTB
          clear hTB
          go_wp2_with fail
          refine (impl_TableValid (.agg #[(.slice (some ⟨B, 0, none⟩) l l), .slice ar 0 cr]) ns 0 f wr hT.out.inT HLr.out.res HSN.out).mono ?_
          rw [HTB.out]
          rintro e w5 ⟨rfl, hb⟩
          have hT5 := Lib.hid (hT.out.below hb)
          have HL5 := Lib.hid (HLr.out.mono hb (Nat.le_refl _))
          clear hb hT x0 x1
          have x0 := hT5.out.x.cell (i := 0) rfl
          have x1 := hT5.out.x.cell (i := 1) rfl
          go_wp2_with fail
          refine (impl_TableText (.agg #[(.slice (some ⟨B, 0, none⟩) l l), .slice ar 0 cr]) ns 0 f w5 hT5.out.inT HL5.out HSN.out).mono ?_
          rw [HTT.out]
          rintro e w6 ⟨rfl, hb⟩
          have hT6 := Lib.hid (hT5.out.below hb)
          clear hb hT5 x0 x1
          by_cases hx : tabT (txs ns) 0 f = tx s
          · have hxx : ((mkS (tabT (txs ns) 0 f)).toList == s.toList) = true := by rw [tx_eq, tx_mkS, hx]; simp
            have HC : Hid (Canon (tx s) (txs ns) 0 f) := ⟨HTB.out, hx⟩
            clear hx
            have x0 := hT6.out.x.cell (i := 0) rfl
            have x1 := hT6.out.x.cell (i := 1) rfl
            have fr0 := hT6.out.r.cell (i := 0) rfl
            have fr1 := hT6.out.r.cell (i := 1) rfl
            have ff0 := hT6.out.r.free 0
            have ff1 := hT6.out.r.free 1
            go_wp2
            have hrz := (hT6.out.r.set 0 (.slice (some ⟨B, 0, none⟩) l l)).set 1 (.slice ar 0 cr)
            have g0 := hrz.cell (i := 0) rfl
            have g1 := hrz.cell (i := 1) rfl
            have HFIN := Lib.hid (hT6.out.fin (.slice (some ⟨B, 0, none⟩) l l) (.slice ar 0 cr))
            clear hrz fr0 fr1 ff0 ff1 x0 x1
            exact bodyPost_ret (v := .tuple #[.agg #[(.slice (some ⟨B, 0, none⟩) l l), .slice ar 0 cr], .bool true]) (by simp [results, Tryd.results12, go_sem, g0, g1]) rfl ⟨.inl ⟨_, ns, 0, f, HC.out, HSN.out, rfl, HFIN.out.1⟩, HFIN.out.2⟩
          · have hxx : ((mkS (tabT (txs ns) 0 f)).toList == s.toList) = false := by rw [tx_eq, tx_mkS]; simpa using hx
            have HNO : Hid (∀ ns n f, ¬ Canon (tx s) ns n f) := fun ns' n' f' hc => hx (hc.read HLEN.out HX0.out HTN.out hF.out).2
            clear hx
            have fr0 := hT6.out.r.cell (i := 0) rfl
            have fr1 := hT6.out.r.cell (i := 1) rfl
            have ff0 := hT6.out.r.free 0
            have ff1 := hT6.out.r.free 1
            go_wp2
            have hrz := (hT6.out.r.set 0 (.slice none 0 0)).set 1 (.slice none 0 0)
            have g0 := hrz.cell (i := 0) rfl
            have g1 := hrz.cell (i := 1) rfl
            have HFIN := Lib.hid (hT6.out.fin (.slice none 0 0) (.slice none 0 0)).2
            clear hrz fr0 fr1 ff0 ff1
            exact bodyPost_ret (v := .tuple #[.agg #[.slice none 0 0, .slice none 0 0], .bool false]) (by simp [results, Tryd.results12, go_sem, g0, g1]) rfl ⟨.inr ⟨HNO.out, rfl⟩, HFIN.out⟩
  · have hmp : 0 < m := by omega
    go_wp2_with fail
    try rw [hgx]
    try rw [hB]
    generalize (w2.alloc (.cells #[.slice (some ⟨B, 0, none⟩) l l, .slice none 0 0] 26)) = W3 at HRT ⊢
    clear hgx hB
    go_loopg [7, 8, 9, 20] m (fun gg _ _ _ i wr => ∃ (k : Nat) (rv : Value) (vs : Nat → Value) (f : Nat → List Int), k ≤ m ∧ m - k ≤ gg ∧ i = .int .i64 (k : Int) ∧ Hid (RT w B gx gp (.slice (some ⟨B, 0, none⟩) l l) rv vs ns ps k f wr) ∧ Hid (∀ i, i < k → RowOk (f i) ∧ (Lib.split (tx s) slL)[i + 1]? = some (rowT (f i))))
    case atStart => exact ⟨0, .slice none 0 0, fun _ => undef, fun _ => [], Nat.zero_le _, Nat.le_refl _, rfl, HRT.out, fun i hi => absurd hi (Nat.not_lt_zero _)⟩
    case round =>
      clear HRT
      obtain ⟨k, rv, vs, f, hk, hgg, rfl, hT, hF⟩ := hrel
      obtain ⟨ar, cr, hrv⟩ := hT.out.o.1.lit
      subst hrv
      have HLr := Lib.hid (HLW.out.mono hT.out.bl (Nat.le_refl _))
      by_cases hlt : k < m
      · have HLT := Lib.hid hlt
        obtain ⟨y, hy, hys⟩ := strs_at (ss := ps) (k := k + 1) (by have : ps.length = m + 1 := HM.out; omega)
        have d0 : wr.cell? ⟨gp, 1 + k, none⟩ = some (.string y) := by rw [Nat.add_comm]; exact hT.out.p.cell (i := k + 1) hys
        have HY : Hid ((Lib.split (tx s) slL)[k + 1]? = some (tx y)) := by
          unfold Hid
          rw [← HTX.out]
          unfold txs
          rw [List.getElem?_map, hy]; rfl
        have hyz : y.size ≤ 4000000 := Nat.le_trans (HSZ.out y (List.mem_of_getElem? hy)) hs
        clear hy hys
        go_wp2_with fail
        refine (impl_readRow y wr HLr.out hyz).mono ?_
        rintro e w4 ⟨hrr, hb⟩
        have hT4 := Lib.hid (hT.out.below hb)
        clear d0
        rcases hrr with ⟨u, r, hr, hre, rfl, hg⟩ | ⟨hno, a9, n9, c9, rfl⟩
        · obtain ⟨au, cu, hu⟩ := hg.lit
          subst hu
          have HRO := Lib.hid hr
          have HRE := Lib.hid hre
          have HDI : Hid (∀ i, i < k → ∀ g, gBlock (vs i) = some g → gBlock (.slice au r.length cu) ≠ some g) := fun i hi g hg1 hg2 => by
            have h1 := ((hT.out.o.2 i hi).lt g hg1).2
            have h2 := (hg.lt g hg2).1
            omega
          have HG4 : Hid (Gr w4 B 3 1 (.slice au r.length cu) r.length (ints r)) := hg.low hT.out.size
          obtain ⟨q, hq⟩ : ∃ q, r.length = q := ⟨_, rfl⟩
          have HQ := Lib.hid hq
          have x1 := hT4.out.x.cell (i := 1) rfl
          rw [hq] at HDI ⊢
          have HG5 : Hid (Gr w4 B 3 1 (.slice au q cu) r.length (ints r)) := by have := HG4.out; rw [hq] at this ⊢; exact this
          have hk16 : k ≤ 4000001 := by have : ps.length = m + 1 := HM.out; omega
          clear hr hre hg hb hT HG4 hq
          go_wp2_with (at_builtin; refine wpList_app _ rfl (.tmp 33) (.tmp 35) 24 rfl B 38 (.slice none 0 0) 1 24 Tryd.underlying24 Tryd.infoInts rfl (by omega) (.slice ar k cr) k (tab k vs) rfl (hT4.out.o.1.alloc _) _ 1 [.slice au q cu] rfl (view_one _ _ _) (by simp [Value.oneCell']) (by unfold maxLen; omega) (by omega) (by have := hT4.out.size; simp; omega) ?_; intro v5 w5 g5 r5 k5; obtain ⟨hx5, hT5⟩ := hT4.out.app HDI.out HG5.out ((Below.refl _ _).alloc (Nat.le_refl _) (.cells #[.slice au q cu] 38)) g5 r5; obtain ⟨a5, c5, hv5⟩ := g5.lit; subst hv5; have hT6 := Lib.hid hT5; have s1 := hx5.cell (i := 1) rfl; have sf := hx5.free 1; clear g5 r5 k5 hx5 hT5)
          go_roundg (m - (k + 1))
          case rel =>
            refine ⟨k + 1, _, _, _, HLT.out, Nat.le_refl _, by go_num, hT6.out, fun i hi => ?_⟩
            by_cases e : i = k
            · subst e
              rw [upd_same]
              exact ⟨HRO.out, by rw [HY.out, HRE.out]⟩
            · rw [upd_other _ _ e]
              exact hF.out i (by omega)
          case measure => have := HLT.out; omega
        · have HNO : Hid (∀ ns n f, ¬ Canon (tx s) ns n f) := fun ns' n' f' hc => by
            obtain ⟨r, hr, e⟩ := hc.row HY.out
            exact hno r hr e
          clear hno hb hT
          have fr0 := hT4.out.r.cell (i := 0) rfl
          have fr1 := hT4.out.r.cell (i := 1) rfl
          have ff0 := hT4.out.r.free 0
          have ff1 := hT4.out.r.free 1
          go_wp2
          have hrz := (hT4.out.r.set 0 (.slice none 0 0)).set 1 (.slice none 0 0)
          have g0 := hrz.cell (i := 0) rfl
          have g1 := hrz.cell (i := 1) rfl
          have HFIN := Lib.hid (hT4.out.fin (.slice none 0 0) (.slice none 0 0)).2
          clear hrz fr0 fr1 ff0 ff1
          exact bodyPost_ret (v := .tuple #[.agg #[.slice none 0 0, .slice none 0 0], .bool false]) (by simp [results, Tryd.results12, go_sem, g0, g1]) rfl ⟨.inr ⟨HNO.out, rfl⟩, HFIN.out⟩
      · obtain rfl : k = m := by omega
        have HLEN : Hid ((Lib.split (tx s) slL).length = k + 1) := by unfold Hid; rw [← HTX.out, txs_length]; exact HM.out
        have x0 := hT.out.x.cell (i := 0) rfl
        have x1 := hT.out.x.cell (i := 1) rfl
        cases hTB : tabB (txs ns) k f with
        | false =>
          have HTB := Lib.hid hTB
          have HNO : Hid (∀ ns n f, ¬ Canon (tx s) ns n f) := fun ns' n' f' hc => by
            have h1 := (hc.read HLEN.out HX0.out HTN.out hF.out).1
            rw [hTB] at h1
            cases h1
          clear hTB
          go_wp2_with fail
          refine (impl_TableValid (.agg #[(.slice (some ⟨B, 0, none⟩) l l), .slice ar k cr]) ns k f wr hT.out.inT HLr.out.res HSN.out).mono ?_
          rw [HTB.out]
          rintro e w5 ⟨rfl, hb⟩
          have hT5 := Lib.hid (hT.out.below hb)
          clear hb hT x0 x1
          have fr0 := hT5.out.r.cell (i := 0) rfl
          have fr1 := hT5.out.r.cell (i := 1) rfl
          have ff0 := hT5.out.r.free 0
          have ff1 := hT5.out.r.free 1
          go_wp2
          have hrz := (hT5.out.r.set 0 (.slice none 0 0)).set 1 (.slice none 0 0)
          have g0 := hrz.cell (i := 0) rfl
          have g1 := hrz.cell (i := 1) rfl
          have HFIN := Lib.hid (hT5.out.fin (.slice none 0 0) (.slice none 0 0)).2
          clear hrz fr0 fr1 ff0 ff1
          exact bodyPost_ret (v := .tuple #[.agg #[.slice none 0 0, .slice none 0 0], .bool false]) (by simp [results, Tryd.results12, go_sem, g0, g1]) rfl ⟨.inr ⟨HNO.out, rfl⟩, HFIN.out⟩
        | true =>
          have HTB := Lib.hid hTB
          have HTT : Hid (tabTx (txs ns) k f = tabT (txs ns) k f) := if_pos hTB
          clear hTB
          go_wp2_with fail
          refine (impl_TableValid (.agg #[(.slice (some ⟨B, 0, none⟩) l l), .slice ar k cr]) ns k f wr hT.out.inT HLr.out.res HSN.out).mono ?_
          rw [HTB.out]
          rintro e w5 ⟨rfl, hb⟩
          have hT5 := Lib.hid (hT.out.below hb)
          have HL5 := Lib.hid (HLr.out.mono hb (Nat.le_refl _))
          clear hb hT x0 x1
          have x0 := hT5.out.x.cell (i := 0) rfl
          have x1 := hT5.out.x.cell (i := 1) rfl
          go_wp2_with fail
          refine (impl_TableText (.agg #[(.slice (some ⟨B, 0, none⟩) l l), .slice ar k cr]) ns k f w5 hT5.out.inT HL5.out HSN.out).mono ?_
          rw [HTT.out]
          rintro e w6 ⟨rfl, hb⟩
          have hT6 := Lib.hid (hT5.out.below hb)
          clear hb hT5 x0 x1
          by_cases hx : tabT (txs ns) k f = tx s
          · have hxx : ((mkS (tabT (txs ns) k f)).toList == s.toList) = true := by rw [tx_eq, tx_mkS, hx]; simp
            have HC : Hid (Canon (tx s) (txs ns) k f) := ⟨HTB.out, hx⟩
            clear hx
            have x0 := hT6.out.x.cell (i := 0) rfl
            have x1 := hT6.out.x.cell (i := 1) rfl
            have fr0 := hT6.out.r.cell (i := 0) rfl
            have fr1 := hT6.out.r.cell (i := 1) rfl
            have ff0 := hT6.out.r.free 0
            have ff1 := hT6.out.r.free 1
            go_wp2
            have hrz := (hT6.out.r.set 0 (.slice (some ⟨B, 0, none⟩) l l)).set 1 (.slice ar k cr)
            have g0 := hrz.cell (i := 0) rfl
            have g1 := hrz.cell (i := 1) rfl
            have HFIN := Lib.hid (hT6.out.fin (.slice (some ⟨B, 0, none⟩) l l) (.slice ar k cr))
            clear hrz fr0 fr1 ff0 ff1 x0 x1
            exact bodyPost_ret (v := .tuple #[.agg #[(.slice (some ⟨B, 0, none⟩) l l), .slice ar k cr], .bool true]) (by simp [results, Tryd.results12, go_sem, g0, g1]) rfl ⟨.inl ⟨_, ns, k, f, HC.out, HSN.out, rfl, HFIN.out.1⟩, HFIN.out.2⟩
          · have hxx : ((mkS (tabT (txs ns) k f)).toList == s.toList) = false := by rw [tx_eq, tx_mkS]; simpa using hx
            have HNO : Hid (∀ ns n f, ¬ Canon (tx s) ns n f) := fun ns' n' f' hc => hx (hc.read HLEN.out HX0.out HTN.out hF.out).2
            clear hx
            have fr0 := hT6.out.r.cell (i := 0) rfl
            have fr1 := hT6.out.r.cell (i := 1) rfl
            have ff0 := hT6.out.r.free 0
            have ff1 := hT6.out.r.free 1
            go_wp2
            have hrz := (hT6.out.r.set 0 (.slice none 0 0)).set 1 (.slice none 0 0)
            have g0 := hrz.cell (i := 0) rfl
            have g1 := hrz.cell (i := 1) rfl
            have HFIN := Lib.hid (hT6.out.fin (.slice none 0 0) (.slice none 0 0)).2
            clear hrz fr0 fr1 ff0 ff1
            exact bodyPost_ret (v := .tuple #[.agg #[.slice none 0 0, .slice none 0 0], .bool false]) (by simp [results, Tryd.results12, go_sem, g0, g1]) rfl ⟨.inr ⟨HNO.out, rfl⟩, HFIN.out⟩
end Go.Proofs.YtajgghifamebkaaDoor
