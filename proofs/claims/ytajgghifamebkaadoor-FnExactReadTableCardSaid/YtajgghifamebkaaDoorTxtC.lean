/- tables read: the walk of the reference's ReadTable -/
import Derived.Test.YtajgghifamebkaaDoorTxtB
import Derived.Test.YtajgghifamebkaaDoorTxtA
namespace Go.Proofs.YtajgghifamebkaaDoor
set_option linter.unusedSimpArgs false
set_option linter.unusedVariables false
open Go.RowKit
open Go
/-- while the reference reads: the table's box, the result's box, what is made of its own -/
structure RU (w w1 : World) (gx l : Nat) (nv rv : Value) (vs : Nat → Value) (ns : List ByteArray) (n : Nat) (f : Nat → List Int) (wr : World) : Prop where
  x : Row wr gx 26 [nv, rv]
  r : Row wr w.heap.size 26 [.slice none 0 0, .slice none 0 0]
  nm : Gr wr w1.heap.size 9 1 nv l (strs ns)
  hl : ns.length = l
  o : RowsO wr w1.heap.size rv n vs f
  d : Dist n vs
  bl : Below w.heap.size w wr
  b1 : Below w1.heap.size w1 wr
  ge : w.heap.size < w1.heap.size ∧ w1.heap.size ≤ gx
section
variable {w w1 wr wa w2 w3 : World} {gx l n : Nat} {nv rv nv' rv' v1 : Value} {vs : Nat → Value} {ns : List ByteArray} {f : Nat → List Int} {xs : List Int} {y : ByteArray}
theorem RU.size (h : RU w w1 gx l nv rv vs ns n f wr) : w1.heap.size ≤ wr.heap.size := h.b1.size
theorem RU.below (h : RU w w1 gx l nv rv vs ns n f wr) (hb : Below wr.heap.size wr w3) : RU w w1 gx l nv rv vs ns n f w3 :=
  ⟨h.x.mono hb h.x.lt, h.r.mono hb h.r.lt, h.nm.mono hb (Nat.le_refl _), h.hl, h.o.mono hb (Nat.le_refl _), h.d, h.bl.trans (hb.mono h.bl.size), h.b1.trans (hb.mono h.b1.size), h.ge⟩
theorem RU.inT (h : RU w w1 gx l nv rv vs ns n f wr) : TabIn wr (.agg #[nv, rv]) ns n f := ⟨nv, rv, rfl, by have := h.nm.view; rw [← h.hl] at this; exact this, h.o.view⟩
theorem RU.tabX (h : RU w w1 gx l nv rv vs ns n f wr) : TabX wr w.heap.size (.agg #[nv, rv]) ns n f :=
  ⟨nv, rv, vs, rfl, by have := h.nm.low (show w.heap.size ≤ w1.heap.size by have := h.ge; omega); rw [← h.hl] at this; exact this, h.o.low (by have := h.ge; omega), h.d⟩
theorem RU.fin (h : RU w w1 gx l nv rv vs ns n f wr) (a b : Value) :
    TabX ((wr.setCell ⟨w.heap.size, 0, none⟩ a).setCell ⟨w.heap.size, 1, none⟩ b) w.heap.size (.agg #[nv, rv]) ns n f ∧ Below w.heap.size w ((wr.setCell ⟨w.heap.size, 0, none⟩ a).setCell ⟨w.heap.size, 1, none⟩ b) := by
  have hg : wr.grownBy ((wr.setCell ⟨w.heap.size, 0, none⟩ a).setCell ⟨w.heap.size, 1, none⟩ b) (some w.heap.size) := grown_set (set_other wr ⟨w.heap.size, 0, none⟩ _ rfl) _ _
  have hge := h.ge
  have hn := h.nm.kept hg (fun g hg he => by have := (h.nm.lt g hg).1; cases he; omega)
  refine ⟨⟨nv, rv, vs, rfl, ?_, (h.o.keptB hg (by omega)).low (by omega), h.d⟩, (h.bl.setCell (p := ⟨w.heap.size, 0, none⟩) (Nat.le_refl _) _).setCell (p := ⟨w.heap.size, 1, none⟩) (Nat.le_refl _) _⟩
  rw [h.hl]
  exact hn.low (by omega)
/-- a name is appended -/
theorem RU.name (h : RU w w1 gx l nv rv vs ns n f wr) (hb : Below wr.heap.size wr wa) (g2 : Gr w2 w1.heap.size 9 1 nv' (l + 1) (strs ns ++ [.string y])) (r2 : wa.grownBy w2 (gBlock nv)) :
    Row w2 gx 26 [nv, rv] ∧ RU w w1 gx (l + 1) nv' rv vs (ns ++ [y]) n f (w2.setCell ⟨gx, 0, none⟩ nv') := by
  have h1 := h.below hb
  have hx := h1.x.grown r2 (fun e => row_ne h1.nm h1.x (by decide) _ e rfl)
  have hr := h1.r.grown r2 (fun e => row_ne h1.nm h1.r (by decide) _ e rfl)
  have ho := h1.o.kept r2 (fun g hg he => gBlock_type h1.o.1 h1.nm (by decide) g hg he) (fun i hi g hg he => gBlock_type (h1.o.2 i hi) h1.nm (by decide) g hg he)
  have hb2 : Below w.heap.size w w2 := h1.bl.grown r2 h1.bl.size (fun g e => by have := (h1.nm.lt g e).1; have := h.ge; omega)
  have hb3 : Below w1.heap.size w1 w2 := h1.b1.grown r2 h1.b1.size (fun g e => (h1.nm.lt g e).1)
  refine ⟨hx, ?_⟩
  have hs : w2.grownBy (w2.setCell ⟨gx, 0, none⟩ nv') (some gx) := set_other w2 ⟨gx, 0, none⟩ nv' rfl
  have hge := h.ge
  refine ⟨hx.set 0 nv', hr.grown hs (fun e => by have := Option.some.inj e; omega), ?_, by rw [List.length_append, h.hl]; rfl, ho.kept hs (fun g hg he => by cases he; exact row_ne ho.1 hx (by decide) _ hg rfl) (fun i hi g hg he => by cases he; exact row_ne (ho.2 i hi) hx (by decide) _ hg rfl), h.d, hb2.setCell (p := ⟨gx, 0, none⟩) (by show w.heap.size ≤ gx; omega) _, hb3.setCell (p := ⟨gx, 0, none⟩) hge.2 _, h.ge⟩
  have := g2.kept hs (fun g hg he => by cases he; exact row_ne g2 hx (by decide) _ hg rfl)
  rw [show strs (ns ++ [y]) = strs ns ++ [.string y] by simp [strs]]
  exact this
/-- a row is appended -/
theorem RU.app (h : RU w w1 gx l nv rv vs ns n f wr) (hd : ∀ i, i < n → ∀ g, gBlock (vs i) = some g → gBlock v1 ≠ some g) (g1 : Gr wr w1.heap.size 3 1 v1 xs.length (ints xs)) (hb : Below wr.heap.size wr wa) (g2 : Gr w2 w1.heap.size 38 1 rv' (n + 1) (tab n vs ++ [v1])) (r2 : wa.grownBy w2 (gBlock rv)) :
    Row w2 gx 26 [nv, rv] ∧ RU w w1 gx l nv rv' (upd vs n v1) ns (n + 1) (upd f n xs) (w2.setCell ⟨gx, 1, none⟩ rv') := by
  have h1 := h.below hb
  have ho := h.o.app g1 hb g2 r2
  have hx := h1.x.grown r2 (fun e => row_ne h1.o.1 h1.x (by decide) _ e rfl)
  have hn := h1.nm.kept r2 (gBlock_type h1.nm h1.o.1 (by decide))
  have hr := h1.r.grown r2 (fun e => row_ne h1.o.1 h1.r (by decide) _ e rfl)
  have hb2 : Below w.heap.size w w2 := h1.bl.grown r2 h1.bl.size (fun g e => by have := (h1.o.1.lt g e).1; have := h.ge; omega)
  have hb3 : Below w1.heap.size w1 w2 := h1.b1.grown r2 h1.b1.size (fun g e => (h1.o.1.lt g e).1)
  refine ⟨hx, ?_⟩
  have hs : w2.grownBy (w2.setCell ⟨gx, 1, none⟩ rv') (some gx) := set_other w2 ⟨gx, 1, none⟩ rv' rfl
  have hge := h.ge
  refine ⟨hx.set 1 rv', hr.grown hs (fun e => by have := Option.some.inj e; omega), hn.kept hs (fun g hg he => by cases he; exact row_ne hn hx (by decide) _ hg rfl), h.hl, ho.kept hs (fun g hg he => by cases he; exact row_ne ho.1 hx (by decide) _ hg rfl) (fun i hi g hg he => by cases he; exact row_ne (ho.2 i hi) hx (by decide) _ hg rfl), ?_, hb2.setCell (p := ⟨gx, 1, none⟩) (by show w.heap.size ≤ gx; omega) _, hb3.setCell (p := ⟨gx, 1, none⟩) hge.2 _, h.ge⟩
  intro i j hi hj hne g hg
  by_cases e1 : i = n
  · subst e1
    rw [upd_same] at hg
    rw [upd_other _ _ (fun e => hne e.symm)]
    intro he
    exact hd j (by omega) g he hg
  · rw [upd_other _ _ e1] at hg
    by_cases e2 : j = n
    · subst e2
      rw [upd_same]
      exact hd i (by omega) g hg
    · rw [upd_other _ _ e2]
      exact h.d i j (by omega) (by omega) hne g hg
end
theorem not47 {y : ByteArray} (h : tx y ≠ [47]) : (y.toList == [47]) = false := by
  have h7 : (⟨#[47]⟩ : ByteArray).toList = [47] := by first | rfl | decide | simp | kernel_rfl
  rw [← h7, tx_eq]
  have h8 : tx (⟨#[47]⟩ : ByteArray) = [47] := rfl
  rw [h8]
  simpa using h
theorem tx47 {y : ByteArray} (h : tx y = [47]) : y = ⟨#[47]⟩ := tx_inj h

set_option maxRecDepth 40000 in
set_option maxHeartbeats 3200000 in
theorem spec_ReadTable (s : ByteArray) (w : World) (hs : s.size ≤ 4000000) : Calls Tryd.prog 15 #[.string s] w fun e w' => TabRd (tx s) w e w' ∧ Below w.heap.size w w' := by
  obtain ⟨W, hW⟩ : ∃ W, W = w.alloc (.cells #[.slice none 0 0, .slice none 0 0] 26) := ⟨_, rfl⟩
  have HW := Lib.hid hW
  have HB : Hid (Below w.heap.size w W) := by rw [hW]; exact (Below.refl _ _).alloc (Nat.le_refl _) _
  have HX : Hid (Row W w.heap.size 26 [.slice none 0 0, .slice none 0 0]) := by rw [hW]; exact Row.new w 26 [.slice none 0 0, .slice none 0 0]
  have HZ : Hid (w.heap.size < W.heap.size) := by rw [hW]; simp [Hid]
  clear hW
  go_enter Tryd.func15, Tryd.ntmps15
  go_wp2_with fail
  rw [← HW.out]
  refine (spec_words s W hs).mono ?_
  rintro e w1 ⟨u, ws, rfl, htx, hgr, hlen, hsz, hb⟩
  have HTX := Lib.hid htx
  have HSZ := Lib.hid hsz
  have HB1 := nxt HB hb
  have HX1 := Lib.hid (HX.out.mono hb HX.out.lt)
  have HZ1 : Hid (w.heap.size < w1.heap.size) := Nat.lt_of_lt_of_le HZ.out hb.size
  have hpos : 0 < ws.length := by
    have h1 := congrArg List.length htx
    rw [txs_length] at h1
    have h2 := words_ne (tx s)
    cases hw : wordsL (tx s) with
    | nil => exact absurd hw h2
    | cons a t => rw [hw] at h1; simp at h1; omega
  obtain ⟨gw, cw, hu, -, -, -, -, hcl, -⟩ := hgr.at hpos
  subst hu
  have HCW : Hid (∀ w9, Below w1.heap.size w1 w9 → ∀ (k : Nat) (x : Value), (strs ws)[k]? = some x → w9.cell? ⟨gw, k, none⟩ = some x) := fun w9 hb9 k x hx => by
    have h1 := hcl k x hx
    rw [hb9.cell (p := ⟨gw, k, none⟩) (World.block_lt_of_cell? w1 _ h1)]
    exact h1
  obtain ⟨n, hn⟩ : ∃ n, ws.length = n := ⟨_, rfl⟩
  have HN := Lib.hid hn
  have HN4 : Hid (n ≤ 4000001) := by unfold Hid; omega
  rw [hn] at hpos ⊢
  have hn4 : n ≤ 4000001 := HN4.out
  have hba : Below w1.heap.size w1 (w1.alloc (.cells #[.slice none 0 0, .slice none 0 0] 26)) := (Below.refl _ _).alloc (Nat.le_refl _) _
  have HU : Hid (RU w w1 w1.heap.size 0 (.slice none 0 0) (.slice none 0 0) (fun _ => undef) [] 0 (fun _ => []) (w1.alloc (.cells #[.slice none 0 0, .slice none 0 0] 26))) :=
    ⟨Row.new w1 26 [.slice none 0 0, .slice none 0 0], HX1.out.mono hba HX1.out.lt, Gr.nil _ _ _ _, rfl, ⟨Gr.nil _ _ _ _, fun i hi => absurd hi (Nat.not_lt_zero _)⟩, fun i j hi => absurd hi (Nat.not_lt_zero _), (nxt HB1 hba).out, hba, HZ1.out, Nat.le_refl _⟩
  obtain ⟨gx, hgx⟩ : ∃ gx, w1.heap.size = gx := ⟨_, rfl⟩
  have HGX := Lib.hid hgx
  clear htx hgr hlen hsz hb hcl hn HX HX1 HB HB1 HZ hba
  rw [hgx] at HU
  go_wp2_with fail
  try rw [hgx]
  generalize (w1.alloc (.cells #[.slice none 0 0, .slice none 0 0] 26)) = W3 at HU ⊢
  clear hgx
  go_loopg [6] n (fun gg i wr => ∃ (k : Nat) (nv : Value), k ≤ n ∧ n - k ≤ gg ∧ i = .int .i64 (k : Int) ∧ Hid (RU w w1 gx k nv (.slice none 0 0) (fun _ => undef) (ws.take k) 0 (fun _ => []) wr) ∧ Hid (PN (tx s) k))
  case atStart => exact ⟨0, _, Nat.zero_le _, Nat.le_refl _, rfl, HU.out, fun _ _ _ _ => Nat.zero_le _⟩
  case round =>
    clear HU
    obtain ⟨k, nv, hk, hgg, rfl, hU, hP⟩ := hrel
    by_cases hlt : k < n
    · have HLT := Lib.hid hlt
      obtain ⟨y, hy, hys⟩ := strs_at (ss := ws) (k := k) (by have : ws.length = n := HN.out; omega)
      have d0 : wr.cell? ⟨gw, k, none⟩ = some (.string y) := HCW.out wr hU.out.b1 k _ hys
      have HY : Hid ((wordsL (tx s))[k]? = some (tx y)) := by
        unfold Hid
        rw [← HTX.out]
        unfold txs
        rw [List.getElem?_map, hy]; rfl
      have HTK : Hid (ws.take (k + 1) = ws.take k ++ [y]) := by unfold Hid; rw [List.take_add_one, hy]; rfl
      have hyz : y.size ≤ 4000000 := Nat.le_trans (HSZ.out y (List.mem_of_getElem? hy)) hs
      clear hy hys
      by_cases hyb : tx y = [47]
      · have HST : Hid (Stop (tx s) k) := .inr (by rw [HY.out, hyb])
        obtain rfl : y = ⟨#[47]⟩ := tx47 hyb
        clear hyb HY
        obtain ⟨ns, hns⟩ : ∃ ns, ws.take k = ns := ⟨_, rfl⟩
        have HP0 : Hid (PR (tx s) (txs ns) 0 (fun _ => []) k) := by
          have := hP.out.stop HST.out (fun _ => [])
          rw [← HTX.out, ← txs_take, hns] at this
          exact this
        have HSN : Hid (SmallS ns) := fun z hz => by
          rw [← hns] at hz
          exact Nat.le_trans (HSZ.out z (List.mem_of_mem_take hz)) hs
        obtain ⟨l, hl⟩ : ∃ l, k = l := ⟨_, rfl⟩
        have HU0 : Hid (RU w w1 gx l nv (.slice none 0 0) (fun _ => undef) ns 0 (fun _ => []) wr) := by rw [← hns, ← hl]; exact hU.out
        obtain ⟨an, cn, hnv⟩ := HU0.out.nm.lit
        subst hnv
        have HKL : Hid (k ≤ n) := by unfold Hid; omega
        clear hU hP HST hns hl hgg
        go_wp2
        go_loopg [6, 7, 8, 9] n (fun gg i _ _ _ wr => ∃ (k r : Nat) (rv : Value) (vs : Nat → Value) (f : Nat → List Int), k ≤ n ∧ n - k ≤ gg ∧ i = .int .i64 (k : Int) ∧ r ≤ 16 ∧ Hid (RU w w1 gx l (.slice an l cn) rv vs ns r f wr) ∧ Hid (PR (tx s) (txs ns) r f k))
        case atStart => exact ⟨_, 0, .slice none 0 0, fun _ => undef, fun _ => [], HKL.out, Nat.sub_le _ _, rfl, Nat.zero_le _, HU0.out, HP0.out⟩
        case round =>
          clear HU0 HP0
          obtain ⟨k, r, rv, vs, f, hk, hgg, rfl, hr, hU, hP⟩ := hrel
          obtain ⟨ar, cr, hrv⟩ := hU.out.o.1.lit
          subst hrv
          by_cases hlt : k < n
          · have HLT := Lib.hid hlt
            obtain ⟨wo, rfl⟩ : ∃ wo : World, wo = wr := ⟨_, rfl⟩
            have HJ0 := Lib.hid (hP.out.start (show k < (wordsL (tx s)).length by rw [← HTX.out, txs_length, HN.out]; exact hlt))
            have HBJ : Hid (Below wo.heap.size wo (wo.alloc (.cells #[] 3))) := (Below.refl _ _).alloc (Nat.le_refl _) _
            clear hP
            go_wp2
            go_loopg [6, 7, 8, 9] n (fun gg i u _ _ wr => ∃ (k2 q : Nat) (xs : List Int), k < k2 ∧ k2 ≤ n ∧ n - k2 ≤ gg ∧ i = .int .i64 (k2 : Int) ∧ q < k2 ∧ Hid (xs.length = q) ∧ Hid (Gr wr wo.heap.size 3 1 u q (ints xs)) ∧ Hid (PJ (tx s) (txs ns) r f k2 xs) ∧ Hid (Below wo.heap.size wo wr))
            case atStart => exact ⟨k + 1, 0, [], Nat.lt_succ_self _, HLT.out, by omega, by go_num, by omega, rfl, Gr.none0 _ _ _ _ _, HJ0.out, HBJ.out⟩
            case round =>
              clear HJ0 HBJ
              obtain ⟨k2, q, xs, hk2, hkn, hgq, rfl, hqk, HXL, hG, hJ, hBj⟩ := hrel
              obtain ⟨ax, cx, hx0⟩ := hG.out.lit
              subst hx0
              have HK2 := Lib.hid hk2
              by_cases hlt2 : k2 < n
              · have HLT2 := Lib.hid hlt2
                obtain ⟨y, hy, hys⟩ := strs_at (ss := ws) (k := k2) (by have : ws.length = n := HN.out; omega)
                have d0 : wr.cell? ⟨gw, k2, none⟩ = some (.string y) := HCW.out wr (hU.out.b1.trans (hBj.out.mono hU.out.size)) k2 _ hys
                have HY : Hid ((wordsL (tx s))[k2]? = some (tx y)) := by
                  unfold Hid
                  rw [← HTX.out]
                  unfold txs
                  rw [List.getElem?_map, hy]; rfl
                have HTK : Hid (ws.take (k2 + 1) = ws.take k2 ++ [y]) := by unfold Hid; rw [List.take_add_one, hy]; rfl
                have hyz : y.size ≤ 4000000 := Nat.le_trans (HSZ.out y (List.mem_of_getElem? hy)) hs
                clear hy hys
                by_cases hyb : tx y = [47]
                · have HST : Hid (Stop (tx s) k2) := .inr (by rw [HY.out, hyb])
                  obtain rfl : y = ⟨#[47]⟩ := tx47 hyb
                  clear hyb HY
                  have HU2 := Lib.hid (hU.out.below hBj.out)
                  have HG2 : Hid (Gr wr w1.heap.size 3 1 (.slice ax q cx) xs.length (ints xs)) := by
                    have := hG.out.low (show w1.heap.size ≤ wo.heap.size from hU.out.size)
                    rw [HXL.out]
                    exact this
                  have HDI : Hid (∀ i, i < r → ∀ g, gBlock (vs i) = some g → gBlock (.slice ax q cx) ≠ some g) := fun i hi g hg1 hg2 => by
                    have h1 := ((hU.out.o.2 i hi).lt g hg1).2
                    have h2 := (hG.out.lt g hg2).1
                    omega
                  have HP2 := Lib.hid (hJ.out.stop HST.out)
                  have x1 := HU2.out.x.cell (i := 1) rfl
                  clear hG hBj hU HST hJ
                  by_cases hmany : 16 < r + 1
                  · have hm2 : decide ((16 : Int) < (r : Int) + 1) = true := decide_eq_true (by omega)
                    have hm3 : (16 : Int) < (r : Int) + 1 := by omega
                    have HNO : Hid (∀ ns n f, ¬ Canon (tx s) ns n f) := HP2.out.many hmany
                    go_wp2_with (at_builtin; refine wpList_app _ rfl (.tmp 71) (.tmp 73) 24 rfl w1.heap.size 38 (.slice none 0 0) 1 24 Tryd.underlying24 Tryd.infoInts rfl (by omega) (.slice ar r cr) r (tab r vs) rfl (HU2.out.o.1.alloc _) _ 1 [.slice ax q cx] rfl (view_one _ _ _) (by simp [Value.oneCell']) (by unfold maxLen; omega) (by omega) (by have := HU2.out.size; simp; omega) ?_; intro v5 w5 g5 r5 k5; obtain ⟨hx5, hU5⟩ := HU2.out.app HDI.out HG2.out ((Below.refl _ _).alloc (Nat.le_refl _) (.cells #[.slice ax q cx] 38)) g5 r5; obtain ⟨a5, c5, hv5⟩ := g5.lit; subst hv5; have hU6 := Lib.hid hU5; have s1 := hx5.cell (i := 1) rfl; have sf := hx5.free 1; have z1 := hU5.x.cell (i := 1) rfl; have fr0 := hU5.r.cell (i := 0) rfl; have fr1 := hU5.r.cell (i := 1) rfl; have ff0 := hU5.r.free 0; have ff1 := hU5.r.free 1; clear g5 r5 k5 hx5 hU5)
                    have hrz := (hU6.out.r.set 0 (.slice none 0 0)).set 1 (.slice none 0 0)
                    have g0 := hrz.cell (i := 0) rfl
                    have g1 := hrz.cell (i := 1) rfl
                    have HFIN := Lib.hid (hU6.out.fin (.slice none 0 0) (.slice none 0 0)).2
                    clear hrz fr0 fr1 ff0 ff1
                    exact bodyPost_ret (v := .tuple #[.agg #[.slice none 0 0, .slice none 0 0], .bool false]) (by simp [results, Tryd.results15, go_sem, g0, g1]) rfl ⟨.inr ⟨HNO.out, rfl⟩, HFIN.out⟩
                  · have hm2 : decide ((16 : Int) < (r : Int) + 1) = false := decide_eq_false (by omega)
                    have hm3 : (r : Int) + 1 ≤ 16 := by omega
                    have HM3 : Hid (r + 1 ≤ 16) := by unfold Hid; omega
                    have HK5 : Hid (k < k2 ∧ k2 ≤ n ∧ k < n) := ⟨hk2, hkn, HLT.out⟩
                    go_wp2_with (at_builtin; refine wpList_app _ rfl (.tmp 71) (.tmp 73) 24 rfl w1.heap.size 38 (.slice none 0 0) 1 24 Tryd.underlying24 Tryd.infoInts rfl (by omega) (.slice ar r cr) r (tab r vs) rfl (HU2.out.o.1.alloc _) _ 1 [.slice ax q cx] rfl (view_one _ _ _) (by simp [Value.oneCell']) (by unfold maxLen; omega) (by omega) (by have := HU2.out.size; simp; omega) ?_; intro v5 w5 g5 r5 k5; obtain ⟨hx5, hU5⟩ := HU2.out.app HDI.out HG2.out ((Below.refl _ _).alloc (Nat.le_refl _) (.cells #[.slice ax q cx] 38)) g5 r5; obtain ⟨a5, c5, hv5⟩ := g5.lit; subst hv5; have hU6 := Lib.hid hU5; have s1 := hx5.cell (i := 1) rfl; have sf := hx5.free 1; have z1 := hU5.x.cell (i := 1) rfl; skip; clear g5 r5 k5 hx5 hU5)
                    go_roundg (n - k2)
                    case rel => exact ⟨k2, r + 1, _, _, _, HK5.out.2.1, Nat.le_refl _, rfl, HM3.out, hU6.out, HP2.out⟩
                    case measure => have := HK5.out; omega
                · have hyy : (y.toList == [47]) = false := not47 hyb
                  have HNE := Lib.hid hyb
                  clear hyb
                  go_wp2_with fail
                  refine (spec_ReadNumber y wr hyz).mono ?_
                  rintro e w4 ⟨hnr, hb⟩
                  have hG4 := Lib.hid (hG.out.mono hb (Nat.le_refl _))
                  have hB4 := Lib.hid (hBj.out.trans (hb.mono hBj.out.size))
                  clear hb hG hBj d0
                  rcases hnr with ⟨m, hm, hme, rfl⟩ | ⟨hno, rfl⟩
                  · have HJ2 := Lib.hid (hJ.out.step HY.out HNE.out hm hme)
                    clear hm hme
                    go_wp2_with (at_builtin; refine wpList_app _ rfl (.tmp 64) (.tmp 66) 38 rfl wo.heap.size 3 (.int .i64 0) 1 8 Tryd.underlying38 Tryd.infoInt rfl (by omega) (.slice ax q cx) q (ints xs) rfl (hG4.out.alloc _) _ 1 [.int .i64 m] rfl (view_one _ _ _) (by simp [Value.oneCell']) (by unfold maxLen; omega) (by omega) (by have := hB4.out.size; simp; omega) ?_; intro v3 w3 g3 r3 k3; have hG3 := Lib.hid g3; have hR3 := Lib.hid r3; clear g3 r3 k3)
                    go_roundg (n - (k2 + 1))
                    case rel =>
                      refine ⟨k2 + 1, q + 1, xs ++ [m], by have := HK2.out; omega, HLT2.out, Nat.le_refl _, by go_num, by omega, by unfold Hid; rw [List.length_append, HXL.out]; rfl, ?_, HJ2.out, (hB4.out.alloc hB4.out.size _).grown hR3.out (by have := hB4.out.size; simp; omega) (fun g hg => (hG4.out.lt g hg).1)⟩
                      unfold Hid
                      rw [show ints (xs ++ [m]) = ints xs ++ [.int .i64 m] by simp [ints]]
                      exact hG3.out
                    case measure => have := HLT2.out; omega
                  · have HNO : Hid (∀ ns n f, ¬ Canon (tx s) ns n f) := hJ.out.bad HY.out HNE.out hno
                    have hU5 := Lib.hid (hU.out.below hB4.out)
                    clear hno hG4 hB4 hU hJ
                    have fr0 := hU5.out.r.cell (i := 0) rfl
                    have fr1 := hU5.out.r.cell (i := 1) rfl
                    have ff0 := hU5.out.r.free 0
                    have ff1 := hU5.out.r.free 1
                    go_wp2
                    have hrz := (hU5.out.r.set 0 (.slice none 0 0)).set 1 (.slice none 0 0)
                    have g0 := hrz.cell (i := 0) rfl
                    have g1 := hrz.cell (i := 1) rfl
                    have HFIN := Lib.hid (hU5.out.fin (.slice none 0 0) (.slice none 0 0)).2
                    clear hrz fr0 fr1 ff0 ff1
                    exact bodyPost_ret (v := .tuple #[.agg #[.slice none 0 0, .slice none 0 0], .bool false]) (by simp [results, Tryd.results15, go_sem, g0, g1]) rfl ⟨.inr ⟨HNO.out, rfl⟩, HFIN.out⟩
              · have HST : Hid (Stop (tx s) k2) := .inl (by rw [← HTX.out, txs_length, HN.out]; omega)
                have hlf2 : decide ((k2 : Int) < (n : Int)) = false := decide_eq_false (by omega)
                have HU2 := Lib.hid (hU.out.below hBj.out)
                have HG2 : Hid (Gr wr w1.heap.size 3 1 (.slice ax q cx) xs.length (ints xs)) := by
                  have := hG.out.low (show w1.heap.size ≤ wo.heap.size from hU.out.size)
                  rw [HXL.out]
                  exact this
                have HDI : Hid (∀ i, i < r → ∀ g, gBlock (vs i) = some g → gBlock (.slice ax q cx) ≠ some g) := fun i hi g hg1 hg2 => by
                  have h1 := ((hU.out.o.2 i hi).lt g hg1).2
                  have h2 := (hG.out.lt g hg2).1
                  omega
                have HP2 := Lib.hid (hJ.out.stop HST.out)
                have x1 := HU2.out.x.cell (i := 1) rfl
                clear hG hBj hU HST hJ
                by_cases hmany : 16 < r + 1
                · have hm2 : decide ((16 : Int) < (r : Int) + 1) = true := decide_eq_true (by omega)
                  have hm3 : (16 : Int) < (r : Int) + 1 := by omega
                  have HNO : Hid (∀ ns n f, ¬ Canon (tx s) ns n f) := HP2.out.many hmany
                  go_wp2_with (at_builtin; refine wpList_app _ rfl (.tmp 71) (.tmp 73) 24 rfl w1.heap.size 38 (.slice none 0 0) 1 24 Tryd.underlying24 Tryd.infoInts rfl (by omega) (.slice ar r cr) r (tab r vs) rfl (HU2.out.o.1.alloc _) _ 1 [.slice ax q cx] rfl (view_one _ _ _) (by simp [Value.oneCell']) (by unfold maxLen; omega) (by omega) (by have := HU2.out.size; simp; omega) ?_; intro v5 w5 g5 r5 k5; obtain ⟨hx5, hU5⟩ := HU2.out.app HDI.out HG2.out ((Below.refl _ _).alloc (Nat.le_refl _) (.cells #[.slice ax q cx] 38)) g5 r5; obtain ⟨a5, c5, hv5⟩ := g5.lit; subst hv5; have hU6 := Lib.hid hU5; have s1 := hx5.cell (i := 1) rfl; have sf := hx5.free 1; have z1 := hU5.x.cell (i := 1) rfl; have fr0 := hU5.r.cell (i := 0) rfl; have fr1 := hU5.r.cell (i := 1) rfl; have ff0 := hU5.r.free 0; have ff1 := hU5.r.free 1; clear g5 r5 k5 hx5 hU5)
                  have hrz := (hU6.out.r.set 0 (.slice none 0 0)).set 1 (.slice none 0 0)
                  have g0 := hrz.cell (i := 0) rfl
                  have g1 := hrz.cell (i := 1) rfl
                  have HFIN := Lib.hid (hU6.out.fin (.slice none 0 0) (.slice none 0 0)).2
                  clear hrz fr0 fr1 ff0 ff1
                  exact bodyPost_ret (v := .tuple #[.agg #[.slice none 0 0, .slice none 0 0], .bool false]) (by simp [results, Tryd.results15, go_sem, g0, g1]) rfl ⟨.inr ⟨HNO.out, rfl⟩, HFIN.out⟩
                · have hm2 : decide ((16 : Int) < (r : Int) + 1) = false := decide_eq_false (by omega)
                  have hm3 : (r : Int) + 1 ≤ 16 := by omega
                  have HM3 : Hid (r + 1 ≤ 16) := by unfold Hid; omega
                  have HK5 : Hid (k < k2 ∧ k2 ≤ n ∧ k < n) := ⟨hk2, hkn, HLT.out⟩
                  go_wp2_with (at_builtin; refine wpList_app _ rfl (.tmp 71) (.tmp 73) 24 rfl w1.heap.size 38 (.slice none 0 0) 1 24 Tryd.underlying24 Tryd.infoInts rfl (by omega) (.slice ar r cr) r (tab r vs) rfl (HU2.out.o.1.alloc _) _ 1 [.slice ax q cx] rfl (view_one _ _ _) (by simp [Value.oneCell']) (by unfold maxLen; omega) (by omega) (by have := HU2.out.size; simp; omega) ?_; intro v5 w5 g5 r5 k5; obtain ⟨hx5, hU5⟩ := HU2.out.app HDI.out HG2.out ((Below.refl _ _).alloc (Nat.le_refl _) (.cells #[.slice ax q cx] 38)) g5 r5; obtain ⟨a5, c5, hv5⟩ := g5.lit; subst hv5; have hU6 := Lib.hid hU5; have s1 := hx5.cell (i := 1) rfl; have sf := hx5.free 1; have z1 := hU5.x.cell (i := 1) rfl; skip; clear g5 r5 k5 hx5 hU5)
                  go_roundg (n - k2)
                  case rel => exact ⟨k2, r + 1, _, _, _, HK5.out.2.1, Nat.le_refl _, rfl, HM3.out, hU6.out, HP2.out⟩
                  case measure => have := HK5.out; omega
          · have hlf : decide ((k : Int) < (n : Int)) = false := decide_eq_false (by omega)
            have HKN : Hid ((wordsL (tx s)).length ≤ k) := by unfold Hid; rw [← HTX.out, txs_length, HN.out]; omega
            have x0 := hU.out.x.cell (i := 0) rfl
            have x1 := hU.out.x.cell (i := 1) rfl
            cases hTB : tabB (txs ns) r f with
            | false =>
              have HTB := Lib.hid hTB
              have HNO : Hid (∀ ns n f, ¬ Canon (tx s) ns n f) := fun ns' n' f' hc => by
                have h1 := (hP.out.fin HKN.out hc).1
                rw [hTB] at h1
                cases h1
              clear hTB
              go_wp2_with fail
              refine (spec_TableValid (.agg #[.slice an l cn, .slice ar r cr]) ns r f wr hU.out.inT HSN.out).mono ?_
              rw [HTB.out]
              rintro e w5 ⟨rfl, hb⟩
              have hU5 := Lib.hid (hU.out.below hb)
              clear hb hU x0 x1
              have fr0 := hU5.out.r.cell (i := 0) rfl
              have fr1 := hU5.out.r.cell (i := 1) rfl
              have ff0 := hU5.out.r.free 0
              have ff1 := hU5.out.r.free 1
              go_wp2
              have hrz := (hU5.out.r.set 0 (.slice none 0 0)).set 1 (.slice none 0 0)
              have g0 := hrz.cell (i := 0) rfl
              have g1 := hrz.cell (i := 1) rfl
              have HFIN := Lib.hid (hU5.out.fin (.slice none 0 0) (.slice none 0 0)).2
              clear hrz fr0 fr1 ff0 ff1
              exact bodyPost_ret (v := .tuple #[.agg #[.slice none 0 0, .slice none 0 0], .bool false]) (by simp [results, Tryd.results15, go_sem, g0, g1]) rfl ⟨.inr ⟨HNO.out, rfl⟩, HFIN.out⟩
            | true =>
              have HTB := Lib.hid hTB
              have HTT : Hid (tabTx (txs ns) r f = tabT (txs ns) r f) := if_pos hTB
              clear hTB
              go_wp2_with fail
              refine (spec_TableValid (.agg #[.slice an l cn, .slice ar r cr]) ns r f wr hU.out.inT HSN.out).mono ?_
              rw [HTB.out]
              rintro e w5 ⟨rfl, hb⟩
              have hU5 := Lib.hid (hU.out.below hb)
              clear hb hU x0 x1
              have x0 := hU5.out.x.cell (i := 0) rfl
              have x1 := hU5.out.x.cell (i := 1) rfl
              go_wp2_with fail
              refine (spec_TableText (.agg #[.slice an l cn, .slice ar r cr]) ns r f w5 hU5.out.inT HSN.out).mono ?_
              rw [HTT.out]
              rintro e w6 ⟨rfl, hb⟩
              have hU6 := Lib.hid (hU5.out.below hb)
              clear hb hU5 x0 x1
              by_cases hx : tabT (txs ns) r f = tx s
              · have hxx : ((mkS (tabT (txs ns) r f)).toList == s.toList) = true := by rw [tx_eq, tx_mkS, hx]; simp
                have HC : Hid (Canon (tx s) (txs ns) r f) := ⟨HTB.out, hx⟩
                clear hx
                have x0 := hU6.out.x.cell (i := 0) rfl
                have x1 := hU6.out.x.cell (i := 1) rfl
                have fr0 := hU6.out.r.cell (i := 0) rfl
                have fr1 := hU6.out.r.cell (i := 1) rfl
                have ff0 := hU6.out.r.free 0
                have ff1 := hU6.out.r.free 1
                go_wp2
                have hrz := (hU6.out.r.set 0 (.slice an l cn)).set 1 (.slice ar r cr)
                have g0 := hrz.cell (i := 0) rfl
                have g1 := hrz.cell (i := 1) rfl
                have HFIN := Lib.hid (hU6.out.fin (.slice an l cn) (.slice ar r cr))
                clear hrz fr0 fr1 ff0 ff1 x0 x1
                exact bodyPost_ret (v := .tuple #[.agg #[.slice an l cn, .slice ar r cr], .bool true]) (by simp [results, Tryd.results15, go_sem, g0, g1]) rfl ⟨.inl ⟨_, ns, r, f, HC.out, HSN.out, rfl, HFIN.out.1⟩, HFIN.out.2⟩
              · have hxx : ((mkS (tabT (txs ns) r f)).toList == s.toList) = false := by rw [tx_eq, tx_mkS]; simpa using hx
                have HNO : Hid (∀ ns n f, ¬ Canon (tx s) ns n f) := fun ns' n' f' hc => hx (hP.out.fin HKN.out hc).2
                clear hx
                have fr0 := hU6.out.r.cell (i := 0) rfl
                have fr1 := hU6.out.r.cell (i := 1) rfl
                have ff0 := hU6.out.r.free 0
                have ff1 := hU6.out.r.free 1
                go_wp2
                have hrz := (hU6.out.r.set 0 (.slice none 0 0)).set 1 (.slice none 0 0)
                have g0 := hrz.cell (i := 0) rfl
                have g1 := hrz.cell (i := 1) rfl
                have HFIN := Lib.hid (hU6.out.fin (.slice none 0 0) (.slice none 0 0)).2
                clear hrz fr0 fr1 ff0 ff1
                exact bodyPost_ret (v := .tuple #[.agg #[.slice none 0 0, .slice none 0 0], .bool false]) (by simp [results, Tryd.results15, go_sem, g0, g1]) rfl ⟨.inr ⟨HNO.out, rfl⟩, HFIN.out⟩
      · have hyy : (y.toList == [47]) = false := not47 hyb
        have HP2 := Lib.hid (hP.out.step HY.out hyb)
        clear hyb
        obtain ⟨an, cn, hnv⟩ := hU.out.nm.lit
        subst hnv
        have x0 := hU.out.x.cell (i := 0) rfl
        have hba : Below wr.heap.size wr (wr.alloc (.cells #[.string y] 9)) := (Below.refl _ _).alloc (Nat.le_refl _) _
        have HUA := Lib.hid (hU.out.below hba.drew)
        have x0a := (hU.out.below hba).x.cell (i := 0) rfl
        have hsz5 := hU.out.size
        clear hba
        go_wp2_with fail
        go_region_law (first
          | (refine step_app _ rfl (.tmp 25) (.tmp 30) 23 rfl w1.heap.size 9 (.string ByteArray.empty) 1 16 Tryd.underlying23 Tryd.infoStr rfl (by omega) (.slice an k cn) k (strs (ws.take k)) rfl HUA.out.nm _ 1 [.string y] rfl ((view_one wr (.string y) 9).mono (Below.refl _ _).drew (Nat.le_refl _)) (by simp [Value.oneCell']) (by unfold maxLen; omega) (by omega) (by simp; omega) ?_
             intro v7 w7 g7 r7 k7
             obtain ⟨hx7, hU7⟩ := HUA.out.name (Below.refl _ _) g7 r7
             obtain ⟨a7, c7, hv7⟩ := g7.lit
             subst hv7
             have HU8 := Lib.hid hU7
             have s0 := hx7.cell (i := 0) rfl
             have sf := hx7.free 0
             clear g7 r7 k7 hx7 hU7))
        all_goals
          go_simp
          clear x0 x0a s0 sf d0
          generalize (w7.setCell ⟨gx, 0, none⟩ (.slice a7 (k + 1) c7)) = W8 at HU8 ⊢
          go_wp2
          go_roundg (n - (k + 1))
          case rel => exact ⟨k + 1, _, HLT.out, Nat.le_refl _, by go_num, by rw [HTK.out]; exact HU8.out, HP2.out⟩
          case measure => have := HLT.out; omega
    · have HST : Hid (Stop (tx s) k) := .inl (by rw [← HTX.out, txs_length, HN.out]; omega)
      have hlf : decide ((k : Int) < (n : Int)) = false := decide_eq_false (by omega)
      have HLT := Lib.hid hlt
      obtain ⟨ns, hns⟩ : ∃ ns, ws.take k = ns := ⟨_, rfl⟩
      have HP0 : Hid (PR (tx s) (txs ns) 0 (fun _ => []) k) := by
        have := hP.out.stop HST.out (fun _ => [])
        rw [← HTX.out, ← txs_take, hns] at this
        exact this
      have HSN : Hid (SmallS ns) := fun z hz => by
        rw [← hns] at hz
        exact Nat.le_trans (HSZ.out z (List.mem_of_mem_take hz)) hs
      obtain ⟨l, hl⟩ : ∃ l, k = l := ⟨_, rfl⟩
      have HU0 : Hid (RU w w1 gx l nv (.slice none 0 0) (fun _ => undef) ns 0 (fun _ => []) wr) := by rw [← hns, ← hl]; exact hU.out
      obtain ⟨an, cn, hnv⟩ := HU0.out.nm.lit
      subst hnv
      have HKL : Hid (k ≤ n) := by unfold Hid; omega
      clear hU hP HST hns hl hgg
      go_wp2
      go_loopg [6, 7, 8, 9] n (fun gg i _ _ _ wr => ∃ (k r : Nat) (rv : Value) (vs : Nat → Value) (f : Nat → List Int), k ≤ n ∧ n - k ≤ gg ∧ i = .int .i64 (k : Int) ∧ r ≤ 16 ∧ Hid (RU w w1 gx l (.slice an l cn) rv vs ns r f wr) ∧ Hid (PR (tx s) (txs ns) r f k))
      case atStart => exact ⟨_, 0, .slice none 0 0, fun _ => undef, fun _ => [], HKL.out, Nat.sub_le _ _, rfl, Nat.zero_le _, HU0.out, HP0.out⟩
      case round =>
        clear HU0 HP0
        obtain ⟨k, r, rv, vs, f, hk, hgg, rfl, hr, hU, hP⟩ := hrel
        obtain ⟨ar, cr, hrv⟩ := hU.out.o.1.lit
        subst hrv
        by_cases hlt : k < n
        · have HLT := Lib.hid hlt
          obtain ⟨wo, rfl⟩ : ∃ wo : World, wo = wr := ⟨_, rfl⟩
          have HJ0 := Lib.hid (hP.out.start (show k < (wordsL (tx s)).length by rw [← HTX.out, txs_length, HN.out]; exact hlt))
          have HBJ : Hid (Below wo.heap.size wo (wo.alloc (.cells #[] 3))) := (Below.refl _ _).alloc (Nat.le_refl _) _
          clear hP
          go_wp2
          go_loopg [6, 7, 8, 9] n (fun gg i u _ _ wr => ∃ (k2 q : Nat) (xs : List Int), k < k2 ∧ k2 ≤ n ∧ n - k2 ≤ gg ∧ i = .int .i64 (k2 : Int) ∧ q < k2 ∧ Hid (xs.length = q) ∧ Hid (Gr wr wo.heap.size 3 1 u q (ints xs)) ∧ Hid (PJ (tx s) (txs ns) r f k2 xs) ∧ Hid (Below wo.heap.size wo wr))
          case atStart => exact ⟨k + 1, 0, [], Nat.lt_succ_self _, HLT.out, by omega, by go_num, by omega, rfl, Gr.none0 _ _ _ _ _, HJ0.out, HBJ.out⟩
          case round =>
            clear HJ0 HBJ
            obtain ⟨k2, q, xs, hk2, hkn, hgq, rfl, hqk, HXL, hG, hJ, hBj⟩ := hrel
            obtain ⟨ax, cx, hx0⟩ := hG.out.lit
            subst hx0
            have HK2 := Lib.hid hk2
            by_cases hlt2 : k2 < n
            · have HLT2 := Lib.hid hlt2
              obtain ⟨y, hy, hys⟩ := strs_at (ss := ws) (k := k2) (by have : ws.length = n := HN.out; omega)
              have d0 : wr.cell? ⟨gw, k2, none⟩ = some (.string y) := HCW.out wr (hU.out.b1.trans (hBj.out.mono hU.out.size)) k2 _ hys
              have HY : Hid ((wordsL (tx s))[k2]? = some (tx y)) := by
                unfold Hid
                rw [← HTX.out]
                unfold txs
                rw [List.getElem?_map, hy]; rfl
              have HTK : Hid (ws.take (k2 + 1) = ws.take k2 ++ [y]) := by unfold Hid; rw [List.take_add_one, hy]; rfl
              have hyz : y.size ≤ 4000000 := Nat.le_trans (HSZ.out y (List.mem_of_getElem? hy)) hs
              clear hy hys
              by_cases hyb : tx y = [47]
              · have HST : Hid (Stop (tx s) k2) := .inr (by rw [HY.out, hyb])
                obtain rfl : y = ⟨#[47]⟩ := tx47 hyb
                clear hyb HY
                have HU2 := Lib.hid (hU.out.below hBj.out)
                have HG2 : Hid (Gr wr w1.heap.size 3 1 (.slice ax q cx) xs.length (ints xs)) := by
                  have := hG.out.low (show w1.heap.size ≤ wo.heap.size from hU.out.size)
                  rw [HXL.out]
                  exact this
                have HDI : Hid (∀ i, i < r → ∀ g, gBlock (vs i) = some g → gBlock (.slice ax q cx) ≠ some g) := fun i hi g hg1 hg2 => by
                  have h1 := ((hU.out.o.2 i hi).lt g hg1).2
                  have h2 := (hG.out.lt g hg2).1
                  omega
                have HP2 := Lib.hid (hJ.out.stop HST.out)
                have x1 := HU2.out.x.cell (i := 1) rfl
                clear hG hBj hU HST hJ
                by_cases hmany : 16 < r + 1
                · have hm2 : decide ((16 : Int) < (r : Int) + 1) = true := decide_eq_true (by omega)
                  have hm3 : (16 : Int) < (r : Int) + 1 := by omega
                  have HNO : Hid (∀ ns n f, ¬ Canon (tx s) ns n f) := HP2.out.many hmany
                  go_wp2_with (at_builtin; refine wpList_app _ rfl (.tmp 71) (.tmp 73) 24 rfl w1.heap.size 38 (.slice none 0 0) 1 24 Tryd.underlying24 Tryd.infoInts rfl (by omega) (.slice ar r cr) r (tab r vs) rfl (HU2.out.o.1.alloc _) _ 1 [.slice ax q cx] rfl (view_one _ _ _) (by simp [Value.oneCell']) (by unfold maxLen; omega) (by omega) (by have := HU2.out.size; simp; omega) ?_; intro v5 w5 g5 r5 k5; obtain ⟨hx5, hU5⟩ := HU2.out.app HDI.out HG2.out ((Below.refl _ _).alloc (Nat.le_refl _) (.cells #[.slice ax q cx] 38)) g5 r5; obtain ⟨a5, c5, hv5⟩ := g5.lit; subst hv5; have hU6 := Lib.hid hU5; have s1 := hx5.cell (i := 1) rfl; have sf := hx5.free 1; have z1 := hU5.x.cell (i := 1) rfl; have fr0 := hU5.r.cell (i := 0) rfl; have fr1 := hU5.r.cell (i := 1) rfl; have ff0 := hU5.r.free 0; have ff1 := hU5.r.free 1; clear g5 r5 k5 hx5 hU5)
                  have hrz := (hU6.out.r.set 0 (.slice none 0 0)).set 1 (.slice none 0 0)
                  have g0 := hrz.cell (i := 0) rfl
                  have g1 := hrz.cell (i := 1) rfl
                  have HFIN := Lib.hid (hU6.out.fin (.slice none 0 0) (.slice none 0 0)).2
                  clear hrz fr0 fr1 ff0 ff1
                  exact bodyPost_ret (v := .tuple #[.agg #[.slice none 0 0, .slice none 0 0], .bool false]) (by simp [results, Tryd.results15, go_sem, g0, g1]) rfl ⟨.inr ⟨HNO.out, rfl⟩, HFIN.out⟩
                · have hm2 : decide ((16 : Int) < (r : Int) + 1) = false := decide_eq_false (by omega)
                  have hm3 : (r : Int) + 1 ≤ 16 := by omega
                  have HM3 : Hid (r + 1 ≤ 16) := by unfold Hid; omega
                  have HK5 : Hid (k < k2 ∧ k2 ≤ n ∧ k < n) := ⟨hk2, hkn, HLT.out⟩
                  go_wp2_with (at_builtin; refine wpList_app _ rfl (.tmp 71) (.tmp 73) 24 rfl w1.heap.size 38 (.slice none 0 0) 1 24 Tryd.underlying24 Tryd.infoInts rfl (by omega) (.slice ar r cr) r (tab r vs) rfl (HU2.out.o.1.alloc _) _ 1 [.slice ax q cx] rfl (view_one _ _ _) (by simp [Value.oneCell']) (by unfold maxLen; omega) (by omega) (by have := HU2.out.size; simp; omega) ?_; intro v5 w5 g5 r5 k5; obtain ⟨hx5, hU5⟩ := HU2.out.app HDI.out HG2.out ((Below.refl _ _).alloc (Nat.le_refl _) (.cells #[.slice ax q cx] 38)) g5 r5; obtain ⟨a5, c5, hv5⟩ := g5.lit; subst hv5; have hU6 := Lib.hid hU5; have s1 := hx5.cell (i := 1) rfl; have sf := hx5.free 1; have z1 := hU5.x.cell (i := 1) rfl; skip; clear g5 r5 k5 hx5 hU5)
                  go_roundg (n - k2)
                  case rel => exact ⟨k2, r + 1, _, _, _, HK5.out.2.1, Nat.le_refl _, rfl, HM3.out, hU6.out, HP2.out⟩
                  case measure => have := HK5.out; omega
              · have hyy : (y.toList == [47]) = false := not47 hyb
                have HNE := Lib.hid hyb
                clear hyb
                go_wp2_with fail
                refine (spec_ReadNumber y wr hyz).mono ?_
                rintro e w4 ⟨hnr, hb⟩
                have hG4 := Lib.hid (hG.out.mono hb (Nat.le_refl _))
                have hB4 := Lib.hid (hBj.out.trans (hb.mono hBj.out.size))
                clear hb hG hBj d0
                rcases hnr with ⟨m, hm, hme, rfl⟩ | ⟨hno, rfl⟩
                · have HJ2 := Lib.hid (hJ.out.step HY.out HNE.out hm hme)
                  clear hm hme
                  go_wp2_with (at_builtin; refine wpList_app _ rfl (.tmp 64) (.tmp 66) 38 rfl wo.heap.size 3 (.int .i64 0) 1 8 Tryd.underlying38 Tryd.infoInt rfl (by omega) (.slice ax q cx) q (ints xs) rfl (hG4.out.alloc _) _ 1 [.int .i64 m] rfl (view_one _ _ _) (by simp [Value.oneCell']) (by unfold maxLen; omega) (by omega) (by have := hB4.out.size; simp; omega) ?_; intro v3 w3 g3 r3 k3; have hG3 := Lib.hid g3; have hR3 := Lib.hid r3; clear g3 r3 k3)
                  go_roundg (n - (k2 + 1))
                  case rel =>
                    refine ⟨k2 + 1, q + 1, xs ++ [m], by have := HK2.out; omega, HLT2.out, Nat.le_refl _, by go_num, by omega, by unfold Hid; rw [List.length_append, HXL.out]; rfl, ?_, HJ2.out, (hB4.out.alloc hB4.out.size _).grown hR3.out (by have := hB4.out.size; simp; omega) (fun g hg => (hG4.out.lt g hg).1)⟩
                    unfold Hid
                    rw [show ints (xs ++ [m]) = ints xs ++ [.int .i64 m] by simp [ints]]
                    exact hG3.out
                  case measure => have := HLT2.out; omega
                · have HNO : Hid (∀ ns n f, ¬ Canon (tx s) ns n f) := hJ.out.bad HY.out HNE.out hno
                  have hU5 := Lib.hid (hU.out.below hB4.out)
                  clear hno hG4 hB4 hU hJ
                  have fr0 := hU5.out.r.cell (i := 0) rfl
                  have fr1 := hU5.out.r.cell (i := 1) rfl
                  have ff0 := hU5.out.r.free 0
                  have ff1 := hU5.out.r.free 1
                  go_wp2
                  have hrz := (hU5.out.r.set 0 (.slice none 0 0)).set 1 (.slice none 0 0)
                  have g0 := hrz.cell (i := 0) rfl
                  have g1 := hrz.cell (i := 1) rfl
                  have HFIN := Lib.hid (hU5.out.fin (.slice none 0 0) (.slice none 0 0)).2
                  clear hrz fr0 fr1 ff0 ff1
                  exact bodyPost_ret (v := .tuple #[.agg #[.slice none 0 0, .slice none 0 0], .bool false]) (by simp [results, Tryd.results15, go_sem, g0, g1]) rfl ⟨.inr ⟨HNO.out, rfl⟩, HFIN.out⟩
            · have HST : Hid (Stop (tx s) k2) := .inl (by rw [← HTX.out, txs_length, HN.out]; omega)
              have hlf2 : decide ((k2 : Int) < (n : Int)) = false := decide_eq_false (by omega)
              have HU2 := Lib.hid (hU.out.below hBj.out)
              have HG2 : Hid (Gr wr w1.heap.size 3 1 (.slice ax q cx) xs.length (ints xs)) := by
                have := hG.out.low (show w1.heap.size ≤ wo.heap.size from hU.out.size)
                rw [HXL.out]
                exact this
              have HDI : Hid (∀ i, i < r → ∀ g, gBlock (vs i) = some g → gBlock (.slice ax q cx) ≠ some g) := fun i hi g hg1 hg2 => by
                have h1 := ((hU.out.o.2 i hi).lt g hg1).2
                have h2 := (hG.out.lt g hg2).1
                omega
              have HP2 := Lib.hid (hJ.out.stop HST.out)
              have x1 := HU2.out.x.cell (i := 1) rfl
              clear hG hBj hU HST hJ
              by_cases hmany : 16 < r + 1
              · have hm2 : decide ((16 : Int) < (r : Int) + 1) = true := decide_eq_true (by omega)
                have hm3 : (16 : Int) < (r : Int) + 1 := by omega
                have HNO : Hid (∀ ns n f, ¬ Canon (tx s) ns n f) := HP2.out.many hmany
                go_wp2_with (at_builtin; refine wpList_app _ rfl (.tmp 71) (.tmp 73) 24 rfl w1.heap.size 38 (.slice none 0 0) 1 24 Tryd.underlying24 Tryd.infoInts rfl (by omega) (.slice ar r cr) r (tab r vs) rfl (HU2.out.o.1.alloc _) _ 1 [.slice ax q cx] rfl (view_one _ _ _) (by simp [Value.oneCell']) (by unfold maxLen; omega) (by omega) (by have := HU2.out.size; simp; omega) ?_; intro v5 w5 g5 r5 k5; obtain ⟨hx5, hU5⟩ := HU2.out.app HDI.out HG2.out ((Below.refl _ _).alloc (Nat.le_refl _) (.cells #[.slice ax q cx] 38)) g5 r5; obtain ⟨a5, c5, hv5⟩ := g5.lit; subst hv5; have hU6 := Lib.hid hU5; have s1 := hx5.cell (i := 1) rfl; have sf := hx5.free 1; have z1 := hU5.x.cell (i := 1) rfl; have fr0 := hU5.r.cell (i := 0) rfl; have fr1 := hU5.r.cell (i := 1) rfl; have ff0 := hU5.r.free 0; have ff1 := hU5.r.free 1; clear g5 r5 k5 hx5 hU5)
                have hrz := (hU6.out.r.set 0 (.slice none 0 0)).set 1 (.slice none 0 0)
                have g0 := hrz.cell (i := 0) rfl
                have g1 := hrz.cell (i := 1) rfl
                have HFIN := Lib.hid (hU6.out.fin (.slice none 0 0) (.slice none 0 0)).2
                clear hrz fr0 fr1 ff0 ff1
                exact bodyPost_ret (v := .tuple #[.agg #[.slice none 0 0, .slice none 0 0], .bool false]) (by simp [results, Tryd.results15, go_sem, g0, g1]) rfl ⟨.inr ⟨HNO.out, rfl⟩, HFIN.out⟩
              · have hm2 : decide ((16 : Int) < (r : Int) + 1) = false := decide_eq_false (by omega)
                have hm3 : (r : Int) + 1 ≤ 16 := by omega
                have HM3 : Hid (r + 1 ≤ 16) := by unfold Hid; omega
                have HK5 : Hid (k < k2 ∧ k2 ≤ n ∧ k < n) := ⟨hk2, hkn, HLT.out⟩
                go_wp2_with (at_builtin; refine wpList_app _ rfl (.tmp 71) (.tmp 73) 24 rfl w1.heap.size 38 (.slice none 0 0) 1 24 Tryd.underlying24 Tryd.infoInts rfl (by omega) (.slice ar r cr) r (tab r vs) rfl (HU2.out.o.1.alloc _) _ 1 [.slice ax q cx] rfl (view_one _ _ _) (by simp [Value.oneCell']) (by unfold maxLen; omega) (by omega) (by have := HU2.out.size; simp; omega) ?_; intro v5 w5 g5 r5 k5; obtain ⟨hx5, hU5⟩ := HU2.out.app HDI.out HG2.out ((Below.refl _ _).alloc (Nat.le_refl _) (.cells #[.slice ax q cx] 38)) g5 r5; obtain ⟨a5, c5, hv5⟩ := g5.lit; subst hv5; have hU6 := Lib.hid hU5; have s1 := hx5.cell (i := 1) rfl; have sf := hx5.free 1; have z1 := hU5.x.cell (i := 1) rfl; skip; clear g5 r5 k5 hx5 hU5)
                go_roundg (n - k2)
                case rel => exact ⟨k2, r + 1, _, _, _, HK5.out.2.1, Nat.le_refl _, rfl, HM3.out, hU6.out, HP2.out⟩
                case measure => have := HK5.out; omega
        · have hlf : decide ((k : Int) < (n : Int)) = false := decide_eq_false (by omega)
          have HKN : Hid ((wordsL (tx s)).length ≤ k) := by unfold Hid; rw [← HTX.out, txs_length, HN.out]; omega
          have x0 := hU.out.x.cell (i := 0) rfl
          have x1 := hU.out.x.cell (i := 1) rfl
          cases hTB : tabB (txs ns) r f with
          | false =>
            have HTB := Lib.hid hTB
            have HNO : Hid (∀ ns n f, ¬ Canon (tx s) ns n f) := fun ns' n' f' hc => by
              have h1 := (hP.out.fin HKN.out hc).1
              rw [hTB] at h1
              cases h1
            clear hTB
            go_wp2_with fail
            refine (spec_TableValid (.agg #[.slice an l cn, .slice ar r cr]) ns r f wr hU.out.inT HSN.out).mono ?_
            rw [HTB.out]
            rintro e w5 ⟨rfl, hb⟩
            have hU5 := Lib.hid (hU.out.below hb)
            clear hb hU x0 x1
            have fr0 := hU5.out.r.cell (i := 0) rfl
            have fr1 := hU5.out.r.cell (i := 1) rfl
            have ff0 := hU5.out.r.free 0
            have ff1 := hU5.out.r.free 1
            go_wp2
            have hrz := (hU5.out.r.set 0 (.slice none 0 0)).set 1 (.slice none 0 0)
            have g0 := hrz.cell (i := 0) rfl
            have g1 := hrz.cell (i := 1) rfl
            have HFIN := Lib.hid (hU5.out.fin (.slice none 0 0) (.slice none 0 0)).2
            clear hrz fr0 fr1 ff0 ff1
            exact bodyPost_ret (v := .tuple #[.agg #[.slice none 0 0, .slice none 0 0], .bool false]) (by simp [results, Tryd.results15, go_sem, g0, g1]) rfl ⟨.inr ⟨HNO.out, rfl⟩, HFIN.out⟩
          | true =>
            have HTB := Lib.hid hTB
            have HTT : Hid (tabTx (txs ns) r f = tabT (txs ns) r f) := if_pos hTB
            clear hTB
            go_wp2_with fail
            refine (spec_TableValid (.agg #[.slice an l cn, .slice ar r cr]) ns r f wr hU.out.inT HSN.out).mono ?_
            rw [HTB.out]
            rintro e w5 ⟨rfl, hb⟩
            have hU5 := Lib.hid (hU.out.below hb)
            clear hb hU x0 x1
            have x0 := hU5.out.x.cell (i := 0) rfl
            have x1 := hU5.out.x.cell (i := 1) rfl
            go_wp2_with fail
            refine (spec_TableText (.agg #[.slice an l cn, .slice ar r cr]) ns r f w5 hU5.out.inT HSN.out).mono ?_
            rw [HTT.out]
            rintro e w6 ⟨rfl, hb⟩
            have hU6 := Lib.hid (hU5.out.below hb)
            clear hb hU5 x0 x1
            by_cases hx : tabT (txs ns) r f = tx s
            · have hxx : ((mkS (tabT (txs ns) r f)).toList == s.toList) = true := by rw [tx_eq, tx_mkS, hx]; simp
              have HC : Hid (Canon (tx s) (txs ns) r f) := ⟨HTB.out, hx⟩
              clear hx
              have x0 := hU6.out.x.cell (i := 0) rfl
              have x1 := hU6.out.x.cell (i := 1) rfl
              have fr0 := hU6.out.r.cell (i := 0) rfl
              have fr1 := hU6.out.r.cell (i := 1) rfl
              have ff0 := hU6.out.r.free 0
              have ff1 := hU6.out.r.free 1
              go_wp2
              have hrz := (hU6.out.r.set 0 (.slice an l cn)).set 1 (.slice ar r cr)
              have g0 := hrz.cell (i := 0) rfl
              have g1 := hrz.cell (i := 1) rfl
              have HFIN := Lib.hid (hU6.out.fin (.slice an l cn) (.slice ar r cr))
              clear hrz fr0 fr1 ff0 ff1 x0 x1
              exact bodyPost_ret (v := .tuple #[.agg #[.slice an l cn, .slice ar r cr], .bool true]) (by simp [results, Tryd.results15, go_sem, g0, g1]) rfl ⟨.inl ⟨_, ns, r, f, HC.out, HSN.out, rfl, HFIN.out.1⟩, HFIN.out.2⟩
            · have hxx : ((mkS (tabT (txs ns) r f)).toList == s.toList) = false := by rw [tx_eq, tx_mkS]; simpa using hx
              have HNO : Hid (∀ ns n f, ¬ Canon (tx s) ns n f) := fun ns' n' f' hc => hx (hP.out.fin HKN.out hc).2
              clear hx
              have fr0 := hU6.out.r.cell (i := 0) rfl
              have fr1 := hU6.out.r.cell (i := 1) rfl
              have ff0 := hU6.out.r.free 0
              have ff1 := hU6.out.r.free 1
              go_wp2
              have hrz := (hU6.out.r.set 0 (.slice none 0 0)).set 1 (.slice none 0 0)
              have g0 := hrz.cell (i := 0) rfl
              have g1 := hrz.cell (i := 1) rfl
              have HFIN := Lib.hid (hU6.out.fin (.slice none 0 0) (.slice none 0 0)).2
              clear hrz fr0 fr1 ff0 ff1
              exact bodyPost_ret (v := .tuple #[.agg #[.slice none 0 0, .slice none 0 0], .bool false]) (by simp [results, Tryd.results15, go_sem, g0, g1]) rfl ⟨.inr ⟨HNO.out, rfl⟩, HFIN.out⟩
end Go.Proofs.YtajgghifamebkaaDoor
