/- texts of rows: the program's and the reference's -/
import Derived.Test.YtajgghifamebkaaDoorTxtR
import Derived.Test.YtajgghifamebkaaDoorTabO
namespace Go.Proofs.YtajgghifamebkaaDoor
set_option linter.unusedSimpArgs false
set_option linter.unusedVariables false
open Go.RowKit
open Go
theorem joinTail_len {sep : List UInt8} {L : Nat} : ∀ {ps : List (List UInt8)}, (∀ p ∈ ps, p.length ≤ L) → (Lib.joinTail sep ps).length ≤ ps.length * (L + sep.length)
  | [], _ => by simp [Lib.joinTail]
  | p :: r, h => by
    have ih := joinTail_len (sep := sep) (fun q hq => h q (List.mem_cons_of_mem _ hq))
    have hp := h p (by simp)
    have e : Lib.joinTail sep (p :: r) = sep ++ p ++ Lib.joinTail sep r := by simp [Lib.joinTail]
    rw [e, List.length_append, List.length_append, List.length_cons, Nat.add_mul]
    omega
theorem join_len {sep : List UInt8} {L : Nat} {ps : List (List UInt8)} (h : ∀ p ∈ ps, p.length ≤ L) : (Lib.join ps sep).length ≤ ps.length * (L + sep.length) := by
  cases ps with
  | nil => simp [Lib.join_nil]
  | cons p r =>
    have ih := joinTail_len (sep := sep) (fun q hq => h q (List.mem_cons_of_mem _ hq))
    have hp := h p (by simp)
    rw [Lib.join_cons, List.length_append, List.length_cons, Nat.add_mul]
    omega
theorem rowT_len {r : List Int} (h : RowOk r) : (rowT r).length ≤ 48 := by
  have h1 := join_len (sep := spL) (L := 7) (ps := r.map Lib.itoa) (fun p hp => by
    obtain ⟨n, hn, rfl⟩ := List.mem_map.1 hp
    exact (itoa_len (h.2.2 n hn)).2)
  rw [List.length_map] at h1
  have h2 := Nat.mul_le_mul_right (7 + spL.length) h.2.1
  exact Nat.le_trans h1 (Nat.le_trans h2 (by decide))
def numsS (r : List Int) : List ByteArray := r.map fun n => mkS (Lib.itoa n)
theorem numsS_tx (r : List Int) : (numsS r).map (·.data.toList) = r.map Lib.itoa := by simp [numsS, mkS]
theorem numsS_snoc {r : List Int} {k : Nat} {x : Int} (h : r[k]? = some x) : numsS (r.take (k + 1)) = numsS (r.take k) ++ [mkS (Lib.itoa x)] := by
  unfold numsS
  rw [List.take_add_one, h]; simp
theorem iv_get {r : List Int} {k : Nat} (hk : k < r.length) : ∃ x, r[k]? = some x ∧ iv r k = .int .i64 x := by
  refine ⟨r[k], List.getElem?_eq_getElem hk, ?_⟩
  unfold iv
  simp [List.getElem?_eq_getElem hk]
theorem rowTx_bad {r : List Int} {x : Int} (h : x ∈ r) (hx : ¬ NumOk x) : rowTx r = [] := if_neg fun h' => hx (h'.2.2 x h)
set_option maxRecDepth 20000 in
set_option maxHeartbeats 800000 in
theorem impl_RowText (v : Value) (r : List Int) (w : World) (h : Ints w v r) (hl : LibW w) : Calls Tryd.prog 20 #[v] w fun e w' => e = .returned (.string (mkS (rowTx r))) ∧ Below w.heap.size w w' := by
  have HL := Lib.hid hl
  have H := Lib.hid h
  obtain ⟨ad, c, rfl, hmax, hop⟩ := h.open
  unfold maxLen at hmax
  have HOP := Lib.hid hop
  clear hop h hl
  obtain ⟨n, hn⟩ : ∃ n, r.length = n := ⟨_, rfl⟩
  have HN := Lib.hid hn
  rw [hn] at H HOP hmax ⊢
  clear hn
  by_cases hin : 1 ≤ n ∧ n ≤ 6
  · have HI : Hid (inB (n : Int) 1 6 = true) := inB_true (by omega) (by omega)
    obtain ⟨hn1, hn6⟩ := hin
    go_enter Tryd.func20, Tryd.ntmps20
    go_wp2_with (go_at_call 46; refine (in_any _ _ _ _).mono ?_; rw [HI.out]; rintro e w' ⟨rfl, rfl⟩)
    go_loopg [3, 5, 12] n (fun gg u _ i wr => ∃ k : Nat, k ≤ n ∧ n - k ≤ gg ∧ i = .int .i64 (k : Int) ∧ Hid (Gr wr w.heap.size 9 1 u k (strs (numsS (r.take k)))) ∧ Hid (∀ x ∈ r.take k, NumOk x) ∧ Hid (Below w.heap.size w wr))
    case atStart => exact ⟨0, Nat.zero_le _, Nat.le_refl _, rfl, Gr.nil _ _ _ _, (fun x hx => by simp at hx), Below.refl _ _⟩
    case round =>
      obtain ⟨k, hk, hgg, rfl, hG, hO, hB⟩ := hrel
      obtain ⟨au, cu, hu⟩ := hG.out.lit
      subst hu
      by_cases hlt : k < n
      · have HLT := Lib.hid hlt
        obtain ⟨b, off, rfl, hcell⟩ := HOP.out k hlt
        obtain ⟨x, hx, hv⟩ := iv_get (r := r) (k := k) (by rw [HN.out]; exact hlt)
        have d0 := hcell k hlt
        have d0 := (hB.out.cell (p := ⟨b, off + k, none⟩) (World.block_lt_of_cell? w _ d0)).trans (d0.trans (congrArg some hv))
        have HX := Lib.hid hx
        have HLr := Lib.hid (HL.out.mono hB.out (Nat.le_refl _))
        clear hcell hx hv
        by_cases hok : NumOk x
        · have HOKB : Hid (inB x (-100000) 100000 = true) := by rw [inB_num]; exact decide_eq_true hok
          have HE : Hid (numTx x = Lib.itoa x) := if_pos hok
          have HOK := Lib.hid hok
          clear hok
          go_wp2_with (go_at_call 47; refine (isValueT_any _ _).mono ?_; rw [HOKB.out]; rintro e w' ⟨rfl, rfl⟩)
          refine (impl_NumberText x wr HLr.out).mono ?_
          rintro e w1 ⟨rfl, hb⟩
          rw [HE.out]
          have hB1 := nxt hB hb
          have hG1 := Lib.hid (hG.out.mono hb (Nat.le_refl _))
          clear hb hG hB d0
          go_wp2_with (at_builtin; refine wpList_app _ rfl (.tmp 19) (.tmp 22) 23 rfl w.heap.size 9 (.string ByteArray.empty) 1 16 Tryd.underlying23 Tryd.infoStr rfl (by omega) (.slice au k cu) k (strs (numsS (r.take k))) rfl (hG1.out.alloc _) _ 1 [.string (mkS (Lib.itoa x))] rfl (view_one _ _ _) (by simp [Value.oneCell']) (by unfold maxLen; omega) (by omega) (by have := hB1.out.size; simp; omega) ?_; intro v2 w2 g2 r2 k2; have hG2 := Lib.hid g2; have hR2 := Lib.hid r2; clear g2 r2 k2)
          go_roundg (n - (k + 1))
          case rel =>
            refine ⟨k + 1, HLT.out, Nat.le_refl _, by go_num, ?_, ?_, ?_⟩
            · have := hG2.out
              unfold Hid
              rw [numsS_snoc HX.out, show ∀ l : List ByteArray, strs (l ++ [mkS (Lib.itoa x)]) = strs l ++ [.string (mkS (Lib.itoa x))] by intro l; simp [strs]]
              exact this
            · intro y hy
              rw [List.take_add_one, HX.out] at hy
              rcases List.mem_append.1 hy with h | h
              · exact hO.out y h
              · obtain rfl : y = x := by simpa using h
                exact HOK.out
            · exact (hB1.out.alloc hB1.out.size _).grown hR2.out (by have := hB1.out.size; simp; omega) (fun g hg => (hG1.out.lt g hg).1)
          case measure => have := HLT.out; omega
        · have HOKB : Hid (inB x (-100000) 100000 = false) := by rw [inB_num]; exact decide_eq_false hok
          have HBAD := Lib.hid (rowTx_bad (List.mem_of_getElem? HX.out) hok)
          clear hok
          go_wp2_with (go_at_call 47; refine (isValueT_any _ _).mono ?_; rw [HOKB.out]; rintro e w' ⟨rfl, rfl⟩)
          go_ret
          exact ⟨by rw [HBAD.out]; rfl, hB.out⟩
      · obtain rfl : k = n := by omega
        have htk : r.take k = r := by rw [← HN.out, List.take_length]
        have hG1 := hG.out
        have hO1 := hO.out
        rw [htk] at hG1 hO1
        have HROW : Hid (RowOk r) := ⟨by rw [HN.out]; exact hn1, by rw [HN.out]; exact hn6, hO1⟩
        have HTX : Hid (rowTx r = rowT r) := if_pos HROW.out
        obtain ⟨g, c9, hv9, -, hcap, -, -, hcl, -⟩ := hG1.at (by omega)
        cases hv9
        have hln : (numsS r).length = k := by rw [numsS, List.length_map]; exact HN.out
        have hgl : g < wr.heap.size := (hG1.lt g (by simp [gBlock]; omega)).2
        have hJ := Tryd.strings_Join g 0 cu (numsS r) ⟨#[32]⟩ wr (fun j y hj => by
          rw [Nat.zero_add]
          refine hcl j _ ?_
          unfold strs
          rw [List.getElem?_map, hj]; rfl) hgl (by omega) (by omega) (by
          rw [numsS_tx]
          have := rowT_len HROW.out
          exact Nat.le_trans this (by decide))
        rw [hln, numsS_tx] at hJ
        have HJ := Lib.hid hJ
        clear hcl hG1 hO1 htk hln hJ hG hO
        go_wp2_with fail
        refine HJ.out.mono ?_
        rintro e w1 ⟨rfl, hb⟩
        have hB1 := nxt hB hb
        clear hb
        go_wp2
        go_ret
        exact ⟨by rw [HTX.out]; rfl, hB1.out⟩
  · have HI : Hid (inB (n : Int) 1 6 = false) := inB_not.2 (by omega)
    have HTX : Hid (rowTx r = []) := if_neg (fun h => hin (by have h1 := h.1; have h2 := h.2.1; rw [HN.out] at h1 h2; exact ⟨h1, h2⟩))
    clear hin
    go_enter Tryd.func20, Tryd.ntmps20
    go_wp2_with (go_at_call 46; refine (in_any _ _ _ _).mono ?_; rw [HI.out]; rintro e w' ⟨rfl, rfl⟩)
    go_ret
    exact ⟨by rw [HTX.out]; rfl, Below.refl _ _⟩
theorem join_snoc {ws : List (List UInt8)} {sep x : List UInt8} (h : ws ≠ []) : Lib.join (ws ++ [x]) sep = Lib.join ws sep ++ (sep ++ x) := by
  rw [join_append _ _ h]; simp [Lib.joinTail]
theorem str_ne {l : List UInt8} (h : l ≠ []) : ¬ (mkS l).toList = [] := by
  rw [ByteArray.toList_eq]
  show ¬ tx (mkS l) = []
  rw [tx_mkS]; exact h
theorem str_neB {l : List UInt8} (h : l ≠ []) : (mkS l).toList.isEmpty = false := by
  cases he : (mkS l).toList with
  | nil => exact absurd he (str_ne h)
  | cons a b => rfl
theorem str_nil : (mkS []).toList = [] := by
  rw [ByteArray.toList_eq]; rfl
set_option maxRecDepth 20000 in
set_option maxHeartbeats 800000 in
theorem spec_RowText (v : Value) (r : List Int) (w : World) (h : Ints w v r) : Calls Tryd.prog 21 #[v] w fun e w' => e = .returned (.string (mkS (rowTx r))) ∧ Below w.heap.size w w' := by
  have H := Lib.hid h
  obtain ⟨ad, c, rfl, hmax, hop⟩ := h.open
  unfold maxLen at hmax
  have HOP := Lib.hid hop
  clear hop h
  obtain ⟨n, hn⟩ : ∃ n, r.length = n := ⟨_, rfl⟩
  have HN := Lib.hid hn
  rw [hn] at H HOP hmax ⊢
  clear hn
  go_enter Tryd.func21, Tryd.ntmps21
  go_wp2
  go_loopg [3, 4] n (fun gg s i wr => ∃ (k : Nat) (o : ByteArray), k ≤ n ∧ n - k ≤ gg ∧ i = .int .i64 (k : Int) ∧ s = .string o ∧ Hid (tx o = Lib.join ((r.take k).map Lib.itoa) spL) ∧ Hid (∀ x ∈ r.take k, NumOk x) ∧ Hid (0 < k → n ≤ 6) ∧ Hid (Below w.heap.size w wr))
  case atStart => exact ⟨0, ⟨#[]⟩, Nat.zero_le _, Nat.le_refl _, rfl, rfl, rfl, (fun x hx => by simp at hx), (fun h => absurd h (Nat.lt_irrefl _)), Below.refl _ _⟩
  case round =>
    obtain ⟨k, o, hk, hgg, rfl, rfl, hT, hO, h6, hB⟩ := hrel
    by_cases hlt : k < n
    · have HLT := Lib.hid hlt
      obtain ⟨b, off, rfl, hcell⟩ := HOP.out k hlt
      obtain ⟨x, hx, hv⟩ := iv_get (r := r) (k := k) (by rw [HN.out]; exact hlt)
      have d0 := hcell k hlt
      have hbk := World.block_lt_of_cell? w _ d0
      have d0 := (hB.out.cell (p := ⟨b, off + k, none⟩) hbk).trans (d0.trans (congrArg some hv))
      have D0 := Lib.hid d0
      have HBK := Lib.hid (Nat.lt_of_lt_of_le hbk hB.out.size)
      have HX := Lib.hid hx
      clear hcell hx hv hbk
      by_cases hok : NumOk x
      · have HE : Hid (numTx x = Lib.itoa x) := if_pos hok
        have HOK := Lib.hid hok
        have hne : Lib.itoa x ≠ [] := (itoa_PW hok).1
        have hs1 := str_ne hne
        have hs2 := str_neB hne
        clear hok hne
        by_cases hn6 : n ≤ 6
        · have hos : o.size ≤ 100 := by
            have h1 := join_len (sep := spL) (L := 7) (ps := (r.take k).map Lib.itoa) (fun p hp => by
              obtain ⟨y, hy, rfl⟩ := List.mem_map.1 hp
              exact (itoa_len (hO.out y hy)).2)
            rw [← hT.out, tx_size, List.length_map, List.length_take] at h1
            have h2 : min k r.length ≤ 6 := by omega
            have h3 := Nat.mul_le_mul_right (7 + spL.length) h2
            have h4 : 6 * (7 + spL.length) = 48 := rfl
            omega
          have hxs : (mkS (Lib.itoa x)).size ≤ 7 := by rw [mkS_size]; exact (itoa_len HOK.out).2
          have hn6' : ¬ (6 : Int) < (n : Int) := by omega
          go_wp2_with fail
          refine (spec_NumberText x wr).mono ?_
          rw [HE.out]
          rintro e w1 ⟨rfl, hb⟩
          have hB1 := nxt hB hb
          have d1 := (hb.cell (p := ⟨b, off + k, none⟩) HBK.out).trans D0.out
          clear hb d0
          by_cases hk0 : k = 0
          · subst hk0
            have HO0 : Hid (o = ⟨#[]⟩) := tx_inj hT.out
            rw [Nat.add_zero] at d1
            go_wp2_with fail
            refine (spec_NumberText x w1).mono ?_
            rw [HE.out]
            rintro e w2 ⟨rfl, hb⟩
            have hB2 := nxt hB1 hb
            clear hb d1
            go_wp2_with fail
            go_roundg (n - (0 + 1))
            case rel =>
              refine ⟨0 + 1, o ++ mkS (Lib.itoa x), HLT.out, Nat.le_refl _, by go_num, rfl, ?_, ?_, fun _ => hn6, hB2.out⟩
              · unfold Hid
                rw [tx_append, tx_mkS, HO0.out, List.take_add_one, HX.out]
                simp [Lib.join_one, tx]
              · intro y hy
                rw [List.take_add_one, HX.out] at hy
                obtain rfl : y = x := by simpa using hy
                exact HOK.out
            case measure => have := HLT.out; omega
          · have hk1 : (0 : Int) < (k : Int) := by omega
            have HK0 := Lib.hid hk0
            clear hk0
            go_wp2_with fail
            refine (spec_NumberText x w1).mono ?_
            rw [HE.out]
            rintro e w2 ⟨rfl, hb⟩
            have hB2 := nxt hB1 hb
            have hsz : (o ++ (⟨#[32]⟩ : ByteArray)).size ≤ 200 := by rw [← tx_size, tx_append, List.length_append, tx_size]; show o.size + 1 ≤ 200; omega
            clear hb d1
            go_wp2_with fail
            go_roundg (n - (k + 1))
            case rel =>
              refine ⟨k + 1, (o ++ ⟨#[32]⟩) ++ mkS (Lib.itoa x), HLT.out, Nat.le_refl _, by go_num, rfl, ?_, ?_, fun _ => hn6, hB2.out⟩
              · unfold Hid
                rw [tx_append, tx_append, tx_mkS, hT.out, List.take_add_one, HX.out]
                simp only [Option.toList_some, List.map_append, List.map_cons, List.map_nil]
                rw [join_snoc (fun e => by
                  have := congrArg List.length e
                  rw [List.length_map, List.length_take] at this
                  have h1 := HN.out; have h2 := HLT.out; have h3 := HK0.out
                  have h1 : r.length = n := h1
                  have h2 : k < n := h2
                  have h3 : ¬ k = 0 := h3
                  rw [List.length_nil] at this; omega), List.append_assoc]
                rfl
              · intro y hy
                rw [List.take_add_one, HX.out] at hy
                rcases List.mem_append.1 hy with h | h
                · exact hO.out y h
                · obtain rfl : y = x := by simpa using h
                  exact HOK.out
            case measure => have := HLT.out; omega
        · have HTX : Hid (rowTx r = []) := if_neg (fun h => hn6 (by have := h.2.1; rw [HN.out] at this; exact this))
          have hn6' : (6 : Int) < (n : Int) := by omega
          go_wp2_with fail
          refine (spec_NumberText x wr).mono ?_
          rw [HE.out]
          rintro e w1 ⟨rfl, hb⟩
          have hB1 := nxt hB hb
          clear hb d0
          go_wp2
          go_ret
          exact ⟨by rw [HTX.out]; rfl, hB1.out⟩
      · have HTX := Lib.hid (rowTx_bad (List.mem_of_getElem? HX.out) hok)
        have HE : Hid (numTx x = []) := if_neg hok
        have hs1 := str_nil
        clear hok
        go_wp2_with fail
        refine (spec_NumberText x wr).mono ?_
        rw [HE.out]
        rintro e w1 ⟨rfl, hb⟩
        have hB1 := nxt hB hb
        clear hb d0
        go_wp2
        go_ret
        exact ⟨by rw [HTX.out]; rfl, hB1.out⟩
    · obtain rfl : k = n := by omega
      have htk : r.take k = r := by rw [← HN.out, List.take_length]
      have HTX : Hid (mkS (rowTx r) = o) := by
        apply tx_inj
        rw [tx_mkS, hT.out, htk]
        have hO1 := hO.out
        rw [htk] at hO1
        rcases Nat.eq_zero_or_pos k with h0 | h0
        · have hr : r = [] := List.eq_nil_of_length_eq_zero (by rw [HN.out]; exact h0)
          subst hr
          rfl
        · exact if_pos ⟨by rw [HN.out]; exact h0, by rw [HN.out]; exact h6.out h0, hO1⟩
      clear htk
      go_wp2
      go_ret
      exact ⟨by rw [HTX.out]; rfl, hB.out⟩
end Go.Proofs.YtajgghifamebkaaDoor
