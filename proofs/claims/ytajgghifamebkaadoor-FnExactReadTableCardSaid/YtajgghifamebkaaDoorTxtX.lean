/- rows read: the program's readRow -/
import Derived.Test.YtajgghifamebkaaDoorTxtV
import Derived.Lib.SplitLaws
namespace Go.Proofs.YtajgghifamebkaaDoor
set_option linter.unusedSimpArgs false
set_option linter.unusedVariables false
open Go.RowKit
open Go
theorem splitK_len (sep : List UInt8) (save : Nat) (hs : save = 0) : ∀ (k : Nat) (s : List UInt8), ∀ p ∈ Lib.splitK sep save k s, p.length ≤ s.length
  | 0, s => fun p hp => by
    obtain rfl : p = s := by simpa [Lib.splitK] using hp
    exact Nat.le_refl _
  | k + 1, s => fun p hp => by
    unfold Lib.splitK at hp
    split at hp
    · obtain rfl : p = s := by simpa using hp
      exact Nat.le_refl _
    · rcases List.mem_cons.1 hp with rfl | hp
      · rw [List.length_take]; omega
      · have := splitK_len sep save hs k _ p hp
        rw [List.length_drop] at this
        omega
theorem split_len (s sep : List UInt8) : ∀ p ∈ Lib.split s sep, p.length ≤ s.length := splitK_len sep 0 rfl _ s
theorem Split_any (s sep : ByteArray) (w : World) (hl : LibW w) (hs : s.size ≤ 4000000) (h1 : 1 ≤ sep.size) : Calls Tryd.prog 32 #[.string s, .string sep] w fun e w' =>
    ∃ ss, e = .returned (.slice (some ⟨w.heap.size, 0, none⟩) ss.length ss.length) ∧ txs ss = Lib.split (tx s) (tx sep) ∧ Row w' w.heap.size 9 (strs ss) ∧ 1 ≤ ss.length ∧ ss.length ≤ 4000001 ∧ (∀ x ∈ ss, x.size ≤ s.size) ∧ Below w.heap.size w w' := by
  obtain ⟨m, hm⟩ := hl.max
  refine (Tryd.strings_Split s sep m w (by omega) hm h1).mono ?_
  rintro e w' ⟨rfl, rfl⟩
  have hlen := Lib.splitB_all sep h1 0 (Lib.countB s sep) s rfl
  have htx : txs (Lib.splitB sep 0 (Lib.countB s sep) s) = Lib.split (tx s) (tx sep) := Lib.splitB_data sep 0 (Lib.countB s sep) s
  refine ⟨Lib.splitB sep 0 (Lib.countB s sep) s, by rw [hlen], htx, Row.new w 9 (strs (Lib.splitB sep 0 (Lib.countB s sep) s)), by omega, ?_, fun x hx => ?_, (Below.refl _ _).alloc (Nat.le_refl _) _⟩
  · have := Lib.countB_le sep h1 s.size s (Nat.le_refl _)
    omega
  · have := split_len (tx s) (tx sep) (tx x) (by rw [← htx]; exact List.mem_map_of_mem hx)
    rwa [tx_size, tx_size] at this
def RowRd (s : List UInt8) (w : World) (e : Ending) (w' : World) : Prop :=
  (∃ u r, RowOk r ∧ rowT r = s ∧ e = .returned (.tuple #[u, .bool true]) ∧ Gr w' w.heap.size 3 1 u r.length (ints r)) ∨ ((∀ r, RowOk r → rowT r ≠ s) ∧ ∃ ad n c, e = .returned (.tuple #[.slice ad n c, .bool false]))
theorem strs_at {ss : List ByteArray} {k : Nat} (hk : k < ss.length) : ∃ x, ss[k]? = some x ∧ (strs ss)[k]? = some (.string x) :=
  ⟨ss[k], List.getElem?_eq_getElem hk, by unfold strs; rw [List.getElem?_map, List.getElem?_eq_getElem hk]; rfl⟩
theorem map_itoa_take {r r' : List Int} {k : Nat} {ws : List (List UInt8)} (hr : RowOk r) (hw : r.map Lib.itoa = ws) (h' : ∀ x ∈ r', NumOk x) (hm : r'.map Lib.itoa = ws.take k) : r' = r.take k := by
  refine map_itoa_inj h' (fun x hx => hr.2.2 x (List.mem_of_mem_take hx)) ?_
  rw [hm, ← hw, List.map_take]
set_option maxRecDepth 20000 in
set_option maxHeartbeats 800000 in
theorem impl_readRow (s : ByteArray) (w : World) (hl : LibW w) (hs : s.size ≤ 4000000) : Calls Tryd.prog 33 #[.string s] w fun e w' => RowRd (tx s) w e w' ∧ Below w.heap.size w w' := by
  have HL := Lib.hid hl
  clear hl
  go_enter Tryd.func33, Tryd.ntmps33
  go_wp2_with fail
  refine (Split_any s ⟨#[32]⟩ w HL.out hs (by decide)).mono ?_
  rintro e w1 ⟨ss, rfl, htx, hrow, hs1, hs2, hsz, hb⟩
  have HTX : Hid (txs ss = Lib.split (tx s) spL) := htx
  have HR := Lib.hid hrow
  have HSZ := Lib.hid hsz
  have HB := Lib.hid hb
  obtain ⟨n, hn⟩ : ∃ n, ss.length = n := ⟨_, rfl⟩
  have HN := Lib.hid hn
  rw [hn] at hs1 hs2 ⊢
  obtain ⟨g, hg⟩ : ∃ g, w.heap.size = g := ⟨_, rfl⟩
  have HG := Lib.hid hg
  rw [hg] at HR
  clear htx hrow hsz hb hn
  go_wp2
  try rw [hg]
  go_loopg [4, 6, 7, 8, 12] n (fun gg u _ _ _ i wr => ∃ (k : Nat) (r : List Int), k ≤ n ∧ n - k ≤ gg ∧ i = .int .i64 (k : Int) ∧ r.length = k ∧ Hid (Gr wr w.heap.size 3 1 u k (ints r)) ∧ Hid (∀ x ∈ r, NumOk x) ∧ Hid (r.map Lib.itoa = (Lib.split (tx s) spL).take k) ∧ Hid (Row wr g 9 (strs ss)) ∧ Hid (Below w.heap.size w wr))
  case atStart => exact ⟨0, [], Nat.zero_le _, Nat.le_refl _, rfl, rfl, Gr.nil _ _ _ _, (fun x hx => by cases hx), rfl, HR.out, HB.out⟩
  case round =>
    clear HR HB
    obtain ⟨k, r, hk, hgg, rfl, hrl, hG, hO, hM, hX, hB⟩ := hrel
    have HRL := Lib.hid hrl
    clear hrl
    obtain ⟨au, cu, hu⟩ := hG.out.lit
    subst hu
    by_cases hlt : k < n
    · have HLT := Lib.hid hlt
      obtain ⟨x, hx, hxs⟩ := strs_at (ss := ss) (k := k) (by rw [HN.out]; exact hlt)
      have d0 := hX.out.cell (i := k) hxs
      have hsx : x.size ≤ 4000000 := Nat.le_trans (HSZ.out x (List.mem_of_getElem? hx)) hs
      have HW : Hid ((Lib.split (tx s) spL)[k]? = some (tx x)) := by
        unfold Hid
        rw [← HTX.out]
        unfold txs
        rw [List.getElem?_map, hx]; rfl
      have HLr := Lib.hid (HL.out.mono hB.out (Nat.le_refl _))
      clear hx hxs
      go_wp2_with fail
      refine (impl_ReadNumber x wr HLr.out hsx).mono ?_
      rintro e w2 ⟨hnr, hb⟩
      have hB2 := nxt hB hb
      have hX2 := Lib.hid (hX.out.mono hb hX.out.lt)
      have hG2 := Lib.hid (hG.out.mono hb (Nat.le_refl _))
      clear hb hX hG d0
      rcases hnr with ⟨m, hm, hme, rfl⟩ | ⟨hno, rfl⟩
      · have HM := Lib.hid hm
        have HME := Lib.hid hme
        clear hm hme
        go_wp2_with (at_builtin; refine wpList_app _ rfl (.tmp 23) (.tmp 25) 38 rfl w.heap.size 3 (.int .i64 0) 1 8 Tryd.underlying38 Tryd.infoInt rfl (by omega) (.slice au k cu) k (ints r) rfl (hG2.out.alloc _) _ 1 [.int .i64 m] rfl (view_one _ _ _) (by simp [Value.oneCell']) (by unfold maxLen; omega) (by omega) (by have := hB2.out.size; simp; omega) ?_; intro v3 w3 g3 r3 k3; have hG3 := Lib.hid g3; have hR3 := Lib.hid r3; have hK3 := Lib.hid k3; clear g3 r3 k3)
        go_roundg (n - (k + 1))
        case rel =>
          have hba : Below w2.heap.size w2 (w2.alloc (.cells #[.int .i64 m] 3)) := (Below.refl _ _).alloc (Nat.le_refl _) _
          have hXa := hX2.out.mono hba hX2.out.lt
          refine ⟨k + 1, r ++ [m], HLT.out, Nat.le_refl _, by go_num, by rw [List.length_append, HRL.out]; rfl, ?_, ?_, ?_, hXa.grown hR3.out (fun e => row_ne hG2.out hX2.out (by decide) _ e rfl), (hB2.out.alloc hB2.out.size _).grown hR3.out (by have := hB2.out.size; simp; omega) (fun g hg => (hG2.out.lt g hg).1)⟩
          · have := hG3.out
            unfold Hid
            rw [show ints (r ++ [m]) = ints r ++ [.int .i64 m] by simp [ints]]
            exact this
          · intro y hy
            rcases List.mem_append.1 hy with h | h
            · exact hO.out y h
            · obtain rfl : y = m := by simpa using h
              exact HM.out
          · unfold Hid
            rw [List.map_append, hM.out, List.take_add_one, HW.out, List.map_cons, HME.out]; rfl
        case measure => have := HLT.out; omega
      · have HNO : Hid (∀ r', RowOk r' → rowT r' ≠ tx s) := fun r' hr' e => by
          have h1 := rowT_words hr'
          rw [e] at h1
          have h2 := HW.out
          rw [h1, List.getElem?_map] at h2
          cases h3 : r'[k]? with
          | none => rw [h3] at h2; cases h2
          | some m =>
            rw [h3] at h2
            exact hno m (hr'.2.2 m (List.mem_of_getElem? h3)) (Option.some.inj h2)
        clear hno
        go_wp2
        exact bodyPost_ret (v := .tuple #[.slice none 0 0, .bool false]) (by simp [results, Tryd.results33, go_sem]) rfl ⟨.inr ⟨HNO.out, _, _, _, rfl⟩, by first | exact hB2.out | (rw [← HG.out]; exact hB2.out)⟩
    · obtain rfl : k = n := by omega
      have HALL : Hid (r.map Lib.itoa = Lib.split (tx s) spL) := by
        have := hM.out
        rw [List.take_of_length_le (by rw [← HTX.out, txs_length, HN.out]; exact Nat.le_refl _)] at this
        exact this
      have HLr := Lib.hid (HL.out.mono hB.out (Nat.le_refl _))
      have HI : Hid (Ints wr (.slice au k cu) r) := by unfold Hid Ints; rw [HRL.out]; exact hG.out.view
      clear hM hX hlt
      go_wp2_with fail
      refine (impl_RowText _ r wr HI.out HLr.out).mono ?_
      rintro e w2 ⟨rfl, hb⟩
      have hB2 := nxt hB hb
      have hG2 := Lib.hid (hG.out.mono hb (Nat.le_refl _))
      clear hb hG
      by_cases hx : rowTx r = tx s
      · have hxx : ((mkS (rowTx r)).toList == s.toList) = true := by rw [tx_eq, tx_mkS, hx]; simp
        have HX : Hid (RowOk r ∧ rowT r = tx s) := by
          by_cases hv : RowOk r
          · rw [rowTx, if_pos hv] at hx; exact ⟨hv, hx⟩
          · rw [rowTx, if_neg hv] at hx
            have h1 := HALL.out
            rw [← hx] at h1
            have h2 : Lib.split [] spL = [[]] := split_last (o := 0) (c := 32) rfl (by simp)
            rw [h2] at h1
            cases hr : r with
            | nil => rw [hr] at h1; simp at h1
            | cons m t =>
              rw [hr] at h1
              simp only [List.map_cons, List.cons.injEq] at h1
              exact absurd h1.1 (itoa_PW (hO.out m (by rw [hr]; simp))).1
        clear hx
        go_wp2_with fail
        exact bodyPost_ret (v := .tuple #[.slice au k cu, .bool true]) (by simp [results, Tryd.results33, go_sem]) rfl ⟨.inl ⟨_, r, HX.out.1, HX.out.2, rfl, by first | (rw [HRL.out]; exact hG2.out) | (rw [HRL.out, ← HG.out]; exact hG2.out)⟩, by first | exact hB2.out | (rw [← HG.out]; exact hB2.out)⟩
      · have hxx : ((mkS (rowTx r)).toList == s.toList) = false := by rw [tx_eq, tx_mkS]; simpa using hx
        have HNO : Hid (∀ r', RowOk r' → rowT r' ≠ tx s) := fun r' hr' e => by
          have h1 := rowT_words hr'
          rw [e, ← HALL.out] at h1
          have h2 := map_itoa_inj hO.out hr'.2.2 h1
          subst h2
          exact hx (by rw [rowTx, if_pos hr', e])
        clear hx
        go_wp2_with fail
        exact bodyPost_ret (v := .tuple #[.slice au k cu, .bool false]) (by simp [results, Tryd.results33, go_sem]) rfl ⟨.inr ⟨HNO.out, _, _, _, rfl⟩, by first | exact hB2.out | (rw [← HG.out]; exact hB2.out)⟩
end Go.Proofs.YtajgghifamebkaaDoor
