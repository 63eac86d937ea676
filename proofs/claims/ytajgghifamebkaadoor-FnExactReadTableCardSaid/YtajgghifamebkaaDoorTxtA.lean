/- words, as the reference cuts them: l24Words -/
import Derived.Test.YtajgghifamebkaaDoorTxtZ
import Derived.StillTailTactics
namespace Go.Proofs.YtajgghifamebkaaDoor
set_option linter.unusedSimpArgs false
set_option linter.unusedVariables false
open Go.RowKit
open Go
theorem tx_extract1 {s : ByteArray} {k : Nat} (hk : k < s.size) : tx (s.extract k (k + 1)) = [s[k]] := by
  show (s.extract k (k + 1)).data.toList = [s[k]]
  rw [Lib.extract_data]
  have h : s.data.toList[k]? = some s[k] := by rw [Array.getElem?_toList, Array.getElem?_eq_getElem (by simpa using hk)]; rfl
  have h2 : (s.data.toList.drop k).take 1 = [s[k]] := by
    rw [List.drop_eq_getElem_cons (List.getElem?_eq_some_iff.1 h).1]
    simp only [List.take_succ_cons, List.take_zero]
    rw [(List.getElem?_eq_some_iff.1 h).2]
  first
    | exact h2
    | (rw [show k + 1 - k = 1 by omega]; exact h2)
    | simpa using h2
theorem txs_snoc (ws : List ByteArray) (q : ByteArray) : txs (ws ++ [q]) = txs ws ++ [tx q] := by simp [txs]
theorem list_last {α : Type} {l : List α} (h : l ≠ []) : ∃ a q, l = a ++ [q] := by
  rcases List.eq_nil_or_concat l with h' | ⟨a, q, h'⟩
  · exact absurd h' h
  · exact ⟨a, q, by rw [h', List.concat_eq_append]⟩
set_option maxRecDepth 20000 in
set_option maxHeartbeats 800000 in
theorem spec_words (s : ByteArray) (w : World) (hs : s.size ≤ 4000000) : Calls Tryd.prog 37 #[.string s] w fun e w' =>
    ∃ u ws, e = .returned u ∧ txs ws = wordsL (tx s) ∧ Gr w' w.heap.size 9 1 u ws.length (strs ws) ∧ ws.length ≤ s.size + 1 ∧ (∀ x ∈ ws, x.size ≤ s.size) ∧ Below w.heap.size w w' := by
  have HB0 : Hid (Below w.heap.size w (w.alloc (.cells #[.string ⟨#[]⟩] 9))) := (Below.refl _ _).alloc (Nat.le_refl _) _
  have HG0 : Hid (Gr (w.alloc (.cells #[.string ⟨#[]⟩] 9)) w.heap.size 9 1 (.slice (some ⟨w.heap.size, 0, none⟩) 1 1) 1 (strs [⟨#[]⟩])) :=
    Gr.of_made (n := 1) (sz := 1) (Row.new w 9 (strs [⟨#[]⟩])) rfl (by unfold maxLen; omega) (Nat.le_refl _)
  go_enter Tryd.func37, Tryd.ntmps37
  go_wp2
  go_loopg [3, 4] s.size (fun gg u i wr => ∃ (k : Nat) (a : List ByteArray) (q : ByteArray), k ≤ s.size ∧ s.size - k ≤ gg ∧ i = .int .i64 (k : Int) ∧ a.length ≤ k ∧ q.size ≤ k ∧ Hid (txs (a ++ [q]) = wordsL ((tx s).take k)) ∧ Hid (Gr wr w.heap.size 9 1 u (a.length + 1) (strs (a ++ [q]))) ∧ Hid (∀ x ∈ a, x.size ≤ s.size) ∧ Hid (Below w.heap.size w wr))
  case atStart => exact ⟨0, [], ⟨#[]⟩, Nat.zero_le _, Nat.le_refl _, rfl, Nat.le_refl _, Nat.le_refl _, rfl, HG0.out, (fun x hx => by cases hx), HB0.out⟩
  case round =>
    clear HG0 HB0
    obtain ⟨k, a, q, hk, hgg, rfl, ha, hq, hT, hG, hS, hB⟩ := hrel
    obtain ⟨n, hn⟩ : ∃ n, a.length = n := ⟨_, rfl⟩
    have HN := Lib.hid hn
    rw [hn] at ha hG
    clear hn
    obtain ⟨au, cu, hu⟩ := hG.out.lit
    subst hu
    by_cases hlt : k < s.size
    · have HLT := Lib.hid hlt
      have HC : Hid ((tx s)[k]? = some s[k]) := by unfold Hid tx; rw [Array.getElem?_toList, Array.getElem?_eq_getElem (by simpa using hlt)]; rfl
      by_cases h32 : ((s[k].toNat : Nat) : Int) = 32
      · have H32 : Hid (s[k] = 32) := UInt8.toNat_inj.1 (by show s[k].toNat = 32; omega)
        have h32b : (((s[k].toNat : Nat) : Int) == 32) = true := by simpa using h32
        have HQ := Lib.hid hq
        go_wp2_with (at_builtin; refine wpList_app _ rfl (.tmp 16) (.tmp 17) 23 rfl w.heap.size 9 (.string ByteArray.empty) 1 16 Tryd.underlying23 Tryd.infoStr rfl (by omega) (.slice au (n + 1) cu) (n + 1) (strs (a ++ [q])) rfl (hG.out.alloc _) _ 1 [.string ⟨#[]⟩] rfl (view_one _ _ _) (by simp [Value.oneCell']) (by unfold maxLen; omega) (by omega) (by have := hB.out.size; simp; omega) ?_; intro v2 w2 g2 r2 k2; have hG2 := Lib.hid g2; have hR2 := Lib.hid r2; clear g2 r2 k2)
        go_roundg (s.size - (k + 1))
        case rel =>
          refine ⟨k + 1, a ++ [q], ⟨#[]⟩, HLT.out, Nat.le_refl _, by go_num, by rw [List.length_append, HN.out]; simp; omega, Nat.zero_le _, ?_, ?_, ?_, (hB.out.alloc hB.out.size _).grown hR2.out (by have := hB.out.size; simp; omega) (fun g hg => (hG.out.lt g hg).1)⟩
          · unfold Hid
            rw [txs_snoc, hT.out, take_snoc HC.out, words_snoc, H32.out, step_sp]; rfl
          · have := hG2.out
            unfold Hid
            rw [show (a ++ [q]).length = n + 1 by rw [List.length_append, HN.out]; rfl, show strs ((a ++ [q]) ++ [⟨#[]⟩]) = strs (a ++ [q]) ++ [.string ⟨#[]⟩] by simp [strs]]
            exact this
          · intro x hx
            rcases List.mem_append.1 hx with h | h
            · exact hS.out x h
            · obtain rfl : x = q := by simpa using h
              have := HQ.out; have := HLT.out; omega
        case measure => have := HLT.out; omega
      · have H32 : Hid (s[k] ≠ 32) := fun e => h32 (by rw [e]; rfl)
        have h32b : (((s[k].toNat : Nat) : Int) == 32) = false := by simpa using h32
        obtain ⟨g, c9, hv9, hBg, hcap, -, hfr, hcl, hset⟩ := hG.out.at (by omega)
        cases hv9
        have d0 : wr.cell? ⟨g, n, none⟩ = some (.string q) := hcl n _ (by
          unfold strs
          rw [List.getElem?_map, List.getElem?_append_right (by rw [HN.out]; exact Nat.le_refl _), HN.out]; simp)
        have f0 : wr.frozen? ⟨g, n, none⟩ = false := hfr n
        have hes : (s.extract k (k + 1)).size = 1 := by rw [← tx_size, tx_extract1 hlt]; rfl
        have hk1 : (k : Int) + 1 ≤ (s.size : Int) := by omega
        have hn4 : n ≤ 4000000 := by omega
        have hwk : IntKind.i64.wrap ((k : Int) + 1) = (k : Int) + 1 := IntWalk.i64_in _ ⟨by omega, by omega⟩
        have hkk : (k : Int) ≤ (k : Int) + 1 := by omega
        have hnn : (n : Int) < (n : Int) + 1 := by omega
        have hwn : IntKind.i64.wrap (n : Int) = (n : Int) := IntWalk.i64_in _ ⟨by omega, by omega⟩
        have hcat : (q ++ s.extract k (k + 1)).size ≤ 4000001 := by rw [← tx_size, tx_append, List.length_append, tx_size, tx_size, hes]; omega
        have hq1 : ¬ 9223372036854775807 < q.size + 1 := by omega
        have HSET := Lib.hid (hset n (.string (q ++ s.extract k (k + 1))) (by omega))
        have HQ := Lib.hid hq
        have HBG := Lib.hid hBg
        have HE := Lib.hid (tx_extract1 hlt)
        clear hcl hset hfr h32
        go_wp2
        go_still_tail 17, (by kernel_rfl)
        go_wp2
        go_roundg (s.size - (k + 1))
        case rel =>
          refine ⟨k + 1, a, q ++ s.extract k (k + 1), HLT.out, Nat.le_refl _, by go_num, by rw [HN.out]; omega, ?_, ?_, ?_, hS.out, (hB.out.setCell (p := ⟨g, n, none⟩) HBG.out _).drew⟩
          · have h1 : (q ++ s.extract k (k + 1)).size = q.size + 1 := by rw [← tx_size, tx_append, List.length_append, HE.out, tx_size]; rfl
            have := HQ.out
            omega
          · unfold Hid
            rw [txs_snoc, tx_append, HE.out, take_snoc HC.out, words_snoc, ← hT.out, txs_snoc, step_ch _ _ H32.out]
            all_goals rfl
          · have := HSET.out
            unfold Hid
            rw [HN.out, show strs (a ++ [q ++ s.extract k (k + 1)]) = (strs (a ++ [q])).set n (.string (q ++ s.extract k (k + 1))) by
              unfold strs
              rw [List.map_append, List.map_append, List.set_append_right _ _ (by rw [List.length_map, HN.out]; exact Nat.le_refl _), List.length_map, HN.out, Nat.sub_self]; rfl]
            exact this.mono ((Below.refl _ _).drew) (Nat.le_refl _)
        case measure => have := HLT.out; omega
    · obtain rfl : k = s.size := by omega
      have HF : Hid (txs (a ++ [q]) = wordsL (tx s)) := by have := hT.out; rw [← tx_size, List.take_length] at this; exact this
      have HL9 : Hid ((a ++ [q]).length = n + 1) := by unfold Hid; rw [List.length_append, HN.out]; rfl
      go_wp2
      go_ret
      refine ⟨_, a ++ [q], rfl, HF.out, by rw [HL9.out]; exact hG.out, by rw [HL9.out]; omega, fun x hx => ?_, hB.out⟩
      rcases List.mem_append.1 hx with h | h
      · exact hS.out x h
      · obtain rfl : x = q := by simpa using h
        exact hq
end Go.Proofs.YtajgghifamebkaaDoor
