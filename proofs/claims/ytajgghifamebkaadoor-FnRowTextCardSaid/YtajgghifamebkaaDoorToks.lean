/- tokens of a row's text: the program's TokensOf -/
import Derived.Test.YtajgghifamebkaaDoorTok
import Derived.Test.YtajgghifamebkaaDoorTxtQ
namespace Go.Proofs.YtajgghifamebkaaDoor
set_option linter.unusedSimpArgs false
set_option linter.unusedVariables false
open Go.RowKit
open Go
theorem tx_extract (s : ByteArray) (a b : Nat) : tx (s.extract a b) = ((tx s).drop a).take (b - a) := Lib.extract_data s a b
theorem tx_from {s : ByteArray} {a : Nat} : tx (s.extract a s.size) = (tx s).drop a := by
  rw [tx_extract, List.take_of_length_le]
  rw [List.length_drop, tx_size]
  exact Nat.le_refl _
theorem tx_to {s : ByteArray} {b : Nat} : tx (s.extract 0 b) = (tx s).take b := by
  rw [tx_extract, List.drop_zero, Nat.sub_zero]
theorem nil_of {q : ByteArray} (h : q.size = 0) : q = ⟨#[]⟩ := tx_inj (by
  have h1 : (tx q).length = 0 := by rw [tx_size]; exact h
  rw [List.length_eq_zero_iff.1 h1]; rfl)
theorem not_nil {q : ByteArray} (h : ¬ q.size = 0) : (q.toList == []) = false := by
  have h7 : (⟨#[]⟩ : ByteArray).toList = [] := by first | rfl | decide | simp | kernel_rfl
  rw [← h7, tx_eq]
  have h8 : tx (⟨#[]⟩ : ByteArray) = [] := rfl
  rw [h8]
  cases ht : tx q with
  | nil => exact absurd (by rw [← tx_size, ht]; rfl) h
  | cons b t => rfl
set_option maxRecDepth 20000 in
set_option maxHeartbeats 800000 in
theorem impl_TokensOf (s : ByteArray) (r : List Int) (w : World) (hr : RowOk r) (ht : tx s = rowT r) : Calls Tryd.prog 22 #[.string s] w fun e w' =>
    ∃ u ws, e = .returned (.tuple #[u, .bool true]) ∧ txs ws = r.map Lib.itoa ∧ Strs w' u ws ∧ ws.length = r.length ∧ (∀ x ∈ ws, x.size ≤ 48) ∧ Below w.heap.size w w' := by
  have HRO := Lib.hid hr
  have HL0 : Hid (Left r 0 (tx s)) := by rw [ht]; exact Left.start hr
  have hs48 : s.size ≤ 48 := by rw [← tx_size, ht]; exact rowT_len hr
  have HR6 : Hid (r.length ≤ 6) := hr.2.1
  have hbig : ¬ (1000 : Int) < (s.size : Int) := by omega
  clear hr ht
  go_enter Tryd.func22, Tryd.ntmps22
  go_wp2
  go_loopg [0, 4, 5] 48 (fun gg t u _ wr => ∃ (q : ByteArray) (k : Nat) (ws : List ByteArray), t = .string q ∧ q.size ≤ gg ∧ q.size ≤ 48 ∧ k ≤ r.length ∧ Hid (ws.length = k) ∧ Hid (txs ws = (r.take k).map Lib.itoa) ∧ Hid (Left r k (tx q)) ∧ Hid (∀ x ∈ ws, x.size ≤ 48) ∧ Hid (Gr wr w.heap.size 9 1 u k (strs ws)) ∧ Hid (Below w.heap.size w wr))
  case atStart => exact ⟨s, 0, [], rfl, hs48, hs48, Nat.zero_le _, rfl, rfl, HL0.out, (fun x hx => by cases hx), Gr.nil _ _ _ _, Below.refl _ _⟩
  case round =>
    clear HL0 hbig hs48
    obtain ⟨q, k, ws, rfl, hgg, h48, hk, HWL, HWX, HLF, HW48, hG, hB⟩ := hrel
    obtain ⟨au, cu, hu⟩ := hG.out.lit
    subst hu
    by_cases hq0 : q.size = 0
    · have HK : Hid (k = r.length) := HLF.out.nil HRO.out (by rw [nil_of hq0]; rfl) hk
      obtain rfl := nil_of hq0
      clear hq0
      go_wp2
      refine bodyPost_ret (v := .tuple #[.slice au k cu, .bool true]) (by simp [results, Tryd.results22, go_sem]) rfl ⟨_, ws, rfl, ?_, ?_, ?_, HW48.out, hB.out⟩
      · have := HWX.out
        rw [HK.out, List.take_length] at this
        exact this
      · unfold Strs
        rw [HWL.out]
        exact hG.out.view
      · rw [HWL.out]; exact HK.out
    · have hpos : 0 < q.size := by omega
      have hqe := not_nil hq0
      have HQ0 : Hid ((tx q)[0]? = some q[0]) := by unfold Hid tx; rw [Array.getElem?_toList, Array.getElem?_eq_getElem (by simpa using hpos)]; rfl
      obtain ⟨t, htq⟩ : ∃ t, tx q = q[0] :: t := by
        have h1 := HQ0.out
        cases hc : tx q with
        | nil => rw [hc] at h1; cases h1
        | cons b t => rw [hc] at h1; exact ⟨t, by rw [Option.some.inj h1]⟩
      have HTQ := Lib.hid htq
      have hp1 : (1 : Int) ≤ (q.size : Int) := by omega
      have HG := Lib.hid hgg
      have H48 := Lib.hid h48
      clear hq0 htq
      by_cases h32 : ((q[0].toNat : Nat) : Int) = 32
      · have H32 : Hid (q[0] = 32) := UInt8.toNat_inj.1 (by show q[0].toNat = 32; omega)
        have h32b : (((q[0].toNat : Nat) : Int) == 32) = true := by simpa using h32
        have hsz : (q.extract 1 q.size).size = q.size - 1 := by rw [← tx_size, tx_from, List.length_drop, tx_size]
        have HSZ := Lib.hid hsz
        have HPOS := Lib.hid hpos
        have HL2 : Hid (k < r.length ∧ Left r k (tx (q.extract 1 q.size))) := by
          have h1 := HLF.out
          rw [HTQ.out, H32.out] at h1
          have h2 := h1.space HRO.out
          unfold Hid
          rw [tx_from, HTQ.out]
          exact h2
        clear h32 hsz
        go_wp2
        go_roundg (q.extract 1 q.size).size
        case rel => exact ⟨q.extract 1 q.size, k, ws, rfl, Nat.le_refl _, by rw [HSZ.out]; have := H48.out; omega, hk, HWL.out, HWX.out, HL2.out.2, HW48.out, hG.out, hB.out⟩
        case measure => rw [HSZ.out]; have := HG.out; have := HPOS.out; omega
      · have H32 : Hid (q[0] ≠ 32) := fun e => h32 (by rw [e]; rfl)
        have h32b : (((q[0].toNat : Nat) : Int) == 32) = false := by simpa using h32
        obtain ⟨m, hkr, hrk, hm, l, hql, hlb, hlf⟩ : ∃ m, k < r.length ∧ r[k]? = some m ∧ NumOk m ∧ ∃ l, tx q = Lib.itoa m ++ l ∧ Behind l ∧ Left r (k + 1) l := by
          have h1 := HLF.out
          rw [HTQ.out] at h1
          have h2 := h1.word HRO.out H32.out
          rw [← HTQ.out] at h2
          exact h2
        have hz1 := (itoa_len hm).1
        have hz7 := (itoa_len hm).2
        obtain ⟨z, hz⟩ : ∃ z, (Lib.itoa m).length = z := ⟨_, rfl⟩
        have HZ := Lib.hid hz
        rw [hz] at hz1 hz7
        have hzq : z ≤ q.size := by rw [← tx_size, hql, List.length_append, hz]; omega
        have hzi : (z : Int) ≤ (q.size : Int) := by omega
        have hz0 : ((z : Int) == 0) = false := by simp; omega
        have HE1 : Hid (tx (q.extract 0 z) = Lib.itoa m) := by unfold Hid; rw [tx_to, hql, ← hz, List.take_left']; rfl
        have HE2 : Hid (tx (q.extract z q.size) = l) := by unfold Hid; rw [tx_from, hql, ← hz, List.drop_left']; rfl
        have HSZ : Hid ((q.extract z q.size).size + z = q.size) := by
          unfold Hid
          have := congrArg List.length hql
          rw [tx_size, List.length_append, hz] at this
          rw [← tx_size, HE2.out]
          omega
        have HS7 : Hid ((q.extract 0 z).size ≤ 48) := by unfold Hid; rw [← tx_size, HE1.out, hz]; omega
        have HKR := Lib.hid hkr
        have HRK := Lib.hid hrk
        have HLF2 := Lib.hid hlf
        have HM := Lib.hid hm
        have HQL := Lib.hid hql
        have HLB := Lib.hid hlb
        have HZ1 := Lib.hid hz1
        have hk6 : k ≤ 6 := by have := HR6.out; omega
        clear h32 hz hrk hlf hm hql hlb hkr
        go_wp2_with fail
        refine (tokenSize_num q m l wr (by omega) HM.out HQL.out HLB.out).mono ?_
        rw [HZ.out]
        rintro e w' ⟨rfl, rfl⟩
        go_wp2_with (at_builtin; refine wpList_app _ rfl (.tmp 20) (.tmp 24) 23 rfl w.heap.size 9 (.string ByteArray.empty) 1 16 Tryd.underlying23 Tryd.infoStr rfl (by omega) (.slice au k cu) k (strs ws) rfl (hG.out.alloc _) _ 1 [.string (q.extract 0 z)] rfl (view_one _ _ _) (by simp [Value.oneCell']) (by unfold maxLen; omega) (by omega) (by have := hB.out.size; simp; omega) ?_; intro v2 w2 g2 r2 k2; have hG2 := Lib.hid g2; have hR2 := Lib.hid r2; clear g2 r2 k2)
        go_roundg (q.extract z q.size).size
        case rel =>
          refine ⟨q.extract z q.size, k + 1, ws ++ [q.extract 0 z], rfl, Nat.le_refl _, by have := HSZ.out; have := H48.out; omega, HKR.out, by unfold Hid; rw [List.length_append, HWL.out]; rfl, ?_, by rw [HE2.out]; exact HLF2.out, ?_, ?_, (hB.out.alloc hB.out.size _).grown hR2.out (by have := hB.out.size; simp; omega) (fun g hg => (hG.out.lt g hg).1)⟩
          · unfold Hid
            rw [List.take_add_one, HRK.out, List.map_append, ← HWX.out]
            simp [txs, HE1.out]
          · intro x hx
            rcases List.mem_append.1 hx with h | h
            · exact HW48.out x h
            · obtain rfl : x = q.extract 0 z := by simpa using h
              exact HS7.out
          · have := hG2.out
            unfold Hid
            rw [show strs (ws ++ [q.extract 0 z]) = strs ws ++ [.string (q.extract 0 z)] by simp [strs]]
            exact this
        case measure => have := HSZ.out; have := HG.out; have := HZ1.out; omega
end Go.Proofs.YtajgghifamebkaaDoor
