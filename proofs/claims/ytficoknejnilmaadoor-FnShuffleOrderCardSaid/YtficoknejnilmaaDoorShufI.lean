/- contract of the program's ShuffleOrder -/
import Derived.Test.YtficoknejnilmaaDoorSortT
import Derived.Test.YtficoknejnilmaaDoorApp
import Derived.Test.YtficoknejnilmaaDoorRes
namespace Go.Proofs.YtficoknejnilmaaDoor
open Go.RowKit
def natsI (l : List Nat) : List Int := l.map Int.ofNat
theorem nats_natsI (l : List Nat) : nats l = ints (natsI l) := by simp [nats, ints, natsI]
@[simp] theorem natsI_length (l : List Nat) : (natsI l).length = l.length := by simp [natsI]
/-- the order of at most 32 tags -/
def ordV (T : List Int) : List Int := if T.length ≤ 32 then natsI (ordI (tg T) T.length) else []
theorem ordV_le (T : List Int) : (ordV T).length ≤ 32 := by
  unfold ordV; split
  · rw [natsI_length, ordI_length]; assumption
  · simp
theorem natsI_id (n : Nat) : natsI (tab n fun i => i) = tab n fun i => (i : Int) := by simp [natsI, tab]
/-- a slice of the call's own, as the sort sees it -/
theorem Srt.of_gr {w : World} {B n : Nat} {v : Value} (h : Gr w B 3 1 v n (ints (tab n fun i => (i : Int)))) (hn : 0 < n) : ∃ g c r, v = .slice (some ⟨g, 0, none⟩) n c ∧ B ≤ g ∧ g < w.heap.size ∧ Srt w w g n (fun i => i) r ∧
    ∀ (w' : World) (Y : Nat → Nat), Srt w w' g n Y r → Gr w' B 3 1 (.slice (some ⟨g, 0, none⟩) n c) n (ints (natsI (tab n Y))) := by
  rcases h with ⟨h1, ⟨_, h3⟩ | ⟨g, cap, cur, hv, hB, hgg, hc, hm, hs, ht⟩⟩ | ⟨h0, _⟩
  · omega
  · rw [Nat.mul_one] at hs ht
    have hrow : Row w g 3 (nats (tab n fun i => i) ++ cur.toList.drop n) := by
      rw [nats_natsI, natsI_id, ← ht, List.take_append_drop]; exact hgg
    refine ⟨g, cap, cur.toList.drop n, hv, hB, (Array.getElem?_eq_some_iff.1 hgg).1, ⟨grown_refl _ _, hrow⟩, fun w' Y hY => ?_⟩
    refine .inl ⟨by simp, .inr ⟨g, cap, (nats (tab n Y) ++ cur.toList.drop n).toArray, rfl, hB, hY.2, hc, hm, ?_, ?_⟩⟩
    · simp; omega
    · rw [nats_natsI]; simp
  · omega
theorem gr_base {w : World} {B B' e sz n : Nat} {v : Value} {cs : List Value} (h : Gr w B e sz v n cs) (hB : B' ≤ B) : Gr w B' e sz v n cs := by
  rcases h with ⟨h1, ⟨h2, h3⟩ | ⟨g, cap, cur, hv, h4, hgg, hc, hm, hs, ht⟩⟩ | h
  · exact .inl ⟨h1, .inl ⟨h2, h3⟩⟩
  · exact .inl ⟨h1, .inr ⟨g, cap, cur, hv, Nat.le_trans hB h4, hgg, hc, hm, hs, ht⟩⟩
  · exact .inr h
set_option maxRecDepth 20000 in
theorem impl_ShuffleOrder (v : Value) (T : List Int) (w : World) (h : Ints w v T) : Calls Tryd.prog 8 #[v] w (IntsPost (ordV T) w) := by
  obtain ⟨ad, c, rfl, hmax, hop⟩ := h.open
  unfold maxLen at hmax
  have HT := Lib.hid h
  clear hop h
  have hb0 := (Below.refl w.heap.size w).alloc (Nat.le_refl _) (.cells #[.slice ad T.length c] 23)
  have HB0 := Lib.hid hb0
  clear hb0
  by_cases hbig : 32 < T.length
  · have HF : Hid (∀ w', Below w.heap.size w w' → IntsPost (ordV T) w (.returned (.slice none 0 0)) w') := fun w' hb => by
      unfold ordV; rw [if_neg (by omega)]; exact ⟨_, rfl, Gr.nil _ _ _ _, hb⟩
    have hz : (32 : Int) < T.length := by omega
    go_enter Tryd.func8, Tryd.ntmps8
    go_wp2
    go_ret
    exact HF.out _ HB0.out
  · have hz : decide ((T.length : Int) > 32) = false := by simp; omega
    obtain ⟨n, hn⟩ : ∃ n, T.length = n := ⟨_, rfl⟩
    have hn32 : n ≤ 32 := by omega
    have HN := Lib.hid hn
    have HF : Hid (∀ u w', Gr w' w.heap.size 3 1 u n (ints (natsI (ordI (tg T) n))) → Below w.heap.size w w' → IntsPost (ordV T) w (.returned u) w') := fun u w' hg hb => by
      unfold ordV; rw [if_pos (by omega), hn]; exact ⟨u, rfl, by rw [natsI_length, ordI_length]; exact hg, hb⟩
    rw [hn] at HT HB0 hmax hz ⊢
    clear hn hbig
    have hbx : (w.alloc (.cells #[.slice ad n c] 23)).cell? ⟨w.heap.size, 0, none⟩ = some (.slice ad n c) := (Row.new w 23 [.slice ad n c]).cell (i := 0) rfl
    have hsz0 : (w.alloc (.cells #[.slice ad n c] 23)).heap.size = w.heap.size + 1 := by simp
    have HSZ := Lib.hid hsz0
    have HBX := Lib.hid hbx
    clear hbx hsz0
    go_enter Tryd.func8, Tryd.ntmps8
    go_wp2
    generalize (w.alloc (.cells #[.slice ad n c] 23)) = wb at HB0 HBX HSZ ⊢
    go_loopw [3, 10] (fun u i wr => ∃ k : Nat, k ≤ n ∧ i = .int .i64 k ∧ Hid (k = 0 → u = .slice none 0 0) ∧ Hid (Gr wr wb.heap.size 3 1 u k (ints (tab k fun i => (i : Int)))) ∧ Hid (Below wb.heap.size wb wr)) (fun _ i _ => n - (intOf i).toNat)
    case atStart => exact ⟨0, Nat.zero_le _, rfl, fun _ => rfl, Gr.nil _ _ _ _, Below.refl _ _⟩
    case round =>
      obtain ⟨k, hk, rfl, hU, hG, hB⟩ := hrel
      have hsz := hB.out.size
      by_cases hlt : k < n
      · have HA : Hid (ints (tab k fun i => (i : Int)) ++ [.int .i64 (k : Int)] = ints (tab (k + 1) fun i => (i : Int))) := tabI_snoc rfl
        go_wp2_with (at_builtin; refine wpList_app _ rfl (.tmp 13) (.tmp 15) 23 rfl wb.heap.size 3 (.int .i64 0) 1 8 Tryd.underlying23 Tryd.infoInt rfl (by omega) u3 k (ints (tab k fun i => (i : Int))) rfl (hG.out.alloc _) _ 1 [.int .i64 (k : Int)] rfl (view_one _ _ _) (by simp [Value.oneCell']) (by unfold maxLen; omega) (by omega) (by simp; omega) ?_; intro v1 w1 g1 r1 k1; have G1 := Lib.hid g1; have R1 := Lib.hid r1; clear g1 r1 k1)
        go_roundw
        case rel => exact ⟨k + 1, hlt, by go_num, fun h => absurd h (Nat.succ_ne_zero k), by rw [← HA.out]; exact G1.out, (hB.out.alloc hsz _).grown R1.out (by simp; omega) (fun g hg => (hG.out.lt g hg).1)⟩
        case measure => simp [intOf]; omega
      · obtain rfl : k = n := by omega
        have HW : Hid (Below w.heap.size w wr) := HB0.out.trans (hB.out.mono (by rw [HSZ.out]; omega))
        by_cases hk0 : k = 0
        · subst hk0
          obtain rfl : u3 = .slice none 0 0 := hU.out rfl
          go_wp2_with (go_at_call 22; refine (sortStable_none _ _ _ rfl).mono ?_; rintro e w' ⟨rfl, rfl⟩)
          go_ret
          exact HF.out _ _ (Gr.nil _ _ _ _) HW.out
        · have hg := hG.out
          obtain ⟨g, c2, r, hu, hBg, hgl, hs, hback⟩ := Srt.of_gr hg (by omega)
          subst hu
          have HS := Lib.hid hs
          have HK := Lib.hid hback
          have HGB := Lib.hid hBg
          have HC : Hid (CmpC 23 (.pointer (some ⟨w.heap.size, 0, none⟩)) wr g k (tg T)) := fun W hW x y hx hy => by
            have hb : wb.cell? ⟨w.heap.size, 0, none⟩ = some (.slice ad k c) := HBX.out
            have hb2 : wr.cell? ⟨w.heap.size, 0, none⟩ = some (.slice ad k c) := (hB.out.cell (p := ⟨w.heap.size, 0, none⟩) (by rw [HSZ.out]; show w.heap.size < _; omega)).trans hb
            have hne : g ≠ w.heap.size := by have := HSZ.out; omega
            have hb3 : W.cell? ⟨w.heap.size, 0, none⟩ = some (.slice ad k c) := hW.cell hb2 (fun e => hne (Option.some.inj e).symm)
            have hbw : Below w.heap.size w W := HW.out.grown hW (Nat.le_trans HW.out.size (Nat.le_refl _)) (fun g' hg' => by cases hg'; have := HSZ.out; omega)
            exact closure_any w.heap.size _ T x y W hb3 (HT.out.mono hbw (Nat.le_refl _)) (by rw [HN.out]; exact hx) (by rw [HN.out]; exact hy)
          clear hg hs hback hBg hG hU hgl
          go_wp2_with (go_at_call 22; refine (sortStable_any wr _ g k _ _ r _ (tg T) HS.out HC.out hn32 (fun _ _ => rfl)).mono ?_; rintro e w' ⟨rfl, Y, hy1, hy2⟩; have HY1 := Lib.hid hy1; have HY2 := Lib.hid hy2; clear hy1 hy2)
          go_ret
          refine HF.out _ _ (gr_base ?_ (show w.heap.size ≤ wb.heap.size by rw [HSZ.out]; omega)) (HW.out.grown HY1.out.1 HW.out.size (fun g' hg' => by cases hg'; have := HSZ.out; have := HGB.out; omega))
          have := HK.out _ _ HY1.out
          rw [HY2.out] at this
          exact this
end Go.Proofs.YtficoknejnilmaaDoor
