/- what ReadTable returns is told by the text alone; the exact law's helpers on texts and tables -/
import Derived.Test.YtajgghifamebkaaDoorTxtY
namespace Go.Proofs.YtajgghifamebkaaDoor
set_option linter.unusedSimpArgs false
set_option linter.unusedVariables false
open Go.RowKit
open Go
theorem mk_txs (ns : List (List UInt8)) : txs (ns.map mkS) = ns := by
  unfold txs
  rw [List.map_map]
  have : tx ∘ mkS = id := funext fun l => tx_mkS l
  rw [this, List.map_id]
theorem txs_inj : ∀ {a b : List ByteArray}, txs a = txs b → a = b
  | [], [], _ => rfl
  | [], _ :: _, h => by simp [txs] at h
  | _ :: _, [], h => by simp [txs] at h
  | x :: a, y :: b, h => by
    simp only [txs, List.map_cons, List.cons.injEq] at h
    rw [tx_inj h.1, txs_inj h.2]
/-- what ReadTable returns, by the text alone -/
theorem tabRd_fix (s : List UInt8) : ∃ (b : Bool) (ns : List ByteArray) (n : Nat) (f : Nat → List Int), SmallS ns ∧ ns.length ≤ 6 ∧ n ≤ 16 ∧ (∀ i, i < n → (f i).length ≤ 6) ∧ (b = true → Canon s (txs ns) n f) ∧ (b = false → ns = [] ∧ n = 0 ∧ ∀ ns n f, ¬ Canon s ns n f) ∧
    ∀ w e w', TabRd s w e w' → ∃ u, e = .returned (.tuple #[u, .bool b]) ∧ TabX w' w.heap.size u ns n f := by
  by_cases h : ∃ ns n f, Canon s ns n f
  · obtain ⟨ns, n, f, hc⟩ := h
    have hp := tabB_parts hc.1
    refine ⟨true, ns.map mkS, n, f, fun y hy => ?_, by rw [List.length_map]; exact hp.1.2, hp.2.1, fun i hi => (hp.2.2.2 i hi).1.2.1, (fun _ => by rw [mk_txs]; exact hc), (fun h => by cases h), ?_⟩
    · obtain ⟨x, hx, rfl⟩ := List.mem_map.1 hy
      rw [mkS_size]
      have := names_len8 hc.1 x hx
      omega
    · rintro w e w' (⟨u, ns2, n2, f2, hc2, -, rfl, hx⟩ | ⟨hno, -⟩)
      · obtain ⟨e1, e2, e3⟩ := hc2.uniq hc
        subst e2
        have e4 : ns2 = ns.map mkS := txs_inj (by rw [mk_txs]; exact e1)
        subst e4
        obtain ⟨nv, rv, vs, rfl, h1, h2, h3⟩ := hx
        exact ⟨_, rfl, nv, rv, vs, rfl, h1, h2.ext e3, h3⟩
      · exact absurd hc (hno _ _ _)
  · have hno : ∀ ns n f, ¬ Canon s ns n f := fun ns n f hc => h ⟨ns, n, f, hc⟩
    refine ⟨false, [], 0, fun _ => [], fun y hy => (by cases hy), Nat.zero_le _, Nat.zero_le _, fun i hi => absurd hi (Nat.not_lt_zero _), (fun h => by cases h), (fun _ => ⟨rfl, rfl, hno⟩), ?_⟩
    rintro w e w' (⟨u, ns2, n2, f2, hc2, -⟩ | ⟨-, rfl⟩)
    · exact absurd hc2 (hno _ _ _)
    · exact ⟨_, rfl, .slice none 0 0, .slice none 0 0, fun _ => undef, rfl, Gr.nil _ _ _ _, ⟨Gr.nil _ _ _ _, fun i hi => absurd hi (Nat.not_lt_zero _)⟩, fun i j hi => absurd hi (Nat.not_lt_zero _)⟩
/-! marks of texts -/
def markB (k : Nat) : ByteArray := mkS (109 :: Lib.decDigits k)
def marksT (k n : Nat) : List ByteArray := tab n fun i => markB (k + i)
def preD (u : Nat) : List UInt8 := if u = 0 then [] else Lib.decDigits u
theorem preD_step {u : Nat} (h : 0 < u) : preD u = preD (u / 10) ++ [dgt (u % 10)] := by
  unfold preD
  rw [if_neg (by omega)]
  by_cases hs : u < 10
  · rw [dec_small hs, if_pos (by omega), Nat.mod_eq_of_lt hs]; rfl
  · rw [dec_big hs, if_neg (by omega)]; rfl
set_option maxRecDepth 20000 in
theorem markText_any (K : Nat) (w : World) (h0 : 0 < K) (h1 : K ≤ 4611686018427387904) : Calls Tryd.prog 65 #[.int .i64 (K : Int)] w fun e w' => e = .returned (.string (markB K)) ∧ Below w.heap.size w w' := by
  have h9 : (0 : Int) < (K : Int) := by omega
  have HK : Hid (preD K = Lib.decDigits K) := if_neg (by omega)
  have FIN : ∀ o : ByteArray, tx o = Lib.decDigits K → markB K = (⟨#[109]⟩ : ByteArray) ++ o := fun o e => by
    apply tx_inj
    unfold markB
    rw [tx_mkS, tx_append, e]; rfl
  have FIN := Lib.hid FIN
  have HL := Lib.hid (dec_len 18 K (by omega))
  go_enter Tryd.func65, Tryd.ntmps65
  go_wp2
  go_loopg [0, 3] K (fun gg i s wr => ∃ (u : Nat) (o : ByteArray), u ≤ gg ∧ u ≤ K ∧ i = .int .i64 (u : Int) ∧ s = .string o ∧ Hid (preD u ++ tx o = Lib.decDigits K) ∧ Hid (Below w.heap.size w wr))
  case atStart => exact ⟨K, ⟨#[]⟩, Nat.le_refl _, Nat.le_refl _, rfl, rfl, by unfold Hid; rw [HK.out]; simp [tx], Below.refl _ _⟩
  case round =>
    clear h9
    obtain ⟨u, o, hgg, hu, rfl, rfl, hO, hB⟩ := hrel
    have hos : o.size ≤ 20 := by
      have h1 := congrArg List.length hO.out
      have h2 := HL.out
      rw [List.length_append, tx_size] at h1
      omega
    by_cases hlt : 0 < u
    · have HS := Lib.hid (preD_step hlt)
      obtain ⟨u', hu'⟩ : ∃ u', u / 10 = u' := ⟨_, rfl⟩
      obtain ⟨d, hd⟩ : ∃ d, u % 10 = d := ⟨_, rfl⟩
      have hd10 : d < 10 := by rw [← hd]; exact Nat.mod_lt _ (by omega)
      have e1 : (u : Int).tdiv 10 = (u' : Int) := by rw [Int.tdiv_eq_ediv_of_nonneg (by omega)]; omega
      have e2 : (u : Int).tmod 10 = (d : Int) := by rw [Int.tmod_eq_emod_of_nonneg (by omega)]; omega
      have hcv := conv_one d hd10 wr
      have hms : (mkS [dgt d]).size = 1 := rfl
      have HLT : Hid (u' < u) := by unfold Hid; omega
      have HU : Hid (u' ≤ K) := by unfold Hid; omega
      rw [hu', hd] at HS
      have h9 : (0 : Int) < (u : Int) := by omega
      have hu5 : u' ≤ 4611686018427387904 := by omega
      have hu6 : u ≤ 4611686018427387904 := by omega
      clear hu' hd hlt
      go_wp2
      go_roundg u'
      case rel =>
        refine ⟨u', mkS [dgt d] ++ o, Nat.le_refl _, HU.out, rfl, rfl, ?_, hB.out.alloc hB.out.size _⟩
        have := hO.out
        unfold Hid
        rw [HS.out] at this
        rw [tx_append, tx_mkS, ← this]
        simp
      case measure => exact Nat.lt_of_lt_of_le HLT.out hgg
    · obtain rfl : u = 0 := by omega
      have HE : Hid (tx o = Lib.decDigits K) := hO.out
      go_wp2
      go_ret
      exact ⟨by rw [FIN.out o HE.out]; rfl, hB.out⟩
theorem strs_tab (ss : List ByteArray) : strs ss = tab ss.length (sv ss) := by
  apply List.ext_getElem?
  intro i
  by_cases hi : i < ss.length
  · rw [tab_get _ hi]
    unfold strs sv
    rw [List.getElem?_map, List.getElem?_eq_getElem hi]; rfl
  · rw [List.getElem?_eq_none (by simp [strs]; omega), List.getElem?_eq_none (by rw [tab_length]; omega)]
theorem marks_tab (K n : Nat) : strs (marksT K n) = tab n fun i => .string (markB (K + i)) := by simp [strs, marksT, tab]
theorem marksT_length (K n : Nat) : (marksT K n).length = n := by simp [marksT]
set_option maxRecDepth 20000 in
theorem markStringS_any (v : Value) (B K : Nat) (ss : List ByteArray) (w : World) (h : Gr w B 9 1 v ss.length (strs ss)) (h0 : 0 < K) (h1 : K + ss.length ≤ 4611686018427387904) :
    Calls Tryd.prog 41 #[v, .int .i64 (K : Int)] w fun e w' => e = .returned (.int .i64 ((K + ss.length : Nat) : Int)) ∧ Gr w' B 9 1 v ss.length (strs (marksT K ss.length)) ∧ w.grownBy w' (gBlock v) := by
  obtain ⟨n, hn⟩ : ∃ n, ss.length = n := ⟨_, rfl⟩
  obtain ⟨f, hf⟩ : ∃ f : Nat → Value, f = fun i => .string (markB (K + i)) := ⟨_, rfl⟩
  obtain ⟨g0, hg0⟩ : ∃ g0 : Nat → Value, g0 = sv ss := ⟨_, rfl⟩
  have hst : Hid (Gr w B 9 1 v n (tab n (mixR 0 f g0))) := by
    unfold Hid
    rw [mixR_zero, hg0, ← hn, ← strs_tab]
    exact h
  have HF : Hid (tab n f = strs (marksT K n)) := by rw [hf]; exact (marks_tab K n).symm
  have HF1 := Lib.hid hf
  rw [hn] at h1 ⊢
  clear h hn hf hg0
  obtain ⟨ad, c, hv⟩ := hst.out.lit
  subst hv
  have hn4 : n ≤ 4611686018427387904 := by omega
  go_enter Tryd.func41, Tryd.ntmps41
  go_wp2
  go_loopg [1, 5] n (fun gg kk i wr => ∃ k : Nat, k ≤ n ∧ n - k ≤ gg ∧ i = .int .i64 (k : Int) ∧ kk = .int .i64 ((K + k : Nat) : Int) ∧ Hid (Gr wr B 9 1 (.slice ad n c) n (tab n (mixR k f g0))) ∧ Hid (w.grownBy wr (gBlock (.slice ad n c))))
  case atStart => exact ⟨0, Nat.zero_le _, Nat.le_refl _, rfl, rfl, hst.out, grown_refl _ _⟩
  case round =>
    clear hst
    obtain ⟨k, hk, hgg, rfl, rfl, hG, hW⟩ := hrel
    obtain ⟨x, hx⟩ : ∃ x, K + k = x := ⟨_, rfl⟩
    by_cases hlt : k < n
    · have HLT := Lib.hid hlt
      have HX := Lib.hid hx
      rw [hx]
      have hx1 : x < 4611686018427387904 := by omega
      have hx0 : 0 < x := by omega
      clear hx
      go_wp2_with fail
      refine (markText_any x wr hx0 (by omega)).mono ?_
      rintro e w2 ⟨rfl, hb⟩
      have HG2 := Lib.hid (hG.out.mono hb (Nat.le_refl _))
      have HW2 := Lib.hid (grown_below hW.out (hb.mono hW.out.size))
      clear hb hG hW
      obtain ⟨g, c9, hv9, hBg, hcap, -, hfr, -, hset⟩ := HG2.out.at (by omega)
      cases hv9
      have f0 : w2.frozen? ⟨g, k, none⟩ = false := hfr k
      have d0 : ∃ u, w2.cell? ⟨g, k, none⟩ = some u := by
        obtain ⟨g', c', hv', -, -, -, -, hcl, -⟩ := HG2.out.at (by omega)
        cases hv'
        exact ⟨_, hcl k _ (mixR_at n k f g0 HLT.out)⟩
      obtain ⟨u0, d0⟩ := d0
      have HSET := Lib.hid (hset k (.string (markB x)) HLT.out)
      have HGB : Hid (gBlock (.slice (some ⟨g, 0, none⟩) n c) = some g) := by unfold Hid; simp [gBlock]; omega
      clear hset hfr
      go_wp2
      go_roundg (n - (k + 1))
      case rel =>
        refine ⟨k + 1, HLT.out, Nat.le_refl _, by go_num, by rw [← Nat.add_assoc, HX.out]; first | rfl | go_num, ?_, ?_⟩
        · have e : Value.string (markB x) = f k := by rw [HF1.out, ← HX.out]
          have := HSET.out
          rw [e, mixR_step] at this
          rw [e]
          exact this
        · have := HW2.out
          rw [HGB.out] at this ⊢
          exact grown_set this _ _
      case measure => have := HLT.out; omega
    · obtain rfl : k = n := by omega
      go_wp2
      go_ret
      refine ⟨by first | rfl | rw [hx], ?_, hW.out⟩
      have := hG.out
      rw [mixR_full, HF.out] at this
      exact this
set_option maxRecDepth 20000 in
theorem heldStringS_any (v : Value) (K n : Nat) (w : World) (h : Strs w v (marksT K n)) (h0 : 0 < K) (h1 : K + n ≤ 4611686018427387904) :
    Calls Tryd.prog 43 #[v, .int .i64 (K : Int)] w fun e w' => e = .returned (.int .i64 ((K + n : Nat) : Int)) ∧ Below w.heap.size w w' := by
  unfold Strs at h
  rw [marksT_length, marks_tab] at h
  obtain ⟨ad, c, rfl, hmax, hop⟩ := h.cells
  unfold maxLen at hmax
  have HOP := Lib.hid hop
  clear hop h
  go_enter Tryd.func43, Tryd.ntmps43
  go_wp2
  go_loopg [1, 5] n (fun gg kk i wr => ∃ k : Nat, k ≤ n ∧ n - k ≤ gg ∧ i = .int .i64 (k : Int) ∧ kk = .int .i64 ((K + k : Nat) : Int) ∧ Hid (Below w.heap.size w wr))
  case atStart => exact ⟨0, Nat.zero_le _, Nat.le_refl _, rfl, rfl, Below.refl _ _⟩
  case round =>
    obtain ⟨k, hk, hgg, rfl, rfl, hB⟩ := hrel
    obtain ⟨x, hx⟩ : ∃ x, K + k = x := ⟨_, rfl⟩
    by_cases hlt : k < n
    · obtain ⟨b, off, rfl, hcell⟩ := HOP.out k hlt
      have h2 := hcell k hlt
      have HLT := Lib.hid hlt
      have HX := Lib.hid hx
      rw [hx] at h2 ⊢
      have d0 := (hB.out.cell (p := ⟨b, off + k, none⟩) (World.block_lt_of_cell? w _ h2)).trans h2
      have hx1 : x < 4611686018427387904 := by omega
      have hx0 : 0 < x := by omega
      have hxx : ((markB x).toList == (markB x).toList) = true := by simp
      have HC : Hid (∀ w2, Below wr.heap.size wr w2 → w2.cell? ⟨b, off + k, none⟩ = some (.string (markB x))) := fun w2 hb => (hb.cell (p := ⟨b, off + k, none⟩) (World.block_lt_of_cell? wr _ d0)).trans d0
      clear hx hcell h2
      go_wp2_with fail
      go_region_with (refine (markText_any x _ hx0 (by omega)).mono ?_; rintro e w2 ⟨rfl, hb⟩; have hb2 := (Below.refl wr.heap.size wr).drew.trans hb; have HB2 := Lib.hid hb2; have d1 := HC.out w2 hb2; clear hb hb2)
      all_goals
        go_simp
        go_wp2
        go_roundg (n - (k + 1))
        case rel => exact ⟨k + 1, HLT.out, Nat.le_refl _, by go_num, (by rw [← Nat.add_assoc, HX.out]; first | rfl | go_num), hB.out.trans (HB2.out.mono hB.out.size)⟩
        case measure => have := HLT.out; omega
    · obtain rfl : k = n := by omega
      go_wp2
      go_ret
      exact ⟨by first | rfl | rw [hx], hB.out⟩
set_option maxRecDepth 20000 in
theorem eqStringS_same (v u : Value) (ns : List ByteArray) (w : World) (h : Strs w v ns) (g : Strs w u ns) :
    Calls Tryd.prog 39 #[v, u] w fun e w' => e = .returned (.bool true) ∧ ∃ q, w' = w.drewN q := by
  obtain ⟨ad, c, rfl, hmax, hop⟩ := h.open
  obtain ⟨ad2, c2, rfl, _, hop2⟩ := g.open
  unfold maxLen at hmax
  have HOP := Lib.hid hop
  have HOP2 := Lib.hid hop2
  clear hop hop2 h g
  go_enter Tryd.func39, Tryd.ntmps39
  go_wp2
  go_loopw [5] (fun i wr => ∃ k : Nat, k ≤ ns.length ∧ i = .int .i64 k ∧ ∃ q, wr = w.drewN q) (fun i _ => ns.length - (intOf i).toNat)
  case atStart => exact ⟨0, Nat.zero_le _, rfl, 0, rfl⟩
  case round =>
    obtain ⟨k, hk, rfl, q, rfl⟩ := hrel
    by_cases hlt : k < ns.length
    · obtain ⟨b, off, rfl, hcell⟩ := HOP.out k hlt
      obtain ⟨b2, off2, rfl, hcell2⟩ := HOP2.out k hlt
      have c0 : (w.drewN q).cell? ⟨b, off + k, none⟩ = _ := hcell k hlt
      have d0 : (w.drewN q).cell? ⟨b2, off2 + k, none⟩ = _ := hcell2 k hlt
      have HDS : Hid (∀ q', (w.drewN q).drewN q' = w.drewN (q + q')) := fun q' => World.drewN_drewN _ _ _
      clear hcell hcell2
      obtain ⟨x, hx⟩ : ∃ x, sv ns k = .string x := ⟨_, rfl⟩
      rw [hx] at c0 d0
      clear hx
      have hxx : (x.toList == x.toList) = true := by simp
      generalize w.drewN q = wq at c0 d0 HDS ⊢
      go_wp2
      go_quiet (fail)
      go_wp2
      go_roundw
      case rel => exact ⟨k + 1, hlt, by go_num, _, HDS.out _⟩
      case measure => simp [intOf]; omega
    · obtain rfl : k = ns.length := by omega
      go_wp2
      go_ret
      exact ⟨rfl, _, rfl⟩
set_option maxRecDepth 20000 in
theorem markIntSS_keep (v : Value) (B n : Nat) (f : Nat → List Int) (k0 : Int) (w : World) (h : OwnSS w B v n f) (P : World → Prop) (hP0 : P w) (hP : ∀ w1 w2 gt ut lt, P w1 → OwnI w1 gt ut lt → From B gt → w1.grownBy w2 gt → P w2) (hBw : B ≤ w.heap.size) (h0 : 0 ≤ k0) (h1 : k0 + preL f n ≤ 4611686018427387904) :
    Calls Tryd.prog 42 #[v, .int .i64 k0] w fun e w' => e = .returned (.int .i64 (k0 + preL f n)) ∧ OwnSS w' B v n (marksSS k0 f) ∧ P w' ∧ Below B w w' := by
  have HP0 := Lib.hid hP0
  have HPS := Lib.hid hP
  clear hP0 hP
  obtain ⟨vs, gs, b, hO, hF, hI⟩ := h
  obtain ⟨ad, c, hv, hmax, hcs⟩ := hO.view.cells
  subst hv
  unfold maxLen at hmax
  have HO := Lib.hid hO
  have HI := Lib.hid hI
  have HCS := Lib.hid hcs
  have HF := Lib.hid hF
  clear hO hI hcs hF
  go_enter Tryd.func42, Tryd.ntmps42
  go_wp2
  go_loopw [1, 5] (fun kk i wr => ∃ k : Nat, k ≤ n ∧ i = .int .i64 k ∧ kk = .int .i64 (k0 + preL f k) ∧ Hid (Own wr b 38 1 (.slice ad n c) n (tab n vs)) ∧ Hid (∀ i, i < k → OwnI wr (gs i) (vs i) (marksSS k0 f i)) ∧ Hid (∀ i, k ≤ i → i < n → OwnI wr (gs i) (vs i) (f i)) ∧ Hid (P wr) ∧ Hid (Below B w wr)) (fun _ i _ => n - (intOf i).toNat)
  case atStart => exact ⟨0, Nat.zero_le _, rfl, by simp [preL], HO.out, (fun i hi => by omega), (fun i _ hi => (HI.out i hi).1), HP0.out, Below.refl _ _⟩
  case round =>
    obtain ⟨k, hk, rfl, rfl, hO, hD, hT, hPP, hB⟩ := hrel
    have hpm := preL_mono f hk
    obtain ⟨x, hx⟩ : ∃ x, k0 + (preL f k : Int) = x := ⟨_, rfl⟩
    by_cases hlt : k < n
    · obtain ⟨ad', c', hv', -, hcs⟩ := hO.out.view.cells
      cases hv'
      obtain ⟨b', off, rfl, hcell⟩ := hcs k hlt
      have c0 := hcell k hlt
      have hK := hT.out k (Nat.le_refl _) hlt
      obtain ⟨a', c', hvk, hmk, -⟩ := hK.ints.open
      rw [hvk] at c0
      have HK := Lib.hid hK
      have HVK := Lib.hid hvk
      rw [hvk] at HK
      have hp2 := preL_mono f (Nat.succ_le_of_lt hlt)
      rw [preL] at hp2
      have HX : Hid (k0 + (preL f (k + 1) : Int) = x + ((f k).length : Int)) := by unfold Hid; rw [← hx, preL]; push_cast; omega
      have HM : Hid (marks x (f k).length = marksSS k0 f k) := by unfold Hid marksSS; rw [hx]
      have q0 : 0 ≤ x := by omega
      have q1 : x + ((f k).length : Int) ≤ 4611686018427387904 := by omega
      rw [hx]
      clear hcell hcs hK hvk hx hp2 hpm
      go_wp2_with fail
      refine (markIntS_any _ _ (f k) x _ HK.out q0 q1).mono ?_
      rintro e w2 ⟨rfl, ho, hg⟩
      have hne : ∀ i, i < n → i ≠ k → ∀ g, gs i = some g → gs k ≠ some g := fun i hi e => (HI.out k hlt).2.2.2 i hi e
      have HO2 := Lib.hid (hO.out.grown hg (HI.out k hlt).2.2.1)
      have HD2 : Hid (∀ i, i < k + 1 → OwnI w2 (gs i) (vs i) (marksSS k0 f i)) := fun i hi => by
        by_cases e : i = k
        · subst e; rw [← HM.out, HVK.out]; exact ho
        · exact (hD.out i (by omega)).grown hg (hne i (by omega) e)
      have HT2 : Hid (∀ i, k + 1 ≤ i → i < n → OwnI w2 (gs i) (vs i) (f i)) := fun i h1 h2 => (hT.out i (by omega) h2).grown hg (hne i h2 (by omega))
      have HP2 : Hid (P w2) := HPS.out _ _ _ _ _ hPP.out HK.out (HI.out k hlt).2.1 hg
      have HB2 : Hid (Below B w w2) := hB.out.trans (below_grown hg (HI.out k hlt).2.1 (Nat.le_trans hBw hB.out.size))
      clear ho hg hne hO hD hT hB hPP
      go_wp2
      go_roundw
      case rel => exact ⟨k + 1, hlt, by go_num, by rw [HX.out], HO2.out, HD2.out, HT2.out, HP2.out, HB2.out⟩
      case measure => simp [intOf]; omega
    · obtain rfl : k = n := by omega
      have HX := Lib.hid hx
      rw [hx]
      clear hx
      go_wp2
      go_ret
      exact ⟨ret_int HX.out.symm, ⟨vs, gs, b, hO.out, HF.out, fun i hi => ⟨hD.out i hi, (HI.out i hi).2⟩⟩, hPP.out, hB.out⟩
/-- rows apart are rows of the call's own -/
theorem ownSS_of {w : World} {B : Nat} {rv : Value} {n : Nat} {vs : Nat → Value} {f : Nat → List Int} (h : RowsO w B rv n vs f) (d : Dist n vs) : OwnSS w B rv n f := by
  obtain ⟨b, hb, hB, hbl⟩ := h.1.own
  have hex : ∀ i, ∃ g : Option Nat, i < n → OwnI w g (vs i) (f i) ∧ From B g ∧ ∀ x, g = some x → gBlock (vs i) = some x := fun i => by
    by_cases hi : i < n
    · obtain ⟨g, h1, h2, h3⟩ := (h.2 i hi).own
      exact ⟨g, fun _ => ⟨h1, h2, h3⟩⟩
    · exact ⟨none, fun h => absurd h hi⟩
  refine ⟨vs, fun i => Classical.choose (hex i), b, hb, hB, fun i hi => ?_⟩
  obtain ⟨h1, h2, h3⟩ := Classical.choose_spec (hex i) hi
  refine ⟨h1, h2, fun g hg he => ?_, fun j hj hne g hg he => ?_⟩
  · exact gBlock_type h.1 (h.2 i hi) (by decide) g (hbl g hg) (h3 g he)
  · obtain ⟨-, -, h6⟩ := Classical.choose_spec (hex j) hj
    exact d j i hj hi hne g (h6 g hg) (h3 g he)
end Go.Proofs.YtajgghifamebkaaDoor
