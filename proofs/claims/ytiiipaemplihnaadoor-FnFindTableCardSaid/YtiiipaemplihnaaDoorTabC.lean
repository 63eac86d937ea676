/- copies of tables: of the program and of the specification -/
import Derived.Test.YtiiipaemplihnaaDoorTabO
import Derived.Test.YtiiipaemplihnaaDoorRegB
import Derived.Deep.RegionLaw
namespace Go.Proofs.YtiiipaemplihnaaDoor
open Go.RowKit
section
variable {ρ : Operand → Value} {w : World} {o : Oper}
theorem xt_field {x : Operand} {q k : Nat} (ho : o.op = .fieldAddr 29 x k) (hk : k < 2) (hx : ρ x = .pointer (some ⟨q, 0, none⟩)) : (execOp ρ o).run Tryd.prog w = .ok (.value (.pointer (some ⟨q, k, none⟩))) w := by
  have : k = 0 ∨ k = 1 := by omega
  unfold execOp
  rcases this with rfl | rfl <;> (simp only [ho, hx]; simp [go_sem])
theorem xt_load {t : TypeId} {x : Operand} {ad : Addr} {u : Value} (ht : t = 26 ∨ t = 27) (ho : o.op = .load t x) (hx : ρ x = .pointer (some ad)) (hc : w.cell? ad = some u) : (execOp ρ o).run Tryd.prog w = .ok (.value u) w := by
  unfold execOp
  simp only [ho, hx]
  rcases ht with rfl | rfl
  · simp [go_sem, hc, Tryd.underlying26]
  · simp [go_sem, hc, Tryd.underlying27]
theorem xt_build {x y : Operand} {ad ad2 : Option Addr} {n c n2 c2 : Nat} (ho : o.op = .build 29 #[(0, x), (1, y)]) (hx : ρ x = .slice ad n c) (hy : ρ y = .slice ad2 n2 c2) : (execOp ρ o).run Tryd.prog w = .ok (.value (.agg #[.slice ad n c, .slice ad2 n2 c2])) w := by
  unfold execOp
  simp only [ho, List.map_toArray, List.map_cons, List.map_nil, hx, hy]
  simp [go_sem]
theorem xt_store {x y : Operand} {q : Nat} {ad ad2 : Option Addr} {n c n2 c2 : Nat} {a b : Value} (ho : o.op = .store 29 x y) (hx : ρ x = .pointer (some ⟨q, 0, none⟩)) (hy : ρ y = .agg #[.slice ad n c, .slice ad2 n2 c2]) (hr : Row w q 29 [a, b]) :
    (execOp ρ o).run Tryd.prog w = .ok .skip ((w.setCell ⟨q, 0, none⟩ (.slice ad n c)).setCell ⟨q, 1, none⟩ (.slice ad2 n2 c2)) := by
  have k0 : w.cell? ⟨q, 0, none⟩ = some a := hr.cell rfl
  have k1 : w.cell? ⟨q, 1, none⟩ = some b := hr.cell rfl
  have f0 := hr.free 0
  have f1 := hr.free 1
  unfold execOp
  simp only [ho, hx, hy]
  simp [go_sem, k0, k1, f0, f1]
theorem xt_names {x : Operand} {v : Value} {ts : Array TypeId} (ho : o.op = .call { callee := .value (.func 26), args := #[x], argTypes := ts }) (hx : ρ x = v) (hf : ρ (.func 26) = .func (.func 26) #[] #[]) :
    (execOp ρ o).run Tryd.prog w = .ok (.enter 26 #[v]) w := by
  unfold execOp
  simp only [ho, resolve, hx, hf, List.map_toArray, List.map_cons, List.map_nil]
  simp [invoke, go_sem, Tryd.func26]
theorem xt_rows {x : Operand} {v : Value} {ts : Array TypeId} (ho : o.op = .call { callee := .value (.func 27), args := #[x], argTypes := ts }) (hx : ρ x = v) (hf : ρ (.func 27) = .func (.func 27) #[] #[]) :
    (execOp ρ o).run Tryd.prog w = .ok (.enter 27 #[v]) w := by
  unfold execOp
  simp only [ho, resolve, hx, hf, List.map_toArray, List.map_cons, List.map_nil]
  simp [invoke, go_sem, Tryd.func27]
end
def StrsPost (ns : List ByteArray) (w : World) (e : Ending) (w' : World) : Prop := ∃ u, e = .returned u ∧ Gr w' w.heap.size 9 1 u ns.length (strs ns) ∧ Below w.heap.size w w'
theorem cloneNames_any (v : Value) (ns : List ByteArray) (w : World) (h : Strs w v ns) (hn : ns.length ≤ 1048576) : Calls Tryd.prog 26 #[v] w (StrsPost ns w) := by
  have H := Lib.hid h
  obtain ⟨ad, c, rfl, _, _⟩ := h.open
  have HF : Hid (∀ u w', Gr w' w.heap.size 9 1 u (0 + ns.length) ([] ++ strs ns) → Below w.heap.size w w' → StrsPost ns w (.returned u) w') := fun u w' hg hb => ⟨u, rfl, by simpa using hg, hb⟩
  clear h
  go_enter Tryd.func26, Tryd.ntmps26
  go_wp2_with (at_builtin; refine wpList_app _ rfl (.const (.slice none 0 0)) (.tmp 3) 26 rfl w.heap.size 9 (.string ByteArray.empty) 1 16 Tryd.underlying26 Tryd.infoStr rfl (by omega) (.slice none 0 0) 0 [] rfl (Gr.nil _ _ _ _) _ ns.length (strs ns) rfl H.out (one_strs _) (by unfold maxLen; omega) (by omega) (Nat.le_refl _) ?_; intro v1 w1 g1 r1 k1; have G1 := Lib.hid g1; have R1 := Lib.hid r1; clear g1 r1 k1)
  go_ret
  exact HF.out _ _ G1.out ((Below.refl _ _).grown R1.out (Nat.le_refl _) (fun g hg => by simp [gBlock] at hg))
def RowsPost (n : Nat) (f : Nat → List Int) (w : World) (e : Ending) (w' : World) : Prop := ∃ u vs, e = .returned u ∧ RowsO w' w.heap.size u n vs f ∧ Below w.heap.size w w'
set_option maxRecDepth 20000 in
set_option maxHeartbeats 400000 in
theorem cloneRows_any (v : Value) (n : Nat) (f : Nat → List Int) (w : World) (h : IntSS w v n f) (hn : n ≤ 1000) (hf : ∀ i, i < n → (f i).length ≤ 1000) : Calls Tryd.prog 27 #[v] w (RowsPost n f w) := by
  obtain ⟨ad, c, rfl, _, hop⟩ := h.open
  have HOP := Lib.hid hop
  have HFL := Lib.hid hf
  clear hop h hf
  go_enter Tryd.func27, Tryd.ntmps27
  go_wp2
  go_loopw [3, 5, 8] (fun u _ i wr => ∃ (k : Nat) (vs : Nat → Value) (g : Nat → List Int), k ≤ n ∧ i = .int .i64 k ∧ Hid (RowsO wr w.heap.size u k vs g) ∧ Hid (∀ i, i < k → g i = f i) ∧ Hid (Below w.heap.size w wr)) (fun _ _ i _ => n - (intOf i).toNat)
  case atStart => exact ⟨0, fun _ => undef, fun _ => [], Nat.zero_le _, rfl, ⟨Gr.nil _ _ _ _, fun i hi => absurd hi (Nat.not_lt_zero _)⟩, (fun i hi => absurd hi (Nat.not_lt_zero _)), Below.refl _ _⟩
  case round =>
    obtain ⟨k, vs, g, hk, rfl, hR, hE, hB⟩ := hrel
    obtain ⟨au, cu, hu⟩ := hR.out.1.lit
    subst hu
    by_cases hlt : k < n
    · obtain ⟨b, off, rfl, hcell⟩ := HOP.out k hlt
      obtain ⟨a', c', hc1, hi⟩ := hcell k hlt
      have hc2 := (hB.out.cell (p := ⟨b, off + k, none⟩) (World.block_lt_of_cell? w _ hc1)).trans hc1
      have HI := Lib.hid (hi.mono hB.out (Nat.le_refl _))
      have HL := Lib.hid (HFL.out k hlt)
      obtain ⟨xs, hxs⟩ : ∃ xs, f k = xs := ⟨_, rfl⟩
      rw [hxs] at hc2 HI HL
      have HXS := Lib.hid hxs
      have hsz : w.heap.size ≤ wr.heap.size := hB.out.size
      clear hcell hc1 hi hxs
      go_wp2_with fail
      refine (clone_any _ xs _ HI.out (by have := HL.out; omega)).mono ?_
      rintro e w1 ⟨u1, rfl, hg1, hb1⟩
      obtain ⟨a1, c1, hu1⟩ := hg1.lit
      subst hu1
      have G1 := Lib.hid (hg1.low hsz)
      have HB1 := Lib.hid hb1
      have R1 := Lib.hid (hR.out.mono hb1 (Nat.le_refl _))
      have hsz1 : w.heap.size ≤ w1.heap.size := Nat.le_trans hsz hb1.size
      clear hg1 hb1 hc2
      go_wp2_with (at_builtin; refine wpList_app _ rfl (.tmp 12) (.tmp 15) 27 rfl w.heap.size 58 (.slice none 0 0) 1 24 Tryd.underlying27 Tryd.infoInts rfl (by omega) (.slice au k cu) k (tab k vs) rfl (R1.out.1.alloc _) _ 1 [.slice a1 xs.length c1] rfl (view_one _ _ _) (by simp [Value.oneCell']) (by unfold maxLen; omega) (by omega) (by rw [World.size_alloc]; omega) ?_; intro v2 w2 g2 r2 k2; have G2 := Lib.hid g2; have R2 := Lib.hid r2; clear g2 r2 k2)
      go_roundw
      case rel =>
        have hba : Below w1.heap.size w1 (w1.alloc (.cells #[.slice a1 xs.length c1] 58)) := (Below.refl _ _).alloc (Nat.le_refl _) _
        refine ⟨k + 1, upd vs k (.slice a1 xs.length c1), upd g k xs, hlt, by go_num, R1.out.app G1.out hba G2.out R2.out, fun i hi => ?_, ((hB.out.trans (HB1.out.mono hsz)).trans (hba.mono hsz1)).grown R2.out (by rw [World.size_alloc]; omega) (fun g hg => (R1.out.1.lt g hg).1)⟩
        by_cases e : i = k
        · subst e; rw [upd_same, HXS.out]
        · rw [upd_other _ _ e]; exact hE.out i (by omega)
      case measure => simp [intOf]; omega
    · obtain rfl : k = n := by omega
      go_wp2
      go_ret
      exact ⟨_, vs, rfl, hR.out.ext hE.out, hB.out⟩
def TabPost (ns : List ByteArray) (n : Nat) (f : Nat → List Int) (w : World) (e : Ending) (w' : World) : Prop := ∃ v, e = .returned v ∧ TabO w' w.heap.size v ns n f ∧ Below w.heap.size w w'
set_option maxRecDepth 20000 in
set_option maxHeartbeats 400000 in
theorem tabClone_any (v : Value) (ns : List ByteArray) (n : Nat) (f : Nat → List Int) (w : World) (h : TabIn w v ns n f) (hns : ns.length ≤ 1000) (hn : n ≤ 1000) (hf : ∀ i, i < n → (f i).length ≤ 1000) : Calls Tryd.prog 14 #[v] w (TabPost ns n f w) := by
  obtain ⟨nv, rv, rfl, h1, h2⟩ := h
  obtain ⟨ad, c, hu, -, -⟩ := h1.open
  subst hu
  obtain ⟨ad2, c2, hu, -, -⟩ := h2.open
  subst hu
  obtain ⟨W, hW⟩ : ∃ W, W = (w.alloc (.cells #[.slice ad ns.length c, .slice ad2 n c2] 29)).alloc (.cells #[.slice none 0 0, .slice none 0 0] 29) := ⟨_, rfl⟩
  have HB : Hid (Below w.heap.size w W) := by rw [hW]; exact ((Below.refl _ _).alloc (Nat.le_refl _) _).alloc (by simp) _
  have HR1 : Hid (Row W w.heap.size 29 [.slice ad ns.length c, .slice ad2 n c2]) := by rw [hW]; exact (Row.new w 29 [.slice ad ns.length c, .slice ad2 n c2]).alloc _
  have HR2 : Hid (Row W (w.heap.size + 1) 29 [.slice none 0 0, .slice none 0 0]) := by
    rw [hW]
    have := Row.new (w.alloc (.cells #[.slice ad ns.length c, .slice ad2 n c2] 29)) 29 [.slice none 0 0, .slice none 0 0]
    rwa [World.size_alloc] at this
  have HSZ : Hid (W.heap.size = w.heap.size + 2) := by rw [hW]; simp [Hid]
  have H1 := Lib.hid (h1.mono HB.out (Nat.le_refl _))
  have H2 := Lib.hid (h2.mono HB.out (Nat.le_refl _))
  have HW := Lib.hid hW
  have HFL := Lib.hid hf
  clear h1 h2 hW hf
  obtain ⟨m, hm⟩ : ∃ m, ns.length = m := ⟨_, rfl⟩
  have HM := Lib.hid hm
  rw [hm] at HR1 H1 HW hns
  rw [hm]
  clear hm
  go_enter Tryd.func14, Tryd.ntmps14
  go_wp2_with fail
  rw [← HW.out]
  refine below_region_last (l := [IsV (.pointer (some ⟨w.heap.size, 0, none⟩)), IsV (.slice ad m c), fun v w' => Gr w' W.heap.size 9 1 v m (strs ns), IsV (.pointer (some ⟨w.heap.size, 1, none⟩)), IsV (.slice ad2 n c2), fun v w' => ∃ vs, RowsO w' W.heap.size v n vs f, fun v w' => TabO w' W.heap.size v ns n f]) 10 [3, 4, 5, 6, 7, 8, 9] _ rfl (by kernel_rfl) (by kernel_rfl) (by kernel_rfl) (by kernel_rfl)
    ⟨stabB_v _, stabB_v _, fun _ _ _ h hb => h.mono hb (Nat.le_refl _), stabB_v _, stabB_v _, fun _ _ _ h hb => by obtain ⟨vs, h⟩ := h; exact ⟨vs, h.mono hb (Nat.le_refl _)⟩, fun _ _ _ h hb => h.mono hb (Nat.le_refl _), trivial⟩ rfl rfl rfl (by kernel_rfl) ⟨?_, ?_, ?_, ?_, ?_, ?_, ?_, trivial⟩ ?_
  · exact ob_run rfl fun a w' _ h => ⟨_, xt_field (k := 0) (q := w.heap.size) rfl (by omega) ((h.2 1 (by kernel_rfl)).trans rfl), rfl⟩
  · exact ob_run rfl fun a w' hb h => ⟨_, xt_load (.inl rfl) rfl (h.1 0 _ 3 rfl rfl (by kernel_rfl)) ((HR1.out.mono hb HR1.out.lt).cell (i := 0) rfl), rfl⟩
  · refine ob_enter rfl fun a w' hb h => ⟨_, _, xt_names (ρ := a.eval) rfl (h.1 1 _ 4 rfl rfl (by kernel_rfl)) rfl, ?_⟩
    refine (cloneNames_any _ ns w' (H1.out.mono hb (Nat.le_refl _)) (by rw [HM.out]; omega)).mono ?_
    rintro e w2 ⟨u, he, hg, hb2⟩
    rw [HM.out] at hg
    exact ⟨u, he, hg.low hb.size, hb2⟩
  · exact ob_run rfl fun a w' _ h => ⟨_, xt_field (k := 1) (q := w.heap.size) rfl (by omega) ((h.2 1 (by kernel_rfl)).trans rfl), rfl⟩
  · exact ob_run rfl fun a w' hb h => ⟨_, xt_load (.inr rfl) rfl (h.1 3 _ 6 rfl rfl (by kernel_rfl)) ((HR1.out.mono hb HR1.out.lt).cell (i := 1) rfl), rfl⟩
  · refine ob_enter rfl fun a w' hb h => ⟨_, _, xt_rows (ρ := a.eval) rfl (h.1 4 _ 7 rfl rfl (by kernel_rfl)) rfl, ?_⟩
    refine (cloneRows_any _ n f w' (H2.out.mono hb (Nat.le_refl _)) hn HFL.out).mono ?_
    rintro e w2 ⟨u, vs, he, hr, hb2⟩
    exact ⟨u, he, ⟨vs, hr.low hb.size⟩, hb2⟩
  · refine ob_run rfl fun a w' hb h => ?_
    have g5 : Gr w' W.heap.size 9 1 (a.tmps.getD 5 undef) m (strs ns) := h.1 2 _ 5 rfl rfl (by kernel_rfl)
    obtain ⟨vs, g8⟩ : ∃ vs, RowsO w' W.heap.size (a.tmps.getD 8 undef) n vs f := h.1 5 _ 8 rfl rfl (by kernel_rfl)
    obtain ⟨p5, q5, e5⟩ := g5.lit
    obtain ⟨p8, q8, e8⟩ := g8.1.lit
    refine ⟨_, xt_build (ρ := a.eval) rfl e5 e8, _, _, vs, rfl, ?_, ?_⟩
    · rw [e5] at g5; rw [HM.out]; exact g5
    · rw [e8] at g8; exact g8
  · intro U w1 hb hφ
    have hT : TabO w1 W.heap.size (U 9) ns n f := hφ 6 _ 9 (by decide) rfl rfl
    obtain ⟨p5, q5, p8, q8, e9⟩ := hT.lits
    rw [e9] at hT
    have hr2 := HR2.out.mono hb HR2.out.lt
    refine ⟨_, xt_store (q := w.heap.size + 1) rfl rfl (by simpa [nf, Act.eval] using e9) hr2, ?_⟩
    have hr3 := (hr2.set 0 (.slice p5 ns.length q5)).set 1 (.slice p8 n q8)
    have hg3 : w1.grownBy ((w1.setCell ⟨w.heap.size + 1, 0, none⟩ (.slice p5 ns.length q5)).setCell ⟨w.heap.size + 1, 1, none⟩ (.slice p8 n q8)) (some (w.heap.size + 1)) := grown_set (set_other w1 ⟨w.heap.size + 1, 0, none⟩ _ rfl) _ _
    have HT3 := Lib.hid ((hT.keptB hg3 (by have := HSZ.out; omega)).low HB.out.size)
    have HB3 : Hid (Below w.heap.size w ((w1.setCell ⟨w.heap.size + 1, 0, none⟩ (.slice p5 ns.length q5)).setCell ⟨w.heap.size + 1, 1, none⟩ (.slice p8 n q8))) := (HB.out.trans (hb.mono HB.out.size)).grown hg3 (by have := HB.out.size; have := hb.size; omega) (fun g hg => by cases hg; omega)
    have f0 := hr3.cell (i := 0) rfl
    have f1 := hr3.cell (i := 1) rfl
    clear hT hr2 hr3 hg3 hb hφ
    simp [nf]
    rw [e9]
    clear e9
    generalize ((w1.setCell ⟨w.heap.size + 1, 0, none⟩ (.slice p5 ns.length q5)).setCell ⟨w.heap.size + 1, 1, none⟩ (.slice p8 n q8)) = W3 at HT3 HB3 f0 f1 ⊢
    go_wp2
    exact bodyPost_ret (v := .agg #[.slice p5 ns.length q5, .slice p8 n q8]) (by simp [results, Tryd.results14, go_sem, f0, f1]) rfl ⟨_, rfl, HT3.out, HB3.out⟩
end Go.Proofs.YtiiipaemplihnaaDoor
