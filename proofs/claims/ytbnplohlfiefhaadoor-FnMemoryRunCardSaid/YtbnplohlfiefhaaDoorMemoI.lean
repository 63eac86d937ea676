/- contract of the program's MemoryValid -/
import Derived.Test.YtbnplohlfiefhaaDoorMemoR
import Derived.Test.YtbnplohlfiefhaaDoorMemoP
import Derived.Deep.RegionLaw
namespace Go.Proofs.YtbnplohlfiefhaaDoor
open Go.RowKit
theorem onB_path {i l : Int} (h : inB l 0 3 = true) : onB i l = (pathL l).contains i := by unfold onB pathO; rw [if_pos h]
theorem validC_any (b : Int × Int × Int) (i : Int) (q : Nat) (w : World) (hc : w.cell? ⟨q, 0, none⟩ = some (.int .i64 i)) (hl : inB b.2.2 0 3 = true) :
    Calls Tryd.prog 41 #[blkV b, .pointer (some ⟨q, 0, none⟩)] w fun e w' => e = .returned (.bool (!onB i b.2.2)) ∧ Below w.heap.size w w' := by
  unfold blkV
  have hq := World.block_lt_of_cell? w _ hc
  obtain ⟨b1, b2, b3⟩ := b
  have hb0 := (Below.refl w.heap.size w).alloc (Nat.le_refl _) (.cells #[.int .i64 b1, .int .i64 b2, .int .i64 b3] 56)
  have hc2 : (w.alloc (.cells #[.int .i64 b1, .int .i64 b2, .int .i64 b3] 56)).cell? ⟨q, 0, none⟩ = some (.int .i64 i) := (hb0.cell (p := ⟨q, 0, none⟩) hq).trans hc
  have HB := Lib.hid hb0
  have HL : Hid (inB b3 0 3 = true) := hl
  have HON : Hid (onB i b3 = (pathL b3).contains i) := onB_path hl
  have HC := Lib.hid hc
  clear hc hl hb0
  go_enter Tryd.func41, Tryd.ntmps41
  go_wp2_with fail
  go_region_law (first
    | (go_simp; (go_at_call 37; refine (path_any _ _ HL.out).mono ?_; rintro e w1 ⟨u, rfl, hg, hb⟩; have HI : Hid (Ints w1 u (pathL b3)) := Gr.ints hg rfl; have HB1 : Hid (Below w.heap.size w w1) := (show Below w.heap.size w _ from HB.out.drew).trans (hb.mono (by simp)); have hc1 : w1.cell? ⟨q, 0, none⟩ = some (.int .i64 i) := (HB1.out.cell (p := ⟨q, 0, none⟩) hq).trans HC.out; clear hg hb))
    | (go_simp; (go_at_call 38; refine (contains_any _ _ _ _ HI.out).mono ?_; rintro e w' ⟨rfl, rfl⟩)))
  all_goals
    go_wp2
    go_ret
    exact ⟨ret_bool (by rw [HON.out]; simp), HB1.out⟩
theorem idxP_some {p : Int × Int × Int → Bool} {xs : List (Int × Int × Int)} (h : ∃ b ∈ xs, p b = true) : ∃ k : Nat, k < xs.length ∧ idxP p xs = k ∧ p (bat xs k) = true := by
  have ha : xs.any p = true := by obtain ⟨b, hb, hp⟩ := h; exact List.any_eq_true.2 ⟨b, hb, hp⟩
  have hl : xs.findIdx p < xs.length := List.findIdx_lt_length.2 (by obtain ⟨b, hb, hp⟩ := h; exact ⟨b, hb, hp⟩)
  refine ⟨xs.findIdx p, hl, by unfold idxP; rw [if_pos ha], ?_⟩
  unfold bat
  rw [List.getElem?_eq_getElem hl]
  exact List.findIdx_getElem
theorem nodup_inj {L : List (Int × Int × Int)} (h : (adrs L).Nodup) {b b' : Int × Int × Int} (hb : b ∈ L) (hb' : b' ∈ L) (e : b.1 = b'.1) : b = b' := by
  obtain ⟨i, hi, rfl⟩ := List.getElem_of_mem hb
  obtain ⟨j, hj, rfl⟩ := List.getElem_of_mem hb'
  unfold adrs at h
  have := (List.pairwise_iff_getElem.1 h)
  by_cases c : i = j
  · subst c; rfl
  · rcases Nat.lt_or_gt_of_ne c with c | c
    · have := this i j (by simpa using hi) (by simpa using hj) c
      simp at this; exact (this e).elim
    · have := this j i (by simpa using hj) (by simpa using hi) c
      simp at this; exact (this e.symm).elim
set_option maxHeartbeats 1000000 in
theorem block_any (v : Value) (n : Nat) (f : Nat → List (Int × Int × Int)) (st : List (Int × Int × Int)) (x : Int) (w : World) (h : MemIn w v n f st) (hs : Small n f st) (hx : ∃ b ∈ allM n f st, b.1 = x) :
    Calls Tryd.prog 36 #[v, .int .i64 x] w fun e w' => ∃ b ∈ allM n f st, b.1 = x ∧ e = .returned (blkV b) ∧ Below w.heap.size w w' := by
  have HM := Lib.hid h
  obtain ⟨bs, sv, rfl, h1, h2⟩ := h
  obtain ⟨ad, c, rfl, _, _⟩ := h1.open
  obtain ⟨ads, cs2, hsv, _, _⟩ := h2.open
  subst hsv
  have HSM := Lib.hid hs
  have HXX : Hid (∃ b ∈ allM n f st, (b.1 == x) = true) := by obtain ⟨b, hb, e⟩ := hx; exact ⟨b, hb, by simp [e]⟩
  have hLl := allM_len hs n (Nat.le_refl _)
  have hn16 := hs.1
  clear h1 h2 hs hx
  obtain ⟨w3, hw3⟩ : ∃ w3, w3 = ((w.alloc (.cells #[.slice ad n c, .slice ads st.length cs2] 29)).alloc (.cells #[.int .i64 x] 3)).alloc (.cells #[.int .i64 0, .int .i64 0, .int .i64 0] 56) := ⟨_, rfl⟩
  have HW3 := Lib.hid hw3
  have HB : Hid (Below w.heap.size w w3) := by rw [hw3]; exact (((Below.refl _ _).alloc (Nat.le_refl _) _).alloc (by simp) _).alloc (by simp; omega) _
  have HR1 : Hid (Row w3 w.heap.size 29 [.slice ad n c, .slice ads st.length cs2]) := by rw [hw3]; exact ((Row.new w 29 [.slice ad n c, .slice ads st.length cs2]).alloc _).alloc _
  have HR2 : Hid (Row w3 (w.heap.size + 1) 3 [.int .i64 x]) := by
    have := (Row.new (w.alloc (.cells #[.slice ad n c, .slice ads st.length cs2] 29)) 3 [.int .i64 x]).alloc (.cells #[.int .i64 0, .int .i64 0, .int .i64 0] 56)
    rw [World.size_alloc] at this
    rw [hw3]; exact this
  have HR3 : Hid (Row w3 (w.heap.size + 1 + 1) 56 [.int .i64 0, .int .i64 0, .int .i64 0]) := by
    have := Row.new ((w.alloc (.cells #[.slice ad n c, .slice ads st.length cs2] 29)).alloc (.cells #[.int .i64 x] 3)) 56 [.int .i64 0, .int .i64 0, .int .i64 0]
    rw [World.size_alloc, World.size_alloc] at this
    rw [hw3]; exact this
  clear hw3
  go_enter Tryd.func36, Tryd.ntmps36
  go_wp2_with fail
  rw [← HW3.out]
  refine (all_any _ n f st w3 (HM.out.mono HB.out (Nat.le_refl _)) HSM.out).mono ?_
  rintro e w4 ⟨u, rfl, hg, hb⟩
  obtain ⟨L, hL⟩ : ∃ L, allM n f st = L := ⟨_, rfl⟩
  rw [hL] at hg HXX hLl
  have HLL := Lib.hid hL
  have HU : Hid (Blks w4 u L) := hg.view
  have HB4 : Hid (Below w.heap.size w w4) := HB.out.trans (hb.mono HB.out.size)
  have HR2' := Lib.hid (HR2.out.mono hb HR2.out.lt)
  have HR3' := Lib.hid (HR3.out.mono hb HR3.out.lt)
  have HZ4 : Hid (w.heap.size + 1 + 1 < w4.heap.size) := Nat.lt_of_lt_of_le HR3.out.lt hb.size
  clear hg hb hL HR1 HR2 HR3 HB
  obtain ⟨ad5, c5, hu, _, hop⟩ := HU.out.open
  subst hu
  obtain ⟨k, hk, hik, hpk⟩ := idxP_some HXX.out
  obtain ⟨b5, off5, rfl, hcell⟩ := hop k hk
  obtain ⟨c0, c1, c2⟩ := hcell k hk
  have HC0 := Lib.hid c0
  have HC1 := Lib.hid c1
  have HC2 := Lib.hid c2
  have HIK := Lib.hid hik
  have HPK := Lib.hid hpk
  have HCL : Hid (ClosP 51 (.pointer (some ⟨w.heap.size + 1, 0, none⟩)) w4 L (fun b => b.1 == x)) := fun W hW b _ => blockC_any b x _ W ((HR2'.out.mono hW HR2'.out.lt).cell (i := 0) rfl)
  have hbl : b5 < w4.heap.size := World.block_lt_of_cell? w4 _ c0
  clear hop hcell c0 c1 c2 hik hpk
  go_wp2_with fail
  refine (indexFunc_any _ _ (fun b => b.1 == x) _ L w4 (.inr rfl) HU.out HCL.out (by omega)).mono ?_
  rw [HIK.out]
  rintro e w5 ⟨rfl, hb⟩
  have c0 := (hb.cell (p := ⟨b5, off5 + k * 3, none⟩) hbl).trans HC0.out
  have c1 := (hb.cell (p := ⟨b5, off5 + k * 3 + 1, none⟩) hbl).trans HC1.out
  have c2 := (hb.cell (p := ⟨b5, off5 + k * 3 + 2, none⟩) hbl).trans HC2.out
  have HR5 := Lib.hid (HR3'.out.mono hb HR3'.out.lt)
  have HB5 : Hid (Below w.heap.size w w5) := HB4.out.trans (hb.mono HB4.out.size)
  have d0 := HR5.out.cell (i := 0) rfl
  have d1 := HR5.out.cell (i := 1) rfl
  have d2 := HR5.out.cell (i := 2) rfl
  have e0 := HR5.out.free 0
  have e1 := HR5.out.free 1
  have e2 := HR5.out.free 2
  obtain ⟨bk, hbk⟩ : ∃ b, bat L k = b := ⟨_, rfl⟩
  have HBM : Hid (bk ∈ L) := by rw [← hbk]; exact bat_mem hk
  have HBX : Hid (bk.1 = x) := by have := HPK.out; rw [hbk] at this; simpa [Hid] using this
  rw [hbk] at c0 c1 c2
  obtain ⟨y0, y1, y2⟩ := bk
  clear hb hbk HU HCL HR2' HR3' HC0 HC1 HC2
  have hz4 := HZ4.out
  go_wp2
  have hrow := ((HR5.out.set 0 (.int .i64 y0)).set 1 (.int .i64 y1)).set 2 (.int .i64 y2)
  have f0 := hrow.cell (i := 0) rfl
  have f1 := hrow.cell (i := 1) rfl
  have f2 := hrow.cell (i := 2) rfl
  have HFB : Hid (Below w.heap.size w (((w5.setCell ⟨w.heap.size + 1 + 1, 0, none⟩ (.int .i64 y0)).setCell ⟨w.heap.size + 1 + 1, 1, none⟩ (.int .i64 y1)).setCell ⟨w.heap.size + 1 + 1, 2, none⟩ (.int .i64 y2))) :=
    ((HB5.out.setCell (p := ⟨w.heap.size + 1 + 1, 0, none⟩) (show w.heap.size ≤ w.heap.size + 1 + 1 by omega) _).setCell (p := ⟨w.heap.size + 1 + 1, 1, none⟩) (show w.heap.size ≤ w.heap.size + 1 + 1 by omega) _).setCell (p := ⟨w.heap.size + 1 + 1, 2, none⟩) (show w.heap.size ≤ w.heap.size + 1 + 1 by omega) _
  refine bodyPost_ret (v := blkV (y0, y1, y2)) (by simp [results, Tryd.results36, go_sem, f0, f1, f2, blkV]) rfl ?_
  exact ⟨(y0, y1, y2), by rw [HLL.out]; exact HBM.out, HBX.out, rfl, HFB.out⟩
end Go.Proofs.YtbnplohlfiefhaaDoor
