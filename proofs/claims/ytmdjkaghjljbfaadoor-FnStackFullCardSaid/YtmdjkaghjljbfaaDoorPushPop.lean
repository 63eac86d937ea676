/- contracts of PushStack and PopStack, both -/
import Derived.Test.YtmdjkaghjljbfaaDoorStack
import Derived.Test.YtmdjkaghjljbfaaDoorClone
import Derived.Deep.RegionHeld3
namespace Go.Proofs.YtmdjkaghjljbfaaDoor
open Go.RowKit
/-- a stack -/
def StackPost (xs : List Int) (m : Int) (w : World) (e : Ending) (w' : World) : Prop := ∃ u, e = .returned (.agg #[u, .int .i64 m]) ∧ Gr w' w.heap.size 3 1 u xs.length (ints xs) ∧ Below w.heap.size w w'
theorem setRow {w : World} {B g i : Nat} {u : Value} (h : Below B w w) (hb : Below B w w) (hg : B ≤ g) : Below B w (w.setCell ⟨g, i, none⟩ u) := h.setCell (p := ⟨g, i, none⟩) hg u
/-- what StackTrace gives -/
theorem passN8 : (passN 2 8).length = 16 := by rw [passN_length]
theorem stackTrace_any (w : World) : Calls Tryd.prog 31 #[] w (AccsPost (passN 2 8) w) := by
  go_enter Tryd.func31, Tryd.ntmps31
  go_wp2_with fail
  refine (impl_PassTrace 2 8 _).mono ?_
  rintro e w1 ⟨u, rfl, hg, hb⟩
  rw [show passV 2 8 = passN 2 8 from by unfold passV passOk; rw [inB_true (by omega) (by omega), inB_true (by omega) (by omega)]; rfl] at hg
  have HG := Lib.hid hg
  have HB := Lib.hid hb
  clear hg hb
  go_wp2
  go_ret
  exact ⟨_, rfl, HG.out, HB.out⟩
set_option maxHeartbeats 1000000 in
theorem impl_clone (v : Value) (xs : List Int) (m : Int) (w : World) (h : Ints w v xs) (hn : xs.length ≤ 1048576) : Calls Tryd.prog 30 #[.agg #[v, .int .i64 m]] w (StackPost xs m w) := by
  obtain ⟨ad, c, hv, hmax, _⟩ := h.open
  subst hv
  have hb2 : Below w.heap.size w ((w.alloc (.cells #[.slice ad xs.length c, .int .i64 m] 25)).alloc (.cells #[.slice none 0 0, .int .i64 0] 25)) := ((Below.refl _ _).alloc (Nat.le_refl _) _).alloc (by simp) _
  have r0 := (Row.new w 25 [.slice ad xs.length c, .int .i64 m]).alloc (.cells #[.slice none 0 0, .int .i64 0] 25)
  have r1 := Row.new (w.alloc (.cells #[.slice ad xs.length c, .int .i64 m] 25)) 25 [.slice none 0 0, .int .i64 0]
  simp only [World.size_alloc] at r1
  have H := Lib.hid (h.mono hb2 (Nat.le_refl _))
  have HB2 := Lib.hid hb2
  have R0 := Lib.hid r0
  have R1 := Lib.hid r1
  clear h hb2 r0 r1
  go_enter Tryd.func30, Tryd.ntmps30
  go_wp2
  generalize (w.alloc (.cells #[.slice ad xs.length c, .int .i64 m] 25)).alloc (.cells #[.slice none 0 0, .int .i64 0] 25) = W at H HB2 R0 R1 ⊢
  have KH0 : Hid (W.drew.cell? ⟨w.heap.size, 0, none⟩ = some (.slice ad xs.length c) ∧ W.drew.cell? ⟨w.heap.size, 1, none⟩ = some (.int .i64 m)) := ⟨R0.out.cell rfl, R0.out.cell rfl⟩
  go_region_held3 (fun w' => w'.cell? ⟨w.heap.size, 0, none⟩ = some (.slice ad xs.length c) ∧ w'.cell? ⟨w.heap.size, 1, none⟩ = some (.int .i64 m)) ((first | exact KH0.out | exact KH1.out | (obtain ⟨q0, q1⟩ := KH1.out; constructor <;> go_simp))) (first | (go_at_call 37; refine (clone_any _ xs _ ?_ hn).mono ?_; (exact H.out); rintro e w1 ⟨u, rfl, hg, hb⟩; have hg := hg.low (B' := W.heap.size) (Nat.le_refl _); have hb := (Below.refl W.heap.size W).drew.trans hb; obtain ⟨a1, c1, hu⟩ := hg.lit; subst hu; have HG := Lib.hid hg; have HB := Lib.hid hb; have HN : Hid (∀ x, gBlock (.slice a1 xs.length c1) = some x → w.heap.size + 1 < x) := fun x hx => (by have := (hg.lt x hx).1; have := R1.out.lt; omega); have KH1 : Hid (w1.cell? ⟨w.heap.size, 0, none⟩ = some (.slice ad xs.length c) ∧ w1.cell? ⟨w.heap.size, 1, none⟩ = some (.int .i64 m)) := ⟨(R0.out.mono hb R0.out.lt).cell rfl, (R0.out.mono hb R0.out.lt).cell rfl⟩; have kr0 : w1.cell? ⟨w.heap.size + 1, 0, none⟩ = some (.slice none 0 0) := (R1.out.mono hb R1.out.lt).cell rfl; have kr1 : w1.cell? ⟨w.heap.size + 1, 1, none⟩ = some (.int .i64 0) := (R1.out.mono hb R1.out.lt).cell rfl; have f0 := (R1.out.mono hb R1.out.lt).free 0; have f1 := (R1.out.mono hb R1.out.lt).free 1; clear hg hb))
  go_wp2
  refine bodyPost_ret (v := .agg #[.slice a1 xs.length c1, .int .i64 m]) (by simp [results, Tryd.results30, go_sem, kr0, kr1]) rfl ⟨_, rfl, ?_, ?_⟩
  · exact ((HG.out.setOther _ _ _ (fun x hx => by have := HN.out x hx; omega)).setOther _ _ _ (fun x hx => by have := HN.out x hx; omega)).low (by have := HB2.out.size; omega)
  · exact ((HB2.out.trans (HB.out.mono HB2.out.size)).setCell (p := ⟨w.heap.size + 1, 0, none⟩) (by show w.heap.size ≤ w.heap.size + 1; omega) _).setCell (p := ⟨w.heap.size + 1, 1, none⟩) (by show w.heap.size ≤ w.heap.size + 1; omega) _
set_option maxHeartbeats 1000000 in
theorem spec_copy (v : Value) (xs : List Int) (m : Int) (w : World) (h : Ints w v xs) (hn : xs.length ≤ 1048576) : Calls Tryd.prog 32 #[.agg #[v, .int .i64 m]] w (StackPost xs m w) := by
  obtain ⟨ad, c, hv, hmax, _⟩ := h.open
  subst hv
  have hb2 : Below w.heap.size w ((w.alloc (.cells #[.slice ad xs.length c, .int .i64 m] 25)).alloc (.cells #[.slice none 0 0, .int .i64 0] 25)) := ((Below.refl _ _).alloc (Nat.le_refl _) _).alloc (by simp) _
  have r0 := (Row.new w 25 [.slice ad xs.length c, .int .i64 m]).alloc (.cells #[.slice none 0 0, .int .i64 0] 25)
  have r1 := Row.new (w.alloc (.cells #[.slice ad xs.length c, .int .i64 m] 25)) 25 [.slice none 0 0, .int .i64 0]
  simp only [World.size_alloc] at r1
  have H := Lib.hid (h.mono hb2 (Nat.le_refl _))
  have HB2 := Lib.hid hb2
  have R0 := Lib.hid r0
  have R1 := Lib.hid r1
  clear h hb2 r0 r1
  go_enter Tryd.func32, Tryd.ntmps32
  go_wp2
  generalize (w.alloc (.cells #[.slice ad xs.length c, .int .i64 m] 25)).alloc (.cells #[.slice none 0 0, .int .i64 0] 25) = W at H HB2 R0 R1 ⊢
  have KH0 : Hid (W.drew.cell? ⟨w.heap.size, 0, none⟩ = some (.slice ad xs.length c) ∧ W.drew.cell? ⟨w.heap.size, 1, none⟩ = some (.int .i64 m)) := ⟨R0.out.cell rfl, R0.out.cell rfl⟩
  have hb3 : Below W.heap.size W (W.drew.alloc (.cells #[] 3)) := (Below.refl W.heap.size W).drew.alloc (Nat.le_refl _) _
  have HB3 := Lib.hid hb3
  have H3 := Lib.hid (H.out.mono hb3 (Nat.le_refl _))
  have KH2 : Hid ((W.drew.alloc (.cells #[] 3)).cell? ⟨w.heap.size, 0, none⟩ = some (.slice ad xs.length c) ∧ (W.drew.alloc (.cells #[] 3)).cell? ⟨w.heap.size, 1, none⟩ = some (.int .i64 m)) := ⟨(R0.out.mono hb3 R0.out.lt).cell rfl, (R0.out.mono hb3 R0.out.lt).cell rfl⟩
  clear hb3
  go_region_held3 (fun w' => w'.cell? ⟨w.heap.size, 0, none⟩ = some (.slice ad xs.length c) ∧ w'.cell? ⟨w.heap.size, 1, none⟩ = some (.int .i64 m)) ((first | exact KH0.out | exact KH2.out | exact KH1.out | (obtain ⟨q0, q1⟩ := KH1.out; constructor <;> go_simp))) (first | (refine step_app _ (by rfl) (.tmp 3) (.tmp 5) 23 (by rfl) W.heap.size 3 (.int .i64 0) 1 8 Tryd.underlying23 Tryd.infoInt rfl (by omega) (.slice (some ⟨W.heap.size, 0, none⟩) 0 0) 0 [] (by rfl) (Gr.none0 _ _ _ _ _) (.slice ad xs.length c) xs.length (ints xs) (by rfl) H3.out (one_ints _) (by unfold maxLen; omega) (by omega) (by simp) ?_; intro u w1 hg r1 k1; rw [Nat.zero_add, List.nil_append] at hg; have hb : Below W.heap.size W w1 := HB3.out.grown r1 (by simp) (fun g hg => by simp [gBlock] at hg); obtain ⟨a1, c1, hu⟩ := hg.lit; subst hu; have HG := Lib.hid hg; have HB := Lib.hid hb; have HN : Hid (∀ x, gBlock (.slice a1 xs.length c1) = some x → w.heap.size + 1 < x) := fun x hx => (by have := (hg.lt x hx).1; have := R1.out.lt; omega); have KH1 : Hid (w1.cell? ⟨w.heap.size, 0, none⟩ = some (.slice ad xs.length c) ∧ w1.cell? ⟨w.heap.size, 1, none⟩ = some (.int .i64 m)) := ⟨(R0.out.mono hb R0.out.lt).cell rfl, (R0.out.mono hb R0.out.lt).cell rfl⟩; have kr0 : w1.cell? ⟨w.heap.size + 1, 0, none⟩ = some (.slice none 0 0) := (R1.out.mono hb R1.out.lt).cell rfl; have kr1 : w1.cell? ⟨w.heap.size + 1, 1, none⟩ = some (.int .i64 0) := (R1.out.mono hb R1.out.lt).cell rfl; have f0 := (R1.out.mono hb R1.out.lt).free 0; have f1 := (R1.out.mono hb R1.out.lt).free 1; clear hg hb))
  go_wp2
  refine bodyPost_ret (v := .agg #[.slice a1 xs.length c1, .int .i64 m]) (by simp [results, Tryd.results32, go_sem, kr0, kr1]) rfl ⟨_, rfl, ?_, ?_⟩
  · exact ((HG.out.setOther _ _ _ (fun x hx => by have := HN.out x hx; omega)).setOther _ _ _ (fun x hx => by have := HN.out x hx; omega)).low (by have := HB2.out.size; omega)
  · exact ((HB2.out.trans (HB.out.mono HB2.out.size)).setCell (p := ⟨w.heap.size + 1, 0, none⟩) (by show w.heap.size ≤ w.heap.size + 1; omega) _).setCell (p := ⟨w.heap.size + 1, 1, none⟩) (by show w.heap.size ≤ w.heap.size + 1; omega) _

def pushA (cs : List Int) (m a : Int) : Bool := stackB cs m && inB a 0 100000
def pushDo (m : Int) (t : Bool) : Bool := t && !(m == 8)
def pushC (cs : List Int) (m a : Int) (t : Bool) : List Int := if pushA cs m a then (if pushDo m t then cs.set m.toNat a else cs) else []
def pushM (cs : List Int) (m a : Int) (t : Bool) : Int := if pushA cs m a then (if pushDo m t then m + 1 else m) else 0
def pushT (cs : List Int) (m a : Int) : List (Int × Int × Bool) := if pushA cs m a then passN 2 8 else []
def pushOk (cs : List Int) (m a : Int) (t : Bool) : Bool := pushA cs m a && (!t || !(m == 8))
theorem pushA_len {cs : List Int} {m a : Int} (h : pushA cs m a = true) : cs.length = 8 := by
  simp only [pushA, Bool.and_eq_true] at h
  exact (stackB_iff.1 h.1).1
theorem pushC_le (cs : List Int) (m a : Int) (t : Bool) : (pushC cs m a t).length ≤ 8 := by
  unfold pushC
  split
  · rename_i h
    have := pushA_len h
    split <;> simp <;> omega
  · simp
theorem pushT_le (cs : List Int) (m a : Int) : (pushT cs m a).length ≤ 16 := by unfold pushT; split <;> simp
def PushPost (C : List Int) (M : Int) (T : List (Int × Int × Bool)) (t : Bool) (w : World) (e : Ending) (w' : World) : Prop :=
  ∃ u x, e = .returned (.tuple #[.agg #[u, .int .i64 M], x, .bool t]) ∧ Gr w' w.heap.size 3 1 u C.length (ints C) ∧ Gr w' w.heap.size 56 3 x T.length (accs T) ∧ (∀ g, gBlock u = some g → gBlock x ≠ some g) ∧ Below w.heap.size w w'
theorem push_no {cs : List Int} {m a : Int} {t : Bool} {w w' : World} (h : pushA cs m a = false) (x : Value) (hx : Gr w' w.heap.size 56 3 x 0 []) (hb : Below w.heap.size w w') :
    PushPost (pushC cs m a t) (pushM cs m a t) (pushT cs m a) (pushOk cs m a t) w (.returned (.tuple #[.agg #[.slice none 0 0, .int .i64 0], x, .bool false])) w' := by
  unfold pushC pushM pushT pushOk
  rw [h]
  exact ⟨_, x, rfl, Gr.nil _ _ _ _, hx, (fun g hg => by simp [gBlock] at hg), hb⟩
theorem push_yes {cs : List Int} {m a : Int} {t : Bool} {w w' : World} (h : pushA cs m a = true) {C : List Int} {M : Int} {ok : Bool} (hC : (if pushDo m t then cs.set m.toNat a else cs) = C) (hM : (if pushDo m t then m + 1 else m) = M) (hok : (!t || !(m == 8)) = ok) (u x : Value) (hu : Gr w' w.heap.size 3 1 u C.length (ints C)) (hx : Gr w' w.heap.size 56 3 x 16 (accs (passN 2 8))) (hux : ∀ g, gBlock u = some g → gBlock x ≠ some g) (hb : Below w.heap.size w w') :
    PushPost (pushC cs m a t) (pushM cs m a t) (pushT cs m a) (pushOk cs m a t) w (.returned (.tuple #[.agg #[u, .int .i64 M], x, .bool ok])) w' := by
  subst hC hM hok
  unfold pushC pushM pushT pushOk
  rw [h]
  exact ⟨u, x, rfl, hu, by simpa using hx, hux, hb⟩
def popDo (m : Int) (t : Bool) : Bool := t && !(m == 0)
def popC (cs : List Int) (m : Int) (t : Bool) : List Int := if stackB cs m then (if popDo m t then cs.set (m - 1).toNat 0 else cs) else []
def popM (cs : List Int) (m : Int) (t : Bool) : Int := if stackB cs m then (if popDo m t then m - 1 else m) else 0
def popV (cs : List Int) (m : Int) (t : Bool) : Int := if stackB cs m then (if popDo m t then cs[(m - 1).toNat]?.getD 0 else 0) else 0
def popT (cs : List Int) (m : Int) : List (Int × Int × Bool) := if stackB cs m then passN 2 8 else []
def popOk (cs : List Int) (m : Int) (t : Bool) : Bool := stackB cs m && (!t || !(m == 0))
theorem popC_le (cs : List Int) (m : Int) (t : Bool) : (popC cs m t).length ≤ 8 := by
  unfold popC
  split
  · rename_i h
    have := (stackB_iff.1 h).1
    split <;> simp <;> omega
  · simp
theorem popT_le (cs : List Int) (m : Int) : (popT cs m).length ≤ 16 := by unfold popT; split <;> simp
def PopPost (C : List Int) (M V : Int) (T : List (Int × Int × Bool)) (t : Bool) (w : World) (e : Ending) (w' : World) : Prop :=
  ∃ u x, e = .returned (.tuple #[.agg #[u, .int .i64 M], .int .i64 V, x, .bool t]) ∧ Gr w' w.heap.size 3 1 u C.length (ints C) ∧ Gr w' w.heap.size 56 3 x T.length (accs T) ∧ (∀ g, gBlock u = some g → gBlock x ≠ some g) ∧ Below w.heap.size w w'
theorem pop_no {cs : List Int} {m : Int} {t : Bool} {w w' : World} (h : stackB cs m = false) (x : Value) (hx : Gr w' w.heap.size 56 3 x 0 []) (hb : Below w.heap.size w w') :
    PopPost (popC cs m t) (popM cs m t) (popV cs m t) (popT cs m) (popOk cs m t) w (.returned (.tuple #[.agg #[.slice none 0 0, .int .i64 0], .int .i64 0, x, .bool false])) w' := by
  unfold popC popM popV popT popOk
  rw [h]
  exact ⟨_, x, rfl, Gr.nil _ _ _ _, hx, (fun g hg => by simp [gBlock] at hg), hb⟩
theorem pop_yes {cs : List Int} {m : Int} {t : Bool} {w w' : World} (h : stackB cs m = true) {C : List Int} {M V : Int} {ok : Bool} (hC : (if popDo m t then cs.set (m - 1).toNat 0 else cs) = C) (hM : (if popDo m t then m - 1 else m) = M) (hV : (if popDo m t then cs[(m - 1).toNat]?.getD 0 else 0) = V) (hok : (!t || !(m == 0)) = ok) (u x : Value) (hu : Gr w' w.heap.size 3 1 u C.length (ints C)) (hx : Gr w' w.heap.size 56 3 x 16 (accs (passN 2 8))) (hux : ∀ g, gBlock u = some g → gBlock x ≠ some g) (hb : Below w.heap.size w w') :
    PopPost (popC cs m t) (popM cs m t) (popV cs m t) (popT cs m) (popOk cs m t) w (.returned (.tuple #[.agg #[u, .int .i64 M], .int .i64 V, x, .bool ok])) w' := by
  subst hC hM hV hok
  unfold popC popM popV popT popOk
  rw [h]
  exact ⟨u, x, rfl, hu, by simpa using hx, hux, hb⟩
theorem Row.setSame {w : World} {g : Nat} {e : TypeId} {cs : List Value} (h : Row w g e cs) (i : Nat) (u : Value) {ds : List Value} (hd : cs.set i u = ds) : Row (w.setCell ⟨g, i, none⟩ u) g e ds := by subst hd; exact h.set i u
set_option maxHeartbeats 4000000 in
theorem impl_PushStack (v : Value) (cs : List Int) (m a : Int) (t : Bool) (w : World) (h : Ints w v cs) : Calls Tryd.prog 13 #[.agg #[v, .int .i64 m], .int .i64 a, .bool t] w (PushPost (pushC cs m a t) (pushM cs m a t) (pushT cs m a) (pushOk cs m a t) w) := by
  obtain ⟨ad, c, hv, hmax, _⟩ := h.open
  subst hv
  unfold maxLen at hmax
  have hb2 : Below w.heap.size w ((w.alloc (.cells #[.slice ad cs.length c, .int .i64 m] 25)).alloc (.cells #[.slice none 0 0, .int .i64 0] 25)) := ((Below.refl _ _).alloc (Nat.le_refl _) _).alloc (by simp) _
  have r0 := (Row.new w 25 [.slice ad cs.length c, .int .i64 m]).alloc (.cells #[.slice none 0 0, .int .i64 0] 25)
  have r1 := Row.new (w.alloc (.cells #[.slice ad cs.length c, .int .i64 m] 25)) 25 [.slice none 0 0, .int .i64 0]
  simp only [World.size_alloc] at r1
  have H := Lib.hid (h.mono hb2 (Nat.le_refl _))
  have HB2 := Lib.hid hb2
  have R0 := Lib.hid r0
  have R1 := Lib.hid r1
  clear h hb2 r0 r1
  go_enter Tryd.func13, Tryd.ntmps13
  go_wp2_with fail
  generalize (w.alloc (.cells #[.slice ad cs.length c, .int .i64 m] 25)).alloc (.cells #[.slice none 0 0, .int .i64 0] 25) = W at H HB2 R0 R1 ⊢
  refine (impl_StackValid _ cs m _ H.out).mono ?_
  rintro e w1 ⟨rfl, hb⟩
  have H1 := Lib.hid (H.out.mono hb (Nat.le_refl _))
  have HB1 : Hid (Below w.heap.size w w1) := HB2.out.trans (hb.mono HB2.out.size)
  have Q0 := Lib.hid (R0.out.mono hb R0.out.lt)
  have Q1 := Lib.hid (R1.out.mono hb R1.out.lt)
  clear hb H HB2 R0 R1
  have HFN : Hid (∀ w', pushA cs m a = false → Below w.heap.size w w' → PushPost (pushC cs m a t) (pushM cs m a t) (pushT cs m a) (pushOk cs m a t) w (.returned (.tuple #[.agg #[.slice none 0 0, .int .i64 0], .slice none 0 0, .bool false])) w') := fun w' hp hbel => push_no hp _ (Gr.nil _ _ _ _) hbel
  have kr0 : w1.cell? ⟨w.heap.size + 1, 0, none⟩ = some (.slice none 0 0) := Q1.out.cell rfl
  have kr1 : w1.cell? ⟨w.heap.size + 1, 1, none⟩ = some (.int .i64 0) := Q1.out.cell rfl
  have f0 := Q1.out.free 0
  have f1 := Q1.out.free 1
  cases hsv : stackB cs m
  · have HNA : Hid (pushA cs m a = false) := by simp [Hid, pushA, hsv]
    clear hsv
    go_wp2
    refine bodyPost_ret (v := .tuple #[.agg #[.slice none 0 0, .int .i64 0], .slice none 0 0, .bool false]) (by simp [results, Tryd.results13, go_sem, kr0, kr1]) rfl ?_
    exact HFN.out _ HNA.out ((HB1.out.setCell (p := ⟨w.heap.size + 1, 0, none⟩) (by show w.heap.size ≤ w.heap.size + 1; omega) _).setCell (p := ⟨w.heap.size + 1, 1, none⟩) (by show w.heap.size ≤ w.heap.size + 1; omega) _)
  cases hia : inB a 0 100000
  · have HNA : Hid (pushA cs m a = false) := by simp [Hid, pushA, hia]
    have HI := Lib.hid hia
    clear hsv hia
    go_wp2_with (go_at_call 26; refine (in_any _ _ _ _).mono ?_; rw [HI.out]; rintro e w' ⟨rfl, rfl⟩)
    refine bodyPost_ret (v := .tuple #[.agg #[.slice none 0 0, .int .i64 0], .slice none 0 0, .bool false]) (by simp [results, Tryd.results13, go_sem, kr0, kr1]) rfl ?_
    exact HFN.out _ HNA.out ((HB1.out.setCell (p := ⟨w.heap.size + 1, 0, none⟩) (by show w.heap.size ≤ w.heap.size + 1; omega) _).setCell (p := ⟨w.heap.size + 1, 1, none⟩) (by show w.heap.size ≤ w.heap.size + 1; omega) _)
  have HYA : Hid (pushA cs m a = true) := by simp [Hid, pushA, hsv, hia]
  obtain ⟨hl8, him, -⟩ := stackB_iff.1 hsv
  obtain ⟨m0, m1⟩ := inB_iff.1 him
  obtain ⟨M, rfl⟩ := Int.eq_ofNat_of_zero_le m0
  have hl8a : 8 ≤ cs.length := by omega
  have hl8b : cs.length ≤ 8 := by omega
  have HI := Lib.hid hia
  clear hsv hia him hl8 HFN kr0 kr1 f0 f1
  have k0 : w1.cell? ⟨w.heap.size, 0, none⟩ = some (.slice ad cs.length c) := Q0.out.cell rfl
  have k1 : w1.cell? ⟨w.heap.size, 1, none⟩ = some (.int .i64 (M : Int)) := Q0.out.cell rfl
  go_wp2_with (go_at_call 26; refine (in_any _ _ _ _).mono ?_; rw [HI.out]; rintro e w' ⟨rfl, rfl⟩)
  refine (impl_clone _ cs M _ H1.out (by omega)).mono ?_
  rintro e w2 ⟨u, rfl, hg, hb⟩
  obtain ⟨a1, c1, hu⟩ := hg.lit
  subst hu
  have HG2 := Lib.hid hg
  have HB2 : Hid (Below w.heap.size w w2) := HB1.out.trans (hb.mono HB1.out.size)
  have P0 := Lib.hid (Q0.out.mono hb Q0.out.lt)
  have P1 := Lib.hid (Q1.out.mono hb Q1.out.lt)
  have z1 : w.heap.size + 1 < w1.heap.size := Q1.out.lt
  have z2 : w1.heap.size ≤ w2.heap.size := hb.size
  clear hg hb Q0 Q1 HB1 H1 k0 k1
  have n0 : ¬ w2.heap.size = w.heap.size := by omega
  have n1 : ¬ w2.heap.size = w.heap.size + 1 := by omega
  have k0 : w2.cell? ⟨w.heap.size, 0, none⟩ = some (.slice ad cs.length c) := P0.out.cell rfl
  have k1 : w2.cell? ⟨w.heap.size, 1, none⟩ = some (.int .i64 (M : Int)) := P0.out.cell rfl
  have kr0 : w2.cell? ⟨w.heap.size + 1, 0, none⟩ = some (.slice none 0 0) := P1.out.cell rfl
  have kr1 : w2.cell? ⟨w.heap.size + 1, 1, none⟩ = some (.int .i64 0) := P1.out.cell rfl
  have LOW : Hid (w.heap.size ≤ w1.heap.size) := by unfold Hid; omega
  have hA3 : Below w2.heap.size w2 (w2.alloc (.cells #[.slice a1 cs.length c1, .int .i64 (M : Int)] 25)) := (Below.refl _ _).alloc (Nat.le_refl _) _
  have HA3 := Lib.hid hA3
  have K93 : Hid (Row (w2.alloc (.cells #[.slice a1 cs.length c1, .int .i64 (M : Int)] 25)) w2.heap.size 25 [.slice a1 cs.length c1, .int .i64 (M : Int)]) := Row.new w2 25 [.slice a1 cs.length c1, .int .i64 (M : Int)]
  have HNZ : Hid (∀ x, gBlock (.slice a1 cs.length c1) = some x → w.heap.size + 1 < x) := fun x hx => by have := (HG2.out.lt x hx).1; omega
  have kz1 : (w2.alloc (.cells #[.slice a1 cs.length c1, .int .i64 (M : Int)] 25)).cell? ⟨w.heap.size, 1, none⟩ = some (.int .i64 (M : Int)) := (P0.out.mono hA3 P0.out.lt).cell rfl
  clear hA3
  by_cases hdo : t = true ∧ ¬ M = 8
  case neg =>
    have hst : pushDo M t = false := by
      unfold pushDo
      cases t
      · rfl
      · have : M = 8 := Classical.byContradiction fun e => hdo ⟨rfl, e⟩
        subst this; rfl
    have HC : Hid ((if pushDo (M : Int) t then cs.set (M : Int).toNat a else cs) = cs) := by unfold Hid; rw [hst]; rfl
    have HM : Hid ((if pushDo (M : Int) t then (M : Int) + 1 else (M : Int)) = (M : Int)) := by unfold Hid; rw [hst]; rfl
    cases t
    · clear hdo hst
      go_wp2
      generalize (w2.alloc (.cells #[.slice a1 cs.length c1, .int .i64 (M : Int)] 25)) = wz at HA3 K93 kz1 ⊢
      have K9 := K93
      have RZ := Lib.hid (P1.out.mono HA3.out P1.out.lt)
      have HGZ := Lib.hid (HG2.out.mono HA3.out (Nat.le_refl _))
      have HBZ : Hid (Below w.heap.size w wz) := HB2.out.trans (HA3.out.mono HB2.out.size)
      clear k0 k1 kr0 kr1 kz1
      have KH0 : Hid (wz.drew.cell? ⟨w2.heap.size, 0, none⟩ = some (.slice a1 cs.length c1) ∧ wz.drew.cell? ⟨w2.heap.size, 1, none⟩ = some (.int .i64 ((M : Int)))) := ⟨K9.out.cell rfl, K9.out.cell rfl⟩
      go_region_held3 (fun w' => w'.cell? ⟨w2.heap.size, 0, none⟩ = some (.slice a1 cs.length c1) ∧ w'.cell? ⟨w2.heap.size, 1, none⟩ = some (.int .i64 ((M : Int)))) ((first | exact KH0.out | exact KH1.out | (obtain ⟨q0, q1⟩ := KH1.out; constructor <;> go_simp))) (first | (go_at_call 31; refine (stackTrace_any _).mono ?_; rintro e w8 ⟨x, rfl, hg, hb⟩; have hg := hg.low (B' := wz.heap.size) (Nat.le_refl _); have hb := (Below.refl wz.heap.size wz).drew.trans hb; have HX := Lib.hid hg; have HB8 := Lib.hid hb; have KH1 : Hid (w8.cell? ⟨w2.heap.size, 0, none⟩ = some (.slice a1 cs.length c1) ∧ w8.cell? ⟨w2.heap.size, 1, none⟩ = some (.int .i64 ((M : Int)))) := ⟨(K9.out.mono hb K9.out.lt).cell rfl, (K9.out.mono hb K9.out.lt).cell rfl⟩; have kr0 : w8.cell? ⟨w.heap.size + 1, 0, none⟩ = some (.slice none 0 0) := (RZ.out.mono hb RZ.out.lt).cell rfl; have kr1 : w8.cell? ⟨w.heap.size + 1, 1, none⟩ = some (.int .i64 0) := (RZ.out.mono hb RZ.out.lt).cell rfl; have f0 := (RZ.out.mono hb RZ.out.lt).free 0; have f1 := (RZ.out.mono hb RZ.out.lt).free 1; clear hg hb))
      go_wp2
      refine bodyPost_ret (v := .tuple #[.agg #[.slice a1 cs.length c1, .int .i64 (M : Int)], x, .bool true]) (by simp [results, Tryd.results13, go_sem, kr0, kr1]) rfl ?_
      have hux : ∀ q9, gBlock (.slice a1 cs.length c1) = some q9 → gBlock x ≠ some q9 := fun q9 e1 e2 => by have := (HGZ.out.lt q9 e1).2; have := (HX.out.lt q9 e2).1; omega
      have hB8 : Below w.heap.size w w8 := HBZ.out.trans (HB8.out.mono HBZ.out.size)
      have hg8 := (((HGZ.out.mono HB8.out (Nat.le_refl _)).setOther (w.heap.size + 1) 0 (.slice a1 cs.length c1) (fun y hy => by have := HNZ.out y hy; omega)).setOther (w.heap.size + 1) 1 (.int .i64 ((M : Int))) (fun y hy => by have := HNZ.out y hy; omega)).low (B' := w.heap.size) LOW.out
      have hx8 := ((HX.out.setOther (w.heap.size + 1) 0 (.slice a1 cs.length c1) (fun y hy => by have := (HX.out.lt y hy).1; have := RZ.out.lt; omega)).setOther (w.heap.size + 1) 1 (.int .i64 ((M : Int))) (fun y hy => by have := (HX.out.lt y hy).1; have := RZ.out.lt; omega)).low (B' := w.heap.size) HBZ.out.size
      exact push_yes HYA.out HC.out HM.out rfl _ _ hg8 hx8 hux ((hB8.setCell (p := ⟨w.heap.size + 1, 0, none⟩) (by show w.heap.size ≤ w.heap.size + 1; omega) _).setCell (p := ⟨w.heap.size + 1, 1, none⟩) (by show w.heap.size ≤ w.heap.size + 1; omega) _)
    · have hM8 : M = 8 := Classical.byContradiction fun e => hdo ⟨rfl, e⟩
      have hm8 : ((M : Int) == 8) = true := by rw [hM8]; rfl
      have HM8 := Lib.hid hM8
      clear hdo hst hM8
      go_wp2
      generalize (w2.alloc (.cells #[.slice a1 cs.length c1, .int .i64 (M : Int)] 25)) = wz at HA3 K93 kz1 ⊢
      have K9 := K93
      have RZ := Lib.hid (P1.out.mono HA3.out P1.out.lt)
      have HGZ := Lib.hid (HG2.out.mono HA3.out (Nat.le_refl _))
      have HBZ : Hid (Below w.heap.size w wz) := HB2.out.trans (HA3.out.mono HB2.out.size)
      clear k0 k1 kr0 kr1 kz1
      have KH0 : Hid (wz.drew.cell? ⟨w2.heap.size, 0, none⟩ = some (.slice a1 cs.length c1) ∧ wz.drew.cell? ⟨w2.heap.size, 1, none⟩ = some (.int .i64 ((M : Int)))) := ⟨K9.out.cell rfl, K9.out.cell rfl⟩
      go_region_held3 (fun w' => w'.cell? ⟨w2.heap.size, 0, none⟩ = some (.slice a1 cs.length c1) ∧ w'.cell? ⟨w2.heap.size, 1, none⟩ = some (.int .i64 ((M : Int)))) ((first | exact KH0.out | exact KH1.out | (obtain ⟨q0, q1⟩ := KH1.out; constructor <;> go_simp))) (first | (go_at_call 31; refine (stackTrace_any _).mono ?_; rintro e w8 ⟨x, rfl, hg, hb⟩; have hg := hg.low (B' := wz.heap.size) (Nat.le_refl _); have hb := (Below.refl wz.heap.size wz).drew.trans hb; have HX := Lib.hid hg; have HB8 := Lib.hid hb; have KH1 : Hid (w8.cell? ⟨w2.heap.size, 0, none⟩ = some (.slice a1 cs.length c1) ∧ w8.cell? ⟨w2.heap.size, 1, none⟩ = some (.int .i64 ((M : Int)))) := ⟨(K9.out.mono hb K9.out.lt).cell rfl, (K9.out.mono hb K9.out.lt).cell rfl⟩; have kr0 : w8.cell? ⟨w.heap.size + 1, 0, none⟩ = some (.slice none 0 0) := (RZ.out.mono hb RZ.out.lt).cell rfl; have kr1 : w8.cell? ⟨w.heap.size + 1, 1, none⟩ = some (.int .i64 0) := (RZ.out.mono hb RZ.out.lt).cell rfl; have f0 := (RZ.out.mono hb RZ.out.lt).free 0; have f1 := (RZ.out.mono hb RZ.out.lt).free 1; clear hg hb))
      go_wp2
      refine bodyPost_ret (v := .tuple #[.agg #[.slice a1 cs.length c1, .int .i64 (M : Int)], x, .bool false]) (by simp [results, Tryd.results13, go_sem, kr0, kr1]) rfl ?_
      have hux : ∀ q9, gBlock (.slice a1 cs.length c1) = some q9 → gBlock x ≠ some q9 := fun q9 e1 e2 => by have := (HGZ.out.lt q9 e1).2; have := (HX.out.lt q9 e2).1; omega
      have hB8 : Below w.heap.size w w8 := HBZ.out.trans (HB8.out.mono HBZ.out.size)
      have hg8 := (((HGZ.out.mono HB8.out (Nat.le_refl _)).setOther (w.heap.size + 1) 0 (.slice a1 cs.length c1) (fun y hy => by have := HNZ.out y hy; omega)).setOther (w.heap.size + 1) 1 (.int .i64 ((M : Int))) (fun y hy => by have := HNZ.out y hy; omega)).low (B' := w.heap.size) LOW.out
      have hx8 := ((HX.out.setOther (w.heap.size + 1) 0 (.slice a1 cs.length c1) (fun y hy => by have := (HX.out.lt y hy).1; have := RZ.out.lt; omega)).setOther (w.heap.size + 1) 1 (.int .i64 ((M : Int))) (fun y hy => by have := (HX.out.lt y hy).1; have := RZ.out.lt; omega)).low (B' := w.heap.size) HBZ.out.size
      exact push_yes HYA.out HC.out HM.out (by rw [HM8.out]; rfl) _ _ hg8 hx8 hux ((hB8.setCell (p := ⟨w.heap.size + 1, 0, none⟩) (by show w.heap.size ≤ w.heap.size + 1; omega) _).setCell (p := ⟨w.heap.size + 1, 1, none⟩) (by show w.heap.size ≤ w.heap.size + 1; omega) _)
  case pos =>
    obtain ⟨rfl, hM8⟩ := hdo
    have hm8 : ((M : Int) == 8) = false := by simp; omega
    have HD : Hid (pushDo (M : Int) true = true) := by simp [Hid, pushDo]; omega
    have HC : Hid ((if pushDo (M : Int) true then cs.set (M : Int).toNat a else cs) = cs.set M a) := by unfold Hid; rw [HD.out]; rfl
    have HM : Hid ((if pushDo (M : Int) true then (M : Int) + 1 else (M : Int)) = (M : Int) + 1) := by unfold Hid; rw [HD.out]; rfl
    have HOK : Hid ((!true || !((M : Int) == 8)) = true) := by unfold Hid; rw [hm8]; rfl
    obtain ⟨g, c2, hv2, hgb, hgc, hgm, hfr, hcl, hset⟩ := HG2.out.at (by omega)
    cases hv2
    have hgl : g < w2.heap.size := (HG2.out.lt g (by simp [gBlock]; omega)).2
    have hng : ¬ w2.heap.size = g := by omega
    have hng0 : ¬ g = w.heap.size := by omega
    have hng1 : ¬ g = w.heap.size + 1 := by omega
    obtain ⟨y, hy⟩ : ∃ y, iv cs M = .int .i64 y := ⟨_, rfl⟩
    have hcM := hcl M _ (ints_get (by omega))
    rw [hy] at hcM
    have hfM := hfr M
    have hssz : (w2.setCell ⟨g, M, none⟩ (.int .i64 a)).heap.size = w2.heap.size := by simp [World.setCell]
    have HGZ : Hid (Gr ((w2.setCell ⟨g, M, none⟩ (.int .i64 a)).alloc (.cells #[.slice (some ⟨g, 0, none⟩) cs.length c1, .int .i64 ((M : Int) + 1)] 25)) w1.heap.size 3 1 (.slice (some ⟨g, 0, none⟩) cs.length c1) (cs.set M a).length (ints (cs.set M a))) := by
      unfold Hid; rw [List.length_set, show ints (cs.set M a) = (ints cs).set M (.int .i64 a) by simp [ints, List.map_set]]
      exact (hset M (.int .i64 a) (by omega)).alloc _
    have K9 : Hid (Row ((w2.setCell ⟨g, M, none⟩ (.int .i64 a)).alloc (.cells #[.slice (some ⟨g, 0, none⟩) cs.length c1, .int .i64 ((M : Int) + 1)] 25)) w2.heap.size 25 [.slice (some ⟨g, 0, none⟩) cs.length c1, .int .i64 ((M : Int) + 1)]) := by
      have := Row.new (w2.setCell ⟨g, M, none⟩ (.int .i64 a)) 25 [.slice (some ⟨g, 0, none⟩) cs.length c1, .int .i64 ((M : Int) + 1)]
      rw [hssz] at this; exact this
    have HA5 : Hid (Below w1.heap.size w2 ((w2.setCell ⟨g, M, none⟩ (.int .i64 a)).alloc (.cells #[.slice (some ⟨g, 0, none⟩) cs.length c1, .int .i64 ((M : Int) + 1)] 25))) := ((Below.refl w1.heap.size w2).setCell (p := ⟨g, M, none⟩) hgb _).alloc (by rw [hssz]; exact z2) _
    have hML : M < cs.length := by omega
    clear hfr hcl hset hy hM8 hssz
    go_wp2
    generalize ((w2.setCell ⟨g, M, none⟩ (.int .i64 a)).alloc (.cells #[.slice (some ⟨g, 0, none⟩) cs.length c1, .int .i64 ((M : Int) + 1)] 25)) = wz at K9 HGZ HA5 ⊢
    have RZ := Lib.hid (P1.out.mono HA5.out z1)
    have HBZ : Hid (Below w.heap.size w wz) := HB2.out.trans (HA5.out.mono LOW.out)
    clear k0 k1 kr0 kr1 hcM hfM kz1
    have KH0 : Hid (wz.drew.cell? ⟨w2.heap.size, 0, none⟩ = some (.slice (some ⟨g, 0, none⟩) cs.length c1) ∧ wz.drew.cell? ⟨w2.heap.size, 1, none⟩ = some (.int .i64 ((M : Int) + 1))) := ⟨K9.out.cell rfl, K9.out.cell rfl⟩
    go_region_held3 (fun w' => w'.cell? ⟨w2.heap.size, 0, none⟩ = some (.slice (some ⟨g, 0, none⟩) cs.length c1) ∧ w'.cell? ⟨w2.heap.size, 1, none⟩ = some (.int .i64 ((M : Int) + 1))) ((first | exact KH0.out | exact KH1.out | (obtain ⟨q0, q1⟩ := KH1.out; constructor <;> go_simp))) (first | (go_at_call 31; refine (stackTrace_any _).mono ?_; rintro e w8 ⟨x, rfl, hg, hb⟩; have hg := hg.low (B' := wz.heap.size) (Nat.le_refl _); have hb := (Below.refl wz.heap.size wz).drew.trans hb; have HX := Lib.hid hg; have HB8 := Lib.hid hb; have KH1 : Hid (w8.cell? ⟨w2.heap.size, 0, none⟩ = some (.slice (some ⟨g, 0, none⟩) cs.length c1) ∧ w8.cell? ⟨w2.heap.size, 1, none⟩ = some (.int .i64 ((M : Int) + 1))) := ⟨(K9.out.mono hb K9.out.lt).cell rfl, (K9.out.mono hb K9.out.lt).cell rfl⟩; have kr0 : w8.cell? ⟨w.heap.size + 1, 0, none⟩ = some (.slice none 0 0) := (RZ.out.mono hb RZ.out.lt).cell rfl; have kr1 : w8.cell? ⟨w.heap.size + 1, 1, none⟩ = some (.int .i64 0) := (RZ.out.mono hb RZ.out.lt).cell rfl; have f0 := (RZ.out.mono hb RZ.out.lt).free 0; have f1 := (RZ.out.mono hb RZ.out.lt).free 1; clear hg hb))
    go_wp2
    refine bodyPost_ret (v := .tuple #[.agg #[.slice (some ⟨g, 0, none⟩) cs.length c1, .int .i64 ((M : Int) + 1)], x, .bool true]) (by simp [results, Tryd.results13, go_sem, kr0, kr1]) rfl ?_
    have hux : ∀ q9, gBlock (.slice (some ⟨g, 0, none⟩) cs.length c1) = some q9 → gBlock x ≠ some q9 := fun q9 e1 e2 => by have := (HGZ.out.lt q9 e1).2; have := (HX.out.lt q9 e2).1; omega
    have hB8 : Below w.heap.size w w8 := HBZ.out.trans (HB8.out.mono HBZ.out.size)
    have hg8 := (((HGZ.out.mono HB8.out (Nat.le_refl _)).setOther (w.heap.size + 1) 0 (.slice (some ⟨g, 0, none⟩) cs.length c1) (fun y hy => by have := HNZ.out y hy; omega)).setOther (w.heap.size + 1) 1 (.int .i64 ((M : Int) + 1)) (fun y hy => by have := HNZ.out y hy; omega)).low (B' := w.heap.size) LOW.out
    have hx8 := ((HX.out.setOther (w.heap.size + 1) 0 (.slice (some ⟨g, 0, none⟩) cs.length c1) (fun y hy => by have := (HX.out.lt y hy).1; have := RZ.out.lt; omega)).setOther (w.heap.size + 1) 1 (.int .i64 ((M : Int) + 1)) (fun y hy => by have := (HX.out.lt y hy).1; have := RZ.out.lt; omega)).low (B' := w.heap.size) HBZ.out.size
    exact push_yes HYA.out HC.out HM.out HOK.out _ _ hg8 hx8 hux ((hB8.setCell (p := ⟨w.heap.size + 1, 0, none⟩) (by show w.heap.size ≤ w.heap.size + 1; omega) _).setCell (p := ⟨w.heap.size + 1, 1, none⟩) (by show w.heap.size ≤ w.heap.size + 1; omega) _)
set_option maxHeartbeats 4000000 in
theorem impl_PopStack (v : Value) (cs : List Int) (m : Int) (t : Bool) (w : World) (h : Ints w v cs) : Calls Tryd.prog 17 #[.agg #[v, .int .i64 m], .bool t] w (PopPost (popC cs m t) (popM cs m t) (popV cs m t) (popT cs m) (popOk cs m t) w) := by
  obtain ⟨ad, c, hv, hmax, _⟩ := h.open
  subst hv
  unfold maxLen at hmax
  have hb2 : Below w.heap.size w ((w.alloc (.cells #[.slice ad cs.length c, .int .i64 m] 25)).alloc (.cells #[.slice none 0 0, .int .i64 0] 25)) := ((Below.refl _ _).alloc (Nat.le_refl _) _).alloc (by simp) _
  have r0 := (Row.new w 25 [.slice ad cs.length c, .int .i64 m]).alloc (.cells #[.slice none 0 0, .int .i64 0] 25)
  have r1 := Row.new (w.alloc (.cells #[.slice ad cs.length c, .int .i64 m] 25)) 25 [.slice none 0 0, .int .i64 0]
  simp only [World.size_alloc] at r1
  have H := Lib.hid (h.mono hb2 (Nat.le_refl _))
  have HB2 := Lib.hid hb2
  have R0 := Lib.hid r0
  have R1 := Lib.hid r1
  clear h hb2 r0 r1
  go_enter Tryd.func17, Tryd.ntmps17
  go_wp2_with fail
  generalize (w.alloc (.cells #[.slice ad cs.length c, .int .i64 m] 25)).alloc (.cells #[.slice none 0 0, .int .i64 0] 25) = W at H HB2 R0 R1 ⊢
  refine (impl_StackValid _ cs m _ H.out).mono ?_
  rintro e w1 ⟨rfl, hb⟩
  have H1 := Lib.hid (H.out.mono hb (Nat.le_refl _))
  have HB1 : Hid (Below w.heap.size w w1) := HB2.out.trans (hb.mono HB2.out.size)
  have Q0 := Lib.hid (R0.out.mono hb R0.out.lt)
  have Q1 := Lib.hid (R1.out.mono hb R1.out.lt)
  clear hb H HB2 R0 R1
  have kr0 : w1.cell? ⟨w.heap.size + 1, 0, none⟩ = some (.slice none 0 0) := Q1.out.cell rfl
  have kr1 : w1.cell? ⟨w.heap.size + 1, 1, none⟩ = some (.int .i64 0) := Q1.out.cell rfl
  have f0 := Q1.out.free 0
  have f1 := Q1.out.free 1
  cases hsv : stackB cs m
  · have HNA := Lib.hid hsv
    clear hsv
    go_wp2
    refine bodyPost_ret (v := .tuple #[.agg #[.slice none 0 0, .int .i64 0], .int .i64 0, .slice none 0 0, .bool false]) (by simp [results, Tryd.results17, go_sem, kr0, kr1]) rfl ?_
    exact pop_no HNA.out _ (Gr.nil _ _ _ _) ((HB1.out.setCell (p := ⟨w.heap.size + 1, 0, none⟩) (by show w.heap.size ≤ w.heap.size + 1; omega) _).setCell (p := ⟨w.heap.size + 1, 1, none⟩) (by show w.heap.size ≤ w.heap.size + 1; omega) _)
  have HYA := Lib.hid hsv
  obtain ⟨hl8, him, -⟩ := stackB_iff.1 hsv
  obtain ⟨m0, m1⟩ := inB_iff.1 him
  have hl8a : 8 ≤ cs.length := by omega
  have hl8b : cs.length ≤ 8 := by omega
  clear hsv him hl8 kr0 kr1 f0 f1
  by_cases hdo : t = true ∧ ¬ m = 0
  case neg =>
    have hst : popDo m t = false := by
      unfold popDo
      cases t
      · rfl
      · have : m = 0 := Classical.byContradiction fun e => hdo ⟨rfl, e⟩
        subst this; rfl
    have HC : Hid ((if popDo m t then cs.set (m - 1).toNat 0 else cs) = cs) := by unfold Hid; rw [hst]; rfl
    have HM : Hid ((if popDo m t then m - 1 else m) = m) := by unfold Hid; rw [hst]; rfl
    have HV : Hid ((if popDo m t then cs[(m - 1).toNat]?.getD 0 else 0) = 0) := by unfold Hid; rw [hst]; rfl
    have k0 : w1.cell? ⟨w.heap.size, 0, none⟩ = some (.slice ad cs.length c) := Q0.out.cell rfl
    have k1 : w1.cell? ⟨w.heap.size, 1, none⟩ = some (.int .i64 m) := Q0.out.cell rfl
    go_wp2_with fail
    refine (impl_clone _ cs m _ H1.out (by omega)).mono ?_
    rintro e w2 ⟨u, rfl, hg, hb⟩
    obtain ⟨a1, c1, hu⟩ := hg.lit
    subst hu
    have HG2 := Lib.hid hg
    have HB2 : Hid (Below w.heap.size w w2) := HB1.out.trans (hb.mono HB1.out.size)
    have P0 := Lib.hid (Q0.out.mono hb Q0.out.lt)
    have P1 := Lib.hid (Q1.out.mono hb Q1.out.lt)
    have z1 : w.heap.size + 1 < w1.heap.size := Q1.out.lt
    have z2 : w1.heap.size ≤ w2.heap.size := hb.size
    clear hg hb Q0 Q1 HB1 H1 k0 k1
    have n0 : ¬ w2.heap.size = w.heap.size := by omega
    have n1 : ¬ w2.heap.size = w.heap.size + 1 := by omega
    have k0 : w2.cell? ⟨w.heap.size, 0, none⟩ = some (.slice ad cs.length c) := P0.out.cell rfl
    have k1 : w2.cell? ⟨w.heap.size, 1, none⟩ = some (.int .i64 m) := P0.out.cell rfl
    have kr0 : w2.cell? ⟨w.heap.size + 1, 0, none⟩ = some (.slice none 0 0) := P1.out.cell rfl
    have kr1 : w2.cell? ⟨w.heap.size + 1, 1, none⟩ = some (.int .i64 0) := P1.out.cell rfl
    have LOW : Hid (w.heap.size ≤ w1.heap.size) := by unfold Hid; omega
    have hA3 : Below w2.heap.size w2 (w2.alloc (.cells #[.slice a1 cs.length c1, .int .i64 m] 25)) := (Below.refl _ _).alloc (Nat.le_refl _) _
    have HA3 := Lib.hid hA3
    have K93 : Hid (Row (w2.alloc (.cells #[.slice a1 cs.length c1, .int .i64 m] 25)) w2.heap.size 25 [.slice a1 cs.length c1, .int .i64 m]) := Row.new w2 25 [.slice a1 cs.length c1, .int .i64 m]
    have HNZ : Hid (∀ x, gBlock (.slice a1 cs.length c1) = some x → w.heap.size + 1 < x) := fun x hx => by have := (HG2.out.lt x hx).1; omega
    have kz1 : (w2.alloc (.cells #[.slice a1 cs.length c1, .int .i64 m] 25)).cell? ⟨w.heap.size, 1, none⟩ = some (.int .i64 m) := (P0.out.mono hA3 P0.out.lt).cell rfl
    clear hA3
    cases t
    · clear hdo hst
      go_wp2
      generalize (w2.alloc (.cells #[.slice a1 cs.length c1, .int .i64 m] 25)) = wz at HA3 K93 kz1 ⊢
      have K9 := K93
      have RZ := Lib.hid (P1.out.mono HA3.out P1.out.lt)
      have HGZ := Lib.hid (HG2.out.mono HA3.out (Nat.le_refl _))
      have HBZ : Hid (Below w.heap.size w wz) := HB2.out.trans (HA3.out.mono HB2.out.size)
      clear k0 k1 kr0 kr1 kz1
      have KH0 : Hid (wz.drew.cell? ⟨w2.heap.size, 0, none⟩ = some (.slice a1 cs.length c1) ∧ wz.drew.cell? ⟨w2.heap.size, 1, none⟩ = some (.int .i64 (m))) := ⟨K9.out.cell rfl, K9.out.cell rfl⟩
      go_region_held3 (fun w' => w'.cell? ⟨w2.heap.size, 0, none⟩ = some (.slice a1 cs.length c1) ∧ w'.cell? ⟨w2.heap.size, 1, none⟩ = some (.int .i64 (m))) ((first | exact KH0.out | exact KH1.out | (obtain ⟨q0, q1⟩ := KH1.out; constructor <;> go_simp))) (first | (go_at_call 31; refine (stackTrace_any _).mono ?_; rintro e w8 ⟨x, rfl, hg, hb⟩; have hg := hg.low (B' := wz.heap.size) (Nat.le_refl _); have hb := (Below.refl wz.heap.size wz).drew.trans hb; have HX := Lib.hid hg; have HB8 := Lib.hid hb; have KH1 : Hid (w8.cell? ⟨w2.heap.size, 0, none⟩ = some (.slice a1 cs.length c1) ∧ w8.cell? ⟨w2.heap.size, 1, none⟩ = some (.int .i64 (m))) := ⟨(K9.out.mono hb K9.out.lt).cell rfl, (K9.out.mono hb K9.out.lt).cell rfl⟩; have kr0 : w8.cell? ⟨w.heap.size + 1, 0, none⟩ = some (.slice none 0 0) := (RZ.out.mono hb RZ.out.lt).cell rfl; have kr1 : w8.cell? ⟨w.heap.size + 1, 1, none⟩ = some (.int .i64 0) := (RZ.out.mono hb RZ.out.lt).cell rfl; have f0 := (RZ.out.mono hb RZ.out.lt).free 0; have f1 := (RZ.out.mono hb RZ.out.lt).free 1; clear hg hb))
      go_wp2
      refine bodyPost_ret (v := .tuple #[.agg #[.slice a1 cs.length c1, .int .i64 m], .int .i64 0, x, .bool true]) (by simp [results, Tryd.results17, go_sem, kr0, kr1]) rfl ?_
      have hux : ∀ q9, gBlock (.slice a1 cs.length c1) = some q9 → gBlock x ≠ some q9 := fun q9 e1 e2 => by have := (HGZ.out.lt q9 e1).2; have := (HX.out.lt q9 e2).1; omega
      have hB8 : Below w.heap.size w w8 := HBZ.out.trans (HB8.out.mono HBZ.out.size)
      have hg8 := (((HGZ.out.mono HB8.out (Nat.le_refl _)).setOther (w.heap.size + 1) 0 (.slice a1 cs.length c1) (fun y hy => by have := HNZ.out y hy; omega)).setOther (w.heap.size + 1) 1 (.int .i64 (m)) (fun y hy => by have := HNZ.out y hy; omega)).low (B' := w.heap.size) LOW.out
      have hx8 := ((HX.out.setOther (w.heap.size + 1) 0 (.slice a1 cs.length c1) (fun y hy => by have := (HX.out.lt y hy).1; have := RZ.out.lt; omega)).setOther (w.heap.size + 1) 1 (.int .i64 (m)) (fun y hy => by have := (HX.out.lt y hy).1; have := RZ.out.lt; omega)).low (B' := w.heap.size) HBZ.out.size
      exact pop_yes HYA.out HC.out HM.out HV.out rfl _ _ hg8 hx8 hux ((hB8.setCell (p := ⟨w.heap.size + 1, 0, none⟩) (by show w.heap.size ≤ w.heap.size + 1; omega) _).setCell (p := ⟨w.heap.size + 1, 1, none⟩) (by show w.heap.size ≤ w.heap.size + 1; omega) _)
    · have hm0' : m = 0 := Classical.byContradiction fun e => hdo ⟨rfl, e⟩
      have hm8 : (m == 0) = true := by rw [hm0']; rfl
      have HM8 := Lib.hid hm0'
      clear hdo hst hm0'
      go_wp2
      generalize (w2.alloc (.cells #[.slice a1 cs.length c1, .int .i64 m] 25)) = wz at HA3 K93 kz1 ⊢
      have K9 := K93
      have RZ := Lib.hid (P1.out.mono HA3.out P1.out.lt)
      have HGZ := Lib.hid (HG2.out.mono HA3.out (Nat.le_refl _))
      have HBZ : Hid (Below w.heap.size w wz) := HB2.out.trans (HA3.out.mono HB2.out.size)
      clear k0 k1 kr0 kr1 kz1
      have KH0 : Hid (wz.drew.cell? ⟨w2.heap.size, 0, none⟩ = some (.slice a1 cs.length c1) ∧ wz.drew.cell? ⟨w2.heap.size, 1, none⟩ = some (.int .i64 (m))) := ⟨K9.out.cell rfl, K9.out.cell rfl⟩
      go_region_held3 (fun w' => w'.cell? ⟨w2.heap.size, 0, none⟩ = some (.slice a1 cs.length c1) ∧ w'.cell? ⟨w2.heap.size, 1, none⟩ = some (.int .i64 (m))) ((first | exact KH0.out | exact KH1.out | (obtain ⟨q0, q1⟩ := KH1.out; constructor <;> go_simp))) (first | (go_at_call 31; refine (stackTrace_any _).mono ?_; rintro e w8 ⟨x, rfl, hg, hb⟩; have hg := hg.low (B' := wz.heap.size) (Nat.le_refl _); have hb := (Below.refl wz.heap.size wz).drew.trans hb; have HX := Lib.hid hg; have HB8 := Lib.hid hb; have KH1 : Hid (w8.cell? ⟨w2.heap.size, 0, none⟩ = some (.slice a1 cs.length c1) ∧ w8.cell? ⟨w2.heap.size, 1, none⟩ = some (.int .i64 (m))) := ⟨(K9.out.mono hb K9.out.lt).cell rfl, (K9.out.mono hb K9.out.lt).cell rfl⟩; have kr0 : w8.cell? ⟨w.heap.size + 1, 0, none⟩ = some (.slice none 0 0) := (RZ.out.mono hb RZ.out.lt).cell rfl; have kr1 : w8.cell? ⟨w.heap.size + 1, 1, none⟩ = some (.int .i64 0) := (RZ.out.mono hb RZ.out.lt).cell rfl; have f0 := (RZ.out.mono hb RZ.out.lt).free 0; have f1 := (RZ.out.mono hb RZ.out.lt).free 1; clear hg hb))
      go_wp2
      refine bodyPost_ret (v := .tuple #[.agg #[.slice a1 cs.length c1, .int .i64 m], .int .i64 0, x, .bool false]) (by simp [results, Tryd.results17, go_sem, kr0, kr1]) rfl ?_
      have hux : ∀ q9, gBlock (.slice a1 cs.length c1) = some q9 → gBlock x ≠ some q9 := fun q9 e1 e2 => by have := (HGZ.out.lt q9 e1).2; have := (HX.out.lt q9 e2).1; omega
      have hB8 : Below w.heap.size w w8 := HBZ.out.trans (HB8.out.mono HBZ.out.size)
      have hg8 := (((HGZ.out.mono HB8.out (Nat.le_refl _)).setOther (w.heap.size + 1) 0 (.slice a1 cs.length c1) (fun y hy => by have := HNZ.out y hy; omega)).setOther (w.heap.size + 1) 1 (.int .i64 (m)) (fun y hy => by have := HNZ.out y hy; omega)).low (B' := w.heap.size) LOW.out
      have hx8 := ((HX.out.setOther (w.heap.size + 1) 0 (.slice a1 cs.length c1) (fun y hy => by have := (HX.out.lt y hy).1; have := RZ.out.lt; omega)).setOther (w.heap.size + 1) 1 (.int .i64 (m)) (fun y hy => by have := (HX.out.lt y hy).1; have := RZ.out.lt; omega)).low (B' := w.heap.size) HBZ.out.size
      exact pop_yes HYA.out HC.out HM.out HV.out (by rw [HM8.out]; rfl) _ _ hg8 hx8 hux ((hB8.setCell (p := ⟨w.heap.size + 1, 0, none⟩) (by show w.heap.size ≤ w.heap.size + 1; omega) _).setCell (p := ⟨w.heap.size + 1, 1, none⟩) (by show w.heap.size ≤ w.heap.size + 1; omega) _)
  case pos =>
    obtain ⟨rfl, hM8⟩ := hdo
    obtain ⟨Q, rfl⟩ : ∃ Q : Nat, m = (Q : Int) + 1 := ⟨(m - 1).toNat, by omega⟩
    have hm8 : ((Q : Int) + 1 == 0) = false := by simp; omega
    have HD : Hid (popDo ((Q : Int) + 1) true = true) := by unfold Hid popDo; rw [hm8]; rfl
    have e1 : ((Q : Int) + 1 - 1) = (Q : Int) := by omega
    obtain ⟨y, hy0⟩ : ∃ y, cs[Q]?.getD 0 = y := ⟨_, rfl⟩
    have HC : Hid ((if popDo ((Q : Int) + 1) true then cs.set ((Q : Int) + 1 - 1).toNat 0 else cs) = cs.set Q 0) := by unfold Hid; rw [HD.out, e1]; rfl
    have HM : Hid ((if popDo ((Q : Int) + 1) true then (Q : Int) + 1 - 1 else (Q : Int) + 1) = (Q : Int)) := by unfold Hid; rw [HD.out, e1]; rfl
    have HV : Hid ((if popDo ((Q : Int) + 1) true then cs[((Q : Int) + 1 - 1).toNat]?.getD 0 else 0) = y) := by unfold Hid; rw [HD.out, e1, ← hy0]; rfl
    have HOK : Hid ((!true || !((Q : Int) + 1 == 0)) = true) := by unfold Hid; rw [hm8]; rfl
    have hy : iv cs Q = .int .i64 y := by rw [iv, hy0]
    have HY := Lib.hid hy
    clear e1 hy0 hy hM8
    have k0 : w1.cell? ⟨w.heap.size, 0, none⟩ = some (.slice ad cs.length c) := Q0.out.cell rfl
    have k1 : w1.cell? ⟨w.heap.size, 1, none⟩ = some (.int .i64 ((Q : Int) + 1)) := Q0.out.cell rfl
    go_wp2_with fail
    refine (impl_clone _ cs ((Q : Int) + 1) _ H1.out (by omega)).mono ?_
    rintro e w2 ⟨u, rfl, hg, hb⟩
    obtain ⟨a1, c1, hu⟩ := hg.lit
    subst hu
    have HG2 := Lib.hid hg
    have HB2 : Hid (Below w.heap.size w w2) := HB1.out.trans (hb.mono HB1.out.size)
    have P0 := Lib.hid (Q0.out.mono hb Q0.out.lt)
    have P1 := Lib.hid (Q1.out.mono hb Q1.out.lt)
    have z1 : w.heap.size + 1 < w1.heap.size := Q1.out.lt
    have z2 : w1.heap.size ≤ w2.heap.size := hb.size
    clear hg hb Q0 Q1 HB1 H1 k0 k1
    have n0 : ¬ w2.heap.size = w.heap.size := by omega
    have n1 : ¬ w2.heap.size = w.heap.size + 1 := by omega
    have k0 : w2.cell? ⟨w.heap.size, 0, none⟩ = some (.slice ad cs.length c) := P0.out.cell rfl
    have k1 : w2.cell? ⟨w.heap.size, 1, none⟩ = some (.int .i64 ((Q : Int) + 1)) := P0.out.cell rfl
    have kr0 : w2.cell? ⟨w.heap.size + 1, 0, none⟩ = some (.slice none 0 0) := P1.out.cell rfl
    have kr1 : w2.cell? ⟨w.heap.size + 1, 1, none⟩ = some (.int .i64 0) := P1.out.cell rfl
    have LOW : Hid (w.heap.size ≤ w1.heap.size) := by unfold Hid; omega
    have hA3 : Below w2.heap.size w2 (w2.alloc (.cells #[.slice a1 cs.length c1, .int .i64 ((Q : Int) + 1)] 25)) := (Below.refl _ _).alloc (Nat.le_refl _) _
    have HA3 := Lib.hid hA3
    have K93 : Hid (Row (w2.alloc (.cells #[.slice a1 cs.length c1, .int .i64 ((Q : Int) + 1)] 25)) w2.heap.size 25 [.slice a1 cs.length c1, .int .i64 ((Q : Int) + 1)]) := Row.new w2 25 [.slice a1 cs.length c1, .int .i64 ((Q : Int) + 1)]
    have HNZ : Hid (∀ x, gBlock (.slice a1 cs.length c1) = some x → w.heap.size + 1 < x) := fun x hx => by have := (HG2.out.lt x hx).1; omega
    have kz1 : (w2.alloc (.cells #[.slice a1 cs.length c1, .int .i64 ((Q : Int) + 1)] 25)).cell? ⟨w.heap.size, 1, none⟩ = some (.int .i64 ((Q : Int) + 1)) := (P0.out.mono hA3 P0.out.lt).cell rfl
    clear hA3
    obtain ⟨g, c2, hv2, hgb, hgc, hgm, hfr, hcl, hset⟩ := HG2.out.at (by omega)
    cases hv2
    have hgl : g < w2.heap.size := (HG2.out.lt g (by simp [gBlock]; omega)).2
    have hng : ¬ w2.heap.size = g := by omega
    have hng0 : ¬ g = w.heap.size := by omega
    have hng1 : ¬ g = w.heap.size + 1 := by omega
    have hcM := hcl Q _ (ints_get (by omega))
    rw [HY.out] at hcM
    have hfM := hfr Q
    have hssz : (w2.setCell ⟨g, Q, none⟩ (.int .i64 0)).heap.size = w2.heap.size := by simp [World.setCell]
    have HGZ : Hid (Gr ((w2.setCell ⟨g, Q, none⟩ (.int .i64 0)).alloc (.cells #[.slice (some ⟨g, 0, none⟩) cs.length c1, .int .i64 ((Q : Int))] 25)) w1.heap.size 3 1 (.slice (some ⟨g, 0, none⟩) cs.length c1) (cs.set Q 0).length (ints (cs.set Q 0))) := by
      unfold Hid; rw [List.length_set, show ints (cs.set Q 0) = (ints cs).set Q (.int .i64 0) by simp [ints, List.map_set]]
      exact (hset Q (.int .i64 0) (by omega)).alloc _
    have K9 : Hid (Row ((w2.setCell ⟨g, Q, none⟩ (.int .i64 0)).alloc (.cells #[.slice (some ⟨g, 0, none⟩) cs.length c1, .int .i64 ((Q : Int))] 25)) w2.heap.size 25 [.slice (some ⟨g, 0, none⟩) cs.length c1, .int .i64 (Q : Int)]) := by
      have := Row.new (w2.setCell ⟨g, Q, none⟩ (.int .i64 0)) 25 [.slice (some ⟨g, 0, none⟩) cs.length c1, .int .i64 (Q : Int)]
      rw [hssz] at this; exact this
    have HA5 : Hid (Below w1.heap.size w2 ((w2.setCell ⟨g, Q, none⟩ (.int .i64 0)).alloc (.cells #[.slice (some ⟨g, 0, none⟩) cs.length c1, .int .i64 ((Q : Int))] 25))) := ((Below.refl w1.heap.size w2).setCell (p := ⟨g, Q, none⟩) hgb _).alloc (by rw [hssz]; exact z2) _
    have hML : Q < cs.length := by omega
    have HQ1 : Hid ((Q : Int) + 1 - 1 = (Q : Int)) := by unfold Hid; omega
    clear hfr hcl hset hssz
    go_wp2
    generalize ((w2.setCell ⟨g, Q, none⟩ (.int .i64 0)).alloc (.cells #[.slice (some ⟨g, 0, none⟩) cs.length c1, .int .i64 ((Q : Int))] 25)) = wz at K9 HGZ HA5 ⊢
    have RZ := Lib.hid (P1.out.mono HA5.out z1)
    have HBZ : Hid (Below w.heap.size w wz) := HB2.out.trans (HA5.out.mono LOW.out)
    clear k0 k1 kr0 kr1 hcM hfM kz1
    have KH0 : Hid (wz.drew.cell? ⟨w2.heap.size, 0, none⟩ = some (.slice (some ⟨g, 0, none⟩) cs.length c1) ∧ wz.drew.cell? ⟨w2.heap.size, 1, none⟩ = some (.int .i64 ((Q : Int)))) := ⟨K9.out.cell rfl, K9.out.cell rfl⟩
    go_region_held3 (fun w' => w'.cell? ⟨w2.heap.size, 0, none⟩ = some (.slice (some ⟨g, 0, none⟩) cs.length c1) ∧ w'.cell? ⟨w2.heap.size, 1, none⟩ = some (.int .i64 ((Q : Int)))) ((first | exact KH0.out | exact KH1.out | (obtain ⟨q0, q1⟩ := KH1.out; constructor <;> go_simp))) (first | (go_at_call 31; refine (stackTrace_any _).mono ?_; rintro e w8 ⟨x, rfl, hg, hb⟩; have hg := hg.low (B' := wz.heap.size) (Nat.le_refl _); have hb := (Below.refl wz.heap.size wz).drew.trans hb; have HX := Lib.hid hg; have HB8 := Lib.hid hb; have KH1 : Hid (w8.cell? ⟨w2.heap.size, 0, none⟩ = some (.slice (some ⟨g, 0, none⟩) cs.length c1) ∧ w8.cell? ⟨w2.heap.size, 1, none⟩ = some (.int .i64 ((Q : Int)))) := ⟨(K9.out.mono hb K9.out.lt).cell rfl, (K9.out.mono hb K9.out.lt).cell rfl⟩; have kr0 : w8.cell? ⟨w.heap.size + 1, 0, none⟩ = some (.slice none 0 0) := (RZ.out.mono hb RZ.out.lt).cell rfl; have kr1 : w8.cell? ⟨w.heap.size + 1, 1, none⟩ = some (.int .i64 0) := (RZ.out.mono hb RZ.out.lt).cell rfl; have f0 := (RZ.out.mono hb RZ.out.lt).free 0; have f1 := (RZ.out.mono hb RZ.out.lt).free 1; clear hg hb))
    go_wp2
    refine bodyPost_ret (v := .tuple #[.agg #[.slice (some ⟨g, 0, none⟩) cs.length c1, .int .i64 (Q : Int)], .int .i64 y, x, .bool true]) (by simp [results, Tryd.results17, go_sem, kr0, kr1]) rfl ?_
    have hux : ∀ q9, gBlock (.slice (some ⟨g, 0, none⟩) cs.length c1) = some q9 → gBlock x ≠ some q9 := fun q9 e1 e2 => by have := (HGZ.out.lt q9 e1).2; have := (HX.out.lt q9 e2).1; omega
    have hB8 : Below w.heap.size w w8 := HBZ.out.trans (HB8.out.mono HBZ.out.size)
    have hg8 := (((HGZ.out.mono HB8.out (Nat.le_refl _)).setOther (w.heap.size + 1) 0 (.slice (some ⟨g, 0, none⟩) cs.length c1) (fun y hy => by have := HNZ.out y hy; omega)).setOther (w.heap.size + 1) 1 (.int .i64 ((Q : Int))) (fun y hy => by have := HNZ.out y hy; omega)).low (B' := w.heap.size) LOW.out
    have hx8 := ((HX.out.setOther (w.heap.size + 1) 0 (.slice (some ⟨g, 0, none⟩) cs.length c1) (fun y hy => by have := (HX.out.lt y hy).1; have := RZ.out.lt; omega)).setOther (w.heap.size + 1) 1 (.int .i64 ((Q : Int))) (fun y hy => by have := (HX.out.lt y hy).1; have := RZ.out.lt; omega)).low (B' := w.heap.size) HBZ.out.size
    exact pop_yes HYA.out HC.out HM.out HV.out HOK.out _ _ hg8 hx8 hux ((hB8.setCell (p := ⟨w.heap.size + 1, 0, none⟩) (by show w.heap.size ≤ w.heap.size + 1; omega) _).setCell (p := ⟨w.heap.size + 1, 1, none⟩) (by show w.heap.size ≤ w.heap.size + 1; omega) _)
end Go.Proofs.YtmdjkaghjljbfaaDoor
