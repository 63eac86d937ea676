/- the walk of FnStackValid -/
import Derived.Test.YtmdjkaghjljbfaaDoorStackDraw2
import Derived.Test.YtmdjkaghjljbfaaDoorStack
import Derived.Test.YtmdjkaghjljbfaaDoorName
namespace Go.Proofs.YtmdjkaghjljbfaaDoor
open Go.RowKit
theorem nil_ints (w : World) : Ints w (.slice none 0 0) [] := ⟨by simp, Nat.zero_le _, .inl ⟨rfl, _, _, rfl⟩⟩
set_option maxHeartbeats 1000000 in
theorem walk0_FnStackValid (w : World) (v : Value) (bs : List Int) (h : Bts w v bs) (hR : Resv w) :
    Calls Tryd.prog 3 #[v] w fun e w' => LawOk w e w' := by
  obtain ⟨i0, hi, hz0, hz1, hz2⟩ := info_parts Tryd.infoInt
  obtain ⟨ad, c, hv, hm⟩ := bts_lit h
  have H := Lib.hid h
  have HR := Lib.hid hR
  clear h hR
  subst hv
  by_cases hbig : 1048576 < bs.length
  · go_enter Tryd.func3, Tryd.ntmps3
    go_wp2
    go_ret
    exact ⟨rfl, Below.refl _ _⟩
  · go_enter Tryd.func3, Tryd.ntmps3
    go_wp2_with fail
    refine (draw_StackValid _ bs w H.out).mono ?_
    rintro e w1 ⟨g, off, ds, m, rfl, ho, hl, hrow, m1, m9, hb⟩
    have hI1 := ints_drop hrow hl ho
    obtain ⟨cs, hcs⟩ : ∃ cs, ds.drop off = cs := ⟨_, rfl⟩
    obtain ⟨L, hL⟩ : ∃ L, 8 - off = L := ⟨_, rfl⟩
    rw [hcs, hL] at hI1
    rw [hL]
    have HA : Hid (Below w1.heap.size w1 (w1.alloc (.cells #[.slice (some ⟨g, off, none⟩) L L, .int .i64 m] 25))) := (Below.refl _ _).alloc (Nat.le_refl _) _
    have RB := Lib.hid (Row.new w1 25 [.slice (some ⟨g, off, none⟩) L L, .int .i64 m])
    have HI := Lib.hid (hI1.mono HA.out (Nat.le_refl _))
    have B1 := nxt (Lib.hid hb) HA.out
    clear hb hI1 hrow hl hcs hL H ho
    obtain ⟨t, ht⟩ : ∃ t, stackB cs m = t := ⟨_, rfl⟩
    have HT := Lib.hid ht
    have htt : (t != t) = false := by simp
    clear ht
    go_wp2_with fail
    generalize w1.alloc (.cells #[.slice (some ⟨g, off, none⟩) L L, .int .i64 m] 25) = W at HA RB HI B1 ⊢
    refine (impl_StackValid _ cs m W HI.out).mono ?_
    rw [HT.out]
    rintro e w2 ⟨rfl, hb⟩
    have R2 := Lib.hid (RB.out.mono hb RB.out.lt)
    have HI2 := Lib.hid (HI.out.mono hb (Nat.le_refl _))
    have B2 := nxt B1 hb
    clear hb RB HI B1 HA
    have k0 : w2.cell? ⟨w1.heap.size, 0, none⟩ = some (.slice (some ⟨g, off, none⟩) L L) := R2.out.cell rfl
    have k1 : w2.cell? ⟨w1.heap.size, 1, none⟩ = some (.int .i64 m) := R2.out.cell rfl
    go_wp2_with fail
    clear k0 k1
    refine (spec_StackValid _ cs m w2 HI2.out).mono ?_
    rw [HT.out]
    rintro e w3 ⟨rfl, hb⟩
    have R3 := Lib.hid (R2.out.mono hb R2.out.lt)
    have B3 := nxt B2 hb
    clear hb R2 HI2 B2
    have k0 : w3.cell? ⟨w1.heap.size, 0, none⟩ = some (.slice (some ⟨g, off, none⟩) L L) := R3.out.cell rfl
    have k1 : w3.cell? ⟨w1.heap.size, 1, none⟩ = some (.int .i64 m) := R3.out.cell rfl
    go_wp2_with fail
    clear k0 k1
    refine (impl_StackValid _ [] m w3 (nil_ints _)).mono ?_
    rw [show stackB [] m = false from rfl]
    rintro e w4 ⟨rfl, hb⟩
    have B4 := nxt B3 hb
    clear hb R3 B3
    go_wp2_with fail
    rw [Tryd.mk8]
    have hb5 : Below w4.heap.size w4 (w4.alloc (.cells (ints [0, 0, 0, 0, 0, 0, 0, 0]).toArray 3)) := (Below.refl _ _).alloc (Nat.le_refl _) _
    have HZ : Hid (Ints (w4.alloc (.cells (ints [0, 0, 0, 0, 0, 0, 0, 0]).toArray 3)) (.slice (some ⟨w4.heap.size, 0, none⟩) 8 8) [0, 0, 0, 0, 0, 0, 0, 0]) := Ints.of_row (Row.new w4 3 (ints [0, 0, 0, 0, 0, 0, 0, 0])) rfl (by unfold maxLen; omega) (Nat.le_refl _)
    have B5 := nxt B4 hb5
    clear hb5 B4
    generalize w4.alloc (.cells (ints [0, 0, 0, 0, 0, 0, 0, 0]).toArray 3) = w5 at HZ B5 ⊢
    go_wp2_with fail
    refine (impl_StackValid _ [0, 0, 0, 0, 0, 0, 0, 0] 0 w5 HZ.out).mono ?_
    rw [show stackB [0, 0, 0, 0, 0, 0, 0, 0] 0 = true from rfl]
    rintro e w6 ⟨rfl, hb⟩
    have B6 := nxt B5 hb
    have HR6 := Lib.hid (HR.out.mono B6.out (Nat.le_refl _))
    clear hb B5 HZ HR
    go_wp2_with (go_at_call 11; refine (alive_any _ HR6.out).mono ?_; rintro e w' ⟨rfl, rfl⟩)
    go_ret
    exact ⟨rfl, B6.out⟩
theorem walk_FnStackValid (w : World) (v : Value) (bs : List Int) (h : View w 1 v bs.length (bs.map (Value.int .u8)) ∧ ∀ b ∈ bs, 0 ≤ b ∧ b ≤ 255) (hR : Resv w) :
    Calls Tryd.prog 3 #[v] w fun e w' => e = .returned (.bool true) ∧ Below w.heap.size w w' := walk0_FnStackValid w v bs h hR
end Go.Proofs.YtmdjkaghjljbfaaDoor
