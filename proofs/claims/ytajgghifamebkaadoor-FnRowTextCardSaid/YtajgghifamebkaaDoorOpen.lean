/- what the law's frame hands to the walk: the arguments as views -/
import Derived.Test.YtajgghifamebkaaDoorMem
import Derived.ProofKit
import Derived.OpenShut
import Derived.ChangeSlices
import Derived.Deep.Grids
import Derived.Lib.SmallJoins
namespace Go.Proofs.YtajgghifamebkaaDoor
set_option linter.unusedSimpArgs false
set_option linter.unusedVariables false
open Go.RowKit Go.ChangeShapes Go.WideShapes Go.ChangeAt Go.Deep Go.Joins
theorem fit_of {x : Int} (h : (Lit.int .i64 x).wf = true) : Fit x := bounds_i64 h
theorem view_of {w : World} {x : Addr} {len cap : Nat} (hl : len ≤ cap) (hm : cap ≤ maxLen) {cs : List Value} (hcs : cs.length = len) {f : Nat → Value} (hf : ∀ i, i < len → cs[i]? = some (f i))
    (hcell : ∀ i, i < cap → w.cell? (x.add i) = some (f i)) : View w 1 (.slice (some x) len cap) len cs := by
  refine ⟨by rw [hcs, Nat.mul_one], Nat.le_trans hl hm, ?_⟩
  by_cases h0 : len = 0
  · subst h0; exact .inl ⟨rfl, _, _, rfl⟩
  · obtain ⟨b, off, spot⟩ := x
    have hspot : spot = none := by simpa [Addr.add] using World.cell?_spot (hcell 0 (by omega))
    subst hspot
    refine .inr ⟨by omega, b, off, cap, rfl, hl, fun i u hu => ?_⟩
    have hi : i < len := by rw [← hcs]; exact (List.getElem?_eq_some_iff.1 hu).1
    rw [hf i hi] at hu
    cases hu
    have := hcell i (by omega)
    rwa [Addr.add_lit] at this
section
variable {H : Type} {enc : TypeId × Value → H} {P : Program} {w : World}
theorem arg_ints {r : Reach} {b0 t e : Nat} {v : Value} {d : DataW H} {p : List MemPlace} (ht : P.underlying t = some (.slice e)) (he : P.underlying e = some (.int .i64)) (hc : P.cellsOf e = 1)
    (hv : Value.okWide P w r b0 t v) (h : DataW.Trod enc P w 0 (fun _ => true) true t v d p) : ∃ xs, Ints w v xs ∧ FitL xs := by
  obtain ⟨a0, len0, cap0, rfl⟩ := okWide_slice ht hv
  obtain ⟨fuel, hf⟩ := h
  rcases open_ints ht he hc hf with ⟨hcs, _⟩ | ⟨x, l, c, zs, hcs, _, hl, hm, hz, _, hcell, hwz⟩
  · simp [Value.cells] at hcs
    obtain ⟨rfl, rfl, rfl⟩ := hcs
    exact ⟨[], ⟨by simp, Nat.zero_le _, .inl ⟨rfl, _, _, rfl⟩⟩, fun x hx => by cases hx⟩
  · simp [Value.cells] at hcs
    obtain ⟨rfl, rfl, rfl⟩ := hcs
    simp only [if_true] at hz
    refine ⟨zs.take len0, ?_, fun x hx => fit_of (hwz x (List.mem_of_mem_take hx))⟩
    have hl' : (zs.take len0).length = len0 := by simp; omega
    have := view_of (f := fun i => .int .i64 (zs.getD i 0)) hl hm (cs := ints (zs.take len0)) (by simp [ints]; omega)
      (fun i hi => by simp [ints, List.getElem?_take, hi, List.getD, show i < zs.length by omega]) (fun i hi => hcell i (by omega))
    unfold Ints
    rw [hl']
    exact this
theorem arg_bools {r : Reach} {b0 t e : Nat} {v : Value} {d : DataW H} {p : List MemPlace} (ht : P.underlying t = some (.slice e)) (he : P.underlying e = some .bool) (hc : P.cellsOf e = 1)
    (hv : Value.okWide P w r b0 t v) (h : DataW.Trod enc P w 0 (fun _ => true) true t v d p) : ∃ xs, Bools w v xs := by
  obtain ⟨a0, len0, cap0, rfl⟩ := okWide_slice ht hv
  obtain ⟨fuel, hf⟩ := h
  rcases open_bools ht he hc hf with ⟨hcs, _⟩ | ⟨x, l, c, B, hcs, _, hl, hm, _, hcell⟩
  · simp [Value.cells] at hcs
    obtain ⟨rfl, rfl, rfl⟩ := hcs
    exact ⟨[], ⟨by simp, Nat.zero_le _, .inl ⟨rfl, _, _, rfl⟩⟩⟩
  · simp [Value.cells] at hcs
    obtain ⟨rfl, rfl, rfl⟩ := hcs
    refine ⟨tab len0 B, ?_⟩
    have := view_of (f := fun i => .bool (B i)) hl hm (cs := bools (tab len0 B)) (by simp)
      (fun i hi => by simp [bools, tab_get _ hi]) hcell
    unfold Bools
    rw [tab_length]
    exact this
theorem bounds_byte {n : Int} (h : (Lit.int .u8 n).wf = true) : 0 ≤ n ∧ n ≤ 255 := bounds_u8 h
theorem arg_bytes {r : Reach} {b0 t e : Nat} {v : Value} {d : DataW H} {p : List MemPlace} (ht : P.underlying t = some (.slice e)) (he : P.underlying e = some (.int .u8)) (hc : P.cellsOf e = 1)
    (hv : Value.okWide P w r b0 t v) (h : DataW.Trod enc P w 0 (fun _ => true) true t v d p) : ∃ bs : List Int, View w 1 v bs.length (bs.map (Value.int .u8)) ∧ ∀ b ∈ bs, 0 ≤ b ∧ b ≤ 255 := by
  obtain ⟨a0, len0, cap0, rfl⟩ := okWide_slice ht hv
  obtain ⟨fuel, hf⟩ := h
  rcases open_ints ht he hc hf with ⟨hcs, _⟩ | ⟨x, l, c, zs, hcs, _, hl, hm, hz, _, hcell, hwz⟩
  · simp [Value.cells] at hcs
    obtain ⟨rfl, rfl, rfl⟩ := hcs
    exact ⟨[], ⟨by simp, Nat.zero_le _, .inl ⟨rfl, _, _, rfl⟩⟩, fun x hx => by cases hx⟩
  · simp [Value.cells] at hcs
    obtain ⟨rfl, rfl, rfl⟩ := hcs
    simp only [if_true] at hz
    refine ⟨zs.take len0, ?_, fun x hx => bounds_byte (hwz x (List.mem_of_mem_take hx))⟩
    have hl' : (zs.take len0).length = len0 := by simp; omega
    have := view_of (f := fun i => .int .u8 (zs.getD i 0)) hl hm (cs := (zs.take len0).map (Value.int .u8)) (by simp; omega)
      (fun i hi => by simp [List.getElem?_take, hi, List.getD, show i < zs.length by omega]) (fun i hi => hcell i (by omega))
    rw [hl']
    exact this
end
end Go.Proofs.YtajgghifamebkaaDoor
