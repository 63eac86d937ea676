/- blocks of memory, laid side by side: plain lemmas on flat lists of cells -/
import Derived.Test.YtpkcgpgcoafmhaaDoorRec
namespace Go.Proofs.YtpkcgpgcoafmhaaDoor
open Go.RowKit
/-- a block: address, value, leaf -/
def blkC (a : Int × Int × Int) : List Value := [.int .i64 a.1, .int .i64 a.2.1, .int .i64 a.2.2]
def blks (xs : List (Int × Int × Int)) : List Value := (xs.map blkC).flatten
@[simp] theorem blks_length (xs : List (Int × Int × Int)) : (blks xs).length = xs.length * 3 := by
  unfold blks
  rw [flat_length (sz := 3) _ (fun c hc => by obtain ⟨a, _, rfl⟩ := List.mem_map.1 hc; rfl), List.length_map]
def bat (xs : List (Int × Int × Int)) (k : Nat) : Int × Int × Int := xs[k]?.getD (0, 0, 0)
theorem blks_tab (xs : List (Int × Int × Int)) : blks xs = (tab xs.length (fun k => blkC (bat xs k))).flatten := by
  unfold blks
  congr 1
  exact tab_ext (by simp) fun i hi => by simp [bat, hi]
theorem blks_append (xs ys : List (Int × Int × Int)) : blks (xs ++ ys) = blks xs ++ blks ys := by simp [blks]
theorem blks_get {xs : List (Int × Int × Int)} {k : Nat} (h : k < xs.length) : (blks xs)[k * 3]? = some (.int .i64 (bat xs k).1) ∧ (blks xs)[k * 3 + 1]? = some (.int .i64 (bat xs k).2.1) ∧ (blks xs)[k * 3 + 2]? = some (.int .i64 (bat xs k).2.2) := by
  have := rec3_cell (n := xs.length) (k := k) (f := fun k => blkC (bat xs k)) (g := fun k => blkC (bat xs k)) [] h rfl (fun i _ => by unfold mixR; split <;> rfl)
  rw [show tab xs.length (mixR k (fun k => blkC (bat xs k)) (fun k => blkC (bat xs k))) = tab xs.length (fun k => blkC (bat xs k)) from tab_congr fun i _ => by simp [mixR], ← blks_tab, List.append_nil] at this
  exact this
theorem one_blks (l : List (Int × Int × Int)) : ∀ u ∈ blks l, u.oneCell' = true := fun u hu => by
  unfold blks at hu
  obtain ⟨c, hc, hu⟩ := List.mem_flatten.1 hu
  obtain ⟨a, _, rfl⟩ := List.mem_map.1 hc
  simp only [blkC, List.mem_cons, List.not_mem_nil, or_false] at hu
  rcases hu with rfl | rfl | rfl <;> rfl
def Blks (w : World) (v : Value) (xs : List (Int × Int × Int)) : Prop := View w 3 v xs.length (blks xs)
theorem Blks.mono {w w' : World} {v xs} (h : Blks w v xs) {B : Nat} (hb : Below B w w') (hB : w.heap.size ≤ B) : Blks w' v xs := View.mono h hb hB
theorem Blks.open {w : World} {v xs} (h : Blks w v xs) : ∃ ad c, v = .slice ad xs.length c ∧ xs.length ≤ maxLen ∧ ∀ i, i < xs.length → ∃ b off, ad = some ⟨b, off, none⟩ ∧ ∀ i, i < xs.length →
    w.cell? ⟨b, off + i * 3, none⟩ = some (.int .i64 (bat xs i).1) ∧ w.cell? ⟨b, off + i * 3 + 1, none⟩ = some (.int .i64 (bat xs i).2.1) ∧ w.cell? ⟨b, off + i * 3 + 2, none⟩ = some (.int .i64 (bat xs i).2.2) := by
  obtain ⟨h1, h2, ⟨h3, a, c, hv⟩ | ⟨h3, b, off, c, hv, hc, hcell⟩⟩ := h
  · rw [h3]; exact ⟨a, c, hv, Nat.zero_le _, fun i hi => by omega⟩
  · refine ⟨_, c, hv, h2, fun i hi => ⟨b, off, rfl, fun i hi => ?_⟩⟩
    obtain ⟨e0, e1, e2⟩ := blks_get hi
    exact ⟨hcell _ _ e0, hcell _ _ e1, hcell _ _ e2⟩
end Go.Proofs.YtpkcgpgcoafmhaaDoor
