/- MemoryOf: contract of the program's -/
import Derived.Test.YtpkcgpgcoafmhaaDoorUseP
namespace Go.Proofs.YtpkcgpgcoafmhaaDoor
open Go.RowKit
def memB (xs ys : List Int) (k : Nat) : List (Int × Int × Int) := tab k fun i => ((i : Int), xs[i]?.getD 0, ys[i]?.getD 0)
@[simp] theorem memB_len (xs ys : List Int) (k : Nat) : (memB xs ys k).length = k := by simp [memB]
theorem memB_succ (xs ys : List Int) (k : Nat) : memB xs ys (k + 1) = memB xs ys k ++ [((k : Int), xs[k]?.getD 0, ys[k]?.getD 0)] := by simp [memB, tab, List.range_succ]
def memOk (xs ys : List Int) : Bool := decide (xs.length = 8) && decide (ys.length = 8) && validB 7 (fun _ => []) (memB xs ys 8)
def memLs (xs ys : List Int) (k : Nat) : Nat → List (Int × Int × Int) := upd (fun _ => []) 0 (memB xs ys k)
theorem memLs_eq (xs ys : List Int) (k : Nat) : memLs xs ys k = lsOf (fun _ => []) (memB xs ys k) := by
  funext i
  unfold memLs lsOf upd
  by_cases e : i = 0
  · rw [if_pos e, if_pos e]
  · rw [if_neg e, if_neg e]; split <;> rfl
theorem memLs_small (xs ys : List Int) {k : Nat} (h : k ≤ 100) : Small 7 (fun _ => []) (memB xs ys k) := ⟨by omega, by simp; omega, fun i _ => by simp⟩
/-- seven lists without blocks -/
theorem mb_start {w : World} {B gx gb : Nat} (h : Row w gb 24 (tab 7 fun _ => .slice none 0 0)) (hx : Row w gx 26 [.slice (some ⟨gb, 0, none⟩) 7 7, .slice none 0 0]) (hB : B ≤ gb) (xs ys : List Int) : MB w B gx 7 (.slice (some ⟨gb, 0, none⟩) 7 7) (fun _ => .slice none 0 0) (memLs xs ys 0) :=
  ⟨hx, Gr.of_made h rfl (by unfold maxLen; omega) hB, fun i _ => ⟨by
    have : memLs xs ys 0 i = [] := by unfold memLs upd memB; split <;> rfl
    rw [this]; exact Gr.nil _ _ _ _, fun _ _ _ g hg => by simp [gBlock] at hg⟩⟩
theorem Tryd.mk7 (w : World) : (Instr.makeSlice 23 (.int .i64 7) (.int .i64 7)).run Tryd.prog w = .ok (.slice (some ⟨w.heap.size, 0, none⟩) 7 7) (w.alloc (.cells #[.slice none 0 0, .slice none 0 0, .slice none 0 0, .slice none 0 0, .slice none 0 0, .slice none 0 0, .slice none 0 0] 24)) := by kernel_rfl
end Go.Proofs.YtpkcgpgcoafmhaaDoor
