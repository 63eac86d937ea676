/- what a use leaves, address by address; operations that are not met since their guard was not -/
import Derived.Test.YtbnplohlfiefhaaDoorRunQ
import Derived.Test.YtbnplohlfiefhaaDoorRegE
namespace Go.Proofs.YtbnplohlfiefhaaDoor
open Go.RowKit
theorem use_facts {f : Nat → List (Int × Int × Int)} {st : List (Int × Int × Int)} {x y l : Int} {t : Bool} {LS : Nat → List (Int × Int × Int)} (hk : useOk 7 f st x y l = true) (hLS : useLs (lsOf f st) (blkAt (allM 7 f st) x).2.2 x t y l = LS) {k : Nat} (h8 : k < 8) :
    useOk 7 f st (k : Int) 0 0 = true ∧ useOk 7 (fun i => LS (i + 2)) (LS 0) (k : Int) 0 0 = true ∧
    ((k : Int) ≠ x → (blkAt (allM 7 (fun i => LS (i + 2)) (LS 0)) k).2.1 = (blkAt (allM 7 f st) k).2.1 ∧ leafV 7 (fun i => LS (i + 2)) (LS 0) k = leafV 7 f st k) ∧
    ((k : Int) = x → (blkAt (allM 7 (fun i => LS (i + 2)) (LS 0)) k).2.1 = (if t then y else (blkAt (allM 7 f st) k).2.1) ∧ leafV 7 (fun i => LS (i + 2)) (LS 0) k = l) := by
  have hin : inB (k : Int) 0 7 = true := by rw [inB_iff]; omega
  have hv2 := use_valid t hk
  have hat := use_at t hk hin
  rw [hLS] at hv2 hat
  have hat : blkAt (allM 7 (fun i => LS (i + 2)) (LS 0)) (k : Int) = upB x t y l (blkAt (allM 7 f st) (k : Int)) := hat
  unfold useOk at hk
  rw [Bool.and_eq_true, Bool.and_eq_true, Bool.and_eq_true] at hk
  have hv := hk.1.1.1
  have hadr : (blkAt (allM 7 f st) (k : Int)).1 = k := blk_adr (RunOk.start hv) hin
  refine ⟨by unfold useOk; rw [hv, hin]; rfl, by unfold useOk; rw [validB_iff.2 hv2, hin]; rfl, fun hne => ?_, fun he => ?_⟩
  · have hu : upB x t y l (blkAt (allM 7 f st) (k : Int)) = blkAt (allM 7 f st) (k : Int) := by
      unfold upB; rw [hadr, if_neg (by simpa using hne)]
    refine ⟨by rw [hat, hu], ?_⟩
    unfold leafV
    rw [validB_iff.2 hv2, hv, hat, hu]
  · have hu : upB x t y l (blkAt (allM 7 f st) (k : Int)) = ((k : Int), if t then y else (blkAt (allM 7 f st) (k : Int)).2.1, l) := by
      unfold upB; rw [hadr, if_pos (by simpa using he)]
    refine ⟨by rw [hat, hu], ?_⟩
    unfold leafV
    rw [validB_iff.2 hv2, hin, hat, hu]; rfl
section
variable {ops : Array Oper} {Q : Exit → Act → World → Prop} {a0 : Act} {l : List (Nat × Value)} {J : World → Prop} {i : Nat} {o : Oper}
/-- the guard's own operation was not met -/
theorem cv_skipU {P : Program} {j : Nat} {b : Bool} {oj : Oper} {d : Nat} (hg : o.guard = some (j, b)) (hj : ops[j]? = some oj) (hd : oj.dst = some d) (hdp : depB o j = true) (hv : valV l j = undef) (hl : valV l i = undef) : ConstV P ops Q a0 l J i o := by
  intro c a w _ _ _ hI he hf K hK
  have hy : yielded ops a.tmps j = none := by
    have h0 := (he j oj d hj hd hdp).trans hv
    unfold yielded
    rw [hj]
    simp only [Option.bind_some, hd]
    rw [Array.getD_eq_getD_getElem?] at h0
    cases h : a.tmps[d]? with
    | none => rfl
    | some x => rw [h] at h0; cases (show x = undef from h0); rfl
  have hw : Region.wanted o (yielded ops a.tmps) = false := by
    unfold Region.wanted
    rw [hg]
    simp only
    rw [hy]
    cases b <;> rfl
  rw [hw, if_neg (by simp)]
  rw [← hl]
  exact hK _ w rfl trivial hI
end
end Go.Proofs.YtbnplohlfiefhaaDoor
