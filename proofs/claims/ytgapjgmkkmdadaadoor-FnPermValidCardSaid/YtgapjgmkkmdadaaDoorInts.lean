/- contracts of the helper functions of the exact laws, at lists of ints and of bools: to.., eq.., mark.., held.. -/
import Derived.Test.YtgapjgmkkmdadaaDoorChecked
import Derived.Test.YtgapjgmkkmdadaaDoorMem
namespace Go.Proofs.YtgapjgmkkmdadaaDoor
open Go.RowKit
theorem Tryd.infoInt : (Tryd.prog.info? 3).map (fun i => (i.zero, i.size, i.bytes)) = some (some (.int .i64 0), 1, 8) := by kernel_rfl
theorem Tryd.infoBool : (Tryd.prog.info? 4).map (fun i => (i.zero, i.size, i.bytes)) = some (some (.bool false), 1, 1) := by kernel_rfl
def OwnI (w : World) (b : Option Nat) (v : Value) (xs : List Int) : Prop := Own w b 3 1 v xs.length (ints xs)
def OwnB (w : World) (b : Option Nat) (v : Value) (xs : List Bool) : Prop := Own w b 4 1 v xs.length (bools xs)
theorem OwnI.ints {w b v xs} (h : OwnI w b v xs) : Ints w v xs := Own.view h
theorem OwnB.bools {w b v xs} (h : OwnB w b v xs) : Bools w v xs := Own.view h
theorem OwnI.mono {w w' : World} {b v xs} (h : OwnI w b v xs) (hb : Below w.heap.size w w') : OwnI w' b v xs := Own.mono h hb (Nat.le_refl _)
theorem OwnB.mono {w w' : World} {b v xs} (h : OwnB w b v xs) (hb : Below w.heap.size w w') : OwnB w' b v xs := Own.mono h hb (Nat.le_refl _)

theorem OwnI.grown {w w' : World} {b b' v xs} (h : OwnI w b v xs) (hg : w.grownBy w' b') (hne : ∀ g, b = some g → b' ≠ some g) : OwnI w' b v xs := Own.grown h hg hne
theorem OwnB.grown {w w' : World} {b b' v xs} (h : OwnB w b v xs) (hg : w.grownBy w' b') (hne : ∀ g, b = some g → b' ≠ some g) : OwnB w' b v xs := Own.grown h hg hne
theorem OwnI.lt {w : World} {b v xs} (h : OwnI w b v xs) : ∀ g, b = some g → g < w.heap.size := Own.lt h
theorem OwnB.lt {w : World} {b v xs} (h : OwnB w b v xs) : ∀ g, b = some g → g < w.heap.size := Own.lt h


end Go.Proofs.YtgapjgmkkmdadaaDoor
