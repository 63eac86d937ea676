/-
  DERIVED. GIVEN WITH THE SEED: THE CARDS: each row of YtiiipaemplihnaaDoorRows.lean that lists a variable, with what it lists TIED to the program's text (the seventh form; the later family's looks); each row that meets fmt, with fmt's text TOLD by the authors' own Lean function (tested against real Go, not proved from fmt's source: count such statements apart). THE CARD IS WHAT COUNTS. Prove the row's statement (the work); the ties are given (YtiiipaemplihnaaDoorTie.lean); close each card by the builder's one call (the guide's Derived/Test/ToyasCard.lean, 'card_holds'). Laid BY PROGRAM, IN A SANDBOX (cutbox-door.mjs). By AI agents, Wed Nov 11 2026. No macro, syntax, notation, axiom, sorry.
-/
import Derived.Test.YtiiipaemplihnaaDoorRows
import GoSem.ClaimSeven
namespace Go.Proofs.YtiiipaemplihnaaDoor
namespace Rows

/-- THE TIED CARD OF 'laws.FnFindTable'. -/
def fnFindTableCard : Claim7 := { stood := { row := fnFindTableRow, standIns := [], harness := (true, "72e0f228d0c68923eecfd874d99b82b43c638b46380811462634d80d7c1859e6"), looks := false }, kinds := [], alts := [], laidByText := true, laidKinds := [.widerDeep], laidTests := true, laidLooks := .later }
def FnFindTableCardSaid : Prop := Claim7.holds Tryd.pinned (.plain (OpenSpec.ofChange fnFindTableSpec)) fnFindTableCard

/-- THE SECOND FORM's CARD OF 'laws.FnFindTable'. -/
def fnFindTableUptoCard : Claim7 := { stood := { row := fnFindTableUptoRow, standIns := [], harness := (true, "72e0f228d0c68923eecfd874d99b82b43c638b46380811462634d80d7c1859e6"), looks := false }, kinds := [], alts := [], laidByText := true, laidKinds := [.widerDeep], laidTests := true, laidLooks := .later }
def FnFindTableUptoCardSaid : Prop := Claim7.holds Tryd.pinned (.plain (OpenSpec.upto fnFindTableSpec)) fnFindTableUptoCard
end Rows
end Go.Proofs.YtiiipaemplihnaaDoor
