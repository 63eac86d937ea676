/-
  DERIVED. GIVEN WITH THE SEED: THE CARDS: each row of YtnmkficfbnnakaaDoorRows.lean that lists a variable, with what it lists TIED to the program's text (the seventh form; the later family's looks); each row that meets fmt, with fmt's text TOLD by the authors' own Lean function (tested against real Go, not proved from fmt's source: count such statements apart). THE CARD IS WHAT COUNTS. Prove the row's statement (the work); the ties are given (YtnmkficfbnnakaaDoorTie.lean); close each card by the builder's one call (the guide's Derived/Test/ToyasCard.lean, 'card_holds'). Laid BY PROGRAM, IN A SANDBOX (cutbox-door.mjs). By AI agents, Wed Nov 11 2026. No macro, syntax, notation, axiom, sorry.
-/
import Derived.Test.YtnmkficfbnnakaaDoorRows
import GoSem.ClaimSeven
namespace Go.Proofs.YtnmkficfbnnakaaDoor
namespace Rows

/-- THE TIED CARD OF 'laws.FnApplySwitches'. -/
def fnApplySwitchesCard : Claim7 := { stood := { row := fnApplySwitchesRow, standIns := [], harness := (true, "d6dae6e2e789f278f75076d9d82565a360229992cac58955641518fec7489e83"), looks := false }, kinds := [], alts := [], laidByText := true, laidKinds := [.widerDeep], laidTests := true, laidLooks := .later }
def FnApplySwitchesCardSaid : Prop := Claim7.holds Tryd.pinned (.plain (OpenSpec.ofChange fnApplySwitchesSpec)) fnApplySwitchesCard

/-- THE TIED CARD OF 'laws.FnRoutePermutation'. -/
def fnRoutePermutationCard : Claim7 := { stood := { row := fnRoutePermutationRow, standIns := [], harness := (true, "d6dae6e2e789f278f75076d9d82565a360229992cac58955641518fec7489e83"), looks := false }, kinds := [], alts := [], laidByText := true, laidKinds := [.widerDeep], laidTests := true, laidLooks := .later }
def FnRoutePermutationCardSaid : Prop := Claim7.holds Tryd.pinned (.plain (OpenSpec.ofChange fnRoutePermutationSpec)) fnRoutePermutationCard

/-- THE TIED CARD OF 'laws.FnSwitchedTwice'. -/
def fnSwitchedTwiceCard : Claim7 := { stood := { row := fnSwitchedTwiceRow, standIns := [], harness := (true, "d6dae6e2e789f278f75076d9d82565a360229992cac58955641518fec7489e83"), looks := false }, kinds := [], alts := [], laidByText := true, laidKinds := [.widerDeep], laidTests := true, laidLooks := .later }
def FnSwitchedTwiceCardSaid : Prop := Claim7.holds Tryd.pinned (.plain (OpenSpec.ofChange fnSwitchedTwiceSpec)) fnSwitchedTwiceCard

/-- THE SECOND FORM's CARD OF 'laws.FnApplySwitches'. -/
def fnApplySwitchesUptoCard : Claim7 := { stood := { row := fnApplySwitchesUptoRow, standIns := [], harness := (true, "d6dae6e2e789f278f75076d9d82565a360229992cac58955641518fec7489e83"), looks := false }, kinds := [], alts := [], laidByText := true, laidKinds := [.widerDeep], laidTests := true, laidLooks := .later }
def FnApplySwitchesUptoCardSaid : Prop := Claim7.holds Tryd.pinned (.plain (OpenSpec.upto fnApplySwitchesSpec)) fnApplySwitchesUptoCard

/-- THE SECOND FORM's CARD OF 'laws.FnRoutePermutation'. -/
def fnRoutePermutationUptoCard : Claim7 := { stood := { row := fnRoutePermutationUptoRow, standIns := [], harness := (true, "d6dae6e2e789f278f75076d9d82565a360229992cac58955641518fec7489e83"), looks := false }, kinds := [], alts := [], laidByText := true, laidKinds := [.widerDeep], laidTests := true, laidLooks := .later }
def FnRoutePermutationUptoCardSaid : Prop := Claim7.holds Tryd.pinned (.plain (OpenSpec.upto fnRoutePermutationSpec)) fnRoutePermutationUptoCard

/-- THE SECOND FORM's CARD OF 'laws.FnSwitchedTwice'. -/
def fnSwitchedTwiceUptoCard : Claim7 := { stood := { row := fnSwitchedTwiceUptoRow, standIns := [], harness := (true, "d6dae6e2e789f278f75076d9d82565a360229992cac58955641518fec7489e83"), looks := false }, kinds := [], alts := [], laidByText := true, laidKinds := [.widerDeep], laidTests := true, laidLooks := .later }
def FnSwitchedTwiceUptoCardSaid : Prop := Claim7.holds Tryd.pinned (.plain (OpenSpec.upto fnSwitchedTwiceSpec)) fnSwitchedTwiceUptoCard
end Rows
end Go.Proofs.YtnmkficfbnnakaaDoor
