/-
  DERIVED. GIVEN WITH THE SEED: THE CARDS: each row of YtgapjgmkkmdadaaDoorRows.lean that lists a variable, with what it lists TIED to the program's text (the seventh form; the later family's looks); each row that meets fmt, with fmt's text TOLD by the authors' own Lean function (tested against real Go, not proved from fmt's source: count such statements apart). THE CARD IS WHAT COUNTS. Prove the row's statement (the work); the ties are given (YtgapjgmkkmdadaaDoorTie.lean); close each card by the builder's one call (the guide's Derived/Test/ToyasCard.lean, 'card_holds'). Laid BY PROGRAM, IN A SANDBOX (cutbox-door.mjs). By AI agents, Wed Nov 11 2026. No macro, syntax, notation, axiom, sorry.
-/
import Derived.Test.YtgapjgmkkmdadaaDoorRows
import GoSem.ClaimSeven
namespace Go.Proofs.YtgapjgmkkmdadaaDoor
namespace Rows

/-- THE TIED CARD OF 'laws.FnSwitchCount'. -/
def fnSwitchCountCard : Claim7 := { stood := { row := fnSwitchCountRow, standIns := [], harness := (true, "4893f3e4a153e14c1bc9ba6c8525ef4d4c3bf8475ddc394ffa1c92a38a4906c8"), looks := false }, kinds := [], alts := [], laidByText := true, laidKinds := [.widerDeep], laidTests := true, laidLooks := .later }
def FnSwitchCountCardSaid : Prop := Claim7.holds Tryd.pinned (.plain (OpenSpec.ofChange fnSwitchCountSpec)) fnSwitchCountCard

/-- THE TIED CARD OF 'laws.FnLookupValue'. -/
def fnLookupValueCard : Claim7 := { stood := { row := fnLookupValueRow, standIns := [], harness := (true, "4893f3e4a153e14c1bc9ba6c8525ef4d4c3bf8475ddc394ffa1c92a38a4906c8"), looks := false }, kinds := [], alts := [], laidByText := true, laidKinds := [.widerDeep], laidTests := true, laidLooks := .later }
def FnLookupValueCardSaid : Prop := Claim7.holds Tryd.pinned (.plain (OpenSpec.ofChange fnLookupValueSpec)) fnLookupValueCard

/-- THE TIED CARD OF 'laws.FnPermValid'. -/
def fnPermValidCard : Claim7 := { stood := { row := fnPermValidRow, standIns := [], harness := (true, "4893f3e4a153e14c1bc9ba6c8525ef4d4c3bf8475ddc394ffa1c92a38a4906c8"), looks := false }, kinds := [], alts := [], laidByText := true, laidKinds := [.widerDeep], laidTests := true, laidLooks := .later }
def FnPermValidCardSaid : Prop := Claim7.holds Tryd.pinned (.plain (OpenSpec.ofChange fnPermValidSpec)) fnPermValidCard

/-- THE TIED CARD OF 'laws.FnLookupAnswer'. -/
def fnLookupAnswerCard : Claim7 := { stood := { row := fnLookupAnswerRow, standIns := [], harness := (true, "4893f3e4a153e14c1bc9ba6c8525ef4d4c3bf8475ddc394ffa1c92a38a4906c8"), looks := false }, kinds := [], alts := [], laidByText := true, laidKinds := [.widerDeep], laidTests := true, laidLooks := .later }
def FnLookupAnswerCardSaid : Prop := Claim7.holds Tryd.pinned (.plain (OpenSpec.ofChange fnLookupAnswerSpec)) fnLookupAnswerCard

/-- THE TIED CARD OF 'laws.FnLookupSets'. -/
def fnLookupSetsCard : Claim7 := { stood := { row := fnLookupSetsRow, standIns := [], harness := (true, "4893f3e4a153e14c1bc9ba6c8525ef4d4c3bf8475ddc394ffa1c92a38a4906c8"), looks := false }, kinds := [], alts := [], laidByText := true, laidKinds := [.widerDeep], laidTests := true, laidLooks := .later }
def FnLookupSetsCardSaid : Prop := Claim7.holds Tryd.pinned (.plain (OpenSpec.ofChange fnLookupSetsSpec)) fnLookupSetsCard

/-- THE TIED CARD OF 'laws.FnLookupBack'. -/
def fnLookupBackCard : Claim7 := { stood := { row := fnLookupBackRow, standIns := [], harness := (true, "4893f3e4a153e14c1bc9ba6c8525ef4d4c3bf8475ddc394ffa1c92a38a4906c8"), looks := false }, kinds := [], alts := [], laidByText := true, laidKinds := [.widerDeep], laidTests := true, laidLooks := .later }
def FnLookupBackCardSaid : Prop := Claim7.holds Tryd.pinned (.plain (OpenSpec.ofChange fnLookupBackSpec)) fnLookupBackCard

/-- THE SECOND FORM's CARD OF 'laws.FnSwitchCount'. -/
def fnSwitchCountUptoCard : Claim7 := { stood := { row := fnSwitchCountUptoRow, standIns := [], harness := (true, "4893f3e4a153e14c1bc9ba6c8525ef4d4c3bf8475ddc394ffa1c92a38a4906c8"), looks := false }, kinds := [], alts := [], laidByText := true, laidKinds := [.widerDeep], laidTests := true, laidLooks := .later }
def FnSwitchCountUptoCardSaid : Prop := Claim7.holds Tryd.pinned (.plain (OpenSpec.upto fnSwitchCountSpec)) fnSwitchCountUptoCard

/-- THE SECOND FORM's CARD OF 'laws.FnLookupValue'. -/
def fnLookupValueUptoCard : Claim7 := { stood := { row := fnLookupValueUptoRow, standIns := [], harness := (true, "4893f3e4a153e14c1bc9ba6c8525ef4d4c3bf8475ddc394ffa1c92a38a4906c8"), looks := false }, kinds := [], alts := [], laidByText := true, laidKinds := [.widerDeep], laidTests := true, laidLooks := .later }
def FnLookupValueUptoCardSaid : Prop := Claim7.holds Tryd.pinned (.plain (OpenSpec.upto fnLookupValueSpec)) fnLookupValueUptoCard

/-- THE SECOND FORM's CARD OF 'laws.FnPermValid'. -/
def fnPermValidUptoCard : Claim7 := { stood := { row := fnPermValidUptoRow, standIns := [], harness := (true, "4893f3e4a153e14c1bc9ba6c8525ef4d4c3bf8475ddc394ffa1c92a38a4906c8"), looks := false }, kinds := [], alts := [], laidByText := true, laidKinds := [.widerDeep], laidTests := true, laidLooks := .later }
def FnPermValidUptoCardSaid : Prop := Claim7.holds Tryd.pinned (.plain (OpenSpec.upto fnPermValidSpec)) fnPermValidUptoCard

/-- THE SECOND FORM's CARD OF 'laws.FnLookupAnswer'. -/
def fnLookupAnswerUptoCard : Claim7 := { stood := { row := fnLookupAnswerUptoRow, standIns := [], harness := (true, "4893f3e4a153e14c1bc9ba6c8525ef4d4c3bf8475ddc394ffa1c92a38a4906c8"), looks := false }, kinds := [], alts := [], laidByText := true, laidKinds := [.widerDeep], laidTests := true, laidLooks := .later }
def FnLookupAnswerUptoCardSaid : Prop := Claim7.holds Tryd.pinned (.plain (OpenSpec.upto fnLookupAnswerSpec)) fnLookupAnswerUptoCard

/-- THE SECOND FORM's CARD OF 'laws.FnLookupSets'. -/
def fnLookupSetsUptoCard : Claim7 := { stood := { row := fnLookupSetsUptoRow, standIns := [], harness := (true, "4893f3e4a153e14c1bc9ba6c8525ef4d4c3bf8475ddc394ffa1c92a38a4906c8"), looks := false }, kinds := [], alts := [], laidByText := true, laidKinds := [.widerDeep], laidTests := true, laidLooks := .later }
def FnLookupSetsUptoCardSaid : Prop := Claim7.holds Tryd.pinned (.plain (OpenSpec.upto fnLookupSetsSpec)) fnLookupSetsUptoCard

/-- THE SECOND FORM's CARD OF 'laws.FnLookupBack'. -/
def fnLookupBackUptoCard : Claim7 := { stood := { row := fnLookupBackUptoRow, standIns := [], harness := (true, "4893f3e4a153e14c1bc9ba6c8525ef4d4c3bf8475ddc394ffa1c92a38a4906c8"), looks := false }, kinds := [], alts := [], laidByText := true, laidKinds := [.widerDeep], laidTests := true, laidLooks := .later }
def FnLookupBackUptoCardSaid : Prop := Claim7.holds Tryd.pinned (.plain (OpenSpec.upto fnLookupBackSpec)) fnLookupBackUptoCard
end Rows
end Go.Proofs.YtgapjgmkkmdadaaDoor
