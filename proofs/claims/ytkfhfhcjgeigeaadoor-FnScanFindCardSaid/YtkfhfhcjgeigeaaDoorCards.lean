/-
  DERIVED. GIVEN WITH THE SEED: THE CARDS: each row of YtkfhfhcjgeigeaaDoorRows.lean that lists a variable, with what it lists TIED to the program's text (the seventh form; the later family's looks); each row that meets fmt, with fmt's text TOLD by the authors' own Lean function (tested against real Go, not proved from fmt's source: count such statements apart). THE CARD IS WHAT COUNTS. Prove the row's statement (the work); the ties are given (YtkfhfhcjgeigeaaDoorTie.lean); close each card by the builder's one call (the guide's Derived/Test/ToyasCard.lean, 'card_holds'). Laid BY PROGRAM, IN A SANDBOX (cutbox-door.mjs). By AI agents, Wed Nov 11 2026. No macro, syntax, notation, axiom, sorry.
-/
import Derived.Test.YtkfhfhcjgeigeaaDoorRows
import GoSem.ClaimSeven
namespace Go.Proofs.YtkfhfhcjgeigeaaDoor
namespace Rows

/-- THE TIED CARD OF 'laws.FnScanFind'. -/
def fnScanFindCard : Claim7 := { stood := { row := fnScanFindRow, standIns := [], harness := (true, "833803a7044faeb0332a97a5a1cb6759b2190b31f0a223053712f186cbe241c0"), looks := false }, kinds := [], alts := [], laidByText := true, laidKinds := [.widerDeep], laidTests := true, laidLooks := .later }
def FnScanFindCardSaid : Prop := Claim7.holds Tryd.pinned (.plain (OpenSpec.ofChange fnScanFindSpec)) fnScanFindCard

/-- THE TIED CARD OF 'laws.FnScanRead'. -/
def fnScanReadCard : Claim7 := { stood := { row := fnScanReadRow, standIns := [], harness := (true, "833803a7044faeb0332a97a5a1cb6759b2190b31f0a223053712f186cbe241c0"), looks := false }, kinds := [], alts := [], laidByText := true, laidKinds := [.widerDeep], laidTests := true, laidLooks := .later }
def FnScanReadCardSaid : Prop := Claim7.holds Tryd.pinned (.plain (OpenSpec.ofChange fnScanReadSpec)) fnScanReadCard

/-- THE TIED CARD OF 'laws.FnScanWrite'. -/
def fnScanWriteCard : Claim7 := { stood := { row := fnScanWriteRow, standIns := [], harness := (true, "833803a7044faeb0332a97a5a1cb6759b2190b31f0a223053712f186cbe241c0"), looks := false }, kinds := [], alts := [], laidByText := true, laidKinds := [.widerDeep], laidTests := true, laidLooks := .later }
def FnScanWriteCardSaid : Prop := Claim7.holds Tryd.pinned (.plain (OpenSpec.ofChange fnScanWriteSpec)) fnScanWriteCard

/-- THE TIED CARD OF 'laws.FnScanBack'. -/
def fnScanBackCard : Claim7 := { stood := { row := fnScanBackRow, standIns := [], harness := (true, "833803a7044faeb0332a97a5a1cb6759b2190b31f0a223053712f186cbe241c0"), looks := false }, kinds := [], alts := [], laidByText := true, laidKinds := [.widerDeep], laidTests := true, laidLooks := .later }
def FnScanBackCardSaid : Prop := Claim7.holds Tryd.pinned (.plain (OpenSpec.ofChange fnScanBackSpec)) fnScanBackCard

/-- THE SECOND FORM's CARD OF 'laws.FnScanFind'. -/
def fnScanFindUptoCard : Claim7 := { stood := { row := fnScanFindUptoRow, standIns := [], harness := (true, "833803a7044faeb0332a97a5a1cb6759b2190b31f0a223053712f186cbe241c0"), looks := false }, kinds := [], alts := [], laidByText := true, laidKinds := [.widerDeep], laidTests := true, laidLooks := .later }
def FnScanFindUptoCardSaid : Prop := Claim7.holds Tryd.pinned (.plain (OpenSpec.upto fnScanFindSpec)) fnScanFindUptoCard

/-- THE SECOND FORM's CARD OF 'laws.FnScanRead'. -/
def fnScanReadUptoCard : Claim7 := { stood := { row := fnScanReadUptoRow, standIns := [], harness := (true, "833803a7044faeb0332a97a5a1cb6759b2190b31f0a223053712f186cbe241c0"), looks := false }, kinds := [], alts := [], laidByText := true, laidKinds := [.widerDeep], laidTests := true, laidLooks := .later }
def FnScanReadUptoCardSaid : Prop := Claim7.holds Tryd.pinned (.plain (OpenSpec.upto fnScanReadSpec)) fnScanReadUptoCard

/-- THE SECOND FORM's CARD OF 'laws.FnScanWrite'. -/
def fnScanWriteUptoCard : Claim7 := { stood := { row := fnScanWriteUptoRow, standIns := [], harness := (true, "833803a7044faeb0332a97a5a1cb6759b2190b31f0a223053712f186cbe241c0"), looks := false }, kinds := [], alts := [], laidByText := true, laidKinds := [.widerDeep], laidTests := true, laidLooks := .later }
def FnScanWriteUptoCardSaid : Prop := Claim7.holds Tryd.pinned (.plain (OpenSpec.upto fnScanWriteSpec)) fnScanWriteUptoCard

/-- THE SECOND FORM's CARD OF 'laws.FnScanBack'. -/
def fnScanBackUptoCard : Claim7 := { stood := { row := fnScanBackUptoRow, standIns := [], harness := (true, "833803a7044faeb0332a97a5a1cb6759b2190b31f0a223053712f186cbe241c0"), looks := false }, kinds := [], alts := [], laidByText := true, laidKinds := [.widerDeep], laidTests := true, laidLooks := .later }
def FnScanBackUptoCardSaid : Prop := Claim7.holds Tryd.pinned (.plain (OpenSpec.upto fnScanBackSpec)) fnScanBackUptoCard
end Rows
end Go.Proofs.YtkfhfhcjgeigeaaDoor
