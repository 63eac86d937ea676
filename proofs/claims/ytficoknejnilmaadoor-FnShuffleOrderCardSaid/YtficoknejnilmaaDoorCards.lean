/-
  DERIVED. GIVEN WITH THE SEED: THE CARDS: each row of YtficoknejnilmaaDoorRows.lean that lists a variable, with what it lists TIED to the program's text (the seventh form; the later family's looks); each row that meets fmt, with fmt's text TOLD by the authors' own Lean function (tested against real Go, not proved from fmt's source: count such statements apart). THE CARD IS WHAT COUNTS. Prove the row's statement (the work); the ties are given (YtficoknejnilmaaDoorTie.lean); close each card by the builder's one call (the guide's Derived/Test/ToyasCard.lean, 'card_holds'). Laid BY PROGRAM, IN A SANDBOX (cutbox-door.mjs). By AI agents, Wed Nov 11 2026. No macro, syntax, notation, axiom, sorry.
-/
import Derived.Test.YtficoknejnilmaaDoorRows
import GoSem.ClaimSeven
namespace Go.Proofs.YtficoknejnilmaaDoor
namespace Rows

/-- THE TIED CARD OF 'laws.FnShuffleOrder'. -/
def fnShuffleOrderCard : Claim7 := { stood := { row := fnShuffleOrderRow, standIns := [], harness := (true, "91ab835dcf81c362f04b6dd9b428a2ca1f3b6f906782b4c4317b52cb33d6f8eb"), looks := false }, kinds := [], alts := [], laidByText := true, laidKinds := [.widerDeep], laidTests := true, laidLooks := .later }
def FnShuffleOrderCardSaid : Prop := Claim7.holds Tryd.pinned (.plain (OpenSpec.ofChange fnShuffleOrderSpec)) fnShuffleOrderCard

/-- THE TIED CARD OF 'laws.FnShuffleEqual'. -/
def fnShuffleEqualCard : Claim7 := { stood := { row := fnShuffleEqualRow, standIns := [], harness := (true, "91ab835dcf81c362f04b6dd9b428a2ca1f3b6f906782b4c4317b52cb33d6f8eb"), looks := false }, kinds := [], alts := [], laidByText := true, laidKinds := [.widerDeep], laidTests := true, laidLooks := .later }
def FnShuffleEqualCardSaid : Prop := Claim7.holds Tryd.pinned (.plain (OpenSpec.ofChange fnShuffleEqualSpec)) fnShuffleEqualCard

/-- THE TIED CARD OF 'laws.FnShuffleRows'. -/
def fnShuffleRowsCard : Claim7 := { stood := { row := fnShuffleRowsRow, standIns := [], harness := (true, "91ab835dcf81c362f04b6dd9b428a2ca1f3b6f906782b4c4317b52cb33d6f8eb"), looks := false }, kinds := [], alts := [], laidByText := true, laidKinds := [.widerDeep], laidTests := true, laidLooks := .later }
def FnShuffleRowsCardSaid : Prop := Claim7.holds Tryd.pinned (.plain (OpenSpec.ofChange fnShuffleRowsSpec)) fnShuffleRowsCard

/-- THE TIED CARD OF 'laws.FnUnshuffleRows'. -/
def fnUnshuffleRowsCard : Claim7 := { stood := { row := fnUnshuffleRowsRow, standIns := [], harness := (true, "91ab835dcf81c362f04b6dd9b428a2ca1f3b6f906782b4c4317b52cb33d6f8eb"), looks := false }, kinds := [], alts := [], laidByText := true, laidKinds := [.widerDeep], laidTests := true, laidLooks := .later }
def FnUnshuffleRowsCardSaid : Prop := Claim7.holds Tryd.pinned (.plain (OpenSpec.ofChange fnUnshuffleRowsSpec)) fnUnshuffleRowsCard

/-- THE SECOND FORM's CARD OF 'laws.FnShuffleOrder'. -/
def fnShuffleOrderUptoCard : Claim7 := { stood := { row := fnShuffleOrderUptoRow, standIns := [], harness := (true, "91ab835dcf81c362f04b6dd9b428a2ca1f3b6f906782b4c4317b52cb33d6f8eb"), looks := false }, kinds := [], alts := [], laidByText := true, laidKinds := [.widerDeep], laidTests := true, laidLooks := .later }
def FnShuffleOrderUptoCardSaid : Prop := Claim7.holds Tryd.pinned (.plain (OpenSpec.upto fnShuffleOrderSpec)) fnShuffleOrderUptoCard

/-- THE SECOND FORM's CARD OF 'laws.FnShuffleEqual'. -/
def fnShuffleEqualUptoCard : Claim7 := { stood := { row := fnShuffleEqualUptoRow, standIns := [], harness := (true, "91ab835dcf81c362f04b6dd9b428a2ca1f3b6f906782b4c4317b52cb33d6f8eb"), looks := false }, kinds := [], alts := [], laidByText := true, laidKinds := [.widerDeep], laidTests := true, laidLooks := .later }
def FnShuffleEqualUptoCardSaid : Prop := Claim7.holds Tryd.pinned (.plain (OpenSpec.upto fnShuffleEqualSpec)) fnShuffleEqualUptoCard

/-- THE SECOND FORM's CARD OF 'laws.FnShuffleRows'. -/
def fnShuffleRowsUptoCard : Claim7 := { stood := { row := fnShuffleRowsUptoRow, standIns := [], harness := (true, "91ab835dcf81c362f04b6dd9b428a2ca1f3b6f906782b4c4317b52cb33d6f8eb"), looks := false }, kinds := [], alts := [], laidByText := true, laidKinds := [.widerDeep], laidTests := true, laidLooks := .later }
def FnShuffleRowsUptoCardSaid : Prop := Claim7.holds Tryd.pinned (.plain (OpenSpec.upto fnShuffleRowsSpec)) fnShuffleRowsUptoCard

/-- THE SECOND FORM's CARD OF 'laws.FnUnshuffleRows'. -/
def fnUnshuffleRowsUptoCard : Claim7 := { stood := { row := fnUnshuffleRowsUptoRow, standIns := [], harness := (true, "91ab835dcf81c362f04b6dd9b428a2ca1f3b6f906782b4c4317b52cb33d6f8eb"), looks := false }, kinds := [], alts := [], laidByText := true, laidKinds := [.widerDeep], laidTests := true, laidLooks := .later }
def FnUnshuffleRowsUptoCardSaid : Prop := Claim7.holds Tryd.pinned (.plain (OpenSpec.upto fnUnshuffleRowsSpec)) fnUnshuffleRowsUptoCard
end Rows
end Go.Proofs.YtficoknejnilmaaDoor
