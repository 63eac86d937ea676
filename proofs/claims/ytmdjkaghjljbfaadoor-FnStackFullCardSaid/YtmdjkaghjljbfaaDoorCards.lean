/-
  DERIVED. GIVEN WITH THE SEED: THE CARDS: each row of YtmdjkaghjljbfaaDoorRows.lean that lists a variable, with what it lists TIED to the program's text (the seventh form; the later family's looks); each row that meets fmt, with fmt's text TOLD by the authors' own Lean function (tested against real Go, not proved from fmt's source: count such statements apart). THE CARD IS WHAT COUNTS. Prove the row's statement (the work); the ties are given (YtmdjkaghjljbfaaDoorTie.lean); close each card by the builder's one call (the guide's Derived/Test/ToyasCard.lean, 'card_holds'). Laid BY PROGRAM, IN A SANDBOX (cutbox-door.mjs). By AI agents, Wed Nov 11 2026. No macro, syntax, notation, axiom, sorry.
-/
import Derived.Test.YtmdjkaghjljbfaaDoorRows
import GoSem.ClaimSeven
namespace Go.Proofs.YtmdjkaghjljbfaaDoor
namespace Rows

/-- THE TIED CARD OF 'laws.FnStackValid'. -/
def fnStackValidCard : Claim7 := { stood := { row := fnStackValidRow, standIns := [], harness := (true, "68ce9a442068384e171f5ae63c0ea521feac78d32b28682261dbcf7d5a975eb3"), looks := false }, kinds := [], alts := [], laidByText := true, laidKinds := [.widerDeep], laidTests := true, laidLooks := .later }
def FnStackValidCardSaid : Prop := Claim7.holds Tryd.pinned (.plain (OpenSpec.ofChange fnStackValidSpec)) fnStackValidCard

/-- THE TIED CARD OF 'laws.FnPushStack'. -/
def fnPushStackCard : Claim7 := { stood := { row := fnPushStackRow, standIns := [], harness := (true, "68ce9a442068384e171f5ae63c0ea521feac78d32b28682261dbcf7d5a975eb3"), looks := false }, kinds := [], alts := [], laidByText := true, laidKinds := [.widerDeep], laidTests := true, laidLooks := .later }
def FnPushStackCardSaid : Prop := Claim7.holds Tryd.pinned (.plain (OpenSpec.ofChange fnPushStackSpec)) fnPushStackCard

/-- THE TIED CARD OF 'laws.FnStackFull'. -/
def fnStackFullCard : Claim7 := { stood := { row := fnStackFullRow, standIns := [], harness := (true, "68ce9a442068384e171f5ae63c0ea521feac78d32b28682261dbcf7d5a975eb3"), looks := false }, kinds := [], alts := [], laidByText := true, laidKinds := [.widerDeep], laidTests := true, laidLooks := .later }
def FnStackFullCardSaid : Prop := Claim7.holds Tryd.pinned (.plain (OpenSpec.ofChange fnStackFullSpec)) fnStackFullCard

/-- THE TIED CARD OF 'laws.FnPopStack'. -/
def fnPopStackCard : Claim7 := { stood := { row := fnPopStackRow, standIns := [], harness := (true, "68ce9a442068384e171f5ae63c0ea521feac78d32b28682261dbcf7d5a975eb3"), looks := false }, kinds := [], alts := [], laidByText := true, laidKinds := [.widerDeep], laidTests := true, laidLooks := .later }
def FnPopStackCardSaid : Prop := Claim7.holds Tryd.pinned (.plain (OpenSpec.ofChange fnPopStackSpec)) fnPopStackCard

/-- THE TIED CARD OF 'laws.FnStackRun'. -/
def fnStackRunCard : Claim7 := { stood := { row := fnStackRunRow, standIns := [], harness := (true, "68ce9a442068384e171f5ae63c0ea521feac78d32b28682261dbcf7d5a975eb3"), looks := false }, kinds := [], alts := [], laidByText := true, laidKinds := [.widerDeep], laidTests := true, laidLooks := .later }
def FnStackRunCardSaid : Prop := Claim7.holds Tryd.pinned (.plain (OpenSpec.ofChange fnStackRunSpec)) fnStackRunCard

/-- THE SECOND FORM's CARD OF 'laws.FnStackValid'. -/
def fnStackValidUptoCard : Claim7 := { stood := { row := fnStackValidUptoRow, standIns := [], harness := (true, "68ce9a442068384e171f5ae63c0ea521feac78d32b28682261dbcf7d5a975eb3"), looks := false }, kinds := [], alts := [], laidByText := true, laidKinds := [.widerDeep], laidTests := true, laidLooks := .later }
def FnStackValidUptoCardSaid : Prop := Claim7.holds Tryd.pinned (.plain (OpenSpec.upto fnStackValidSpec)) fnStackValidUptoCard

/-- THE SECOND FORM's CARD OF 'laws.FnPushStack'. -/
def fnPushStackUptoCard : Claim7 := { stood := { row := fnPushStackUptoRow, standIns := [], harness := (true, "68ce9a442068384e171f5ae63c0ea521feac78d32b28682261dbcf7d5a975eb3"), looks := false }, kinds := [], alts := [], laidByText := true, laidKinds := [.widerDeep], laidTests := true, laidLooks := .later }
def FnPushStackUptoCardSaid : Prop := Claim7.holds Tryd.pinned (.plain (OpenSpec.upto fnPushStackSpec)) fnPushStackUptoCard

/-- THE SECOND FORM's CARD OF 'laws.FnStackFull'. -/
def fnStackFullUptoCard : Claim7 := { stood := { row := fnStackFullUptoRow, standIns := [], harness := (true, "68ce9a442068384e171f5ae63c0ea521feac78d32b28682261dbcf7d5a975eb3"), looks := false }, kinds := [], alts := [], laidByText := true, laidKinds := [.widerDeep], laidTests := true, laidLooks := .later }
def FnStackFullUptoCardSaid : Prop := Claim7.holds Tryd.pinned (.plain (OpenSpec.upto fnStackFullSpec)) fnStackFullUptoCard

/-- THE SECOND FORM's CARD OF 'laws.FnPopStack'. -/
def fnPopStackUptoCard : Claim7 := { stood := { row := fnPopStackUptoRow, standIns := [], harness := (true, "68ce9a442068384e171f5ae63c0ea521feac78d32b28682261dbcf7d5a975eb3"), looks := false }, kinds := [], alts := [], laidByText := true, laidKinds := [.widerDeep], laidTests := true, laidLooks := .later }
def FnPopStackUptoCardSaid : Prop := Claim7.holds Tryd.pinned (.plain (OpenSpec.upto fnPopStackSpec)) fnPopStackUptoCard

/-- THE SECOND FORM's CARD OF 'laws.FnStackRun'. -/
def fnStackRunUptoCard : Claim7 := { stood := { row := fnStackRunUptoRow, standIns := [], harness := (true, "68ce9a442068384e171f5ae63c0ea521feac78d32b28682261dbcf7d5a975eb3"), looks := false }, kinds := [], alts := [], laidByText := true, laidKinds := [.widerDeep], laidTests := true, laidLooks := .later }
def FnStackRunUptoCardSaid : Prop := Claim7.holds Tryd.pinned (.plain (OpenSpec.upto fnStackRunSpec)) fnStackRunUptoCard
end Rows
end Go.Proofs.YtmdjkaghjljbfaaDoor
