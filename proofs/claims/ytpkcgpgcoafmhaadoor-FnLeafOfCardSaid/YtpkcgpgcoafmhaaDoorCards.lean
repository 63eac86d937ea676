/-
  DERIVED. GIVEN WITH THE SEED: THE CARDS: each row of YtpkcgpgcoafmhaaDoorRows.lean that lists a variable, with what it lists TIED to the program's text (the seventh form; the later family's looks); each row that meets fmt, with fmt's text TOLD by the authors' own Lean function (tested against real Go, not proved from fmt's source: count such statements apart). THE CARD IS WHAT COUNTS. Prove the row's statement (the work); the ties are given (YtpkcgpgcoafmhaaDoorTie.lean); close each card by the builder's one call (the guide's Derived/Test/ToyasCard.lean, 'card_holds'). Laid BY PROGRAM, IN A SANDBOX (cutbox-door.mjs). By AI agents, Wed Nov 11 2026. No macro, syntax, notation, axiom, sorry.
-/
import Derived.Test.YtpkcgpgcoafmhaaDoorRows
import GoSem.ClaimSeven
namespace Go.Proofs.YtpkcgpgcoafmhaaDoor
namespace Rows

/-- THE TIED CARD OF 'laws.FnLeafOf'. -/
def fnLeafOfCard : Claim7 := { stood := { row := fnLeafOfRow, standIns := [], harness := (true, "5efba99d0a90710bdb7f9336bb00ea177f84517d23cc8c72a9bd93567450f7de"), looks := false }, kinds := [], alts := [], laidByText := true, laidKinds := [.widerDeep], laidTests := true, laidLooks := .later }
def FnLeafOfCardSaid : Prop := Claim7.holds Tryd.pinned (.plain (OpenSpec.ofChange fnLeafOfSpec)) fnLeafOfCard

/-- THE SECOND FORM's CARD OF 'laws.FnLeafOf'. -/
def fnLeafOfUptoCard : Claim7 := { stood := { row := fnLeafOfUptoRow, standIns := [], harness := (true, "5efba99d0a90710bdb7f9336bb00ea177f84517d23cc8c72a9bd93567450f7de"), looks := false }, kinds := [], alts := [], laidByText := true, laidKinds := [.widerDeep], laidTests := true, laidLooks := .later }
def FnLeafOfUptoCardSaid : Prop := Claim7.holds Tryd.pinned (.plain (OpenSpec.upto fnLeafOfSpec)) fnLeafOfUptoCard
end Rows
end Go.Proofs.YtpkcgpgcoafmhaaDoor
