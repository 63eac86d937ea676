/-
  DERIVED. GIVEN WITH THE SEED: THE CARDS: each row of YtkekacnnjmbelaaDoorRows.lean that lists a variable, with what it lists TIED to the program's text (the seventh form; the later family's looks); each row that meets fmt, with fmt's text TOLD by the authors' own Lean function (tested against real Go, not proved from fmt's source: count such statements apart). THE CARD IS WHAT COUNTS. Prove the row's statement (the work); the ties are given (YtkekacnnjmbelaaDoorTie.lean); close each card by the builder's one call (the guide's Derived/Test/ToyasCard.lean, 'card_holds'). Laid BY PROGRAM, IN A SANDBOX (cutbox-door.mjs). By AI agents, Wed Nov 11 2026. No macro, syntax, notation, axiom, sorry.
-/
import Derived.Test.YtkekacnnjmbelaaDoorRows
import GoSem.ClaimSeven
namespace Go.Proofs.YtkekacnnjmbelaaDoor
namespace Rows

/-- THE TIED CARD OF 'laws.FnCompactTrace'. -/
def fnCompactTraceCard : Claim7 := { stood := { row := fnCompactTraceRow, standIns := [], harness := (true, "7fa6dc0df0d7efab36d2f26aed4a232a73a469e8992eae9ee544f4683f31dd86"), looks := false }, kinds := [], alts := [], laidByText := true, laidKinds := [.widerDeep], laidTests := true, laidLooks := .later }
def FnCompactTraceCardSaid : Prop := Claim7.holds Tryd.pinned (.plain (OpenSpec.ofChange fnCompactTraceSpec)) fnCompactTraceCard

/-- THE TIED CARD OF 'laws.FnCompactWays'. -/
def fnCompactWaysCard : Claim7 := { stood := { row := fnCompactWaysRow, standIns := [], harness := (true, "7fa6dc0df0d7efab36d2f26aed4a232a73a469e8992eae9ee544f4683f31dd86"), looks := false }, kinds := [], alts := [], laidByText := true, laidKinds := [.widerDeep], laidTests := true, laidLooks := .later }
def FnCompactWaysCardSaid : Prop := Claim7.holds Tryd.pinned (.plain (OpenSpec.ofChange fnCompactWaysSpec)) fnCompactWaysCard

/-- THE TIED CARD OF 'laws.FnBinLoads'. -/
def fnBinLoadsCard : Claim7 := { stood := { row := fnBinLoadsRow, standIns := [], harness := (true, "7fa6dc0df0d7efab36d2f26aed4a232a73a469e8992eae9ee544f4683f31dd86"), looks := false }, kinds := [], alts := [], laidByText := true, laidKinds := [.widerDeep], laidTests := true, laidLooks := .later }
def FnBinLoadsCardSaid : Prop := Claim7.holds Tryd.pinned (.plain (OpenSpec.ofChange fnBinLoadsSpec)) fnBinLoadsCard

/-- THE TIED CARD OF 'laws.FnCompactRows'. -/
def fnCompactRowsCard : Claim7 := { stood := { row := fnCompactRowsRow, standIns := [], harness := (true, "7fa6dc0df0d7efab36d2f26aed4a232a73a469e8992eae9ee544f4683f31dd86"), looks := false }, kinds := [], alts := [], laidByText := true, laidKinds := [.widerDeep], laidTests := true, laidLooks := .later }
def FnCompactRowsCardSaid : Prop := Claim7.holds Tryd.pinned (.plain (OpenSpec.ofChange fnCompactRowsSpec)) fnCompactRowsCard

/-- THE TIED CARD OF 'laws.FnCompactTwice'. -/
def fnCompactTwiceCard : Claim7 := { stood := { row := fnCompactTwiceRow, standIns := [], harness := (true, "7fa6dc0df0d7efab36d2f26aed4a232a73a469e8992eae9ee544f4683f31dd86"), looks := false }, kinds := [], alts := [], laidByText := true, laidKinds := [.widerDeep], laidTests := true, laidLooks := .later }
def FnCompactTwiceCardSaid : Prop := Claim7.holds Tryd.pinned (.plain (OpenSpec.ofChange fnCompactTwiceSpec)) fnCompactTwiceCard

/-- THE TIED CARD OF 'laws.FnBinKeep'. -/
def fnBinKeepCard : Claim7 := { stood := { row := fnBinKeepRow, standIns := [], harness := (true, "7fa6dc0df0d7efab36d2f26aed4a232a73a469e8992eae9ee544f4683f31dd86"), looks := false }, kinds := [], alts := [], laidByText := true, laidKinds := [.widerDeep], laidTests := true, laidLooks := .later }
def FnBinKeepCardSaid : Prop := Claim7.holds Tryd.pinned (.plain (OpenSpec.ofChange fnBinKeepSpec)) fnBinKeepCard

/-- THE TIED CARD OF 'laws.FnFillBins'. -/
def fnFillBinsCard : Claim7 := { stood := { row := fnFillBinsRow, standIns := [], harness := (true, "7fa6dc0df0d7efab36d2f26aed4a232a73a469e8992eae9ee544f4683f31dd86"), looks := false }, kinds := [], alts := [], laidByText := true, laidKinds := [.widerDeep], laidTests := true, laidLooks := .later }
def FnFillBinsCardSaid : Prop := Claim7.holds Tryd.pinned (.plain (OpenSpec.ofChange fnFillBinsSpec)) fnFillBinsCard

/-- THE SECOND FORM's CARD OF 'laws.FnCompactTrace'. -/
def fnCompactTraceUptoCard : Claim7 := { stood := { row := fnCompactTraceUptoRow, standIns := [], harness := (true, "7fa6dc0df0d7efab36d2f26aed4a232a73a469e8992eae9ee544f4683f31dd86"), looks := false }, kinds := [], alts := [], laidByText := true, laidKinds := [.widerDeep], laidTests := true, laidLooks := .later }
def FnCompactTraceUptoCardSaid : Prop := Claim7.holds Tryd.pinned (.plain (OpenSpec.upto fnCompactTraceSpec)) fnCompactTraceUptoCard

/-- THE SECOND FORM's CARD OF 'laws.FnCompactWays'. -/
def fnCompactWaysUptoCard : Claim7 := { stood := { row := fnCompactWaysUptoRow, standIns := [], harness := (true, "7fa6dc0df0d7efab36d2f26aed4a232a73a469e8992eae9ee544f4683f31dd86"), looks := false }, kinds := [], alts := [], laidByText := true, laidKinds := [.widerDeep], laidTests := true, laidLooks := .later }
def FnCompactWaysUptoCardSaid : Prop := Claim7.holds Tryd.pinned (.plain (OpenSpec.upto fnCompactWaysSpec)) fnCompactWaysUptoCard

/-- THE SECOND FORM's CARD OF 'laws.FnBinLoads'. -/
def fnBinLoadsUptoCard : Claim7 := { stood := { row := fnBinLoadsUptoRow, standIns := [], harness := (true, "7fa6dc0df0d7efab36d2f26aed4a232a73a469e8992eae9ee544f4683f31dd86"), looks := false }, kinds := [], alts := [], laidByText := true, laidKinds := [.widerDeep], laidTests := true, laidLooks := .later }
def FnBinLoadsUptoCardSaid : Prop := Claim7.holds Tryd.pinned (.plain (OpenSpec.upto fnBinLoadsSpec)) fnBinLoadsUptoCard

/-- THE SECOND FORM's CARD OF 'laws.FnCompactRows'. -/
def fnCompactRowsUptoCard : Claim7 := { stood := { row := fnCompactRowsUptoRow, standIns := [], harness := (true, "7fa6dc0df0d7efab36d2f26aed4a232a73a469e8992eae9ee544f4683f31dd86"), looks := false }, kinds := [], alts := [], laidByText := true, laidKinds := [.widerDeep], laidTests := true, laidLooks := .later }
def FnCompactRowsUptoCardSaid : Prop := Claim7.holds Tryd.pinned (.plain (OpenSpec.upto fnCompactRowsSpec)) fnCompactRowsUptoCard

/-- THE SECOND FORM's CARD OF 'laws.FnCompactTwice'. -/
def fnCompactTwiceUptoCard : Claim7 := { stood := { row := fnCompactTwiceUptoRow, standIns := [], harness := (true, "7fa6dc0df0d7efab36d2f26aed4a232a73a469e8992eae9ee544f4683f31dd86"), looks := false }, kinds := [], alts := [], laidByText := true, laidKinds := [.widerDeep], laidTests := true, laidLooks := .later }
def FnCompactTwiceUptoCardSaid : Prop := Claim7.holds Tryd.pinned (.plain (OpenSpec.upto fnCompactTwiceSpec)) fnCompactTwiceUptoCard

/-- THE SECOND FORM's CARD OF 'laws.FnBinKeep'. -/
def fnBinKeepUptoCard : Claim7 := { stood := { row := fnBinKeepUptoRow, standIns := [], harness := (true, "7fa6dc0df0d7efab36d2f26aed4a232a73a469e8992eae9ee544f4683f31dd86"), looks := false }, kinds := [], alts := [], laidByText := true, laidKinds := [.widerDeep], laidTests := true, laidLooks := .later }
def FnBinKeepUptoCardSaid : Prop := Claim7.holds Tryd.pinned (.plain (OpenSpec.upto fnBinKeepSpec)) fnBinKeepUptoCard

/-- THE SECOND FORM's CARD OF 'laws.FnFillBins'. -/
def fnFillBinsUptoCard : Claim7 := { stood := { row := fnFillBinsUptoRow, standIns := [], harness := (true, "7fa6dc0df0d7efab36d2f26aed4a232a73a469e8992eae9ee544f4683f31dd86"), looks := false }, kinds := [], alts := [], laidByText := true, laidKinds := [.widerDeep], laidTests := true, laidLooks := .later }
def FnFillBinsUptoCardSaid : Prop := Claim7.holds Tryd.pinned (.plain (OpenSpec.upto fnFillBinsSpec)) fnFillBinsUptoCard
end Rows
end Go.Proofs.YtkekacnnjmbelaaDoor
