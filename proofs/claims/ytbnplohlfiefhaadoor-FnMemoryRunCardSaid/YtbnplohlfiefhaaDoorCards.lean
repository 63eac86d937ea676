/-
  DERIVED. GIVEN WITH THE SEED: THE CARDS: each row of YtbnplohlfiefhaaDoorRows.lean that lists a variable, with what it lists TIED to the program's text (the seventh form; the later family's looks); each row that meets fmt, with fmt's text TOLD by the authors' own Lean function (tested against real Go, not proved from fmt's source: count such statements apart). THE CARD IS WHAT COUNTS. Prove the row's statement (the work); the ties are given (YtbnplohlfiefhaaDoorTie.lean); close each card by the builder's one call (the guide's Derived/Test/ToyasCard.lean, 'card_holds'). Laid BY PROGRAM, IN A SANDBOX (cutbox-door.mjs). By AI agents, Wed Nov 11 2026. No macro, syntax, notation, axiom, sorry.
-/
import Derived.Test.YtbnplohlfiefhaaDoorRows
import GoSem.ClaimSeven
namespace Go.Proofs.YtbnplohlfiefhaaDoor
namespace Rows

/-- THE TIED CARD OF 'laws.FnMemoryOf'. -/
def fnMemoryOfCard : Claim7 := { stood := { row := fnMemoryOfRow, standIns := [], harness := (true, "a2f702996d8dcf76d25bac5a58116dec35f14650035184f33726e2b814bb13cb"), looks := false }, kinds := [], alts := [], laidByText := true, laidKinds := [.widerDeep], laidTests := true, laidLooks := .later }
def FnMemoryOfCardSaid : Prop := Claim7.holds Tryd.pinned (.plain (OpenSpec.ofChange fnMemoryOfSpec)) fnMemoryOfCard

/-- THE TIED CARD OF 'laws.FnLeafOf'. -/
def fnLeafOfCard : Claim7 := { stood := { row := fnLeafOfRow, standIns := [], harness := (true, "a2f702996d8dcf76d25bac5a58116dec35f14650035184f33726e2b814bb13cb"), looks := false }, kinds := [], alts := [], laidByText := true, laidKinds := [.widerDeep], laidTests := true, laidLooks := .later }
def FnLeafOfCardSaid : Prop := Claim7.holds Tryd.pinned (.plain (OpenSpec.ofChange fnLeafOfSpec)) fnLeafOfCard

/-- THE TIED CARD OF 'laws.FnMemoryUse'. -/
def fnMemoryUseCard : Claim7 := { stood := { row := fnMemoryUseRow, standIns := [], harness := (true, "a2f702996d8dcf76d25bac5a58116dec35f14650035184f33726e2b814bb13cb"), looks := false }, kinds := [], alts := [], laidByText := true, laidKinds := [.widerDeep], laidTests := true, laidLooks := .later }
def FnMemoryUseCardSaid : Prop := Claim7.holds Tryd.pinned (.plain (OpenSpec.ofChange fnMemoryUseSpec)) fnMemoryUseCard

/-- THE TIED CARD OF 'laws.FnMemoryRun'. -/
def fnMemoryRunCard : Claim7 := { stood := { row := fnMemoryRunRow, standIns := [], harness := (true, "a2f702996d8dcf76d25bac5a58116dec35f14650035184f33726e2b814bb13cb"), looks := false }, kinds := [], alts := [], laidByText := true, laidKinds := [.widerDeep], laidTests := true, laidLooks := .later }
def FnMemoryRunCardSaid : Prop := Claim7.holds Tryd.pinned (.plain (OpenSpec.ofChange fnMemoryRunSpec)) fnMemoryRunCard

/-- THE TIED CARD OF 'laws.FnMemoryStash'. -/
def fnMemoryStashCard : Claim7 := { stood := { row := fnMemoryStashRow, standIns := [], harness := (true, "a2f702996d8dcf76d25bac5a58116dec35f14650035184f33726e2b814bb13cb"), looks := false }, kinds := [], alts := [], laidByText := true, laidKinds := [.widerDeep], laidTests := true, laidLooks := .later }
def FnMemoryStashCardSaid : Prop := Claim7.holds Tryd.pinned (.plain (OpenSpec.ofChange fnMemoryStashSpec)) fnMemoryStashCard

/-- THE TIED CARD OF 'laws.FnMemorySame'. -/
def fnMemorySameCard : Claim7 := { stood := { row := fnMemorySameRow, standIns := [], harness := (true, "a2f702996d8dcf76d25bac5a58116dec35f14650035184f33726e2b814bb13cb"), looks := false }, kinds := [], alts := [], laidByText := true, laidKinds := [.widerDeep], laidTests := true, laidLooks := .later }
def FnMemorySameCardSaid : Prop := Claim7.holds Tryd.pinned (.plain (OpenSpec.ofChange fnMemorySameSpec)) fnMemorySameCard

/-- THE SECOND FORM's CARD OF 'laws.FnMemoryOf'. -/
def fnMemoryOfUptoCard : Claim7 := { stood := { row := fnMemoryOfUptoRow, standIns := [], harness := (true, "a2f702996d8dcf76d25bac5a58116dec35f14650035184f33726e2b814bb13cb"), looks := false }, kinds := [], alts := [], laidByText := true, laidKinds := [.widerDeep], laidTests := true, laidLooks := .later }
def FnMemoryOfUptoCardSaid : Prop := Claim7.holds Tryd.pinned (.plain (OpenSpec.upto fnMemoryOfSpec)) fnMemoryOfUptoCard

/-- THE SECOND FORM's CARD OF 'laws.FnLeafOf'. -/
def fnLeafOfUptoCard : Claim7 := { stood := { row := fnLeafOfUptoRow, standIns := [], harness := (true, "a2f702996d8dcf76d25bac5a58116dec35f14650035184f33726e2b814bb13cb"), looks := false }, kinds := [], alts := [], laidByText := true, laidKinds := [.widerDeep], laidTests := true, laidLooks := .later }
def FnLeafOfUptoCardSaid : Prop := Claim7.holds Tryd.pinned (.plain (OpenSpec.upto fnLeafOfSpec)) fnLeafOfUptoCard

/-- THE SECOND FORM's CARD OF 'laws.FnMemoryUse'. -/
def fnMemoryUseUptoCard : Claim7 := { stood := { row := fnMemoryUseUptoRow, standIns := [], harness := (true, "a2f702996d8dcf76d25bac5a58116dec35f14650035184f33726e2b814bb13cb"), looks := false }, kinds := [], alts := [], laidByText := true, laidKinds := [.widerDeep], laidTests := true, laidLooks := .later }
def FnMemoryUseUptoCardSaid : Prop := Claim7.holds Tryd.pinned (.plain (OpenSpec.upto fnMemoryUseSpec)) fnMemoryUseUptoCard

/-- THE SECOND FORM's CARD OF 'laws.FnMemoryRun'. -/
def fnMemoryRunUptoCard : Claim7 := { stood := { row := fnMemoryRunUptoRow, standIns := [], harness := (true, "a2f702996d8dcf76d25bac5a58116dec35f14650035184f33726e2b814bb13cb"), looks := false }, kinds := [], alts := [], laidByText := true, laidKinds := [.widerDeep], laidTests := true, laidLooks := .later }
def FnMemoryRunUptoCardSaid : Prop := Claim7.holds Tryd.pinned (.plain (OpenSpec.upto fnMemoryRunSpec)) fnMemoryRunUptoCard

/-- THE SECOND FORM's CARD OF 'laws.FnMemoryStash'. -/
def fnMemoryStashUptoCard : Claim7 := { stood := { row := fnMemoryStashUptoRow, standIns := [], harness := (true, "a2f702996d8dcf76d25bac5a58116dec35f14650035184f33726e2b814bb13cb"), looks := false }, kinds := [], alts := [], laidByText := true, laidKinds := [.widerDeep], laidTests := true, laidLooks := .later }
def FnMemoryStashUptoCardSaid : Prop := Claim7.holds Tryd.pinned (.plain (OpenSpec.upto fnMemoryStashSpec)) fnMemoryStashUptoCard

/-- THE SECOND FORM's CARD OF 'laws.FnMemorySame'. -/
def fnMemorySameUptoCard : Claim7 := { stood := { row := fnMemorySameUptoRow, standIns := [], harness := (true, "a2f702996d8dcf76d25bac5a58116dec35f14650035184f33726e2b814bb13cb"), looks := false }, kinds := [], alts := [], laidByText := true, laidKinds := [.widerDeep], laidTests := true, laidLooks := .later }
def FnMemorySameUptoCardSaid : Prop := Claim7.holds Tryd.pinned (.plain (OpenSpec.upto fnMemorySameSpec)) fnMemorySameUptoCard
end Rows
end Go.Proofs.YtbnplohlfiefhaaDoor
