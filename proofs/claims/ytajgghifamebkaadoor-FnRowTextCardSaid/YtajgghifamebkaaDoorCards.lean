/-
  DERIVED. GIVEN WITH THE SEED: THE CARDS: each row of YtajgghifamebkaaDoorRows.lean that lists a variable, with what it lists TIED to the program's text (the seventh form; the later family's looks); each row that meets fmt, with fmt's text TOLD by the authors' own Lean function (tested against real Go, not proved from fmt's source: count such statements apart). THE CARD IS WHAT COUNTS. Prove the row's statement (the work); the ties are given (YtajgghifamebkaaDoorTie.lean); close each card by the builder's one call (the guide's Derived/Test/ToyasCard.lean, 'card_holds'). Laid BY PROGRAM, IN A SANDBOX (cutbox-door.mjs). By AI agents, Wed Nov 11 2026. No macro, syntax, notation, axiom, sorry.
-/
import Derived.Test.YtajgghifamebkaaDoorRows
import GoSem.ClaimSeven
namespace Go.Proofs.YtajgghifamebkaaDoor
namespace Rows

/-- THE TIED CARD OF 'laws.FnTableText'. -/
def fnTableTextCard : Claim7 := { stood := { row := fnTableTextRow, standIns := [], harness := (true, "a36880618756e968d2be5f2787b262a19acffd843f96050ae7f6ad00bf9af51f"), looks := true }, kinds := [], alts := [], laidByText := true, laidKinds := [.data, .data, .data, .data, .sentinel, .sentinel, .widerDeep, .pinned], laidTests := true, laidLooks := .later }
def FnTableTextCardSaid : Prop := Claim7.holds Tryd.pinned (.plain (OpenSpec.ofChange fnTableTextSpec)) fnTableTextCard

/-- THE TIED CARD OF 'laws.FnReadTable'. -/
def fnReadTableCard : Claim7 := { stood := { row := fnReadTableRow, standIns := [], harness := (true, "a36880618756e968d2be5f2787b262a19acffd843f96050ae7f6ad00bf9af51f"), looks := true }, kinds := [], alts := [], laidByText := true, laidKinds := [.data, .data, .data, .data, .sentinel, .sentinel, .widerDeep, .pinned], laidTests := true, laidLooks := .later }
def FnReadTableCardSaid : Prop := Claim7.holds Tryd.pinned (.plain (OpenSpec.ofChange fnReadTableSpec)) fnReadTableCard

/-- THE TIED CARD OF 'laws.FnExactReadTable'. -/
def fnExactReadTableCard : Claim7 := { stood := { row := fnExactReadTableRow, standIns := [], harness := (true, "a36880618756e968d2be5f2787b262a19acffd843f96050ae7f6ad00bf9af51f"), looks := true }, kinds := [], alts := [], laidByText := true, laidKinds := [.data, .data, .data, .data, .sentinel, .sentinel, .widerDeep, .pinned], laidTests := true, laidLooks := .later }
def FnExactReadTableCardSaid : Prop := Claim7.holds Tryd.pinned (.plain (OpenSpec.ofChange fnExactReadTableSpec)) fnExactReadTableCard

/-- THE TIED CARD OF 'laws.FnRowText'. -/
def fnRowTextCard : Claim7 := { stood := { row := fnRowTextRow, standIns := [], harness := (true, "a36880618756e968d2be5f2787b262a19acffd843f96050ae7f6ad00bf9af51f"), looks := true }, kinds := [], alts := [], laidByText := true, laidKinds := [.data, .data, .data, .sentinel, .sentinel, .widerDeep], laidTests := true, laidLooks := .later }
def FnRowTextCardSaid : Prop := Claim7.holds Tryd.pinned (.plain (OpenSpec.ofChange fnRowTextSpec)) fnRowTextCard

/-- THE SECOND FORM's CARD OF 'laws.FnTableText'. -/
def fnTableTextUptoCard : Claim7 := { stood := { row := fnTableTextUptoRow, standIns := [], harness := (true, "a36880618756e968d2be5f2787b262a19acffd843f96050ae7f6ad00bf9af51f"), looks := true }, kinds := [], alts := [], laidByText := true, laidKinds := [.data, .data, .data, .data, .sentinel, .sentinel, .widerDeep, .pinned], laidTests := true, laidLooks := .later }
def FnTableTextUptoCardSaid : Prop := Claim7.holds Tryd.pinned (.plain (OpenSpec.upto fnTableTextSpec)) fnTableTextUptoCard

/-- THE SECOND FORM's CARD OF 'laws.FnReadTable'. -/
def fnReadTableUptoCard : Claim7 := { stood := { row := fnReadTableUptoRow, standIns := [], harness := (true, "a36880618756e968d2be5f2787b262a19acffd843f96050ae7f6ad00bf9af51f"), looks := true }, kinds := [], alts := [], laidByText := true, laidKinds := [.data, .data, .data, .data, .sentinel, .sentinel, .widerDeep, .pinned], laidTests := true, laidLooks := .later }
def FnReadTableUptoCardSaid : Prop := Claim7.holds Tryd.pinned (.plain (OpenSpec.upto fnReadTableSpec)) fnReadTableUptoCard

/-- THE SECOND FORM's CARD OF 'laws.FnExactReadTable'. -/
def fnExactReadTableUptoCard : Claim7 := { stood := { row := fnExactReadTableUptoRow, standIns := [], harness := (true, "a36880618756e968d2be5f2787b262a19acffd843f96050ae7f6ad00bf9af51f"), looks := true }, kinds := [], alts := [], laidByText := true, laidKinds := [.data, .data, .data, .data, .sentinel, .sentinel, .widerDeep, .pinned], laidTests := true, laidLooks := .later }
def FnExactReadTableUptoCardSaid : Prop := Claim7.holds Tryd.pinned (.plain (OpenSpec.upto fnExactReadTableSpec)) fnExactReadTableUptoCard

/-- THE SECOND FORM's CARD OF 'laws.FnRowText'. -/
def fnRowTextUptoCard : Claim7 := { stood := { row := fnRowTextUptoRow, standIns := [], harness := (true, "a36880618756e968d2be5f2787b262a19acffd843f96050ae7f6ad00bf9af51f"), looks := true }, kinds := [], alts := [], laidByText := true, laidKinds := [.data, .data, .data, .sentinel, .sentinel, .widerDeep], laidTests := true, laidLooks := .later }
def FnRowTextUptoCardSaid : Prop := Claim7.holds Tryd.pinned (.plain (OpenSpec.upto fnRowTextSpec)) fnRowTextUptoCard
end Rows
end Go.Proofs.YtajgghifamebkaaDoor
