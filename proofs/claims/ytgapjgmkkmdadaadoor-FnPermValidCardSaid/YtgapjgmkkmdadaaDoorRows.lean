/-
  NARROWER THAN 'FOR EVERY INPUT', by the rows' own cells (each row's printed sentence says how): FnSwitchCount: laid · FnLookupValue: laid · FnPermValid: laid · FnLookupAnswer: laid · FnLookupSets: laid · FnLookupBack: laid.
  DERIVED. THE GIVEN ROWS OF THIS SEAT. 6 by the template 'for every input the law returns true; each argument reads behind the call as it read before'; 0 by the template 'total and deterministic' (their statements: YtgapjgmkkmdadaaDoorTotals.lean).
  GIVEN WITH THE SEED: the statements are not yours to turn. If you find one false, say at which input.
  Laid BY PROGRAM, IN A SANDBOX (cutbox-rows.mjs): the forced cells as the released guide's own fill.sh prints them over the translation 072832229635c430… (all of the seat's roots in one cut). By AI agents, Wed Nov 11 2026. No macro, syntax, notation, axiom, sorry.
-/
import Derived.Test.YtgapjgmkkmdadaaDoorChecked
import GoSem.Claim
import GoSem.ClaimJoined
import GoSem.ClaimMapViews
import Derived.JoinedTies
import Derived.KernelRfl
namespace Go.Proofs.YtgapjgmkkmdadaaDoor
/- THE CELL 'sum', in the pinned program and in every row, IS THE sha256 OF THE DUMP (.gsa) THAT YtgapjgmkkmdadaaDoorProg.lean LOADS. Nothing in Lean hashes anything: it is a label: what it is worth is what the hold of that sum in a sandbox is worth. -/
noncomputable def Tryd.pinned : Pinned := { name := "ytgapjgmkkmdadaadoor", sum := "072832229635c4301466578086b22012c17b579ceccc5e51ba3c739cd6e11372", checked := Tryd.checked }
namespace Rows
def none {H : Type} : Left H := { results := [], args := [] }

/- WHAT THE LISTED PACKAGE-LEVEL VARIABLES READ AS WHEN THE CALL BEGINS. Each datum BY PROGRAM (the guide's laid-datum.mjs) off the statement by which the dump's own 'gosem.cut.vars' lays the variable. In a bare row this is a premise. The card (YtgapjgmkkmdadaaDoorCards.lean) ties it to the program's text. -/
def laid_loop_example_obliviousqueries_impl_reserved {H : Type} : DataW H := .slice [.lit (.string [115, 101, 108, 101, 99, 116]), .lit (.string [102, 114, 111, 109]), .lit (.string [106, 111, 105, 110]), .lit (.string [111, 110]), .lit (.string [119, 104, 101, 114, 101]), .lit (.string [97, 110, 100]), .lit (.string [111, 114]), .lit (.string [103, 114, 111, 117, 112]), .lit (.string [98, 121]), .lit (.string [115, 117, 109]), .lit (.string [111, 114, 100, 101, 114]), .lit (.string [100, 111, 119, 110]), .lit (.string [108, 105, 109, 105, 116])] []

/-- 'laws.FnSwitchCount': WHATEVER THE INPUT: true; the input reads as it did. -/
def fnSwitchCountSpec : ChangeSpec := { name := "fnSwitchCount", vars := ["loop.example/obliviousqueries/impl.reserved"], fn := fun _ => fun
  | [d, g1] => { results := [.lit (.bool true)], args := [d], vars := [g1] }
  | _ => none }
def fnSwitchCountRow : OpenClaim := { program := "ytgapjgmkkmdadaadoor", sum := "072832229635c4301466578086b22012c17b579ceccc5e51ba3c739cd6e11372", func := "loop.example/obliviousqueries/laws.FnSwitchCount", spec := "fnSwitchCount", recurses := true, named := ["loop.example/obliviousqueries/impl.reserved"], apart := false, laid := [("loop.example/obliviousqueries/impl.reserved", laid_loop_example_obliviousqueries_impl_reserved)] }
def FnSwitchCountSaid : Prop := fnSwitchCountRow.holds Tryd.pinned (OpenSpec.ofChange fnSwitchCountSpec)

/-- ITS FALSE NEIGHBOUR: 'it returns false'. Refute it at one input. -/
def fnSwitchCountWrong : ChangeSpec := { name := "fnSwitchCount", vars := ["loop.example/obliviousqueries/impl.reserved"], fn := fun _ => fun
  | [d, g1] => { results := [.lit (.bool false)], args := [d], vars := [g1] }
  | _ => none }
def FnSwitchCountWrongFalsely : Prop := fnSwitchCountRow.holds Tryd.pinned (OpenSpec.ofChange fnSwitchCountWrong)

/-- 'laws.FnLookupValue': WHATEVER THE INPUT: true; the input reads as it did. -/
def fnLookupValueSpec : ChangeSpec := { name := "fnLookupValue", vars := ["loop.example/obliviousqueries/impl.reserved"], fn := fun _ => fun
  | [d, g1] => { results := [.lit (.bool true)], args := [d], vars := [g1] }
  | _ => none }
def fnLookupValueRow : OpenClaim := { program := "ytgapjgmkkmdadaadoor", sum := "072832229635c4301466578086b22012c17b579ceccc5e51ba3c739cd6e11372", func := "loop.example/obliviousqueries/laws.FnLookupValue", spec := "fnLookupValue", named := ["loop.example/obliviousqueries/impl.reserved"], apart := false, laid := [("loop.example/obliviousqueries/impl.reserved", laid_loop_example_obliviousqueries_impl_reserved)] }
def FnLookupValueSaid : Prop := fnLookupValueRow.holds Tryd.pinned (OpenSpec.ofChange fnLookupValueSpec)

/-- ITS FALSE NEIGHBOUR: 'it returns false'. Refute it at one input. -/
def fnLookupValueWrong : ChangeSpec := { name := "fnLookupValue", vars := ["loop.example/obliviousqueries/impl.reserved"], fn := fun _ => fun
  | [d, g1] => { results := [.lit (.bool false)], args := [d], vars := [g1] }
  | _ => none }
def FnLookupValueWrongFalsely : Prop := fnLookupValueRow.holds Tryd.pinned (OpenSpec.ofChange fnLookupValueWrong)

/-- 'laws.FnPermValid': WHATEVER THE INPUT: true; the input reads as it did. -/
def fnPermValidSpec : ChangeSpec := { name := "fnPermValid", vars := ["loop.example/obliviousqueries/impl.reserved"], fn := fun _ => fun
  | [d, g1] => { results := [.lit (.bool true)], args := [d], vars := [g1] }
  | _ => none }
def fnPermValidRow : OpenClaim := { program := "ytgapjgmkkmdadaadoor", sum := "072832229635c4301466578086b22012c17b579ceccc5e51ba3c739cd6e11372", func := "loop.example/obliviousqueries/laws.FnPermValid", spec := "fnPermValid", recurses := true, named := ["loop.example/obliviousqueries/impl.reserved"], apart := false, laid := [("loop.example/obliviousqueries/impl.reserved", laid_loop_example_obliviousqueries_impl_reserved)] }
def FnPermValidSaid : Prop := fnPermValidRow.holds Tryd.pinned (OpenSpec.ofChange fnPermValidSpec)

/-- ITS FALSE NEIGHBOUR: 'it returns false'. Refute it at one input. -/
def fnPermValidWrong : ChangeSpec := { name := "fnPermValid", vars := ["loop.example/obliviousqueries/impl.reserved"], fn := fun _ => fun
  | [d, g1] => { results := [.lit (.bool false)], args := [d], vars := [g1] }
  | _ => none }
def FnPermValidWrongFalsely : Prop := fnPermValidRow.holds Tryd.pinned (OpenSpec.ofChange fnPermValidWrong)

/-- 'laws.FnLookupAnswer': WHATEVER THE INPUT: true; the input reads as it did. -/
def fnLookupAnswerSpec : ChangeSpec := { name := "fnLookupAnswer", vars := ["loop.example/obliviousqueries/impl.reserved"], fn := fun _ => fun
  | [d, g1] => { results := [.lit (.bool true)], args := [d], vars := [g1] }
  | _ => none }
def fnLookupAnswerRow : OpenClaim := { program := "ytgapjgmkkmdadaadoor", sum := "072832229635c4301466578086b22012c17b579ceccc5e51ba3c739cd6e11372", func := "loop.example/obliviousqueries/laws.FnLookupAnswer", spec := "fnLookupAnswer", named := ["loop.example/obliviousqueries/impl.reserved"], apart := false, laid := [("loop.example/obliviousqueries/impl.reserved", laid_loop_example_obliviousqueries_impl_reserved)] }
def FnLookupAnswerSaid : Prop := fnLookupAnswerRow.holds Tryd.pinned (OpenSpec.ofChange fnLookupAnswerSpec)

/-- ITS FALSE NEIGHBOUR: 'it returns false'. Refute it at one input. -/
def fnLookupAnswerWrong : ChangeSpec := { name := "fnLookupAnswer", vars := ["loop.example/obliviousqueries/impl.reserved"], fn := fun _ => fun
  | [d, g1] => { results := [.lit (.bool false)], args := [d], vars := [g1] }
  | _ => none }
def FnLookupAnswerWrongFalsely : Prop := fnLookupAnswerRow.holds Tryd.pinned (OpenSpec.ofChange fnLookupAnswerWrong)

/-- 'laws.FnLookupSets': WHATEVER THE INPUT: true; the input reads as it did. -/
def fnLookupSetsSpec : ChangeSpec := { name := "fnLookupSets", vars := ["loop.example/obliviousqueries/impl.reserved"], fn := fun _ => fun
  | [d, g1] => { results := [.lit (.bool true)], args := [d], vars := [g1] }
  | _ => none }
def fnLookupSetsRow : OpenClaim := { program := "ytgapjgmkkmdadaadoor", sum := "072832229635c4301466578086b22012c17b579ceccc5e51ba3c739cd6e11372", func := "loop.example/obliviousqueries/laws.FnLookupSets", spec := "fnLookupSets", named := ["loop.example/obliviousqueries/impl.reserved"], apart := false, laid := [("loop.example/obliviousqueries/impl.reserved", laid_loop_example_obliviousqueries_impl_reserved)] }
def FnLookupSetsSaid : Prop := fnLookupSetsRow.holds Tryd.pinned (OpenSpec.ofChange fnLookupSetsSpec)

/-- ITS FALSE NEIGHBOUR: 'it returns false'. Refute it at one input. -/
def fnLookupSetsWrong : ChangeSpec := { name := "fnLookupSets", vars := ["loop.example/obliviousqueries/impl.reserved"], fn := fun _ => fun
  | [d, g1] => { results := [.lit (.bool false)], args := [d], vars := [g1] }
  | _ => none }
def FnLookupSetsWrongFalsely : Prop := fnLookupSetsRow.holds Tryd.pinned (OpenSpec.ofChange fnLookupSetsWrong)

/-- 'laws.FnLookupBack': WHATEVER THE INPUT: true; the input reads as it did. -/
def fnLookupBackSpec : ChangeSpec := { name := "fnLookupBack", vars := ["loop.example/obliviousqueries/impl.reserved"], fn := fun _ => fun
  | [d, g1] => { results := [.lit (.bool true)], args := [d], vars := [g1] }
  | _ => none }
def fnLookupBackRow : OpenClaim := { program := "ytgapjgmkkmdadaadoor", sum := "072832229635c4301466578086b22012c17b579ceccc5e51ba3c739cd6e11372", func := "loop.example/obliviousqueries/laws.FnLookupBack", spec := "fnLookupBack", named := ["loop.example/obliviousqueries/impl.reserved"], apart := false, laid := [("loop.example/obliviousqueries/impl.reserved", laid_loop_example_obliviousqueries_impl_reserved)] }
def FnLookupBackSaid : Prop := fnLookupBackRow.holds Tryd.pinned (OpenSpec.ofChange fnLookupBackSpec)

/-- ITS FALSE NEIGHBOUR: 'it returns false'. Refute it at one input. -/
def fnLookupBackWrong : ChangeSpec := { name := "fnLookupBack", vars := ["loop.example/obliviousqueries/impl.reserved"], fn := fun _ => fun
  | [d, g1] => { results := [.lit (.bool false)], args := [d], vars := [g1] }
  | _ => none }
def FnLookupBackWrongFalsely : Prop := fnLookupBackRow.holds Tryd.pinned (OpenSpec.ofChange fnLookupBackWrong)

/- THE SECOND FORM. 'bulk': how many values and letters a reading holds, each counted each time it is reached (what is shared counts as often as it is met; a slice's spare places count too). A statement '..UptoSaid' is the law's where the arguments, and the package variables that the reading takes, are together of bulk at most 1048576: NARROWER than '..Said'. Prove '..Said' where nothing that the law and all that it calls make is longer than what came in: it says more and counts as full. Else prove '..UptoSaid'. A law counts once. -/
mutual
def uptoBulk {H : Type} : DataW H → Nat
  | .lit (.string bytes) => bytes.length + 1
  | .lit _ => 1
  | .nil => 1
  | .ptr d => uptoBulk d + 1
  | .slice elems spare => uptoBulkAll elems + uptoBulkAll spare + 1
  | .agg parts => uptoBulkAll parts + 1
  | .iface _ d => uptoBulk d + 1
  | .map entries => uptoBulkEntries entries + 1
  | .held _ => 1
def uptoBulkAll {H : Type} : List (DataW H) → Nat
  | [] => 0
  | d :: r => uptoBulk d + uptoBulkAll r
def uptoBulkEntries {H : Type} : List (Lit × DataW H) → Nat
  | [] => 0
  | x :: r => uptoBulkEntry x + uptoBulkEntries r
def uptoBulkEntry {H : Type} : Lit × DataW H → Nat
  | (.string bytes, d) => bytes.length + uptoBulk d + 1
  | (_, d) => uptoBulk d + 1
 end
def uptoSmall : (H : Type) → List (DataW H) → Bool := fun _ ds => decide (uptoBulkAll ds ≤ 1048576)
def OpenSpec.upto (s : _root_.Go.ChangeSpec) : _root_.Go.OpenSpec := { _root_.Go.OpenSpec.ofChange s with cond := some uptoSmall }

/-- 'laws.FnSwitchCount', WHERE WHAT IT READS IS OF BULK AT MOST 1048576: true; the input reads as it did. -/
def fnSwitchCountUptoRow : OpenClaim := { program := "ytgapjgmkkmdadaadoor", sum := "072832229635c4301466578086b22012c17b579ceccc5e51ba3c739cd6e11372", func := "loop.example/obliviousqueries/laws.FnSwitchCount", spec := "fnSwitchCount", recurses := true, named := ["loop.example/obliviousqueries/impl.reserved"], apart := false, laid := [("loop.example/obliviousqueries/impl.reserved", laid_loop_example_obliviousqueries_impl_reserved)], narrowed := true }
def FnSwitchCountUptoSaid : Prop := fnSwitchCountUptoRow.holds Tryd.pinned (OpenSpec.upto fnSwitchCountSpec)

/-- 'laws.FnLookupValue', WHERE WHAT IT READS IS OF BULK AT MOST 1048576: true; the input reads as it did. -/
def fnLookupValueUptoRow : OpenClaim := { program := "ytgapjgmkkmdadaadoor", sum := "072832229635c4301466578086b22012c17b579ceccc5e51ba3c739cd6e11372", func := "loop.example/obliviousqueries/laws.FnLookupValue", spec := "fnLookupValue", named := ["loop.example/obliviousqueries/impl.reserved"], apart := false, laid := [("loop.example/obliviousqueries/impl.reserved", laid_loop_example_obliviousqueries_impl_reserved)], narrowed := true }
def FnLookupValueUptoSaid : Prop := fnLookupValueUptoRow.holds Tryd.pinned (OpenSpec.upto fnLookupValueSpec)

/-- 'laws.FnPermValid', WHERE WHAT IT READS IS OF BULK AT MOST 1048576: true; the input reads as it did. -/
def fnPermValidUptoRow : OpenClaim := { program := "ytgapjgmkkmdadaadoor", sum := "072832229635c4301466578086b22012c17b579ceccc5e51ba3c739cd6e11372", func := "loop.example/obliviousqueries/laws.FnPermValid", spec := "fnPermValid", recurses := true, named := ["loop.example/obliviousqueries/impl.reserved"], apart := false, laid := [("loop.example/obliviousqueries/impl.reserved", laid_loop_example_obliviousqueries_impl_reserved)], narrowed := true }
def FnPermValidUptoSaid : Prop := fnPermValidUptoRow.holds Tryd.pinned (OpenSpec.upto fnPermValidSpec)

/-- 'laws.FnLookupAnswer', WHERE WHAT IT READS IS OF BULK AT MOST 1048576: true; the input reads as it did. -/
def fnLookupAnswerUptoRow : OpenClaim := { program := "ytgapjgmkkmdadaadoor", sum := "072832229635c4301466578086b22012c17b579ceccc5e51ba3c739cd6e11372", func := "loop.example/obliviousqueries/laws.FnLookupAnswer", spec := "fnLookupAnswer", named := ["loop.example/obliviousqueries/impl.reserved"], apart := false, laid := [("loop.example/obliviousqueries/impl.reserved", laid_loop_example_obliviousqueries_impl_reserved)], narrowed := true }
def FnLookupAnswerUptoSaid : Prop := fnLookupAnswerUptoRow.holds Tryd.pinned (OpenSpec.upto fnLookupAnswerSpec)

/-- 'laws.FnLookupSets', WHERE WHAT IT READS IS OF BULK AT MOST 1048576: true; the input reads as it did. -/
def fnLookupSetsUptoRow : OpenClaim := { program := "ytgapjgmkkmdadaadoor", sum := "072832229635c4301466578086b22012c17b579ceccc5e51ba3c739cd6e11372", func := "loop.example/obliviousqueries/laws.FnLookupSets", spec := "fnLookupSets", named := ["loop.example/obliviousqueries/impl.reserved"], apart := false, laid := [("loop.example/obliviousqueries/impl.reserved", laid_loop_example_obliviousqueries_impl_reserved)], narrowed := true }
def FnLookupSetsUptoSaid : Prop := fnLookupSetsUptoRow.holds Tryd.pinned (OpenSpec.upto fnLookupSetsSpec)

/-- 'laws.FnLookupBack', WHERE WHAT IT READS IS OF BULK AT MOST 1048576: true; the input reads as it did. -/
def fnLookupBackUptoRow : OpenClaim := { program := "ytgapjgmkkmdadaadoor", sum := "072832229635c4301466578086b22012c17b579ceccc5e51ba3c739cd6e11372", func := "loop.example/obliviousqueries/laws.FnLookupBack", spec := "fnLookupBack", named := ["loop.example/obliviousqueries/impl.reserved"], apart := false, laid := [("loop.example/obliviousqueries/impl.reserved", laid_loop_example_obliviousqueries_impl_reserved)], narrowed := true }
def FnLookupBackUptoSaid : Prop := fnLookupBackUptoRow.holds Tryd.pinned (OpenSpec.upto fnLookupBackSpec)

end Rows
end Go.Proofs.YtgapjgmkkmdadaaDoor
