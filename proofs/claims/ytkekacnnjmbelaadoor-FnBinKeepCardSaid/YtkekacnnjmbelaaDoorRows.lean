/-
  NARROWER THAN 'FOR EVERY INPUT', by the rows' own cells (each row's printed sentence says how): FnCompactTrace: laid · FnCompactWays: laid · FnBinLoads: laid · FnCompactRows: laid · FnCompactTwice: laid · FnBinKeep: laid · FnFillBins: laid.
  DERIVED. THE GIVEN ROWS OF THIS SEAT. 7 by the template 'for every input the law returns true; each argument reads behind the call as it read before'; 0 by the template 'total and deterministic' (their statements: YtkekacnnjmbelaaDoorTotals.lean).
  GIVEN WITH THE SEED: the statements are not yours to turn. If you find one false, say at which input.
  Laid BY PROGRAM, IN A SANDBOX (cutbox-rows.mjs): the forced cells as the released guide's own fill.sh prints them over the translation 1c5a7fbbda8170d9… (all of the seat's roots in one cut). By AI agents, Wed Nov 11 2026. No macro, syntax, notation, axiom, sorry.
-/
import Derived.Test.YtkekacnnjmbelaaDoorChecked
import GoSem.Claim
import GoSem.ClaimJoined
import GoSem.ClaimMapViews
import Derived.JoinedTies
import Derived.KernelRfl
namespace Go.Proofs.YtkekacnnjmbelaaDoor
/- THE CELL 'sum', in the pinned program and in every row, IS THE sha256 OF THE DUMP (.gsa) THAT YtkekacnnjmbelaaDoorProg.lean LOADS. Nothing in Lean hashes anything: it is a label: what it is worth is what the hold of that sum in a sandbox is worth. -/
noncomputable def Tryd.pinned : Pinned := { name := "ytkekacnnjmbelaadoor", sum := "1c5a7fbbda8170d904f6b17faee6dc2a80a83f04f21548cb0176f82b44b28b4a", checked := Tryd.checked }
namespace Rows
def none {H : Type} : Left H := { results := [], args := [] }

/- WHAT THE LISTED PACKAGE-LEVEL VARIABLES READ AS WHEN THE CALL BEGINS. Each datum BY PROGRAM (the guide's laid-datum.mjs) off the statement by which the dump's own 'gosem.cut.vars' lays the variable. In a bare row this is a premise. The card (YtkekacnnjmbelaaDoorCards.lean) ties it to the program's text. -/
def laid_loop_example_obliviousqueries_impl_reserved {H : Type} : DataW H := .slice [.lit (.string [115, 101, 108, 101, 99, 116]), .lit (.string [102, 114, 111, 109]), .lit (.string [106, 111, 105, 110]), .lit (.string [111, 110]), .lit (.string [119, 104, 101, 114, 101]), .lit (.string [97, 110, 100]), .lit (.string [111, 114]), .lit (.string [103, 114, 111, 117, 112]), .lit (.string [98, 121]), .lit (.string [115, 117, 109]), .lit (.string [111, 114, 100, 101, 114]), .lit (.string [100, 111, 119, 110]), .lit (.string [108, 105, 109, 105, 116])] []

/-- 'laws.FnCompactTrace': WHATEVER THE INPUT: true; the input reads as it did. -/
def fnCompactTraceSpec : ChangeSpec := { name := "fnCompactTrace", vars := ["loop.example/obliviousqueries/impl.reserved"], fn := fun _ => fun
  | [d, g1] => { results := [.lit (.bool true)], args := [d], vars := [g1] }
  | _ => none }
def fnCompactTraceRow : OpenClaim := { program := "ytkekacnnjmbelaadoor", sum := "1c5a7fbbda8170d904f6b17faee6dc2a80a83f04f21548cb0176f82b44b28b4a", func := "loop.example/obliviousqueries/laws.FnCompactTrace", spec := "fnCompactTrace", named := ["loop.example/obliviousqueries/impl.reserved"], apart := false, laid := [("loop.example/obliviousqueries/impl.reserved", laid_loop_example_obliviousqueries_impl_reserved)] }
def FnCompactTraceSaid : Prop := fnCompactTraceRow.holds Tryd.pinned (OpenSpec.ofChange fnCompactTraceSpec)

/-- ITS FALSE NEIGHBOUR: 'it returns false'. Refute it at one input. -/
def fnCompactTraceWrong : ChangeSpec := { name := "fnCompactTrace", vars := ["loop.example/obliviousqueries/impl.reserved"], fn := fun _ => fun
  | [d, g1] => { results := [.lit (.bool false)], args := [d], vars := [g1] }
  | _ => none }
def FnCompactTraceWrongFalsely : Prop := fnCompactTraceRow.holds Tryd.pinned (OpenSpec.ofChange fnCompactTraceWrong)

/-- 'laws.FnCompactWays': WHATEVER THE INPUT: true; the input reads as it did. -/
def fnCompactWaysSpec : ChangeSpec := { name := "fnCompactWays", vars := ["loop.example/obliviousqueries/impl.reserved"], fn := fun _ => fun
  | [d, g1] => { results := [.lit (.bool true)], args := [d], vars := [g1] }
  | _ => none }
def fnCompactWaysRow : OpenClaim := { program := "ytkekacnnjmbelaadoor", sum := "1c5a7fbbda8170d904f6b17faee6dc2a80a83f04f21548cb0176f82b44b28b4a", func := "loop.example/obliviousqueries/laws.FnCompactWays", spec := "fnCompactWays", named := ["loop.example/obliviousqueries/impl.reserved"], apart := false, laid := [("loop.example/obliviousqueries/impl.reserved", laid_loop_example_obliviousqueries_impl_reserved)] }
def FnCompactWaysSaid : Prop := fnCompactWaysRow.holds Tryd.pinned (OpenSpec.ofChange fnCompactWaysSpec)

/-- ITS FALSE NEIGHBOUR: 'it returns false'. Refute it at one input. -/
def fnCompactWaysWrong : ChangeSpec := { name := "fnCompactWays", vars := ["loop.example/obliviousqueries/impl.reserved"], fn := fun _ => fun
  | [d, g1] => { results := [.lit (.bool false)], args := [d], vars := [g1] }
  | _ => none }
def FnCompactWaysWrongFalsely : Prop := fnCompactWaysRow.holds Tryd.pinned (OpenSpec.ofChange fnCompactWaysWrong)

/-- 'laws.FnBinLoads': WHATEVER THE INPUT: true; the input reads as it did. -/
def fnBinLoadsSpec : ChangeSpec := { name := "fnBinLoads", vars := ["loop.example/obliviousqueries/impl.reserved"], fn := fun _ => fun
  | [d, g1] => { results := [.lit (.bool true)], args := [d], vars := [g1] }
  | _ => none }
def fnBinLoadsRow : OpenClaim := { program := "ytkekacnnjmbelaadoor", sum := "1c5a7fbbda8170d904f6b17faee6dc2a80a83f04f21548cb0176f82b44b28b4a", func := "loop.example/obliviousqueries/laws.FnBinLoads", spec := "fnBinLoads", named := ["loop.example/obliviousqueries/impl.reserved"], apart := false, laid := [("loop.example/obliviousqueries/impl.reserved", laid_loop_example_obliviousqueries_impl_reserved)] }
def FnBinLoadsSaid : Prop := fnBinLoadsRow.holds Tryd.pinned (OpenSpec.ofChange fnBinLoadsSpec)

/-- ITS FALSE NEIGHBOUR: 'it returns false'. Refute it at one input. -/
def fnBinLoadsWrong : ChangeSpec := { name := "fnBinLoads", vars := ["loop.example/obliviousqueries/impl.reserved"], fn := fun _ => fun
  | [d, g1] => { results := [.lit (.bool false)], args := [d], vars := [g1] }
  | _ => none }
def FnBinLoadsWrongFalsely : Prop := fnBinLoadsRow.holds Tryd.pinned (OpenSpec.ofChange fnBinLoadsWrong)

/-- 'laws.FnCompactRows': WHATEVER THE INPUT: true; the input reads as it did. -/
def fnCompactRowsSpec : ChangeSpec := { name := "fnCompactRows", vars := ["loop.example/obliviousqueries/impl.reserved"], fn := fun _ => fun
  | [d, g1] => { results := [.lit (.bool true)], args := [d], vars := [g1] }
  | _ => none }
def fnCompactRowsRow : OpenClaim := { program := "ytkekacnnjmbelaadoor", sum := "1c5a7fbbda8170d904f6b17faee6dc2a80a83f04f21548cb0176f82b44b28b4a", func := "loop.example/obliviousqueries/laws.FnCompactRows", spec := "fnCompactRows", named := ["loop.example/obliviousqueries/impl.reserved"], apart := false, laid := [("loop.example/obliviousqueries/impl.reserved", laid_loop_example_obliviousqueries_impl_reserved)] }
def FnCompactRowsSaid : Prop := fnCompactRowsRow.holds Tryd.pinned (OpenSpec.ofChange fnCompactRowsSpec)

/-- ITS FALSE NEIGHBOUR: 'it returns false'. Refute it at one input. -/
def fnCompactRowsWrong : ChangeSpec := { name := "fnCompactRows", vars := ["loop.example/obliviousqueries/impl.reserved"], fn := fun _ => fun
  | [d, g1] => { results := [.lit (.bool false)], args := [d], vars := [g1] }
  | _ => none }
def FnCompactRowsWrongFalsely : Prop := fnCompactRowsRow.holds Tryd.pinned (OpenSpec.ofChange fnCompactRowsWrong)

/-- 'laws.FnCompactTwice': WHATEVER THE INPUT: true; the input reads as it did. -/
def fnCompactTwiceSpec : ChangeSpec := { name := "fnCompactTwice", vars := ["loop.example/obliviousqueries/impl.reserved"], fn := fun _ => fun
  | [d, g1] => { results := [.lit (.bool true)], args := [d], vars := [g1] }
  | _ => none }
def fnCompactTwiceRow : OpenClaim := { program := "ytkekacnnjmbelaadoor", sum := "1c5a7fbbda8170d904f6b17faee6dc2a80a83f04f21548cb0176f82b44b28b4a", func := "loop.example/obliviousqueries/laws.FnCompactTwice", spec := "fnCompactTwice", named := ["loop.example/obliviousqueries/impl.reserved"], apart := false, laid := [("loop.example/obliviousqueries/impl.reserved", laid_loop_example_obliviousqueries_impl_reserved)] }
def FnCompactTwiceSaid : Prop := fnCompactTwiceRow.holds Tryd.pinned (OpenSpec.ofChange fnCompactTwiceSpec)

/-- ITS FALSE NEIGHBOUR: 'it returns false'. Refute it at one input. -/
def fnCompactTwiceWrong : ChangeSpec := { name := "fnCompactTwice", vars := ["loop.example/obliviousqueries/impl.reserved"], fn := fun _ => fun
  | [d, g1] => { results := [.lit (.bool false)], args := [d], vars := [g1] }
  | _ => none }
def FnCompactTwiceWrongFalsely : Prop := fnCompactTwiceRow.holds Tryd.pinned (OpenSpec.ofChange fnCompactTwiceWrong)

/-- 'laws.FnBinKeep': WHATEVER THE INPUT: true; the input reads as it did. -/
def fnBinKeepSpec : ChangeSpec := { name := "fnBinKeep", vars := ["loop.example/obliviousqueries/impl.reserved"], fn := fun _ => fun
  | [d, g1] => { results := [.lit (.bool true)], args := [d], vars := [g1] }
  | _ => none }
def fnBinKeepRow : OpenClaim := { program := "ytkekacnnjmbelaadoor", sum := "1c5a7fbbda8170d904f6b17faee6dc2a80a83f04f21548cb0176f82b44b28b4a", func := "loop.example/obliviousqueries/laws.FnBinKeep", spec := "fnBinKeep", named := ["loop.example/obliviousqueries/impl.reserved"], apart := false, laid := [("loop.example/obliviousqueries/impl.reserved", laid_loop_example_obliviousqueries_impl_reserved)] }
def FnBinKeepSaid : Prop := fnBinKeepRow.holds Tryd.pinned (OpenSpec.ofChange fnBinKeepSpec)

/-- ITS FALSE NEIGHBOUR: 'it returns false'. Refute it at one input. -/
def fnBinKeepWrong : ChangeSpec := { name := "fnBinKeep", vars := ["loop.example/obliviousqueries/impl.reserved"], fn := fun _ => fun
  | [d, g1] => { results := [.lit (.bool false)], args := [d], vars := [g1] }
  | _ => none }
def FnBinKeepWrongFalsely : Prop := fnBinKeepRow.holds Tryd.pinned (OpenSpec.ofChange fnBinKeepWrong)

/-- 'laws.FnFillBins': WHATEVER THE INPUT: true; the input reads as it did. -/
def fnFillBinsSpec : ChangeSpec := { name := "fnFillBins", vars := ["loop.example/obliviousqueries/impl.reserved"], fn := fun _ => fun
  | [d, g1] => { results := [.lit (.bool true)], args := [d], vars := [g1] }
  | _ => none }
def fnFillBinsRow : OpenClaim := { program := "ytkekacnnjmbelaadoor", sum := "1c5a7fbbda8170d904f6b17faee6dc2a80a83f04f21548cb0176f82b44b28b4a", func := "loop.example/obliviousqueries/laws.FnFillBins", spec := "fnFillBins", named := ["loop.example/obliviousqueries/impl.reserved"], apart := false, laid := [("loop.example/obliviousqueries/impl.reserved", laid_loop_example_obliviousqueries_impl_reserved)] }
def FnFillBinsSaid : Prop := fnFillBinsRow.holds Tryd.pinned (OpenSpec.ofChange fnFillBinsSpec)

/-- ITS FALSE NEIGHBOUR: 'it returns false'. Refute it at one input. -/
def fnFillBinsWrong : ChangeSpec := { name := "fnFillBins", vars := ["loop.example/obliviousqueries/impl.reserved"], fn := fun _ => fun
  | [d, g1] => { results := [.lit (.bool false)], args := [d], vars := [g1] }
  | _ => none }
def FnFillBinsWrongFalsely : Prop := fnFillBinsRow.holds Tryd.pinned (OpenSpec.ofChange fnFillBinsWrong)

/- THE SECOND FORM. 'bulk': how many values and letters a reading holds, each counted each time it is reached (what is shared counts as often as it is met; a slice's spare places count too). A statement '..UptoSaid' is the law's where the arguments, and the package variables that the reading takes, are together of bulk at most 1048576: NARROWER than '..Said'. Prove '..Said' where nothing that the law and all that it calls make is longer than what came in: it says more and counts as full. Else prove '..UptoSaid'. A law counts once. -/
mutual
def uptoBulk {H : Type} : DataW H → Nat
  | .lit (.string bytes) => bytes.length + 1
  | .lit _ => 1
  | .nil => 1
  | .ptr d => uptoBulk d + 1
  | .slice elems spare => uptoBulkAll elems + uptoBulkAll spare + 1
  | .agg parts => uptoBulkAll parts + 1
  | .iface _ d => uptoBulk d + 1
  | .map entries => uptoBulkEntries entries + 1
  | .held _ => 1
def uptoBulkAll {H : Type} : List (DataW H) → Nat
  | [] => 0
  | d :: r => uptoBulk d + uptoBulkAll r
def uptoBulkEntries {H : Type} : List (Lit × DataW H) → Nat
  | [] => 0
  | x :: r => uptoBulkEntry x + uptoBulkEntries r
def uptoBulkEntry {H : Type} : Lit × DataW H → Nat
  | (.string bytes, d) => bytes.length + uptoBulk d + 1
  | (_, d) => uptoBulk d + 1
 end
def uptoSmall : (H : Type) → List (DataW H) → Bool := fun _ ds => decide (uptoBulkAll ds ≤ 1048576)
def OpenSpec.upto (s : _root_.Go.ChangeSpec) : _root_.Go.OpenSpec := { _root_.Go.OpenSpec.ofChange s with cond := some uptoSmall }

/-- 'laws.FnCompactTrace', WHERE WHAT IT READS IS OF BULK AT MOST 1048576: true; the input reads as it did. -/
def fnCompactTraceUptoRow : OpenClaim := { program := "ytkekacnnjmbelaadoor", sum := "1c5a7fbbda8170d904f6b17faee6dc2a80a83f04f21548cb0176f82b44b28b4a", func := "loop.example/obliviousqueries/laws.FnCompactTrace", spec := "fnCompactTrace", named := ["loop.example/obliviousqueries/impl.reserved"], apart := false, laid := [("loop.example/obliviousqueries/impl.reserved", laid_loop_example_obliviousqueries_impl_reserved)], narrowed := true }
def FnCompactTraceUptoSaid : Prop := fnCompactTraceUptoRow.holds Tryd.pinned (OpenSpec.upto fnCompactTraceSpec)

/-- 'laws.FnCompactWays', WHERE WHAT IT READS IS OF BULK AT MOST 1048576: true; the input reads as it did. -/
def fnCompactWaysUptoRow : OpenClaim := { program := "ytkekacnnjmbelaadoor", sum := "1c5a7fbbda8170d904f6b17faee6dc2a80a83f04f21548cb0176f82b44b28b4a", func := "loop.example/obliviousqueries/laws.FnCompactWays", spec := "fnCompactWays", named := ["loop.example/obliviousqueries/impl.reserved"], apart := false, laid := [("loop.example/obliviousqueries/impl.reserved", laid_loop_example_obliviousqueries_impl_reserved)], narrowed := true }
def FnCompactWaysUptoSaid : Prop := fnCompactWaysUptoRow.holds Tryd.pinned (OpenSpec.upto fnCompactWaysSpec)

/-- 'laws.FnBinLoads', WHERE WHAT IT READS IS OF BULK AT MOST 1048576: true; the input reads as it did. -/
def fnBinLoadsUptoRow : OpenClaim := { program := "ytkekacnnjmbelaadoor", sum := "1c5a7fbbda8170d904f6b17faee6dc2a80a83f04f21548cb0176f82b44b28b4a", func := "loop.example/obliviousqueries/laws.FnBinLoads", spec := "fnBinLoads", named := ["loop.example/obliviousqueries/impl.reserved"], apart := false, laid := [("loop.example/obliviousqueries/impl.reserved", laid_loop_example_obliviousqueries_impl_reserved)], narrowed := true }
def FnBinLoadsUptoSaid : Prop := fnBinLoadsUptoRow.holds Tryd.pinned (OpenSpec.upto fnBinLoadsSpec)

/-- 'laws.FnCompactRows', WHERE WHAT IT READS IS OF BULK AT MOST 1048576: true; the input reads as it did. -/
def fnCompactRowsUptoRow : OpenClaim := { program := "ytkekacnnjmbelaadoor", sum := "1c5a7fbbda8170d904f6b17faee6dc2a80a83f04f21548cb0176f82b44b28b4a", func := "loop.example/obliviousqueries/laws.FnCompactRows", spec := "fnCompactRows", named := ["loop.example/obliviousqueries/impl.reserved"], apart := false, laid := [("loop.example/obliviousqueries/impl.reserved", laid_loop_example_obliviousqueries_impl_reserved)], narrowed := true }
def FnCompactRowsUptoSaid : Prop := fnCompactRowsUptoRow.holds Tryd.pinned (OpenSpec.upto fnCompactRowsSpec)

/-- 'laws.FnCompactTwice', WHERE WHAT IT READS IS OF BULK AT MOST 1048576: true; the input reads as it did. -/
def fnCompactTwiceUptoRow : OpenClaim := { program := "ytkekacnnjmbelaadoor", sum := "1c5a7fbbda8170d904f6b17faee6dc2a80a83f04f21548cb0176f82b44b28b4a", func := "loop.example/obliviousqueries/laws.FnCompactTwice", spec := "fnCompactTwice", named := ["loop.example/obliviousqueries/impl.reserved"], apart := false, laid := [("loop.example/obliviousqueries/impl.reserved", laid_loop_example_obliviousqueries_impl_reserved)], narrowed := true }
def FnCompactTwiceUptoSaid : Prop := fnCompactTwiceUptoRow.holds Tryd.pinned (OpenSpec.upto fnCompactTwiceSpec)

/-- 'laws.FnBinKeep', WHERE WHAT IT READS IS OF BULK AT MOST 1048576: true; the input reads as it did. -/
def fnBinKeepUptoRow : OpenClaim := { program := "ytkekacnnjmbelaadoor", sum := "1c5a7fbbda8170d904f6b17faee6dc2a80a83f04f21548cb0176f82b44b28b4a", func := "loop.example/obliviousqueries/laws.FnBinKeep", spec := "fnBinKeep", named := ["loop.example/obliviousqueries/impl.reserved"], apart := false, laid := [("loop.example/obliviousqueries/impl.reserved", laid_loop_example_obliviousqueries_impl_reserved)], narrowed := true }
def FnBinKeepUptoSaid : Prop := fnBinKeepUptoRow.holds Tryd.pinned (OpenSpec.upto fnBinKeepSpec)

/-- 'laws.FnFillBins', WHERE WHAT IT READS IS OF BULK AT MOST 1048576: true; the input reads as it did. -/
def fnFillBinsUptoRow : OpenClaim := { program := "ytkekacnnjmbelaadoor", sum := "1c5a7fbbda8170d904f6b17faee6dc2a80a83f04f21548cb0176f82b44b28b4a", func := "loop.example/obliviousqueries/laws.FnFillBins", spec := "fnFillBins", named := ["loop.example/obliviousqueries/impl.reserved"], apart := false, laid := [("loop.example/obliviousqueries/impl.reserved", laid_loop_example_obliviousqueries_impl_reserved)], narrowed := true }
def FnFillBinsUptoSaid : Prop := fnFillBinsUptoRow.holds Tryd.pinned (OpenSpec.upto fnFillBinsSpec)

end Rows
end Go.Proofs.YtkekacnnjmbelaaDoor
