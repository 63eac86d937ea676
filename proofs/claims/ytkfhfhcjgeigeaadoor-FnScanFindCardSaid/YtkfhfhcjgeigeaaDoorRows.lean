/-
  NARROWER THAN 'FOR EVERY INPUT', by the rows' own cells (each row's printed sentence says how): FnScanFind: laid · FnScanRead: laid · FnScanWrite: laid · FnScanBack: laid.
  DERIVED. THE GIVEN ROWS OF THIS SEAT. 4 by the template 'for every input the law returns true; each argument reads behind the call as it read before'; 0 by the template 'total and deterministic' (their statements: YtkfhfhcjgeigeaaDoorTotals.lean).
  GIVEN WITH THE SEED: the statements are not yours to turn. If you find one false, say at which input.
  Laid BY PROGRAM, IN A SANDBOX (cutbox-rows.mjs): the forced cells as the released guide's own fill.sh prints them over the translation a1d91809ba4fa87a… (all of the seat's roots in one cut). By AI agents, Wed Nov 11 2026. No macro, syntax, notation, axiom, sorry.
-/
import Derived.Test.YtkfhfhcjgeigeaaDoorChecked
import GoSem.Claim
import GoSem.ClaimJoined
import GoSem.ClaimMapViews
import Derived.JoinedTies
import Derived.KernelRfl
namespace Go.Proofs.YtkfhfhcjgeigeaaDoor
/- THE CELL 'sum', in the pinned program and in every row, IS THE sha256 OF THE DUMP (.gsa) THAT YtkfhfhcjgeigeaaDoorProg.lean LOADS. Nothing in Lean hashes anything: it is a label: what it is worth is what the hold of that sum in a sandbox is worth. -/
noncomputable def Tryd.pinned : Pinned := { name := "ytkfhfhcjgeigeaadoor", sum := "a1d91809ba4fa87a64fee508c4ee205027d11d70c0843cfc1f16010c37900ce4", checked := Tryd.checked }
namespace Rows
def none {H : Type} : Left H := { results := [], args := [] }

/- WHAT THE LISTED PACKAGE-LEVEL VARIABLES READ AS WHEN THE CALL BEGINS. Each datum BY PROGRAM (the guide's laid-datum.mjs) off the statement by which the dump's own 'gosem.cut.vars' lays the variable. In a bare row this is a premise. The card (YtkfhfhcjgeigeaaDoorCards.lean) ties it to the program's text. -/
def laid_loop_example_obliviousqueries_impl_reserved {H : Type} : DataW H := .slice [.lit (.string [115, 101, 108, 101, 99, 116]), .lit (.string [102, 114, 111, 109]), .lit (.string [106, 111, 105, 110]), .lit (.string [111, 110]), .lit (.string [119, 104, 101, 114, 101]), .lit (.string [97, 110, 100]), .lit (.string [111, 114]), .lit (.string [103, 114, 111, 117, 112]), .lit (.string [98, 121]), .lit (.string [115, 117, 109]), .lit (.string [111, 114, 100, 101, 114]), .lit (.string [100, 111, 119, 110]), .lit (.string [108, 105, 109, 105, 116])] []

/-- 'laws.FnScanFind': WHATEVER THE INPUT: true; the input reads as it did. -/
def fnScanFindSpec : ChangeSpec := { name := "fnScanFind", vars := ["loop.example/obliviousqueries/impl.reserved"], fn := fun _ => fun
  | [d, g1] => { results := [.lit (.bool true)], args := [d], vars := [g1] }
  | _ => none }
def fnScanFindRow : OpenClaim := { program := "ytkfhfhcjgeigeaadoor", sum := "a1d91809ba4fa87a64fee508c4ee205027d11d70c0843cfc1f16010c37900ce4", func := "loop.example/obliviousqueries/laws.FnScanFind", spec := "fnScanFind", named := ["loop.example/obliviousqueries/impl.reserved"], apart := false, laid := [("loop.example/obliviousqueries/impl.reserved", laid_loop_example_obliviousqueries_impl_reserved)] }
def FnScanFindSaid : Prop := fnScanFindRow.holds Tryd.pinned (OpenSpec.ofChange fnScanFindSpec)

/-- ITS FALSE NEIGHBOUR: 'it returns false'. Refute it at one input. -/
def fnScanFindWrong : ChangeSpec := { name := "fnScanFind", vars := ["loop.example/obliviousqueries/impl.reserved"], fn := fun _ => fun
  | [d, g1] => { results := [.lit (.bool false)], args := [d], vars := [g1] }
  | _ => none }
def FnScanFindWrongFalsely : Prop := fnScanFindRow.holds Tryd.pinned (OpenSpec.ofChange fnScanFindWrong)

/-- 'laws.FnScanRead': WHATEVER THE INPUT: true; the input reads as it did. -/
def fnScanReadSpec : ChangeSpec := { name := "fnScanRead", vars := ["loop.example/obliviousqueries/impl.reserved"], fn := fun _ => fun
  | [d, g1] => { results := [.lit (.bool true)], args := [d], vars := [g1] }
  | _ => none }
def fnScanReadRow : OpenClaim := { program := "ytkfhfhcjgeigeaadoor", sum := "a1d91809ba4fa87a64fee508c4ee205027d11d70c0843cfc1f16010c37900ce4", func := "loop.example/obliviousqueries/laws.FnScanRead", spec := "fnScanRead", named := ["loop.example/obliviousqueries/impl.reserved"], apart := false, laid := [("loop.example/obliviousqueries/impl.reserved", laid_loop_example_obliviousqueries_impl_reserved)] }
def FnScanReadSaid : Prop := fnScanReadRow.holds Tryd.pinned (OpenSpec.ofChange fnScanReadSpec)

/-- ITS FALSE NEIGHBOUR: 'it returns false'. Refute it at one input. -/
def fnScanReadWrong : ChangeSpec := { name := "fnScanRead", vars := ["loop.example/obliviousqueries/impl.reserved"], fn := fun _ => fun
  | [d, g1] => { results := [.lit (.bool false)], args := [d], vars := [g1] }
  | _ => none }
def FnScanReadWrongFalsely : Prop := fnScanReadRow.holds Tryd.pinned (OpenSpec.ofChange fnScanReadWrong)

/-- 'laws.FnScanWrite': WHATEVER THE INPUT: true; the input reads as it did. -/
def fnScanWriteSpec : ChangeSpec := { name := "fnScanWrite", vars := ["loop.example/obliviousqueries/impl.reserved"], fn := fun _ => fun
  | [d, g1] => { results := [.lit (.bool true)], args := [d], vars := [g1] }
  | _ => none }
def fnScanWriteRow : OpenClaim := { program := "ytkfhfhcjgeigeaadoor", sum := "a1d91809ba4fa87a64fee508c4ee205027d11d70c0843cfc1f16010c37900ce4", func := "loop.example/obliviousqueries/laws.FnScanWrite", spec := "fnScanWrite", named := ["loop.example/obliviousqueries/impl.reserved"], apart := false, laid := [("loop.example/obliviousqueries/impl.reserved", laid_loop_example_obliviousqueries_impl_reserved)] }
def FnScanWriteSaid : Prop := fnScanWriteRow.holds Tryd.pinned (OpenSpec.ofChange fnScanWriteSpec)

/-- ITS FALSE NEIGHBOUR: 'it returns false'. Refute it at one input. -/
def fnScanWriteWrong : ChangeSpec := { name := "fnScanWrite", vars := ["loop.example/obliviousqueries/impl.reserved"], fn := fun _ => fun
  | [d, g1] => { results := [.lit (.bool false)], args := [d], vars := [g1] }
  | _ => none }
def FnScanWriteWrongFalsely : Prop := fnScanWriteRow.holds Tryd.pinned (OpenSpec.ofChange fnScanWriteWrong)

/-- 'laws.FnScanBack': WHATEVER THE INPUT: true; the input reads as it did. -/
def fnScanBackSpec : ChangeSpec := { name := "fnScanBack", vars := ["loop.example/obliviousqueries/impl.reserved"], fn := fun _ => fun
  | [d, g1] => { results := [.lit (.bool true)], args := [d], vars := [g1] }
  | _ => none }
def fnScanBackRow : OpenClaim := { program := "ytkfhfhcjgeigeaadoor", sum := "a1d91809ba4fa87a64fee508c4ee205027d11d70c0843cfc1f16010c37900ce4", func := "loop.example/obliviousqueries/laws.FnScanBack", spec := "fnScanBack", named := ["loop.example/obliviousqueries/impl.reserved"], apart := false, laid := [("loop.example/obliviousqueries/impl.reserved", laid_loop_example_obliviousqueries_impl_reserved)] }
def FnScanBackSaid : Prop := fnScanBackRow.holds Tryd.pinned (OpenSpec.ofChange fnScanBackSpec)

/-- ITS FALSE NEIGHBOUR: 'it returns false'. Refute it at one input. -/
def fnScanBackWrong : ChangeSpec := { name := "fnScanBack", vars := ["loop.example/obliviousqueries/impl.reserved"], fn := fun _ => fun
  | [d, g1] => { results := [.lit (.bool false)], args := [d], vars := [g1] }
  | _ => none }
def FnScanBackWrongFalsely : Prop := fnScanBackRow.holds Tryd.pinned (OpenSpec.ofChange fnScanBackWrong)

/- THE SECOND FORM. 'bulk': how many values and letters a reading holds, each counted each time it is reached (what is shared counts as often as it is met; a slice's spare places count too). A statement '..UptoSaid' is the law's where the arguments, and the package variables that the reading takes, are together of bulk at most 1048576: NARROWER than '..Said'. Prove '..Said' where nothing that the law and all that it calls make is longer than what came in: it says more and counts as full. Else prove '..UptoSaid'. A law counts once. -/
mutual
def uptoBulk {H : Type} : DataW H → Nat
  | .lit (.string bytes) => bytes.length + 1
  | .lit _ => 1
  | .nil => 1
  | .ptr d => uptoBulk d + 1
  | .slice elems spare => uptoBulkAll elems + uptoBulkAll spare + 1
  | .agg parts => uptoBulkAll parts + 1
  | .iface _ d => uptoBulk d + 1
  | .map entries => uptoBulkEntries entries + 1
  | .held _ => 1
def uptoBulkAll {H : Type} : List (DataW H) → Nat
  | [] => 0
  | d :: r => uptoBulk d + uptoBulkAll r
def uptoBulkEntries {H : Type} : List (Lit × DataW H) → Nat
  | [] => 0
  | x :: r => uptoBulkEntry x + uptoBulkEntries r
def uptoBulkEntry {H : Type} : Lit × DataW H → Nat
  | (.string bytes, d) => bytes.length + uptoBulk d + 1
  | (_, d) => uptoBulk d + 1
 end
def uptoSmall : (H : Type) → List (DataW H) → Bool := fun _ ds => decide (uptoBulkAll ds ≤ 1048576)
def OpenSpec.upto (s : _root_.Go.ChangeSpec) : _root_.Go.OpenSpec := { _root_.Go.OpenSpec.ofChange s with cond := some uptoSmall }

/-- 'laws.FnScanFind', WHERE WHAT IT READS IS OF BULK AT MOST 1048576: true; the input reads as it did. -/
def fnScanFindUptoRow : OpenClaim := { program := "ytkfhfhcjgeigeaadoor", sum := "a1d91809ba4fa87a64fee508c4ee205027d11d70c0843cfc1f16010c37900ce4", func := "loop.example/obliviousqueries/laws.FnScanFind", spec := "fnScanFind", named := ["loop.example/obliviousqueries/impl.reserved"], apart := false, laid := [("loop.example/obliviousqueries/impl.reserved", laid_loop_example_obliviousqueries_impl_reserved)], narrowed := true }
def FnScanFindUptoSaid : Prop := fnScanFindUptoRow.holds Tryd.pinned (OpenSpec.upto fnScanFindSpec)

/-- 'laws.FnScanRead', WHERE WHAT IT READS IS OF BULK AT MOST 1048576: true; the input reads as it did. -/
def fnScanReadUptoRow : OpenClaim := { program := "ytkfhfhcjgeigeaadoor", sum := "a1d91809ba4fa87a64fee508c4ee205027d11d70c0843cfc1f16010c37900ce4", func := "loop.example/obliviousqueries/laws.FnScanRead", spec := "fnScanRead", named := ["loop.example/obliviousqueries/impl.reserved"], apart := false, laid := [("loop.example/obliviousqueries/impl.reserved", laid_loop_example_obliviousqueries_impl_reserved)], narrowed := true }
def FnScanReadUptoSaid : Prop := fnScanReadUptoRow.holds Tryd.pinned (OpenSpec.upto fnScanReadSpec)

/-- 'laws.FnScanWrite', WHERE WHAT IT READS IS OF BULK AT MOST 1048576: true; the input reads as it did. -/
def fnScanWriteUptoRow : OpenClaim := { program := "ytkfhfhcjgeigeaadoor", sum := "a1d91809ba4fa87a64fee508c4ee205027d11d70c0843cfc1f16010c37900ce4", func := "loop.example/obliviousqueries/laws.FnScanWrite", spec := "fnScanWrite", named := ["loop.example/obliviousqueries/impl.reserved"], apart := false, laid := [("loop.example/obliviousqueries/impl.reserved", laid_loop_example_obliviousqueries_impl_reserved)], narrowed := true }
def FnScanWriteUptoSaid : Prop := fnScanWriteUptoRow.holds Tryd.pinned (OpenSpec.upto fnScanWriteSpec)

/-- 'laws.FnScanBack', WHERE WHAT IT READS IS OF BULK AT MOST 1048576: true; the input reads as it did. -/
def fnScanBackUptoRow : OpenClaim := { program := "ytkfhfhcjgeigeaadoor", sum := "a1d91809ba4fa87a64fee508c4ee205027d11d70c0843cfc1f16010c37900ce4", func := "loop.example/obliviousqueries/laws.FnScanBack", spec := "fnScanBack", named := ["loop.example/obliviousqueries/impl.reserved"], apart := false, laid := [("loop.example/obliviousqueries/impl.reserved", laid_loop_example_obliviousqueries_impl_reserved)], narrowed := true }
def FnScanBackUptoSaid : Prop := fnScanBackUptoRow.holds Tryd.pinned (OpenSpec.upto fnScanBackSpec)

end Rows
end Go.Proofs.YtkfhfhcjgeigeaaDoor
