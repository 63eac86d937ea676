/-
  NARROWER THAN 'FOR EVERY INPUT', by the rows' own cells (each row's printed sentence says how): FnShuffleOrder: laid · FnShuffleEqual: laid · FnShuffleRows: laid · FnUnshuffleRows: laid.
  DERIVED. THE GIVEN ROWS OF THIS SEAT. 4 by the template 'for every input the law returns true; each argument reads behind the call as it read before'; 0 by the template 'total and deterministic' (their statements: YtficoknejnilmaaDoorTotals.lean).
  GIVEN WITH THE SEED: the statements are not yours to turn. If you find one false, say at which input.
  Laid BY PROGRAM, IN A SANDBOX (cutbox-rows.mjs): the forced cells as the released guide's own fill.sh prints them over the translation 2e004ee874ef88ed… (all of the seat's roots in one cut). By AI agents, Wed Nov 11 2026. No macro, syntax, notation, axiom, sorry.
-/
import Derived.Test.YtficoknejnilmaaDoorChecked
import GoSem.Claim
import GoSem.ClaimJoined
import GoSem.ClaimMapViews
import Derived.JoinedTies
import Derived.KernelRfl
namespace Go.Proofs.YtficoknejnilmaaDoor
/- THE CELL 'sum', in the pinned program and in every row, IS THE sha256 OF THE DUMP (.gsa) THAT YtficoknejnilmaaDoorProg.lean LOADS. Nothing in Lean hashes anything: it is a label: what it is worth is what the hold of that sum in a sandbox is worth. -/
noncomputable def Tryd.pinned : Pinned := { name := "ytficoknejnilmaadoor", sum := "2e004ee874ef88eda0411999522a536fd04aa27c1124e90500d26e0fc7cadb01", checked := Tryd.checked }
namespace Rows
def none {H : Type} : Left H := { results := [], args := [] }

/- WHAT THE LISTED PACKAGE-LEVEL VARIABLES READ AS WHEN THE CALL BEGINS. Each datum BY PROGRAM (the guide's laid-datum.mjs) off the statement by which the dump's own 'gosem.cut.vars' lays the variable. In a bare row this is a premise. The card (YtficoknejnilmaaDoorCards.lean) ties it to the program's text. -/
def laid_loop_example_obliviousqueries_impl_reserved {H : Type} : DataW H := .slice [.lit (.string [115, 101, 108, 101, 99, 116]), .lit (.string [102, 114, 111, 109]), .lit (.string [106, 111, 105, 110]), .lit (.string [111, 110]), .lit (.string [119, 104, 101, 114, 101]), .lit (.string [97, 110, 100]), .lit (.string [111, 114]), .lit (.string [103, 114, 111, 117, 112]), .lit (.string [98, 121]), .lit (.string [115, 117, 109]), .lit (.string [111, 114, 100, 101, 114]), .lit (.string [100, 111, 119, 110]), .lit (.string [108, 105, 109, 105, 116])] []

/-- 'laws.FnShuffleOrder': WHATEVER THE INPUT: true; the input reads as it did. -/
def fnShuffleOrderSpec : ChangeSpec := { name := "fnShuffleOrder", vars := ["loop.example/obliviousqueries/impl.reserved"], fn := fun _ => fun
  | [d, g1] => { results := [.lit (.bool true)], args := [d], vars := [g1] }
  | _ => none }
def fnShuffleOrderRow : OpenClaim := { program := "ytficoknejnilmaadoor", sum := "2e004ee874ef88eda0411999522a536fd04aa27c1124e90500d26e0fc7cadb01", func := "loop.example/obliviousqueries/laws.FnShuffleOrder", spec := "fnShuffleOrder", unfollowed := true, recurses := true, named := ["loop.example/obliviousqueries/impl.reserved"], apart := false, laid := [("loop.example/obliviousqueries/impl.reserved", laid_loop_example_obliviousqueries_impl_reserved)] }
def FnShuffleOrderSaid : Prop := fnShuffleOrderRow.holds Tryd.pinned (OpenSpec.ofChange fnShuffleOrderSpec)

/-- ITS FALSE NEIGHBOUR: 'it returns false'. Refute it at one input. -/
def fnShuffleOrderWrong : ChangeSpec := { name := "fnShuffleOrder", vars := ["loop.example/obliviousqueries/impl.reserved"], fn := fun _ => fun
  | [d, g1] => { results := [.lit (.bool false)], args := [d], vars := [g1] }
  | _ => none }
def FnShuffleOrderWrongFalsely : Prop := fnShuffleOrderRow.holds Tryd.pinned (OpenSpec.ofChange fnShuffleOrderWrong)

/-- 'laws.FnShuffleEqual': WHATEVER THE INPUT: true; the input reads as it did. -/
def fnShuffleEqualSpec : ChangeSpec := { name := "fnShuffleEqual", vars := ["loop.example/obliviousqueries/impl.reserved"], fn := fun _ => fun
  | [d, g1] => { results := [.lit (.bool true)], args := [d], vars := [g1] }
  | _ => none }
def fnShuffleEqualRow : OpenClaim := { program := "ytficoknejnilmaadoor", sum := "2e004ee874ef88eda0411999522a536fd04aa27c1124e90500d26e0fc7cadb01", func := "loop.example/obliviousqueries/laws.FnShuffleEqual", spec := "fnShuffleEqual", unfollowed := true, recurses := true, named := ["loop.example/obliviousqueries/impl.reserved"], apart := false, laid := [("loop.example/obliviousqueries/impl.reserved", laid_loop_example_obliviousqueries_impl_reserved)] }
def FnShuffleEqualSaid : Prop := fnShuffleEqualRow.holds Tryd.pinned (OpenSpec.ofChange fnShuffleEqualSpec)

/-- ITS FALSE NEIGHBOUR: 'it returns false'. Refute it at one input. -/
def fnShuffleEqualWrong : ChangeSpec := { name := "fnShuffleEqual", vars := ["loop.example/obliviousqueries/impl.reserved"], fn := fun _ => fun
  | [d, g1] => { results := [.lit (.bool false)], args := [d], vars := [g1] }
  | _ => none }
def FnShuffleEqualWrongFalsely : Prop := fnShuffleEqualRow.holds Tryd.pinned (OpenSpec.ofChange fnShuffleEqualWrong)

/-- 'laws.FnShuffleRows': WHATEVER THE INPUT: true; the input reads as it did. -/
def fnShuffleRowsSpec : ChangeSpec := { name := "fnShuffleRows", vars := ["loop.example/obliviousqueries/impl.reserved"], fn := fun _ => fun
  | [d, g1] => { results := [.lit (.bool true)], args := [d], vars := [g1] }
  | _ => none }
def fnShuffleRowsRow : OpenClaim := { program := "ytficoknejnilmaadoor", sum := "2e004ee874ef88eda0411999522a536fd04aa27c1124e90500d26e0fc7cadb01", func := "loop.example/obliviousqueries/laws.FnShuffleRows", spec := "fnShuffleRows", unfollowed := true, recurses := true, named := ["loop.example/obliviousqueries/impl.reserved"], apart := false, laid := [("loop.example/obliviousqueries/impl.reserved", laid_loop_example_obliviousqueries_impl_reserved)] }
def FnShuffleRowsSaid : Prop := fnShuffleRowsRow.holds Tryd.pinned (OpenSpec.ofChange fnShuffleRowsSpec)

/-- ITS FALSE NEIGHBOUR: 'it returns false'. Refute it at one input. -/
def fnShuffleRowsWrong : ChangeSpec := { name := "fnShuffleRows", vars := ["loop.example/obliviousqueries/impl.reserved"], fn := fun _ => fun
  | [d, g1] => { results := [.lit (.bool false)], args := [d], vars := [g1] }
  | _ => none }
def FnShuffleRowsWrongFalsely : Prop := fnShuffleRowsRow.holds Tryd.pinned (OpenSpec.ofChange fnShuffleRowsWrong)

/-- 'laws.FnUnshuffleRows': WHATEVER THE INPUT: true; the input reads as it did. -/
def fnUnshuffleRowsSpec : ChangeSpec := { name := "fnUnshuffleRows", vars := ["loop.example/obliviousqueries/impl.reserved"], fn := fun _ => fun
  | [d, g1] => { results := [.lit (.bool true)], args := [d], vars := [g1] }
  | _ => none }
def fnUnshuffleRowsRow : OpenClaim := { program := "ytficoknejnilmaadoor", sum := "2e004ee874ef88eda0411999522a536fd04aa27c1124e90500d26e0fc7cadb01", func := "loop.example/obliviousqueries/laws.FnUnshuffleRows", spec := "fnUnshuffleRows", unfollowed := true, recurses := true, named := ["loop.example/obliviousqueries/impl.reserved"], apart := false, laid := [("loop.example/obliviousqueries/impl.reserved", laid_loop_example_obliviousqueries_impl_reserved)] }
def FnUnshuffleRowsSaid : Prop := fnUnshuffleRowsRow.holds Tryd.pinned (OpenSpec.ofChange fnUnshuffleRowsSpec)

/-- ITS FALSE NEIGHBOUR: 'it returns false'. Refute it at one input. -/
def fnUnshuffleRowsWrong : ChangeSpec := { name := "fnUnshuffleRows", vars := ["loop.example/obliviousqueries/impl.reserved"], fn := fun _ => fun
  | [d, g1] => { results := [.lit (.bool false)], args := [d], vars := [g1] }
  | _ => none }
def FnUnshuffleRowsWrongFalsely : Prop := fnUnshuffleRowsRow.holds Tryd.pinned (OpenSpec.ofChange fnUnshuffleRowsWrong)

/- THE SECOND FORM. 'bulk': how many values and letters a reading holds, each counted each time it is reached (what is shared counts as often as it is met; a slice's spare places count too). A statement '..UptoSaid' is the law's where the arguments, and the package variables that the reading takes, are together of bulk at most 1048576: NARROWER than '..Said'. Prove '..Said' where nothing that the law and all that it calls make is longer than what came in: it says more and counts as full. Else prove '..UptoSaid'. A law counts once. -/
mutual
def uptoBulk {H : Type} : DataW H → Nat
  | .lit (.string bytes) => bytes.length + 1
  | .lit _ => 1
  | .nil => 1
  | .ptr d => uptoBulk d + 1
  | .slice elems spare => uptoBulkAll elems + uptoBulkAll spare + 1
  | .agg parts => uptoBulkAll parts + 1
  | .iface _ d => uptoBulk d + 1
  | .map entries => uptoBulkEntries entries + 1
  | .held _ => 1
def uptoBulkAll {H : Type} : List (DataW H) → Nat
  | [] => 0
  | d :: r => uptoBulk d + uptoBulkAll r
def uptoBulkEntries {H : Type} : List (Lit × DataW H) → Nat
  | [] => 0
  | x :: r => uptoBulkEntry x + uptoBulkEntries r
def uptoBulkEntry {H : Type} : Lit × DataW H → Nat
  | (.string bytes, d) => bytes.length + uptoBulk d + 1
  | (_, d) => uptoBulk d + 1
 end
def uptoSmall : (H : Type) → List (DataW H) → Bool := fun _ ds => decide (uptoBulkAll ds ≤ 1048576)
def OpenSpec.upto (s : _root_.Go.ChangeSpec) : _root_.Go.OpenSpec := { _root_.Go.OpenSpec.ofChange s with cond := some uptoSmall }

/-- 'laws.FnShuffleOrder', WHERE WHAT IT READS IS OF BULK AT MOST 1048576: true; the input reads as it did. -/
def fnShuffleOrderUptoRow : OpenClaim := { program := "ytficoknejnilmaadoor", sum := "2e004ee874ef88eda0411999522a536fd04aa27c1124e90500d26e0fc7cadb01", func := "loop.example/obliviousqueries/laws.FnShuffleOrder", spec := "fnShuffleOrder", unfollowed := true, recurses := true, named := ["loop.example/obliviousqueries/impl.reserved"], apart := false, laid := [("loop.example/obliviousqueries/impl.reserved", laid_loop_example_obliviousqueries_impl_reserved)], narrowed := true }
def FnShuffleOrderUptoSaid : Prop := fnShuffleOrderUptoRow.holds Tryd.pinned (OpenSpec.upto fnShuffleOrderSpec)

/-- 'laws.FnShuffleEqual', WHERE WHAT IT READS IS OF BULK AT MOST 1048576: true; the input reads as it did. -/
def fnShuffleEqualUptoRow : OpenClaim := { program := "ytficoknejnilmaadoor", sum := "2e004ee874ef88eda0411999522a536fd04aa27c1124e90500d26e0fc7cadb01", func := "loop.example/obliviousqueries/laws.FnShuffleEqual", spec := "fnShuffleEqual", unfollowed := true, recurses := true, named := ["loop.example/obliviousqueries/impl.reserved"], apart := false, laid := [("loop.example/obliviousqueries/impl.reserved", laid_loop_example_obliviousqueries_impl_reserved)], narrowed := true }
def FnShuffleEqualUptoSaid : Prop := fnShuffleEqualUptoRow.holds Tryd.pinned (OpenSpec.upto fnShuffleEqualSpec)

/-- 'laws.FnShuffleRows', WHERE WHAT IT READS IS OF BULK AT MOST 1048576: true; the input reads as it did. -/
def fnShuffleRowsUptoRow : OpenClaim := { program := "ytficoknejnilmaadoor", sum := "2e004ee874ef88eda0411999522a536fd04aa27c1124e90500d26e0fc7cadb01", func := "loop.example/obliviousqueries/laws.FnShuffleRows", spec := "fnShuffleRows", unfollowed := true, recurses := true, named := ["loop.example/obliviousqueries/impl.reserved"], apart := false, laid := [("loop.example/obliviousqueries/impl.reserved", laid_loop_example_obliviousqueries_impl_reserved)], narrowed := true }
def FnShuffleRowsUptoSaid : Prop := fnShuffleRowsUptoRow.holds Tryd.pinned (OpenSpec.upto fnShuffleRowsSpec)

/-- 'laws.FnUnshuffleRows', WHERE WHAT IT READS IS OF BULK AT MOST 1048576: true; the input reads as it did. -/
def fnUnshuffleRowsUptoRow : OpenClaim := { program := "ytficoknejnilmaadoor", sum := "2e004ee874ef88eda0411999522a536fd04aa27c1124e90500d26e0fc7cadb01", func := "loop.example/obliviousqueries/laws.FnUnshuffleRows", spec := "fnUnshuffleRows", unfollowed := true, recurses := true, named := ["loop.example/obliviousqueries/impl.reserved"], apart := false, laid := [("loop.example/obliviousqueries/impl.reserved", laid_loop_example_obliviousqueries_impl_reserved)], narrowed := true }
def FnUnshuffleRowsUptoSaid : Prop := fnUnshuffleRowsUptoRow.holds Tryd.pinned (OpenSpec.upto fnUnshuffleRowsSpec)

end Rows
end Go.Proofs.YtficoknejnilmaaDoor
