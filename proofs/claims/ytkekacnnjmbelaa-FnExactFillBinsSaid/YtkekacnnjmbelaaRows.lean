/-
  No cell of these rows narrows 'for every input' (looked for: loops, veiled, ifaces, maps, wideKeys, modest, calm, conditions, laid).
  DERIVED. THE GIVEN ROWS OF THIS SEAT. 5 by the template 'for every input the law returns true; each argument reads behind the call as it read before'; 0 by the template 'total and deterministic' (their statements: YtkekacnnjmbelaaTotals.lean).
  GIVEN WITH THE SEED: the statements are not yours to turn. If you find one false, say at which input.
  Laid BY PROGRAM, IN A SANDBOX (cutbox-rows.mjs): the forced cells as the released guide's own fill.sh prints them over the translation 2e7ead00f96931e3… (all of the seat's roots in one cut). By AI agents, Wed Nov 11 2026. No macro, syntax, notation, axiom, sorry.
-/
import Derived.Test.YtkekacnnjmbelaaChecked
import GoSem.Claim
import GoSem.ClaimJoined
import GoSem.ClaimMapViews
import Derived.JoinedTies
import Derived.KernelRfl
namespace Go.Proofs.Ytkekacnnjmbelaa
/- THE CELL 'sum', in the pinned program and in every row, IS THE sha256 OF THE DUMP (.gsa) THAT YtkekacnnjmbelaaProg.lean LOADS. Nothing in Lean hashes anything: it is a label: what it is worth is what the hold of that sum in a sandbox is worth. -/
noncomputable def Try.pinned : Pinned := { name := "ytkekacnnjmbelaa", sum := "2e7ead00f96931e330fd8f27fc106bcb8e0986f8f58f4861474eaaa81da44c59", checked := Try.checked }
namespace Rows
def none {H : Type} : Left H := { results := [], args := [] }

/-- 'laws.FnExactBinLoads': WHATEVER THE INPUT: true; the input reads as it did. -/
def fnExactBinLoadsSpec : ChangeSpec := { name := "fnExactBinLoads", fn := fun _ => fun
  | [d1, d2] => { results := [.lit (.bool true)], args := [d1, d2] }
  | _ => none }
def fnExactBinLoadsRow : OpenClaim := { program := "ytkekacnnjmbelaa", sum := "2e7ead00f96931e330fd8f27fc106bcb8e0986f8f58f4861474eaaa81da44c59", func := "loop.example/obliviousqueries/laws.FnExactBinLoads", spec := "fnExactBinLoads", apart := false }
def FnExactBinLoadsSaid : Prop := fnExactBinLoadsRow.holds Try.pinned (OpenSpec.ofChange fnExactBinLoadsSpec)

/-- ITS FALSE NEIGHBOUR: 'it returns false'. Refute it at one input. -/
def fnExactBinLoadsWrong : ChangeSpec := { name := "fnExactBinLoads", fn := fun _ => fun
  | [d1, d2] => { results := [.lit (.bool false)], args := [d1, d2] }
  | _ => none }
def FnExactBinLoadsWrongFalsely : Prop := fnExactBinLoadsRow.holds Try.pinned (OpenSpec.ofChange fnExactBinLoadsWrong)

/-- 'laws.FnExactCompactWays': WHATEVER THE INPUT: true; the input reads as it did. -/
def fnExactCompactWaysSpec : ChangeSpec := { name := "fnExactCompactWays", fn := fun _ => fun
  | [d] => { results := [.lit (.bool true)], args := [d] }
  | _ => none }
def fnExactCompactWaysRow : OpenClaim := { program := "ytkekacnnjmbelaa", sum := "2e7ead00f96931e330fd8f27fc106bcb8e0986f8f58f4861474eaaa81da44c59", func := "loop.example/obliviousqueries/laws.FnExactCompactWays", spec := "fnExactCompactWays", apart := false }
def FnExactCompactWaysSaid : Prop := fnExactCompactWaysRow.holds Try.pinned (OpenSpec.ofChange fnExactCompactWaysSpec)

/-- ITS FALSE NEIGHBOUR: 'it returns false'. Refute it at one input. -/
def fnExactCompactWaysWrong : ChangeSpec := { name := "fnExactCompactWays", fn := fun _ => fun
  | [d] => { results := [.lit (.bool false)], args := [d] }
  | _ => none }
def FnExactCompactWaysWrongFalsely : Prop := fnExactCompactWaysRow.holds Try.pinned (OpenSpec.ofChange fnExactCompactWaysWrong)

/-- 'laws.FnExactCompactTrace': WHATEVER THE INPUT: true; the input reads as it did. -/
def fnExactCompactTraceSpec : ChangeSpec := { name := "fnExactCompactTrace", fn := fun _ => fun
  | [d] => { results := [.lit (.bool true)], args := [d] }
  | _ => none }
def fnExactCompactTraceRow : OpenClaim := { program := "ytkekacnnjmbelaa", sum := "2e7ead00f96931e330fd8f27fc106bcb8e0986f8f58f4861474eaaa81da44c59", func := "loop.example/obliviousqueries/laws.FnExactCompactTrace", spec := "fnExactCompactTrace", apart := false }
def FnExactCompactTraceSaid : Prop := fnExactCompactTraceRow.holds Try.pinned (OpenSpec.ofChange fnExactCompactTraceSpec)

/-- ITS FALSE NEIGHBOUR: 'it returns false'. Refute it at one input. -/
def fnExactCompactTraceWrong : ChangeSpec := { name := "fnExactCompactTrace", fn := fun _ => fun
  | [d] => { results := [.lit (.bool false)], args := [d] }
  | _ => none }
def FnExactCompactTraceWrongFalsely : Prop := fnExactCompactTraceRow.holds Try.pinned (OpenSpec.ofChange fnExactCompactTraceWrong)

/-- 'laws.FnExactCompactRows': WHATEVER THE INPUT: true; the input reads as it did. -/
def fnExactCompactRowsSpec : ChangeSpec := { name := "fnExactCompactRows", fn := fun _ => fun
  | [d1, d2] => { results := [.lit (.bool true)], args := [d1, d2] }
  | _ => none }
def fnExactCompactRowsRow : OpenClaim := { program := "ytkekacnnjmbelaa", sum := "2e7ead00f96931e330fd8f27fc106bcb8e0986f8f58f4861474eaaa81da44c59", func := "loop.example/obliviousqueries/laws.FnExactCompactRows", spec := "fnExactCompactRows", apart := false }
def FnExactCompactRowsSaid : Prop := fnExactCompactRowsRow.holds Try.pinned (OpenSpec.ofChange fnExactCompactRowsSpec)

/-- ITS FALSE NEIGHBOUR: 'it returns false'. Refute it at one input. -/
def fnExactCompactRowsWrong : ChangeSpec := { name := "fnExactCompactRows", fn := fun _ => fun
  | [d1, d2] => { results := [.lit (.bool false)], args := [d1, d2] }
  | _ => none }
def FnExactCompactRowsWrongFalsely : Prop := fnExactCompactRowsRow.holds Try.pinned (OpenSpec.ofChange fnExactCompactRowsWrong)

/-- 'laws.FnExactFillBins': WHATEVER THE INPUT: true; the input reads as it did. -/
def fnExactFillBinsSpec : ChangeSpec := { name := "fnExactFillBins", fn := fun _ => fun
  | [d1, d2, d3, d4] => { results := [.lit (.bool true)], args := [d1, d2, d3, d4] }
  | _ => none }
def fnExactFillBinsRow : OpenClaim := { program := "ytkekacnnjmbelaa", sum := "2e7ead00f96931e330fd8f27fc106bcb8e0986f8f58f4861474eaaa81da44c59", func := "loop.example/obliviousqueries/laws.FnExactFillBins", spec := "fnExactFillBins", apart := false }
def FnExactFillBinsSaid : Prop := fnExactFillBinsRow.holds Try.pinned (OpenSpec.ofChange fnExactFillBinsSpec)

/-- ITS FALSE NEIGHBOUR: 'it returns false'. Refute it at one input. -/
def fnExactFillBinsWrong : ChangeSpec := { name := "fnExactFillBins", fn := fun _ => fun
  | [d1, d2, d3, d4] => { results := [.lit (.bool false)], args := [d1, d2, d3, d4] }
  | _ => none }
def FnExactFillBinsWrongFalsely : Prop := fnExactFillBinsRow.holds Try.pinned (OpenSpec.ofChange fnExactFillBinsWrong)

/- THE SECOND FORM. 'bulk': how many values and letters a reading holds, each counted each time it is reached (what is shared counts as often as it is met; a slice's spare places count too). A statement '..UptoSaid' is the law's where the arguments, and the package variables that the reading takes, are together of bulk at most 1048576: NARROWER than '..Said'. Prove '..Said' where nothing that the law and all that it calls make is longer than what came in: it says more and counts as full. Else prove '..UptoSaid'. A law counts once. -/
mutual
def uptoBulk {H : Type} : DataW H → Nat
  | .lit (.string bytes) => bytes.length + 1
  | .lit _ => 1
  | .nil => 1
  | .ptr d => uptoBulk d + 1
  | .slice elems spare => uptoBulkAll elems + uptoBulkAll spare + 1
  | .agg parts => uptoBulkAll parts + 1
  | .iface _ d => uptoBulk d + 1
  | .map entries => uptoBulkEntries entries + 1
  | .held _ => 1
def uptoBulkAll {H : Type} : List (DataW H) → Nat
  | [] => 0
  | d :: r => uptoBulk d + uptoBulkAll r
def uptoBulkEntries {H : Type} : List (Lit × DataW H) → Nat
  | [] => 0
  | x :: r => uptoBulkEntry x + uptoBulkEntries r
def uptoBulkEntry {H : Type} : Lit × DataW H → Nat
  | (.string bytes, d) => bytes.length + uptoBulk d + 1
  | (_, d) => uptoBulk d + 1
 end
def uptoSmall : (H : Type) → List (DataW H) → Bool := fun _ ds => decide (uptoBulkAll ds ≤ 1048576)
def OpenSpec.upto (s : _root_.Go.ChangeSpec) : _root_.Go.OpenSpec := { _root_.Go.OpenSpec.ofChange s with cond := some uptoSmall }

/-- 'laws.FnExactBinLoads', WHERE WHAT IT READS IS OF BULK AT MOST 1048576: true; the input reads as it did. -/
def fnExactBinLoadsUptoRow : OpenClaim := { program := "ytkekacnnjmbelaa", sum := "2e7ead00f96931e330fd8f27fc106bcb8e0986f8f58f4861474eaaa81da44c59", func := "loop.example/obliviousqueries/laws.FnExactBinLoads", spec := "fnExactBinLoads", apart := false, narrowed := true }
def FnExactBinLoadsUptoSaid : Prop := fnExactBinLoadsUptoRow.holds Try.pinned (OpenSpec.upto fnExactBinLoadsSpec)

/-- 'laws.FnExactCompactWays', WHERE WHAT IT READS IS OF BULK AT MOST 1048576: true; the input reads as it did. -/
def fnExactCompactWaysUptoRow : OpenClaim := { program := "ytkekacnnjmbelaa", sum := "2e7ead00f96931e330fd8f27fc106bcb8e0986f8f58f4861474eaaa81da44c59", func := "loop.example/obliviousqueries/laws.FnExactCompactWays", spec := "fnExactCompactWays", apart := false, narrowed := true }
def FnExactCompactWaysUptoSaid : Prop := fnExactCompactWaysUptoRow.holds Try.pinned (OpenSpec.upto fnExactCompactWaysSpec)

/-- 'laws.FnExactCompactTrace', WHERE WHAT IT READS IS OF BULK AT MOST 1048576: true; the input reads as it did. -/
def fnExactCompactTraceUptoRow : OpenClaim := { program := "ytkekacnnjmbelaa", sum := "2e7ead00f96931e330fd8f27fc106bcb8e0986f8f58f4861474eaaa81da44c59", func := "loop.example/obliviousqueries/laws.FnExactCompactTrace", spec := "fnExactCompactTrace", apart := false, narrowed := true }
def FnExactCompactTraceUptoSaid : Prop := fnExactCompactTraceUptoRow.holds Try.pinned (OpenSpec.upto fnExactCompactTraceSpec)

/-- 'laws.FnExactCompactRows', WHERE WHAT IT READS IS OF BULK AT MOST 1048576: true; the input reads as it did. -/
def fnExactCompactRowsUptoRow : OpenClaim := { program := "ytkekacnnjmbelaa", sum := "2e7ead00f96931e330fd8f27fc106bcb8e0986f8f58f4861474eaaa81da44c59", func := "loop.example/obliviousqueries/laws.FnExactCompactRows", spec := "fnExactCompactRows", apart := false, narrowed := true }
def FnExactCompactRowsUptoSaid : Prop := fnExactCompactRowsUptoRow.holds Try.pinned (OpenSpec.upto fnExactCompactRowsSpec)

/-- 'laws.FnExactFillBins', WHERE WHAT IT READS IS OF BULK AT MOST 1048576: true; the input reads as it did. -/
def fnExactFillBinsUptoRow : OpenClaim := { program := "ytkekacnnjmbelaa", sum := "2e7ead00f96931e330fd8f27fc106bcb8e0986f8f58f4861474eaaa81da44c59", func := "loop.example/obliviousqueries/laws.FnExactFillBins", spec := "fnExactFillBins", apart := false, narrowed := true }
def FnExactFillBinsUptoSaid : Prop := fnExactFillBinsUptoRow.holds Try.pinned (OpenSpec.upto fnExactFillBinsSpec)

end Rows
end Go.Proofs.Ytkekacnnjmbelaa
