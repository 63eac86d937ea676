/-
  No cell of these rows narrows 'for every input' (looked for: loops, veiled, ifaces, maps, wideKeys, modest, calm, conditions, laid).
  DERIVED. THE GIVEN ROWS OF THIS SEAT. 3 by the template 'for every input the law returns true; each argument reads behind the call as it read before'; 0 by the template 'total and deterministic' (their statements: YtkfhfhcjgeigeaaTotals.lean).
  GIVEN WITH THE SEED: the statements are not yours to turn. If you find one false, say at which input.
  Laid BY PROGRAM, IN A SANDBOX (cutbox-rows.mjs): the forced cells as the released guide's own fill.sh prints them over the translation b603638439d6208f… (all of the seat's roots in one cut). By AI agents, Wed Nov 11 2026. No macro, syntax, notation, axiom, sorry.
-/
import Derived.Test.YtkfhfhcjgeigeaaChecked
import GoSem.Claim
import GoSem.ClaimJoined
import GoSem.ClaimMapViews
import Derived.JoinedTies
import Derived.KernelRfl
namespace Go.Proofs.Ytkfhfhcjgeigeaa
/- THE CELL 'sum', in the pinned program and in every row, IS THE sha256 OF THE DUMP (.gsa) THAT YtkfhfhcjgeigeaaProg.lean LOADS. Nothing in Lean hashes anything: it is a label: what it is worth is what the hold of that sum in a sandbox is worth. -/
noncomputable def Try.pinned : Pinned := { name := "ytkfhfhcjgeigeaa", sum := "b603638439d6208fcabc21c096fdf8be7f2021942e9f24e8cf3fcd02e294669b", checked := Try.checked }
namespace Rows
def none {H : Type} : Left H := { results := [], args := [] }

/-- 'laws.FnExactScanRead': WHATEVER THE INPUT: true; the input reads as it did. -/
def fnExactScanReadSpec : ChangeSpec := { name := "fnExactScanRead", fn := fun _ => fun
  | [d1, d2] => { results := [.lit (.bool true)], args := [d1, d2] }
  | _ => none }
def fnExactScanReadRow : OpenClaim := { program := "ytkfhfhcjgeigeaa", sum := "b603638439d6208fcabc21c096fdf8be7f2021942e9f24e8cf3fcd02e294669b", func := "loop.example/obliviousqueries/laws.FnExactScanRead", spec := "fnExactScanRead", apart := false }
def FnExactScanReadSaid : Prop := fnExactScanReadRow.holds Try.pinned (OpenSpec.ofChange fnExactScanReadSpec)

/-- ITS FALSE NEIGHBOUR: 'it returns false'. Refute it at one input. -/
def fnExactScanReadWrong : ChangeSpec := { name := "fnExactScanRead", fn := fun _ => fun
  | [d1, d2] => { results := [.lit (.bool false)], args := [d1, d2] }
  | _ => none }
def FnExactScanReadWrongFalsely : Prop := fnExactScanReadRow.holds Try.pinned (OpenSpec.ofChange fnExactScanReadWrong)

/-- 'laws.FnExactScanFind': WHATEVER THE INPUT: true; the input reads as it did. -/
def fnExactScanFindSpec : ChangeSpec := { name := "fnExactScanFind", fn := fun _ => fun
  | [d1, d2] => { results := [.lit (.bool true)], args := [d1, d2] }
  | _ => none }
def fnExactScanFindRow : OpenClaim := { program := "ytkfhfhcjgeigeaa", sum := "b603638439d6208fcabc21c096fdf8be7f2021942e9f24e8cf3fcd02e294669b", func := "loop.example/obliviousqueries/laws.FnExactScanFind", spec := "fnExactScanFind", apart := false }
def FnExactScanFindSaid : Prop := fnExactScanFindRow.holds Try.pinned (OpenSpec.ofChange fnExactScanFindSpec)

/-- ITS FALSE NEIGHBOUR: 'it returns false'. Refute it at one input. -/
def fnExactScanFindWrong : ChangeSpec := { name := "fnExactScanFind", fn := fun _ => fun
  | [d1, d2] => { results := [.lit (.bool false)], args := [d1, d2] }
  | _ => none }
def FnExactScanFindWrongFalsely : Prop := fnExactScanFindRow.holds Try.pinned (OpenSpec.ofChange fnExactScanFindWrong)

/-- 'laws.FnExactScanWrite': WHATEVER THE INPUT: true; the input reads as it did. -/
def fnExactScanWriteSpec : ChangeSpec := { name := "fnExactScanWrite", fn := fun _ => fun
  | [d1, d2, d3] => { results := [.lit (.bool true)], args := [d1, d2, d3] }
  | _ => none }
def fnExactScanWriteRow : OpenClaim := { program := "ytkfhfhcjgeigeaa", sum := "b603638439d6208fcabc21c096fdf8be7f2021942e9f24e8cf3fcd02e294669b", func := "loop.example/obliviousqueries/laws.FnExactScanWrite", spec := "fnExactScanWrite", apart := false }
def FnExactScanWriteSaid : Prop := fnExactScanWriteRow.holds Try.pinned (OpenSpec.ofChange fnExactScanWriteSpec)

/-- ITS FALSE NEIGHBOUR: 'it returns false'. Refute it at one input. -/
def fnExactScanWriteWrong : ChangeSpec := { name := "fnExactScanWrite", fn := fun _ => fun
  | [d1, d2, d3] => { results := [.lit (.bool false)], args := [d1, d2, d3] }
  | _ => none }
def FnExactScanWriteWrongFalsely : Prop := fnExactScanWriteRow.holds Try.pinned (OpenSpec.ofChange fnExactScanWriteWrong)

/- THE SECOND FORM. 'bulk': how many values and letters a reading holds, each counted each time it is reached (what is shared counts as often as it is met; a slice's spare places count too). A statement '..UptoSaid' is the law's where the arguments, and the package variables that the reading takes, are together of bulk at most 1048576: NARROWER than '..Said'. Prove '..Said' where nothing that the law and all that it calls make is longer than what came in: it says more and counts as full. Else prove '..UptoSaid'. A law counts once. -/
mutual
def uptoBulk {H : Type} : DataW H → Nat
  | .lit (.string bytes) => bytes.length + 1
  | .lit _ => 1
  | .nil => 1
  | .ptr d => uptoBulk d + 1
  | .slice elems spare => uptoBulkAll elems + uptoBulkAll spare + 1
  | .agg parts => uptoBulkAll parts + 1
  | .iface _ d => uptoBulk d + 1
  | .map entries => uptoBulkEntries entries + 1
  | .held _ => 1
def uptoBulkAll {H : Type} : List (DataW H) → Nat
  | [] => 0
  | d :: r => uptoBulk d + uptoBulkAll r
def uptoBulkEntries {H : Type} : List (Lit × DataW H) → Nat
  | [] => 0
  | x :: r => uptoBulkEntry x + uptoBulkEntries r
def uptoBulkEntry {H : Type} : Lit × DataW H → Nat
  | (.string bytes, d) => bytes.length + uptoBulk d + 1
  | (_, d) => uptoBulk d + 1
 end
def uptoSmall : (H : Type) → List (DataW H) → Bool := fun _ ds => decide (uptoBulkAll ds ≤ 1048576)
def OpenSpec.upto (s : _root_.Go.ChangeSpec) : _root_.Go.OpenSpec := { _root_.Go.OpenSpec.ofChange s with cond := some uptoSmall }

/-- 'laws.FnExactScanRead', WHERE WHAT IT READS IS OF BULK AT MOST 1048576: true; the input reads as it did. -/
def fnExactScanReadUptoRow : OpenClaim := { program := "ytkfhfhcjgeigeaa", sum := "b603638439d6208fcabc21c096fdf8be7f2021942e9f24e8cf3fcd02e294669b", func := "loop.example/obliviousqueries/laws.FnExactScanRead", spec := "fnExactScanRead", apart := false, narrowed := true }
def FnExactScanReadUptoSaid : Prop := fnExactScanReadUptoRow.holds Try.pinned (OpenSpec.upto fnExactScanReadSpec)

/-- 'laws.FnExactScanFind', WHERE WHAT IT READS IS OF BULK AT MOST 1048576: true; the input reads as it did. -/
def fnExactScanFindUptoRow : OpenClaim := { program := "ytkfhfhcjgeigeaa", sum := "b603638439d6208fcabc21c096fdf8be7f2021942e9f24e8cf3fcd02e294669b", func := "loop.example/obliviousqueries/laws.FnExactScanFind", spec := "fnExactScanFind", apart := false, narrowed := true }
def FnExactScanFindUptoSaid : Prop := fnExactScanFindUptoRow.holds Try.pinned (OpenSpec.upto fnExactScanFindSpec)

/-- 'laws.FnExactScanWrite', WHERE WHAT IT READS IS OF BULK AT MOST 1048576: true; the input reads as it did. -/
def fnExactScanWriteUptoRow : OpenClaim := { program := "ytkfhfhcjgeigeaa", sum := "b603638439d6208fcabc21c096fdf8be7f2021942e9f24e8cf3fcd02e294669b", func := "loop.example/obliviousqueries/laws.FnExactScanWrite", spec := "fnExactScanWrite", apart := false, narrowed := true }
def FnExactScanWriteUptoSaid : Prop := fnExactScanWriteUptoRow.holds Try.pinned (OpenSpec.upto fnExactScanWriteSpec)

end Rows
end Go.Proofs.Ytkfhfhcjgeigeaa
