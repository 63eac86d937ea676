/-
  No cell of these rows narrows 'for every input' (looked for: loops, veiled, ifaces, maps, wideKeys, modest, calm, conditions, laid).
  DERIVED. THE GIVEN ROWS OF THIS SEAT. 4 by the template 'for every input the law returns true; each argument reads behind the call as it read before'; 0 by the template 'total and deterministic' (their statements: YtmdjkaghjljbfaaTotals.lean).
  GIVEN WITH THE SEED: the statements are not yours to turn. If you find one false, say at which input.
  Laid BY PROGRAM, IN A SANDBOX (cutbox-rows.mjs): the forced cells as the released guide's own fill.sh prints them over the translation 588c48d6937bbd0d… (all of the seat's roots in one cut). By AI agents, Wed Nov 11 2026. No macro, syntax, notation, axiom, sorry.
-/
import Derived.Test.YtmdjkaghjljbfaaChecked
import GoSem.Claim
import GoSem.ClaimJoined
import GoSem.ClaimMapViews
import Derived.JoinedTies
import Derived.KernelRfl
namespace Go.Proofs.Ytmdjkaghjljbfaa
/- THE CELL 'sum', in the pinned program and in every row, IS THE sha256 OF THE DUMP (.gsa) THAT YtmdjkaghjljbfaaProg.lean LOADS. Nothing in Lean hashes anything: it is a label: what it is worth is what the hold of that sum in a sandbox is worth. -/
noncomputable def Try.pinned : Pinned := { name := "ytmdjkaghjljbfaa", sum := "588c48d6937bbd0d202841161bd632eb52b3fe6d1c1f23f2affe604ee2923005", checked := Try.checked }
namespace Rows
def none {H : Type} : Left H := { results := [], args := [] }

/-- 'laws.FnExactStackValid': WHATEVER THE INPUT: true; the input reads as it did. -/
def fnExactStackValidSpec : ChangeSpec := { name := "fnExactStackValid", fn := fun _ => fun
  | [d] => { results := [.lit (.bool true)], args := [d] }
  | _ => none }
def fnExactStackValidRow : OpenClaim := { program := "ytmdjkaghjljbfaa", sum := "588c48d6937bbd0d202841161bd632eb52b3fe6d1c1f23f2affe604ee2923005", func := "loop.example/obliviousqueries/laws.FnExactStackValid", spec := "fnExactStackValid", apart := false }
def FnExactStackValidSaid : Prop := fnExactStackValidRow.holds Try.pinned (OpenSpec.ofChange fnExactStackValidSpec)

/-- ITS FALSE NEIGHBOUR: 'it returns false'. Refute it at one input. -/
def fnExactStackValidWrong : ChangeSpec := { name := "fnExactStackValid", fn := fun _ => fun
  | [d] => { results := [.lit (.bool false)], args := [d] }
  | _ => none }
def FnExactStackValidWrongFalsely : Prop := fnExactStackValidRow.holds Try.pinned (OpenSpec.ofChange fnExactStackValidWrong)

/-- 'laws.FnExactStackRun': WHATEVER THE INPUT: true; the input reads as it did. -/
def fnExactStackRunSpec : ChangeSpec := { name := "fnExactStackRun", fn := fun _ => fun
  | [d] => { results := [.lit (.bool true)], args := [d] }
  | _ => none }
def fnExactStackRunRow : OpenClaim := { program := "ytmdjkaghjljbfaa", sum := "588c48d6937bbd0d202841161bd632eb52b3fe6d1c1f23f2affe604ee2923005", func := "loop.example/obliviousqueries/laws.FnExactStackRun", spec := "fnExactStackRun", apart := false }
def FnExactStackRunSaid : Prop := fnExactStackRunRow.holds Try.pinned (OpenSpec.ofChange fnExactStackRunSpec)

/-- ITS FALSE NEIGHBOUR: 'it returns false'. Refute it at one input. -/
def fnExactStackRunWrong : ChangeSpec := { name := "fnExactStackRun", fn := fun _ => fun
  | [d] => { results := [.lit (.bool false)], args := [d] }
  | _ => none }
def FnExactStackRunWrongFalsely : Prop := fnExactStackRunRow.holds Try.pinned (OpenSpec.ofChange fnExactStackRunWrong)

/-- 'laws.FnExactPushStack': WHATEVER THE INPUT: true; the input reads as it did. -/
def fnExactPushStackSpec : ChangeSpec := { name := "fnExactPushStack", fn := fun _ => fun
  | [d1, d2, d3] => { results := [.lit (.bool true)], args := [d1, d2, d3] }
  | _ => none }
def fnExactPushStackRow : OpenClaim := { program := "ytmdjkaghjljbfaa", sum := "588c48d6937bbd0d202841161bd632eb52b3fe6d1c1f23f2affe604ee2923005", func := "loop.example/obliviousqueries/laws.FnExactPushStack", spec := "fnExactPushStack", apart := false }
def FnExactPushStackSaid : Prop := fnExactPushStackRow.holds Try.pinned (OpenSpec.ofChange fnExactPushStackSpec)

/-- ITS FALSE NEIGHBOUR: 'it returns false'. Refute it at one input. -/
def fnExactPushStackWrong : ChangeSpec := { name := "fnExactPushStack", fn := fun _ => fun
  | [d1, d2, d3] => { results := [.lit (.bool false)], args := [d1, d2, d3] }
  | _ => none }
def FnExactPushStackWrongFalsely : Prop := fnExactPushStackRow.holds Try.pinned (OpenSpec.ofChange fnExactPushStackWrong)

/-- 'laws.FnExactPopStack': WHATEVER THE INPUT: true; the input reads as it did. -/
def fnExactPopStackSpec : ChangeSpec := { name := "fnExactPopStack", fn := fun _ => fun
  | [d1, d2] => { results := [.lit (.bool true)], args := [d1, d2] }
  | _ => none }
def fnExactPopStackRow : OpenClaim := { program := "ytmdjkaghjljbfaa", sum := "588c48d6937bbd0d202841161bd632eb52b3fe6d1c1f23f2affe604ee2923005", func := "loop.example/obliviousqueries/laws.FnExactPopStack", spec := "fnExactPopStack", apart := false }
def FnExactPopStackSaid : Prop := fnExactPopStackRow.holds Try.pinned (OpenSpec.ofChange fnExactPopStackSpec)

/-- ITS FALSE NEIGHBOUR: 'it returns false'. Refute it at one input. -/
def fnExactPopStackWrong : ChangeSpec := { name := "fnExactPopStack", fn := fun _ => fun
  | [d1, d2] => { results := [.lit (.bool false)], args := [d1, d2] }
  | _ => none }
def FnExactPopStackWrongFalsely : Prop := fnExactPopStackRow.holds Try.pinned (OpenSpec.ofChange fnExactPopStackWrong)

/- THE SECOND FORM. 'bulk': how many values and letters a reading holds, each counted each time it is reached (what is shared counts as often as it is met; a slice's spare places count too). A statement '..UptoSaid' is the law's where the arguments, and the package variables that the reading takes, are together of bulk at most 1048576: NARROWER than '..Said'. Prove '..Said' where nothing that the law and all that it calls make is longer than what came in: it says more and counts as full. Else prove '..UptoSaid'. A law counts once. -/
mutual
def uptoBulk {H : Type} : DataW H → Nat
  | .lit (.string bytes) => bytes.length + 1
  | .lit _ => 1
  | .nil => 1
  | .ptr d => uptoBulk d + 1
  | .slice elems spare => uptoBulkAll elems + uptoBulkAll spare + 1
  | .agg parts => uptoBulkAll parts + 1
  | .iface _ d => uptoBulk d + 1
  | .map entries => uptoBulkEntries entries + 1
  | .held _ => 1
def uptoBulkAll {H : Type} : List (DataW H) → Nat
  | [] => 0
  | d :: r => uptoBulk d + uptoBulkAll r
def uptoBulkEntries {H : Type} : List (Lit × DataW H) → Nat
  | [] => 0
  | x :: r => uptoBulkEntry x + uptoBulkEntries r
def uptoBulkEntry {H : Type} : Lit × DataW H → Nat
  | (.string bytes, d) => bytes.length + uptoBulk d + 1
  | (_, d) => uptoBulk d + 1
 end
def uptoSmall : (H : Type) → List (DataW H) → Bool := fun _ ds => decide (uptoBulkAll ds ≤ 1048576)
def OpenSpec.upto (s : _root_.Go.ChangeSpec) : _root_.Go.OpenSpec := { _root_.Go.OpenSpec.ofChange s with cond := some uptoSmall }

/-- 'laws.FnExactStackValid', WHERE WHAT IT READS IS OF BULK AT MOST 1048576: true; the input reads as it did. -/
def fnExactStackValidUptoRow : OpenClaim := { program := "ytmdjkaghjljbfaa", sum := "588c48d6937bbd0d202841161bd632eb52b3fe6d1c1f23f2affe604ee2923005", func := "loop.example/obliviousqueries/laws.FnExactStackValid", spec := "fnExactStackValid", apart := false, narrowed := true }
def FnExactStackValidUptoSaid : Prop := fnExactStackValidUptoRow.holds Try.pinned (OpenSpec.upto fnExactStackValidSpec)

/-- 'laws.FnExactStackRun', WHERE WHAT IT READS IS OF BULK AT MOST 1048576: true; the input reads as it did. -/
def fnExactStackRunUptoRow : OpenClaim := { program := "ytmdjkaghjljbfaa", sum := "588c48d6937bbd0d202841161bd632eb52b3fe6d1c1f23f2affe604ee2923005", func := "loop.example/obliviousqueries/laws.FnExactStackRun", spec := "fnExactStackRun", apart := false, narrowed := true }
def FnExactStackRunUptoSaid : Prop := fnExactStackRunUptoRow.holds Try.pinned (OpenSpec.upto fnExactStackRunSpec)

/-- 'laws.FnExactPushStack', WHERE WHAT IT READS IS OF BULK AT MOST 1048576: true; the input reads as it did. -/
def fnExactPushStackUptoRow : OpenClaim := { program := "ytmdjkaghjljbfaa", sum := "588c48d6937bbd0d202841161bd632eb52b3fe6d1c1f23f2affe604ee2923005", func := "loop.example/obliviousqueries/laws.FnExactPushStack", spec := "fnExactPushStack", apart := false, narrowed := true }
def FnExactPushStackUptoSaid : Prop := fnExactPushStackUptoRow.holds Try.pinned (OpenSpec.upto fnExactPushStackSpec)

/-- 'laws.FnExactPopStack', WHERE WHAT IT READS IS OF BULK AT MOST 1048576: true; the input reads as it did. -/
def fnExactPopStackUptoRow : OpenClaim := { program := "ytmdjkaghjljbfaa", sum := "588c48d6937bbd0d202841161bd632eb52b3fe6d1c1f23f2affe604ee2923005", func := "loop.example/obliviousqueries/laws.FnExactPopStack", spec := "fnExactPopStack", apart := false, narrowed := true }
def FnExactPopStackUptoSaid : Prop := fnExactPopStackUptoRow.holds Try.pinned (OpenSpec.upto fnExactPopStackSpec)

end Rows
end Go.Proofs.Ytmdjkaghjljbfaa
