/-
  No cell of these rows narrows 'for every input' (looked for: loops, veiled, ifaces, maps, wideKeys, modest, calm, conditions, laid).
  DERIVED. THE GIVEN ROWS OF THIS SEAT. 5 by the template 'for every input the law returns true; each argument reads behind the call as it read before'; 0 by the template 'total and deterministic' (their statements: YtgapjgmkkmdadaaTotals.lean).
  GIVEN WITH THE SEED: the statements are not yours to turn. If you find one false, say at which input.
  Laid BY PROGRAM, IN A SANDBOX (cutbox-rows.mjs): the forced cells as the released guide's own fill.sh prints them over the translation bd4599931fafe27e… (all of the seat's roots in one cut). By AI agents, Wed Nov 11 2026. No macro, syntax, notation, axiom, sorry.
-/
import Derived.Test.YtgapjgmkkmdadaaChecked
import GoSem.Claim
import GoSem.ClaimJoined
import GoSem.ClaimMapViews
import Derived.JoinedTies
import Derived.KernelRfl
namespace Go.Proofs.Ytgapjgmkkmdadaa
/- THE CELL 'sum', in the pinned program and in every row, IS THE sha256 OF THE DUMP (.gsa) THAT YtgapjgmkkmdadaaProg.lean LOADS. Nothing in Lean hashes anything: it is a label: what it is worth is what the hold of that sum in a sandbox is worth. -/
noncomputable def Try.pinned : Pinned := { name := "ytgapjgmkkmdadaa", sum := "bd4599931fafe27e9c152e9e7a7ad10998158a8cc5239cb414ff59abb3c457ac", checked := Try.checked }
namespace Rows
def none {H : Type} : Left H := { results := [], args := [] }

/-- 'laws.FnExactSwitchCount': WHATEVER THE INPUT: true; the input reads as it did. -/
def fnExactSwitchCountSpec : ChangeSpec := { name := "fnExactSwitchCount", fn := fun _ => fun
  | [d] => { results := [.lit (.bool true)], args := [d] }
  | _ => none }
def fnExactSwitchCountRow : OpenClaim := { program := "ytgapjgmkkmdadaa", sum := "bd4599931fafe27e9c152e9e7a7ad10998158a8cc5239cb414ff59abb3c457ac", func := "loop.example/obliviousqueries/laws.FnExactSwitchCount", spec := "fnExactSwitchCount", recurses := true, apart := false }
def FnExactSwitchCountSaid : Prop := fnExactSwitchCountRow.holds Try.pinned (OpenSpec.ofChange fnExactSwitchCountSpec)

/-- ITS FALSE NEIGHBOUR: 'it returns false'. Refute it at one input. -/
def fnExactSwitchCountWrong : ChangeSpec := { name := "fnExactSwitchCount", fn := fun _ => fun
  | [d] => { results := [.lit (.bool false)], args := [d] }
  | _ => none }
def FnExactSwitchCountWrongFalsely : Prop := fnExactSwitchCountRow.holds Try.pinned (OpenSpec.ofChange fnExactSwitchCountWrong)

/-- 'laws.FnExactLookupValue': WHATEVER THE INPUT: true; the input reads as it did. -/
def fnExactLookupValueSpec : ChangeSpec := { name := "fnExactLookupValue", fn := fun _ => fun
  | [d1, d2] => { results := [.lit (.bool true)], args := [d1, d2] }
  | _ => none }
def fnExactLookupValueRow : OpenClaim := { program := "ytgapjgmkkmdadaa", sum := "bd4599931fafe27e9c152e9e7a7ad10998158a8cc5239cb414ff59abb3c457ac", func := "loop.example/obliviousqueries/laws.FnExactLookupValue", spec := "fnExactLookupValue", apart := false }
def FnExactLookupValueSaid : Prop := fnExactLookupValueRow.holds Try.pinned (OpenSpec.ofChange fnExactLookupValueSpec)

/-- ITS FALSE NEIGHBOUR: 'it returns false'. Refute it at one input. -/
def fnExactLookupValueWrong : ChangeSpec := { name := "fnExactLookupValue", fn := fun _ => fun
  | [d1, d2] => { results := [.lit (.bool false)], args := [d1, d2] }
  | _ => none }
def FnExactLookupValueWrongFalsely : Prop := fnExactLookupValueRow.holds Try.pinned (OpenSpec.ofChange fnExactLookupValueWrong)

/-- 'laws.FnExactPermValid': WHATEVER THE INPUT: true; the input reads as it did. -/
def fnExactPermValidSpec : ChangeSpec := { name := "fnExactPermValid", fn := fun _ => fun
  | [d] => { results := [.lit (.bool true)], args := [d] }
  | _ => none }
def fnExactPermValidRow : OpenClaim := { program := "ytgapjgmkkmdadaa", sum := "bd4599931fafe27e9c152e9e7a7ad10998158a8cc5239cb414ff59abb3c457ac", func := "loop.example/obliviousqueries/laws.FnExactPermValid", spec := "fnExactPermValid", recurses := true, apart := false }
def FnExactPermValidSaid : Prop := fnExactPermValidRow.holds Try.pinned (OpenSpec.ofChange fnExactPermValidSpec)

/-- ITS FALSE NEIGHBOUR: 'it returns false'. Refute it at one input. -/
def fnExactPermValidWrong : ChangeSpec := { name := "fnExactPermValid", fn := fun _ => fun
  | [d] => { results := [.lit (.bool false)], args := [d] }
  | _ => none }
def FnExactPermValidWrongFalsely : Prop := fnExactPermValidRow.holds Try.pinned (OpenSpec.ofChange fnExactPermValidWrong)

/-- 'laws.FnExactLookupAnswer': WHATEVER THE INPUT: true; the input reads as it did. -/
def fnExactLookupAnswerSpec : ChangeSpec := { name := "fnExactLookupAnswer", fn := fun _ => fun
  | [d1, d2] => { results := [.lit (.bool true)], args := [d1, d2] }
  | _ => none }
def fnExactLookupAnswerRow : OpenClaim := { program := "ytgapjgmkkmdadaa", sum := "bd4599931fafe27e9c152e9e7a7ad10998158a8cc5239cb414ff59abb3c457ac", func := "loop.example/obliviousqueries/laws.FnExactLookupAnswer", spec := "fnExactLookupAnswer", apart := false }
def FnExactLookupAnswerSaid : Prop := fnExactLookupAnswerRow.holds Try.pinned (OpenSpec.ofChange fnExactLookupAnswerSpec)

/-- ITS FALSE NEIGHBOUR: 'it returns false'. Refute it at one input. -/
def fnExactLookupAnswerWrong : ChangeSpec := { name := "fnExactLookupAnswer", fn := fun _ => fun
  | [d1, d2] => { results := [.lit (.bool false)], args := [d1, d2] }
  | _ => none }
def FnExactLookupAnswerWrongFalsely : Prop := fnExactLookupAnswerRow.holds Try.pinned (OpenSpec.ofChange fnExactLookupAnswerWrong)

/-- 'laws.FnExactLookupSets': WHATEVER THE INPUT: true; the input reads as it did. -/
def fnExactLookupSetsSpec : ChangeSpec := { name := "fnExactLookupSets", fn := fun _ => fun
  | [d1, d2, d3] => { results := [.lit (.bool true)], args := [d1, d2, d3] }
  | _ => none }
def fnExactLookupSetsRow : OpenClaim := { program := "ytgapjgmkkmdadaa", sum := "bd4599931fafe27e9c152e9e7a7ad10998158a8cc5239cb414ff59abb3c457ac", func := "loop.example/obliviousqueries/laws.FnExactLookupSets", spec := "fnExactLookupSets", apart := false }
def FnExactLookupSetsSaid : Prop := fnExactLookupSetsRow.holds Try.pinned (OpenSpec.ofChange fnExactLookupSetsSpec)

/-- ITS FALSE NEIGHBOUR: 'it returns false'. Refute it at one input. -/
def fnExactLookupSetsWrong : ChangeSpec := { name := "fnExactLookupSets", fn := fun _ => fun
  | [d1, d2, d3] => { results := [.lit (.bool false)], args := [d1, d2, d3] }
  | _ => none }
def FnExactLookupSetsWrongFalsely : Prop := fnExactLookupSetsRow.holds Try.pinned (OpenSpec.ofChange fnExactLookupSetsWrong)

/- THE SECOND FORM. 'bulk': how many values and letters a reading holds, each counted each time it is reached (what is shared counts as often as it is met; a slice's spare places count too). A statement '..UptoSaid' is the law's where the arguments, and the package variables that the reading takes, are together of bulk at most 1048576: NARROWER than '..Said'. Prove '..Said' where nothing that the law and all that it calls make is longer than what came in: it says more and counts as full. Else prove '..UptoSaid'. A law counts once. -/
mutual
def uptoBulk {H : Type} : DataW H → Nat
  | .lit (.string bytes) => bytes.length + 1
  | .lit _ => 1
  | .nil => 1
  | .ptr d => uptoBulk d + 1
  | .slice elems spare => uptoBulkAll elems + uptoBulkAll spare + 1
  | .agg parts => uptoBulkAll parts + 1
  | .iface _ d => uptoBulk d + 1
  | .map entries => uptoBulkEntries entries + 1
  | .held _ => 1
def uptoBulkAll {H : Type} : List (DataW H) → Nat
  | [] => 0
  | d :: r => uptoBulk d + uptoBulkAll r
def uptoBulkEntries {H : Type} : List (Lit × DataW H) → Nat
  | [] => 0
  | x :: r => uptoBulkEntry x + uptoBulkEntries r
def uptoBulkEntry {H : Type} : Lit × DataW H → Nat
  | (.string bytes, d) => bytes.length + uptoBulk d + 1
  | (_, d) => uptoBulk d + 1
 end
def uptoSmall : (H : Type) → List (DataW H) → Bool := fun _ ds => decide (uptoBulkAll ds ≤ 1048576)
def OpenSpec.upto (s : _root_.Go.ChangeSpec) : _root_.Go.OpenSpec := { _root_.Go.OpenSpec.ofChange s with cond := some uptoSmall }

/-- 'laws.FnExactSwitchCount', WHERE WHAT IT READS IS OF BULK AT MOST 1048576: true; the input reads as it did. -/
def fnExactSwitchCountUptoRow : OpenClaim := { program := "ytgapjgmkkmdadaa", sum := "bd4599931fafe27e9c152e9e7a7ad10998158a8cc5239cb414ff59abb3c457ac", func := "loop.example/obliviousqueries/laws.FnExactSwitchCount", spec := "fnExactSwitchCount", recurses := true, apart := false, narrowed := true }
def FnExactSwitchCountUptoSaid : Prop := fnExactSwitchCountUptoRow.holds Try.pinned (OpenSpec.upto fnExactSwitchCountSpec)

/-- 'laws.FnExactLookupValue', WHERE WHAT IT READS IS OF BULK AT MOST 1048576: true; the input reads as it did. -/
def fnExactLookupValueUptoRow : OpenClaim := { program := "ytgapjgmkkmdadaa", sum := "bd4599931fafe27e9c152e9e7a7ad10998158a8cc5239cb414ff59abb3c457ac", func := "loop.example/obliviousqueries/laws.FnExactLookupValue", spec := "fnExactLookupValue", apart := false, narrowed := true }
def FnExactLookupValueUptoSaid : Prop := fnExactLookupValueUptoRow.holds Try.pinned (OpenSpec.upto fnExactLookupValueSpec)

/-- 'laws.FnExactPermValid', WHERE WHAT IT READS IS OF BULK AT MOST 1048576: true; the input reads as it did. -/
def fnExactPermValidUptoRow : OpenClaim := { program := "ytgapjgmkkmdadaa", sum := "bd4599931fafe27e9c152e9e7a7ad10998158a8cc5239cb414ff59abb3c457ac", func := "loop.example/obliviousqueries/laws.FnExactPermValid", spec := "fnExactPermValid", recurses := true, apart := false, narrowed := true }
def FnExactPermValidUptoSaid : Prop := fnExactPermValidUptoRow.holds Try.pinned (OpenSpec.upto fnExactPermValidSpec)

/-- 'laws.FnExactLookupAnswer', WHERE WHAT IT READS IS OF BULK AT MOST 1048576: true; the input reads as it did. -/
def fnExactLookupAnswerUptoRow : OpenClaim := { program := "ytgapjgmkkmdadaa", sum := "bd4599931fafe27e9c152e9e7a7ad10998158a8cc5239cb414ff59abb3c457ac", func := "loop.example/obliviousqueries/laws.FnExactLookupAnswer", spec := "fnExactLookupAnswer", apart := false, narrowed := true }
def FnExactLookupAnswerUptoSaid : Prop := fnExactLookupAnswerUptoRow.holds Try.pinned (OpenSpec.upto fnExactLookupAnswerSpec)

/-- 'laws.FnExactLookupSets', WHERE WHAT IT READS IS OF BULK AT MOST 1048576: true; the input reads as it did. -/
def fnExactLookupSetsUptoRow : OpenClaim := { program := "ytgapjgmkkmdadaa", sum := "bd4599931fafe27e9c152e9e7a7ad10998158a8cc5239cb414ff59abb3c457ac", func := "loop.example/obliviousqueries/laws.FnExactLookupSets", spec := "fnExactLookupSets", apart := false, narrowed := true }
def FnExactLookupSetsUptoSaid : Prop := fnExactLookupSetsUptoRow.holds Try.pinned (OpenSpec.upto fnExactLookupSetsSpec)

end Rows
end Go.Proofs.Ytgapjgmkkmdadaa
