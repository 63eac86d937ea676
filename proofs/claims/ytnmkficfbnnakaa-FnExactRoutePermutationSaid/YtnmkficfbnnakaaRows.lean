/-
  No cell of these rows narrows 'for every input' (looked for: loops, veiled, ifaces, maps, wideKeys, modest, calm, conditions, laid).
  DERIVED. THE GIVEN ROWS OF THIS SEAT. 2 by the template 'for every input the law returns true; each argument reads behind the call as it read before'; 0 by the template 'total and deterministic' (their statements: YtnmkficfbnnakaaTotals.lean).
  GIVEN WITH THE SEED: the statements are not yours to turn. If you find one false, say at which input.
  Laid BY PROGRAM, IN A SANDBOX (cutbox-rows.mjs): the forced cells as the released guide's own fill.sh prints them over the translation 9a9463b555e9e411… (all of the seat's roots in one cut). By AI agents, Wed Nov 11 2026. No macro, syntax, notation, axiom, sorry.
-/
import Derived.Test.YtnmkficfbnnakaaChecked
import GoSem.Claim
import GoSem.ClaimJoined
import GoSem.ClaimMapViews
import Derived.JoinedTies
import Derived.KernelRfl
namespace Go.Proofs.Ytnmkficfbnnakaa
/- THE CELL 'sum', in the pinned program and in every row, IS THE sha256 OF THE DUMP (.gsa) THAT YtnmkficfbnnakaaProg.lean LOADS. Nothing in Lean hashes anything: it is a label: what it is worth is what the hold of that sum in a sandbox is worth. -/
noncomputable def Try.pinned : Pinned := { name := "ytnmkficfbnnakaa", sum := "9a9463b555e9e41166ef44e0dde21bd33cf5955f53a20f25fc4fe73044227abd", checked := Try.checked }
namespace Rows
def none {H : Type} : Left H := { results := [], args := [] }

/-- 'laws.FnExactApplySwitches': WHATEVER THE INPUT: true; the input reads as it did. -/
def fnExactApplySwitchesSpec : ChangeSpec := { name := "fnExactApplySwitches", fn := fun _ => fun
  | [d1, d2] => { results := [.lit (.bool true)], args := [d1, d2] }
  | _ => none }
def fnExactApplySwitchesRow : OpenClaim := { program := "ytnmkficfbnnakaa", sum := "9a9463b555e9e41166ef44e0dde21bd33cf5955f53a20f25fc4fe73044227abd", func := "loop.example/obliviousqueries/laws.FnExactApplySwitches", spec := "fnExactApplySwitches", recurses := true, apart := false }
def FnExactApplySwitchesSaid : Prop := fnExactApplySwitchesRow.holds Try.pinned (OpenSpec.ofChange fnExactApplySwitchesSpec)

/-- ITS FALSE NEIGHBOUR: 'it returns false'. Refute it at one input. -/
def fnExactApplySwitchesWrong : ChangeSpec := { name := "fnExactApplySwitches", fn := fun _ => fun
  | [d1, d2] => { results := [.lit (.bool false)], args := [d1, d2] }
  | _ => none }
def FnExactApplySwitchesWrongFalsely : Prop := fnExactApplySwitchesRow.holds Try.pinned (OpenSpec.ofChange fnExactApplySwitchesWrong)

/-- 'laws.FnExactRoutePermutation': WHATEVER THE INPUT: true; the input reads as it did. -/
def fnExactRoutePermutationSpec : ChangeSpec := { name := "fnExactRoutePermutation", fn := fun _ => fun
  | [d] => { results := [.lit (.bool true)], args := [d] }
  | _ => none }
def fnExactRoutePermutationRow : OpenClaim := { program := "ytnmkficfbnnakaa", sum := "9a9463b555e9e41166ef44e0dde21bd33cf5955f53a20f25fc4fe73044227abd", func := "loop.example/obliviousqueries/laws.FnExactRoutePermutation", spec := "fnExactRoutePermutation", recurses := true, apart := false }
def FnExactRoutePermutationSaid : Prop := fnExactRoutePermutationRow.holds Try.pinned (OpenSpec.ofChange fnExactRoutePermutationSpec)

/-- ITS FALSE NEIGHBOUR: 'it returns false'. Refute it at one input. -/
def fnExactRoutePermutationWrong : ChangeSpec := { name := "fnExactRoutePermutation", fn := fun _ => fun
  | [d] => { results := [.lit (.bool false)], args := [d] }
  | _ => none }
def FnExactRoutePermutationWrongFalsely : Prop := fnExactRoutePermutationRow.holds Try.pinned (OpenSpec.ofChange fnExactRoutePermutationWrong)

/- THE SECOND FORM. 'bulk': how many values and letters a reading holds, each counted each time it is reached (what is shared counts as often as it is met; a slice's spare places count too). A statement '..UptoSaid' is the law's where the arguments, and the package variables that the reading takes, are together of bulk at most 1048576: NARROWER than '..Said'. Prove '..Said' where nothing that the law and all that it calls make is longer than what came in: it says more and counts as full. Else prove '..UptoSaid'. A law counts once. -/
mutual
def uptoBulk {H : Type} : DataW H → Nat
  | .lit (.string bytes) => bytes.length + 1
  | .lit _ => 1
  | .nil => 1
  | .ptr d => uptoBulk d + 1
  | .slice elems spare => uptoBulkAll elems + uptoBulkAll spare + 1
  | .agg parts => uptoBulkAll parts + 1
  | .iface _ d => uptoBulk d + 1
  | .map entries => uptoBulkEntries entries + 1
  | .held _ => 1
def uptoBulkAll {H : Type} : List (DataW H) → Nat
  | [] => 0
  | d :: r => uptoBulk d + uptoBulkAll r
def uptoBulkEntries {H : Type} : List (Lit × DataW H) → Nat
  | [] => 0
  | x :: r => uptoBulkEntry x + uptoBulkEntries r
def uptoBulkEntry {H : Type} : Lit × DataW H → Nat
  | (.string bytes, d) => bytes.length + uptoBulk d + 1
  | (_, d) => uptoBulk d + 1
 end
def uptoSmall : (H : Type) → List (DataW H) → Bool := fun _ ds => decide (uptoBulkAll ds ≤ 1048576)
def OpenSpec.upto (s : _root_.Go.ChangeSpec) : _root_.Go.OpenSpec := { _root_.Go.OpenSpec.ofChange s with cond := some uptoSmall }

/-- 'laws.FnExactApplySwitches', WHERE WHAT IT READS IS OF BULK AT MOST 1048576: true; the input reads as it did. -/
def fnExactApplySwitchesUptoRow : OpenClaim := { program := "ytnmkficfbnnakaa", sum := "9a9463b555e9e41166ef44e0dde21bd33cf5955f53a20f25fc4fe73044227abd", func := "loop.example/obliviousqueries/laws.FnExactApplySwitches", spec := "fnExactApplySwitches", recurses := true, apart := false, narrowed := true }
def FnExactApplySwitchesUptoSaid : Prop := fnExactApplySwitchesUptoRow.holds Try.pinned (OpenSpec.upto fnExactApplySwitchesSpec)

/-- 'laws.FnExactRoutePermutation', WHERE WHAT IT READS IS OF BULK AT MOST 1048576: true; the input reads as it did. -/
def fnExactRoutePermutationUptoRow : OpenClaim := { program := "ytnmkficfbnnakaa", sum := "9a9463b555e9e41166ef44e0dde21bd33cf5955f53a20f25fc4fe73044227abd", func := "loop.example/obliviousqueries/laws.FnExactRoutePermutation", spec := "fnExactRoutePermutation", recurses := true, apart := false, narrowed := true }
def FnExactRoutePermutationUptoSaid : Prop := fnExactRoutePermutationUptoRow.holds Try.pinned (OpenSpec.upto fnExactRoutePermutationSpec)

end Rows
end Go.Proofs.Ytnmkficfbnnakaa
