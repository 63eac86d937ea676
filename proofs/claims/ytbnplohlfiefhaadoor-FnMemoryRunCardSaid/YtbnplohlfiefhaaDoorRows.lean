/-
  NARROWER THAN 'FOR EVERY INPUT', by the rows' own cells (each row's printed sentence says how): FnMemoryOf: laid · FnLeafOf: laid · FnMemoryUse: laid · FnMemoryRun: laid · FnMemoryStash: laid · FnMemorySame: laid.
  DERIVED. THE GIVEN ROWS OF THIS SEAT. 6 by the template 'for every input the law returns true; each argument reads behind the call as it read before'; 0 by the template 'total and deterministic' (their statements: YtbnplohlfiefhaaDoorTotals.lean).
  GIVEN WITH THE SEED: the statements are not yours to turn. If you find one false, say at which input.
  Laid BY PROGRAM, IN A SANDBOX (cutbox-rows.mjs): the forced cells as the released guide's own fill.sh prints them over the translation 812f63760eb4d63b… (all of the seat's roots in one cut). By AI agents, Wed Nov 11 2026. No macro, syntax, notation, axiom, sorry.
-/
import Derived.Test.YtbnplohlfiefhaaDoorChecked
import GoSem.Claim
import GoSem.ClaimJoined
import GoSem.ClaimMapViews
import Derived.JoinedTies
import Derived.KernelRfl
namespace Go.Proofs.YtbnplohlfiefhaaDoor
/- THE CELL 'sum', in the pinned program and in every row, IS THE sha256 OF THE DUMP (.gsa) THAT YtbnplohlfiefhaaDoorProg.lean LOADS. Nothing in Lean hashes anything: it is a label: what it is worth is what the hold of that sum in a sandbox is worth. -/
noncomputable def Tryd.pinned : Pinned := { name := "ytbnplohlfiefhaadoor", sum := "812f63760eb4d63bced1978479800446d7e3d9e4473f7b8049ebdbc24d507124", checked := Tryd.checked }
namespace Rows
def none {H : Type} : Left H := { results := [], args := [] }

/- WHAT THE LISTED PACKAGE-LEVEL VARIABLES READ AS WHEN THE CALL BEGINS. Each datum BY PROGRAM (the guide's laid-datum.mjs) off the statement by which the dump's own 'gosem.cut.vars' lays the variable. In a bare row this is a premise. The card (YtbnplohlfiefhaaDoorCards.lean) ties it to the program's text. -/
def laid_loop_example_obliviousqueries_impl_reserved {H : Type} : DataW H := .slice [.lit (.string [115, 101, 108, 101, 99, 116]), .lit (.string [102, 114, 111, 109]), .lit (.string [106, 111, 105, 110]), .lit (.string [111, 110]), .lit (.string [119, 104, 101, 114, 101]), .lit (.string [97, 110, 100]), .lit (.string [111, 114]), .lit (.string [103, 114, 111, 117, 112]), .lit (.string [98, 121]), .lit (.string [115, 117, 109]), .lit (.string [111, 114, 100, 101, 114]), .lit (.string [100, 111, 119, 110]), .lit (.string [108, 105, 109, 105, 116])] []

/-- 'laws.FnMemoryOf': WHATEVER THE INPUT: true; the input reads as it did. -/
def fnMemoryOfSpec : ChangeSpec := { name := "fnMemoryOf", vars := ["loop.example/obliviousqueries/impl.reserved"], fn := fun _ => fun
  | [d, g1] => { results := [.lit (.bool true)], args := [d], vars := [g1] }
  | _ => none }
def fnMemoryOfRow : OpenClaim := { program := "ytbnplohlfiefhaadoor", sum := "812f63760eb4d63bced1978479800446d7e3d9e4473f7b8049ebdbc24d507124", func := "loop.example/obliviousqueries/laws.FnMemoryOf", spec := "fnMemoryOf", unfollowed := true, recurses := true, named := ["loop.example/obliviousqueries/impl.reserved"], apart := false, laid := [("loop.example/obliviousqueries/impl.reserved", laid_loop_example_obliviousqueries_impl_reserved)] }
def FnMemoryOfSaid : Prop := fnMemoryOfRow.holds Tryd.pinned (OpenSpec.ofChange fnMemoryOfSpec)

/-- ITS FALSE NEIGHBOUR: 'it returns false'. Refute it at one input. -/
def fnMemoryOfWrong : ChangeSpec := { name := "fnMemoryOf", vars := ["loop.example/obliviousqueries/impl.reserved"], fn := fun _ => fun
  | [d, g1] => { results := [.lit (.bool false)], args := [d], vars := [g1] }
  | _ => none }
def FnMemoryOfWrongFalsely : Prop := fnMemoryOfRow.holds Tryd.pinned (OpenSpec.ofChange fnMemoryOfWrong)

/-- 'laws.FnLeafOf': WHATEVER THE INPUT: true; the input reads as it did. -/
def fnLeafOfSpec : ChangeSpec := { name := "fnLeafOf", vars := ["loop.example/obliviousqueries/impl.reserved"], fn := fun _ => fun
  | [d, g1] => { results := [.lit (.bool true)], args := [d], vars := [g1] }
  | _ => none }
def fnLeafOfRow : OpenClaim := { program := "ytbnplohlfiefhaadoor", sum := "812f63760eb4d63bced1978479800446d7e3d9e4473f7b8049ebdbc24d507124", func := "loop.example/obliviousqueries/laws.FnLeafOf", spec := "fnLeafOf", unfollowed := true, recurses := true, named := ["loop.example/obliviousqueries/impl.reserved"], apart := false, laid := [("loop.example/obliviousqueries/impl.reserved", laid_loop_example_obliviousqueries_impl_reserved)] }
def FnLeafOfSaid : Prop := fnLeafOfRow.holds Tryd.pinned (OpenSpec.ofChange fnLeafOfSpec)

/-- ITS FALSE NEIGHBOUR: 'it returns false'. Refute it at one input. -/
def fnLeafOfWrong : ChangeSpec := { name := "fnLeafOf", vars := ["loop.example/obliviousqueries/impl.reserved"], fn := fun _ => fun
  | [d, g1] => { results := [.lit (.bool false)], args := [d], vars := [g1] }
  | _ => none }
def FnLeafOfWrongFalsely : Prop := fnLeafOfRow.holds Tryd.pinned (OpenSpec.ofChange fnLeafOfWrong)

/-- 'laws.FnMemoryUse': WHATEVER THE INPUT: true; the input reads as it did. -/
def fnMemoryUseSpec : ChangeSpec := { name := "fnMemoryUse", vars := ["loop.example/obliviousqueries/impl.reserved"], fn := fun _ => fun
  | [d, g1] => { results := [.lit (.bool true)], args := [d], vars := [g1] }
  | _ => none }
def fnMemoryUseRow : OpenClaim := { program := "ytbnplohlfiefhaadoor", sum := "812f63760eb4d63bced1978479800446d7e3d9e4473f7b8049ebdbc24d507124", func := "loop.example/obliviousqueries/laws.FnMemoryUse", spec := "fnMemoryUse", unfollowed := true, recurses := true, named := ["loop.example/obliviousqueries/impl.reserved"], apart := false, laid := [("loop.example/obliviousqueries/impl.reserved", laid_loop_example_obliviousqueries_impl_reserved)] }
def FnMemoryUseSaid : Prop := fnMemoryUseRow.holds Tryd.pinned (OpenSpec.ofChange fnMemoryUseSpec)

/-- ITS FALSE NEIGHBOUR: 'it returns false'. Refute it at one input. -/
def fnMemoryUseWrong : ChangeSpec := { name := "fnMemoryUse", vars := ["loop.example/obliviousqueries/impl.reserved"], fn := fun _ => fun
  | [d, g1] => { results := [.lit (.bool false)], args := [d], vars := [g1] }
  | _ => none }
def FnMemoryUseWrongFalsely : Prop := fnMemoryUseRow.holds Tryd.pinned (OpenSpec.ofChange fnMemoryUseWrong)

/-- 'laws.FnMemoryRun': WHATEVER THE INPUT: true; the input reads as it did. -/
def fnMemoryRunSpec : ChangeSpec := { name := "fnMemoryRun", vars := ["loop.example/obliviousqueries/impl.reserved"], fn := fun _ => fun
  | [d, g1] => { results := [.lit (.bool true)], args := [d], vars := [g1] }
  | _ => none }
def fnMemoryRunRow : OpenClaim := { program := "ytbnplohlfiefhaadoor", sum := "812f63760eb4d63bced1978479800446d7e3d9e4473f7b8049ebdbc24d507124", func := "loop.example/obliviousqueries/laws.FnMemoryRun", spec := "fnMemoryRun", unfollowed := true, recurses := true, named := ["loop.example/obliviousqueries/impl.reserved"], apart := false, laid := [("loop.example/obliviousqueries/impl.reserved", laid_loop_example_obliviousqueries_impl_reserved)] }
def FnMemoryRunSaid : Prop := fnMemoryRunRow.holds Tryd.pinned (OpenSpec.ofChange fnMemoryRunSpec)

/-- ITS FALSE NEIGHBOUR: 'it returns false'. Refute it at one input. -/
def fnMemoryRunWrong : ChangeSpec := { name := "fnMemoryRun", vars := ["loop.example/obliviousqueries/impl.reserved"], fn := fun _ => fun
  | [d, g1] => { results := [.lit (.bool false)], args := [d], vars := [g1] }
  | _ => none }
def FnMemoryRunWrongFalsely : Prop := fnMemoryRunRow.holds Tryd.pinned (OpenSpec.ofChange fnMemoryRunWrong)

/-- 'laws.FnMemoryStash': WHATEVER THE INPUT: true; the input reads as it did. -/
def fnMemoryStashSpec : ChangeSpec := { name := "fnMemoryStash", vars := ["loop.example/obliviousqueries/impl.reserved"], fn := fun _ => fun
  | [d, g1] => { results := [.lit (.bool true)], args := [d], vars := [g1] }
  | _ => none }
def fnMemoryStashRow : OpenClaim := { program := "ytbnplohlfiefhaadoor", sum := "812f63760eb4d63bced1978479800446d7e3d9e4473f7b8049ebdbc24d507124", func := "loop.example/obliviousqueries/laws.FnMemoryStash", spec := "fnMemoryStash", unfollowed := true, recurses := true, named := ["loop.example/obliviousqueries/impl.reserved"], apart := false, laid := [("loop.example/obliviousqueries/impl.reserved", laid_loop_example_obliviousqueries_impl_reserved)] }
def FnMemoryStashSaid : Prop := fnMemoryStashRow.holds Tryd.pinned (OpenSpec.ofChange fnMemoryStashSpec)

/-- ITS FALSE NEIGHBOUR: 'it returns false'. Refute it at one input. -/
def fnMemoryStashWrong : ChangeSpec := { name := "fnMemoryStash", vars := ["loop.example/obliviousqueries/impl.reserved"], fn := fun _ => fun
  | [d, g1] => { results := [.lit (.bool false)], args := [d], vars := [g1] }
  | _ => none }
def FnMemoryStashWrongFalsely : Prop := fnMemoryStashRow.holds Tryd.pinned (OpenSpec.ofChange fnMemoryStashWrong)

/-- 'laws.FnMemorySame': WHATEVER THE INPUT: true; the input reads as it did. -/
def fnMemorySameSpec : ChangeSpec := { name := "fnMemorySame", vars := ["loop.example/obliviousqueries/impl.reserved"], fn := fun _ => fun
  | [d, g1] => { results := [.lit (.bool true)], args := [d], vars := [g1] }
  | _ => none }
def fnMemorySameRow : OpenClaim := { program := "ytbnplohlfiefhaadoor", sum := "812f63760eb4d63bced1978479800446d7e3d9e4473f7b8049ebdbc24d507124", func := "loop.example/obliviousqueries/laws.FnMemorySame", spec := "fnMemorySame", unfollowed := true, recurses := true, named := ["loop.example/obliviousqueries/impl.reserved"], apart := false, laid := [("loop.example/obliviousqueries/impl.reserved", laid_loop_example_obliviousqueries_impl_reserved)] }
def FnMemorySameSaid : Prop := fnMemorySameRow.holds Tryd.pinned (OpenSpec.ofChange fnMemorySameSpec)

/-- ITS FALSE NEIGHBOUR: 'it returns false'. Refute it at one input. -/
def fnMemorySameWrong : ChangeSpec := { name := "fnMemorySame", vars := ["loop.example/obliviousqueries/impl.reserved"], fn := fun _ => fun
  | [d, g1] => { results := [.lit (.bool false)], args := [d], vars := [g1] }
  | _ => none }
def FnMemorySameWrongFalsely : Prop := fnMemorySameRow.holds Tryd.pinned (OpenSpec.ofChange fnMemorySameWrong)

/- THE SECOND FORM. 'bulk': how many values and letters a reading holds, each counted each time it is reached (what is shared counts as often as it is met; a slice's spare places count too). A statement '..UptoSaid' is the law's where the arguments, and the package variables that the reading takes, are together of bulk at most 1048576: NARROWER than '..Said'. Prove '..Said' where nothing that the law and all that it calls make is longer than what came in: it says more and counts as full. Else prove '..UptoSaid'. A law counts once. -/
mutual
def uptoBulk {H : Type} : DataW H → Nat
  | .lit (.string bytes) => bytes.length + 1
  | .lit _ => 1
  | .nil => 1
  | .ptr d => uptoBulk d + 1
  | .slice elems spare => uptoBulkAll elems + uptoBulkAll spare + 1
  | .agg parts => uptoBulkAll parts + 1
  | .iface _ d => uptoBulk d + 1
  | .map entries => uptoBulkEntries entries + 1
  | .held _ => 1
def uptoBulkAll {H : Type} : List (DataW H) → Nat
  | [] => 0
  | d :: r => uptoBulk d + uptoBulkAll r
def uptoBulkEntries {H : Type} : List (Lit × DataW H) → Nat
  | [] => 0
  | x :: r => uptoBulkEntry x + uptoBulkEntries r
def uptoBulkEntry {H : Type} : Lit × DataW H → Nat
  | (.string bytes, d) => bytes.length + uptoBulk d + 1
  | (_, d) => uptoBulk d + 1
 end
def uptoSmall : (H : Type) → List (DataW H) → Bool := fun _ ds => decide (uptoBulkAll ds ≤ 1048576)
def OpenSpec.upto (s : _root_.Go.ChangeSpec) : _root_.Go.OpenSpec := { _root_.Go.OpenSpec.ofChange s with cond := some uptoSmall }

/-- 'laws.FnMemoryOf', WHERE WHAT IT READS IS OF BULK AT MOST 1048576: true; the input reads as it did. -/
def fnMemoryOfUptoRow : OpenClaim := { program := "ytbnplohlfiefhaadoor", sum := "812f63760eb4d63bced1978479800446d7e3d9e4473f7b8049ebdbc24d507124", func := "loop.example/obliviousqueries/laws.FnMemoryOf", spec := "fnMemoryOf", unfollowed := true, recurses := true, named := ["loop.example/obliviousqueries/impl.reserved"], apart := false, laid := [("loop.example/obliviousqueries/impl.reserved", laid_loop_example_obliviousqueries_impl_reserved)], narrowed := true }
def FnMemoryOfUptoSaid : Prop := fnMemoryOfUptoRow.holds Tryd.pinned (OpenSpec.upto fnMemoryOfSpec)

/-- 'laws.FnLeafOf', WHERE WHAT IT READS IS OF BULK AT MOST 1048576: true; the input reads as it did. -/
def fnLeafOfUptoRow : OpenClaim := { program := "ytbnplohlfiefhaadoor", sum := "812f63760eb4d63bced1978479800446d7e3d9e4473f7b8049ebdbc24d507124", func := "loop.example/obliviousqueries/laws.FnLeafOf", spec := "fnLeafOf", unfollowed := true, recurses := true, named := ["loop.example/obliviousqueries/impl.reserved"], apart := false, laid := [("loop.example/obliviousqueries/impl.reserved", laid_loop_example_obliviousqueries_impl_reserved)], narrowed := true }
def FnLeafOfUptoSaid : Prop := fnLeafOfUptoRow.holds Tryd.pinned (OpenSpec.upto fnLeafOfSpec)

/-- 'laws.FnMemoryUse', WHERE WHAT IT READS IS OF BULK AT MOST 1048576: true; the input reads as it did. -/
def fnMemoryUseUptoRow : OpenClaim := { program := "ytbnplohlfiefhaadoor", sum := "812f63760eb4d63bced1978479800446d7e3d9e4473f7b8049ebdbc24d507124", func := "loop.example/obliviousqueries/laws.FnMemoryUse", spec := "fnMemoryUse", unfollowed := true, recurses := true, named := ["loop.example/obliviousqueries/impl.reserved"], apart := false, laid := [("loop.example/obliviousqueries/impl.reserved", laid_loop_example_obliviousqueries_impl_reserved)], narrowed := true }
def FnMemoryUseUptoSaid : Prop := fnMemoryUseUptoRow.holds Tryd.pinned (OpenSpec.upto fnMemoryUseSpec)

/-- 'laws.FnMemoryRun', WHERE WHAT IT READS IS OF BULK AT MOST 1048576: true; the input reads as it did. -/
def fnMemoryRunUptoRow : OpenClaim := { program := "ytbnplohlfiefhaadoor", sum := "812f63760eb4d63bced1978479800446d7e3d9e4473f7b8049ebdbc24d507124", func := "loop.example/obliviousqueries/laws.FnMemoryRun", spec := "fnMemoryRun", unfollowed := true, recurses := true, named := ["loop.example/obliviousqueries/impl.reserved"], apart := false, laid := [("loop.example/obliviousqueries/impl.reserved", laid_loop_example_obliviousqueries_impl_reserved)], narrowed := true }
def FnMemoryRunUptoSaid : Prop := fnMemoryRunUptoRow.holds Tryd.pinned (OpenSpec.upto fnMemoryRunSpec)

/-- 'laws.FnMemoryStash', WHERE WHAT IT READS IS OF BULK AT MOST 1048576: true; the input reads as it did. -/
def fnMemoryStashUptoRow : OpenClaim := { program := "ytbnplohlfiefhaadoor", sum := "812f63760eb4d63bced1978479800446d7e3d9e4473f7b8049ebdbc24d507124", func := "loop.example/obliviousqueries/laws.FnMemoryStash", spec := "fnMemoryStash", unfollowed := true, recurses := true, named := ["loop.example/obliviousqueries/impl.reserved"], apart := false, laid := [("loop.example/obliviousqueries/impl.reserved", laid_loop_example_obliviousqueries_impl_reserved)], narrowed := true }
def FnMemoryStashUptoSaid : Prop := fnMemoryStashUptoRow.holds Tryd.pinned (OpenSpec.upto fnMemoryStashSpec)

/-- 'laws.FnMemorySame', WHERE WHAT IT READS IS OF BULK AT MOST 1048576: true; the input reads as it did. -/
def fnMemorySameUptoRow : OpenClaim := { program := "ytbnplohlfiefhaadoor", sum := "812f63760eb4d63bced1978479800446d7e3d9e4473f7b8049ebdbc24d507124", func := "loop.example/obliviousqueries/laws.FnMemorySame", spec := "fnMemorySame", unfollowed := true, recurses := true, named := ["loop.example/obliviousqueries/impl.reserved"], apart := false, laid := [("loop.example/obliviousqueries/impl.reserved", laid_loop_example_obliviousqueries_impl_reserved)], narrowed := true }
def FnMemorySameUptoSaid : Prop := fnMemorySameUptoRow.holds Tryd.pinned (OpenSpec.upto fnMemorySameSpec)

end Rows
end Go.Proofs.YtbnplohlfiefhaaDoor
