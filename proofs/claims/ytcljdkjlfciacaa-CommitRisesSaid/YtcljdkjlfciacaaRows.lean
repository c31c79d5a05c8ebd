/-
  No cell of these rows narrows 'for every input' (looked for: loops, veiled, ifaces, maps, wideKeys, modest, calm, conditions, laid).
  DERIVED. THE GIVEN ROWS OF THIS SEAT. 6 by the template 'for every input the law returns true; each argument reads behind the call as it read before'; 0 by the template 'total and deterministic' (their statements: YtcljdkjlfciacaaTotals.lean).
  GIVEN WITH THE SEED: the statements are not yours to turn. If you find one false, say at which input.
  Laid BY PROGRAM, IN A SANDBOX (cutbox-rows.mjs): the forced cells as the released guide's own fill.sh prints them over the translation 644edc3702e17388… (all of the seat's roots in one cut). By AI agents, Wed Nov 11 2026. No macro, syntax, notation, axiom, sorry.
-/
import Derived.Test.YtcljdkjlfciacaaChecked
import GoSem.Claim
import GoSem.ClaimJoined
import GoSem.ClaimMapViews
import Derived.JoinedTies
import Derived.KernelRfl
namespace Go.Proofs.Ytcljdkjlfciacaa
/- THE CELL 'sum', in the pinned program and in every row, IS THE sha256 OF THE DUMP (.gsa) THAT YtcljdkjlfciacaaProg.lean LOADS. Nothing in Lean hashes anything: it is a label: what it is worth is what the hold of that sum in a sandbox is worth. -/
noncomputable def Try.pinned : Pinned := { name := "ytcljdkjlfciacaa", sum := "644edc3702e17388d7c8c8acf978724ed10ecb36666eb94e4d33d86456af0182", checked := Try.checked }
namespace Rows
def none {H : Type} : Left H := { results := [], args := [] }

/-- 'rollbacknetlaw35.CommitPasts': WHATEVER THE INPUT: true; the input reads as it did. -/
def commitPastsSpec : ChangeSpec := { name := "commitPasts", fn := fun _ => fun
  | [d1, d2, d3, d4] => { results := [.lit (.bool true)], args := [d1, d2, d3, d4] }
  | _ => none }
def commitPastsRow : OpenClaim := { program := "ytcljdkjlfciacaa", sum := "644edc3702e17388d7c8c8acf978724ed10ecb36666eb94e4d33d86456af0182", func := "rollbacknet/rollbacknetlaw35.CommitPasts", spec := "commitPasts", unfollowed := true, recurses := true, plainKeys := false, apart := false }
def CommitPastsSaid : Prop := commitPastsRow.holds Try.pinned (OpenSpec.ofChange commitPastsSpec)

/-- ITS FALSE NEIGHBOUR: 'it returns false'. Refute it at one input. -/
def commitPastsWrong : ChangeSpec := { name := "commitPasts", fn := fun _ => fun
  | [d1, d2, d3, d4] => { results := [.lit (.bool false)], args := [d1, d2, d3, d4] }
  | _ => none }
def CommitPastsWrongFalsely : Prop := commitPastsRow.holds Try.pinned (OpenSpec.ofChange commitPastsWrong)

/-- 'rollbacknetlaw35.CommitStable': WHATEVER THE INPUT: true; the input reads as it did. -/
def commitStableSpec : ChangeSpec := { name := "commitStable", fn := fun _ => fun
  | [d1, d2, d3] => { results := [.lit (.bool true)], args := [d1, d2, d3] }
  | _ => none }
def commitStableRow : OpenClaim := { program := "ytcljdkjlfciacaa", sum := "644edc3702e17388d7c8c8acf978724ed10ecb36666eb94e4d33d86456af0182", func := "rollbacknet/rollbacknetlaw35.CommitStable", spec := "commitStable", unfollowed := true, recurses := true, plainKeys := false, apart := false }
def CommitStableSaid : Prop := commitStableRow.holds Try.pinned (OpenSpec.ofChange commitStableSpec)

/-- ITS FALSE NEIGHBOUR: 'it returns false'. Refute it at one input. -/
def commitStableWrong : ChangeSpec := { name := "commitStable", fn := fun _ => fun
  | [d1, d2, d3] => { results := [.lit (.bool false)], args := [d1, d2, d3] }
  | _ => none }
def CommitStableWrongFalsely : Prop := commitStableRow.holds Try.pinned (OpenSpec.ofChange commitStableWrong)

/-- 'rollbacknetlaw35.CommitReplicated': WHATEVER THE INPUT: true; the input reads as it did. -/
def commitReplicatedSpec : ChangeSpec := { name := "commitReplicated", fn := fun _ => fun
  | [d1, d2, d3, d4, d5] => { results := [.lit (.bool true)], args := [d1, d2, d3, d4, d5] }
  | _ => none }
def commitReplicatedRow : OpenClaim := { program := "ytcljdkjlfciacaa", sum := "644edc3702e17388d7c8c8acf978724ed10ecb36666eb94e4d33d86456af0182", func := "rollbacknet/rollbacknetlaw35.CommitReplicated", spec := "commitReplicated", unfollowed := true, recurses := true, plainKeys := false, apart := false }
def CommitReplicatedSaid : Prop := commitReplicatedRow.holds Try.pinned (OpenSpec.ofChange commitReplicatedSpec)

/-- ITS FALSE NEIGHBOUR: 'it returns false'. Refute it at one input. -/
def commitReplicatedWrong : ChangeSpec := { name := "commitReplicated", fn := fun _ => fun
  | [d1, d2, d3, d4, d5] => { results := [.lit (.bool false)], args := [d1, d2, d3, d4, d5] }
  | _ => none }
def CommitReplicatedWrongFalsely : Prop := commitReplicatedRow.holds Try.pinned (OpenSpec.ofChange commitReplicatedWrong)

/-- 'rollbacknetlaw35.CommitCuts': WHATEVER THE INPUT: true; the input reads as it did. -/
def commitCutsSpec : ChangeSpec := { name := "commitCuts", fn := fun _ => fun
  | [d] => { results := [.lit (.bool true)], args := [d] }
  | _ => none }
def commitCutsRow : OpenClaim := { program := "ytcljdkjlfciacaa", sum := "644edc3702e17388d7c8c8acf978724ed10ecb36666eb94e4d33d86456af0182", func := "rollbacknet/rollbacknetlaw35.CommitCuts", spec := "commitCuts", unfollowed := true, recurses := true, plainKeys := false, apart := false }
def CommitCutsSaid : Prop := commitCutsRow.holds Try.pinned (OpenSpec.ofChange commitCutsSpec)

/-- ITS FALSE NEIGHBOUR: 'it returns false'. Refute it at one input. -/
def commitCutsWrong : ChangeSpec := { name := "commitCuts", fn := fun _ => fun
  | [d] => { results := [.lit (.bool false)], args := [d] }
  | _ => none }
def CommitCutsWrongFalsely : Prop := commitCutsRow.holds Try.pinned (OpenSpec.ofChange commitCutsWrong)

/-- 'rollbacknetlaw35.CommitRises': WHATEVER THE INPUT: true; the input reads as it did. -/
def commitRisesSpec : ChangeSpec := { name := "commitRises", fn := fun _ => fun
  | [d] => { results := [.lit (.bool true)], args := [d] }
  | _ => none }
def commitRisesRow : OpenClaim := { program := "ytcljdkjlfciacaa", sum := "644edc3702e17388d7c8c8acf978724ed10ecb36666eb94e4d33d86456af0182", func := "rollbacknet/rollbacknetlaw35.CommitRises", spec := "commitRises", unfollowed := true, recurses := true, plainKeys := false, apart := false }
def CommitRisesSaid : Prop := commitRisesRow.holds Try.pinned (OpenSpec.ofChange commitRisesSpec)

/-- ITS FALSE NEIGHBOUR: 'it returns false'. Refute it at one input. -/
def commitRisesWrong : ChangeSpec := { name := "commitRises", fn := fun _ => fun
  | [d] => { results := [.lit (.bool false)], args := [d] }
  | _ => none }
def CommitRisesWrongFalsely : Prop := commitRisesRow.holds Try.pinned (OpenSpec.ofChange commitRisesWrong)

/-- 'rollbacknetlaw35.CommitAgrees': WHATEVER THE INPUT: true; the input reads as it did. -/
def commitAgreesSpec : ChangeSpec := { name := "commitAgrees", fn := fun _ => fun
  | [d1, d2] => { results := [.lit (.bool true)], args := [d1, d2] }
  | _ => none }
def commitAgreesRow : OpenClaim := { program := "ytcljdkjlfciacaa", sum := "644edc3702e17388d7c8c8acf978724ed10ecb36666eb94e4d33d86456af0182", func := "rollbacknet/rollbacknetlaw35.CommitAgrees", spec := "commitAgrees", unfollowed := true, recurses := true, plainKeys := false, apart := false }
def CommitAgreesSaid : Prop := commitAgreesRow.holds Try.pinned (OpenSpec.ofChange commitAgreesSpec)

/-- ITS FALSE NEIGHBOUR: 'it returns false'. Refute it at one input. -/
def commitAgreesWrong : ChangeSpec := { name := "commitAgrees", fn := fun _ => fun
  | [d1, d2] => { results := [.lit (.bool false)], args := [d1, d2] }
  | _ => none }
def CommitAgreesWrongFalsely : Prop := commitAgreesRow.holds Try.pinned (OpenSpec.ofChange commitAgreesWrong)

/- THE SECOND FORM. 'bulk': how many values and letters a reading holds, each counted each time it is reached (what is shared counts as often as it is met; a slice's spare places count too). A statement '..UptoSaid' is the law's where the arguments, and the package variables that the reading takes, are together of bulk at most 1048576: NARROWER than '..Said'. Prove '..Said' where nothing that the law and all that it calls make is longer than what came in: it says more and counts as full. Else prove '..UptoSaid'. A law counts once. -/
mutual
def uptoBulk {H : Type} : DataW H → Nat
  | .lit (.string bytes) => bytes.length + 1
  | .lit _ => 1
  | .nil => 1
  | .ptr d => uptoBulk d + 1
  | .slice elems spare => uptoBulkAll elems + uptoBulkAll spare + 1
  | .agg parts => uptoBulkAll parts + 1
  | .iface _ d => uptoBulk d + 1
  | .map entries => uptoBulkEntries entries + 1
  | .held _ => 1
def uptoBulkAll {H : Type} : List (DataW H) → Nat
  | [] => 0
  | d :: r => uptoBulk d + uptoBulkAll r
def uptoBulkEntries {H : Type} : List (Lit × DataW H) → Nat
  | [] => 0
  | x :: r => uptoBulkEntry x + uptoBulkEntries r
def uptoBulkEntry {H : Type} : Lit × DataW H → Nat
  | (.string bytes, d) => bytes.length + uptoBulk d + 1
  | (_, d) => uptoBulk d + 1
 end
def uptoSmall : (H : Type) → List (DataW H) → Bool := fun _ ds => decide (uptoBulkAll ds ≤ 1048576)
def OpenSpec.upto (s : _root_.Go.ChangeSpec) : _root_.Go.OpenSpec := { _root_.Go.OpenSpec.ofChange s with cond := some uptoSmall }

/-- 'rollbacknetlaw35.CommitPasts', WHERE WHAT IT READS IS OF BULK AT MOST 1048576: true; the input reads as it did. -/
def commitPastsUptoRow : OpenClaim := { program := "ytcljdkjlfciacaa", sum := "644edc3702e17388d7c8c8acf978724ed10ecb36666eb94e4d33d86456af0182", func := "rollbacknet/rollbacknetlaw35.CommitPasts", spec := "commitPasts", unfollowed := true, recurses := true, plainKeys := false, apart := false, narrowed := true }
def CommitPastsUptoSaid : Prop := commitPastsUptoRow.holds Try.pinned (OpenSpec.upto commitPastsSpec)

/-- 'rollbacknetlaw35.CommitStable', WHERE WHAT IT READS IS OF BULK AT MOST 1048576: true; the input reads as it did. -/
def commitStableUptoRow : OpenClaim := { program := "ytcljdkjlfciacaa", sum := "644edc3702e17388d7c8c8acf978724ed10ecb36666eb94e4d33d86456af0182", func := "rollbacknet/rollbacknetlaw35.CommitStable", spec := "commitStable", unfollowed := true, recurses := true, plainKeys := false, apart := false, narrowed := true }
def CommitStableUptoSaid : Prop := commitStableUptoRow.holds Try.pinned (OpenSpec.upto commitStableSpec)

/-- 'rollbacknetlaw35.CommitReplicated', WHERE WHAT IT READS IS OF BULK AT MOST 1048576: true; the input reads as it did. -/
def commitReplicatedUptoRow : OpenClaim := { program := "ytcljdkjlfciacaa", sum := "644edc3702e17388d7c8c8acf978724ed10ecb36666eb94e4d33d86456af0182", func := "rollbacknet/rollbacknetlaw35.CommitReplicated", spec := "commitReplicated", unfollowed := true, recurses := true, plainKeys := false, apart := false, narrowed := true }
def CommitReplicatedUptoSaid : Prop := commitReplicatedUptoRow.holds Try.pinned (OpenSpec.upto commitReplicatedSpec)

/-- 'rollbacknetlaw35.CommitCuts', WHERE WHAT IT READS IS OF BULK AT MOST 1048576: true; the input reads as it did. -/
def commitCutsUptoRow : OpenClaim := { program := "ytcljdkjlfciacaa", sum := "644edc3702e17388d7c8c8acf978724ed10ecb36666eb94e4d33d86456af0182", func := "rollbacknet/rollbacknetlaw35.CommitCuts", spec := "commitCuts", unfollowed := true, recurses := true, plainKeys := false, apart := false, narrowed := true }
def CommitCutsUptoSaid : Prop := commitCutsUptoRow.holds Try.pinned (OpenSpec.upto commitCutsSpec)

/-- 'rollbacknetlaw35.CommitRises', WHERE WHAT IT READS IS OF BULK AT MOST 1048576: true; the input reads as it did. -/
def commitRisesUptoRow : OpenClaim := { program := "ytcljdkjlfciacaa", sum := "644edc3702e17388d7c8c8acf978724ed10ecb36666eb94e4d33d86456af0182", func := "rollbacknet/rollbacknetlaw35.CommitRises", spec := "commitRises", unfollowed := true, recurses := true, plainKeys := false, apart := false, narrowed := true }
def CommitRisesUptoSaid : Prop := commitRisesUptoRow.holds Try.pinned (OpenSpec.upto commitRisesSpec)

/-- 'rollbacknetlaw35.CommitAgrees', WHERE WHAT IT READS IS OF BULK AT MOST 1048576: true; the input reads as it did. -/
def commitAgreesUptoRow : OpenClaim := { program := "ytcljdkjlfciacaa", sum := "644edc3702e17388d7c8c8acf978724ed10ecb36666eb94e4d33d86456af0182", func := "rollbacknet/rollbacknetlaw35.CommitAgrees", spec := "commitAgrees", unfollowed := true, recurses := true, plainKeys := false, apart := false, narrowed := true }
def CommitAgreesUptoSaid : Prop := commitAgreesUptoRow.holds Try.pinned (OpenSpec.upto commitAgreesSpec)

end Rows
end Go.Proofs.Ytcljdkjlfciacaa
