/-
  No cell of these rows narrows 'for every input' (looked for: loops, veiled, ifaces, maps, wideKeys, modest, calm, conditions, laid).
  DERIVED. THE GIVEN ROWS OF THIS SEAT. 10 by the template 'for every input the law returns true; each argument reads behind the call as it read before'; 0 by the template 'total and deterministic' (their statements: YtddcgholnhhcoaaTotals.lean).
  GIVEN WITH THE SEED: the statements are not yours to turn. If you find one false, say at which input.
  Laid BY PROGRAM, IN A SANDBOX (cutbox-rows.mjs): the forced cells as the released guide's own fill.sh prints them over the translation dc8b0a674f4cc32c… (all of the seat's roots in one cut). By AI agents, Wed Nov 11 2026. No macro, syntax, notation, axiom, sorry.
-/
import Derived.Test.YtddcgholnhhcoaaChecked
import GoSem.Claim
import GoSem.ClaimJoined
import GoSem.ClaimMapViews
import Derived.JoinedTies
import Derived.KernelRfl
namespace Go.Proofs.Ytddcgholnhhcoaa
/- THE CELL 'sum', in the pinned program and in every row, IS THE sha256 OF THE DUMP (.gsa) THAT YtddcgholnhhcoaaProg.lean LOADS. Nothing in Lean hashes anything: it is a label: what it is worth is what the hold of that sum in a sandbox is worth. -/
noncomputable def Try.pinned : Pinned := { name := "ytddcgholnhhcoaa", sum := "dc8b0a674f4cc32c89b373af8697ff94960b1d0d880895a817e58d85e2d4e649", checked := Try.checked }
namespace Rows
def none {H : Type} : Left H := { results := [], args := [] }

/-- 'rollbacknetlaw38.CostIntervals': WHATEVER THE INPUT: true; the input reads as it did. -/
def costIntervalsSpec : ChangeSpec := { name := "costIntervals", fn := fun _ => fun
  | [d1, d2] => { results := [.lit (.bool true)], args := [d1, d2] }
  | _ => none }
def costIntervalsRow : OpenClaim := { program := "ytddcgholnhhcoaa", sum := "dc8b0a674f4cc32c89b373af8697ff94960b1d0d880895a817e58d85e2d4e649", func := "rollbacknet/rollbacknetlaw38.CostIntervals", spec := "costIntervals", unfollowed := true, recurses := true, apart := false }
def CostIntervalsSaid : Prop := costIntervalsRow.holds Try.pinned (OpenSpec.ofChange costIntervalsSpec)

/-- ITS FALSE NEIGHBOUR: 'it returns false'. Refute it at one input. -/
def costIntervalsWrong : ChangeSpec := { name := "costIntervals", fn := fun _ => fun
  | [d1, d2] => { results := [.lit (.bool false)], args := [d1, d2] }
  | _ => none }
def CostIntervalsWrongFalsely : Prop := costIntervalsRow.holds Try.pinned (OpenSpec.ofChange costIntervalsWrong)

/-- 'rollbacknetlaw38.CostOverheads': WHATEVER THE INPUT: true; the input reads as it did. -/
def costOverheadsSpec : ChangeSpec := { name := "costOverheads", fn := fun _ => fun
  | [d1, d2, d3] => { results := [.lit (.bool true)], args := [d1, d2, d3] }
  | _ => none }
def costOverheadsRow : OpenClaim := { program := "ytddcgholnhhcoaa", sum := "dc8b0a674f4cc32c89b373af8697ff94960b1d0d880895a817e58d85e2d4e649", func := "rollbacknet/rollbacknetlaw38.CostOverheads", spec := "costOverheads", unfollowed := true, recurses := true, apart := false }
def CostOverheadsSaid : Prop := costOverheadsRow.holds Try.pinned (OpenSpec.ofChange costOverheadsSpec)

/-- ITS FALSE NEIGHBOUR: 'it returns false'. Refute it at one input. -/
def costOverheadsWrong : ChangeSpec := { name := "costOverheads", fn := fun _ => fun
  | [d1, d2, d3] => { results := [.lit (.bool false)], args := [d1, d2, d3] }
  | _ => none }
def CostOverheadsWrongFalsely : Prop := costOverheadsRow.holds Try.pinned (OpenSpec.ofChange costOverheadsWrong)

/-- 'rollbacknetlaw38.CostWorst': WHATEVER THE INPUT: true; the input reads as it did. -/
def costWorstSpec : ChangeSpec := { name := "costWorst", fn := fun _ => fun
  | [d1, d2, d3, d4, d5] => { results := [.lit (.bool true)], args := [d1, d2, d3, d4, d5] }
  | _ => none }
def costWorstRow : OpenClaim := { program := "ytddcgholnhhcoaa", sum := "dc8b0a674f4cc32c89b373af8697ff94960b1d0d880895a817e58d85e2d4e649", func := "rollbacknet/rollbacknetlaw38.CostWorst", spec := "costWorst", unfollowed := true, recurses := true, apart := false }
def CostWorstSaid : Prop := costWorstRow.holds Try.pinned (OpenSpec.ofChange costWorstSpec)

/-- ITS FALSE NEIGHBOUR: 'it returns false'. Refute it at one input. -/
def costWorstWrong : ChangeSpec := { name := "costWorst", fn := fun _ => fun
  | [d1, d2, d3, d4, d5] => { results := [.lit (.bool false)], args := [d1, d2, d3, d4, d5] }
  | _ => none }
def CostWorstWrongFalsely : Prop := costWorstRow.holds Try.pinned (OpenSpec.ofChange costWorstWrong)

/-- 'rollbacknetlaw38.CostBest': WHATEVER THE INPUT: true; the input reads as it did. -/
def costBestSpec : ChangeSpec := { name := "costBest", fn := fun _ => fun
  | [d1, d2, d3, d4] => { results := [.lit (.bool true)], args := [d1, d2, d3, d4] }
  | _ => none }
def costBestRow : OpenClaim := { program := "ytddcgholnhhcoaa", sum := "dc8b0a674f4cc32c89b373af8697ff94960b1d0d880895a817e58d85e2d4e649", func := "rollbacknet/rollbacknetlaw38.CostBest", spec := "costBest", unfollowed := true, recurses := true, apart := false }
def CostBestSaid : Prop := costBestRow.holds Try.pinned (OpenSpec.ofChange costBestSpec)

/-- ITS FALSE NEIGHBOUR: 'it returns false'. Refute it at one input. -/
def costBestWrong : ChangeSpec := { name := "costBest", fn := fun _ => fun
  | [d1, d2, d3, d4] => { results := [.lit (.bool false)], args := [d1, d2, d3, d4] }
  | _ => none }
def CostBestWrongFalsely : Prop := costBestRow.holds Try.pinned (OpenSpec.ofChange costBestWrong)

/-- 'rollbacknetlaw38.CostLeast': WHATEVER THE INPUT: true; the input reads as it did. -/
def costLeastSpec : ChangeSpec := { name := "costLeast", fn := fun _ => fun
  | [d] => { results := [.lit (.bool true)], args := [d] }
  | _ => none }
def costLeastRow : OpenClaim := { program := "ytddcgholnhhcoaa", sum := "dc8b0a674f4cc32c89b373af8697ff94960b1d0d880895a817e58d85e2d4e649", func := "rollbacknet/rollbacknetlaw38.CostLeast", spec := "costLeast", unfollowed := true, recurses := true, apart := false }
def CostLeastSaid : Prop := costLeastRow.holds Try.pinned (OpenSpec.ofChange costLeastSpec)

/-- ITS FALSE NEIGHBOUR: 'it returns false'. Refute it at one input. -/
def costLeastWrong : ChangeSpec := { name := "costLeast", fn := fun _ => fun
  | [d] => { results := [.lit (.bool false)], args := [d] }
  | _ => none }
def CostLeastWrongFalsely : Prop := costLeastRow.holds Try.pinned (OpenSpec.ofChange costLeastWrong)

/-- 'rollbacknetlaw38.CostFaults': WHATEVER THE INPUT: true; the input reads as it did. -/
def costFaultsSpec : ChangeSpec := { name := "costFaults", fn := fun _ => fun
  | [d1, d2] => { results := [.lit (.bool true)], args := [d1, d2] }
  | _ => none }
def costFaultsRow : OpenClaim := { program := "ytddcgholnhhcoaa", sum := "dc8b0a674f4cc32c89b373af8697ff94960b1d0d880895a817e58d85e2d4e649", func := "rollbacknet/rollbacknetlaw38.CostFaults", spec := "costFaults", unfollowed := true, recurses := true, apart := false }
def CostFaultsSaid : Prop := costFaultsRow.holds Try.pinned (OpenSpec.ofChange costFaultsSpec)

/-- ITS FALSE NEIGHBOUR: 'it returns false'. Refute it at one input. -/
def costFaultsWrong : ChangeSpec := { name := "costFaults", fn := fun _ => fun
  | [d1, d2] => { results := [.lit (.bool false)], args := [d1, d2] }
  | _ => none }
def CostFaultsWrongFalsely : Prop := costFaultsRow.holds Try.pinned (OpenSpec.ofChange costFaultsWrong)

/-- 'rollbacknetlaw38.CostExpects': WHATEVER THE INPUT: true; the input reads as it did. -/
def costExpectsSpec : ChangeSpec := { name := "costExpects", fn := fun _ => fun
  | [d1, d2, d3, d4] => { results := [.lit (.bool true)], args := [d1, d2, d3, d4] }
  | _ => none }
def costExpectsRow : OpenClaim := { program := "ytddcgholnhhcoaa", sum := "dc8b0a674f4cc32c89b373af8697ff94960b1d0d880895a817e58d85e2d4e649", func := "rollbacknet/rollbacknetlaw38.CostExpects", spec := "costExpects", unfollowed := true, recurses := true, apart := false }
def CostExpectsSaid : Prop := costExpectsRow.holds Try.pinned (OpenSpec.ofChange costExpectsSpec)

/-- ITS FALSE NEIGHBOUR: 'it returns false'. Refute it at one input. -/
def costExpectsWrong : ChangeSpec := { name := "costExpects", fn := fun _ => fun
  | [d1, d2, d3, d4] => { results := [.lit (.bool false)], args := [d1, d2, d3, d4] }
  | _ => none }
def CostExpectsWrongFalsely : Prop := costExpectsRow.holds Try.pinned (OpenSpec.ofChange costExpectsWrong)

/-- 'rollbacknetlaw38.CostBestInterval': WHATEVER THE INPUT: true; the input reads as it did. -/
def costBestIntervalSpec : ChangeSpec := { name := "costBestInterval", fn := fun _ => fun
  | [d1, d2, d3] => { results := [.lit (.bool true)], args := [d1, d2, d3] }
  | _ => none }
def costBestIntervalRow : OpenClaim := { program := "ytddcgholnhhcoaa", sum := "dc8b0a674f4cc32c89b373af8697ff94960b1d0d880895a817e58d85e2d4e649", func := "rollbacknet/rollbacknetlaw38.CostBestInterval", spec := "costBestInterval", unfollowed := true, recurses := true, apart := false }
def CostBestIntervalSaid : Prop := costBestIntervalRow.holds Try.pinned (OpenSpec.ofChange costBestIntervalSpec)

/-- ITS FALSE NEIGHBOUR: 'it returns false'. Refute it at one input. -/
def costBestIntervalWrong : ChangeSpec := { name := "costBestInterval", fn := fun _ => fun
  | [d1, d2, d3] => { results := [.lit (.bool false)], args := [d1, d2, d3] }
  | _ => none }
def CostBestIntervalWrongFalsely : Prop := costBestIntervalRow.holds Try.pinned (OpenSpec.ofChange costBestIntervalWrong)

/-- 'rollbacknetlaw38.CostCompares': WHATEVER THE INPUT: true; the input reads as it did. -/
def costComparesSpec : ChangeSpec := { name := "costCompares", fn := fun _ => fun
  | [d1, d2, d3] => { results := [.lit (.bool true)], args := [d1, d2, d3] }
  | _ => none }
def costComparesRow : OpenClaim := { program := "ytddcgholnhhcoaa", sum := "dc8b0a674f4cc32c89b373af8697ff94960b1d0d880895a817e58d85e2d4e649", func := "rollbacknet/rollbacknetlaw38.CostCompares", spec := "costCompares", unfollowed := true, recurses := true, apart := false }
def CostComparesSaid : Prop := costComparesRow.holds Try.pinned (OpenSpec.ofChange costComparesSpec)

/-- ITS FALSE NEIGHBOUR: 'it returns false'. Refute it at one input. -/
def costComparesWrong : ChangeSpec := { name := "costCompares", fn := fun _ => fun
  | [d1, d2, d3] => { results := [.lit (.bool false)], args := [d1, d2, d3] }
  | _ => none }
def CostComparesWrongFalsely : Prop := costComparesRow.holds Try.pinned (OpenSpec.ofChange costComparesWrong)

/-- 'rollbacknetlaw38.CostSteps': WHATEVER THE INPUT: true; the input reads as it did. -/
def costStepsSpec : ChangeSpec := { name := "costSteps", fn := fun _ => fun
  | [d1, d2, d3] => { results := [.lit (.bool true)], args := [d1, d2, d3] }
  | _ => none }
def costStepsRow : OpenClaim := { program := "ytddcgholnhhcoaa", sum := "dc8b0a674f4cc32c89b373af8697ff94960b1d0d880895a817e58d85e2d4e649", func := "rollbacknet/rollbacknetlaw38.CostSteps", spec := "costSteps", unfollowed := true, recurses := true, apart := false }
def CostStepsSaid : Prop := costStepsRow.holds Try.pinned (OpenSpec.ofChange costStepsSpec)

/-- ITS FALSE NEIGHBOUR: 'it returns false'. Refute it at one input. -/
def costStepsWrong : ChangeSpec := { name := "costSteps", fn := fun _ => fun
  | [d1, d2, d3] => { results := [.lit (.bool false)], args := [d1, d2, d3] }
  | _ => none }
def CostStepsWrongFalsely : Prop := costStepsRow.holds Try.pinned (OpenSpec.ofChange costStepsWrong)

/- THE SECOND FORM. 'bulk': how many values and letters a reading holds, each counted each time it is reached (what is shared counts as often as it is met; a slice's spare places count too). A statement '..UptoSaid' is the law's where the arguments, and the package variables that the reading takes, are together of bulk at most 1048576: NARROWER than '..Said'. Prove '..Said' where nothing that the law and all that it calls make is longer than what came in: it says more and counts as full. Else prove '..UptoSaid'. A law counts once. -/
mutual
def uptoBulk {H : Type} : DataW H → Nat
  | .lit (.string bytes) => bytes.length + 1
  | .lit _ => 1
  | .nil => 1
  | .ptr d => uptoBulk d + 1
  | .slice elems spare => uptoBulkAll elems + uptoBulkAll spare + 1
  | .agg parts => uptoBulkAll parts + 1
  | .iface _ d => uptoBulk d + 1
  | .map entries => uptoBulkEntries entries + 1
  | .held _ => 1
def uptoBulkAll {H : Type} : List (DataW H) → Nat
  | [] => 0
  | d :: r => uptoBulk d + uptoBulkAll r
def uptoBulkEntries {H : Type} : List (Lit × DataW H) → Nat
  | [] => 0
  | x :: r => uptoBulkEntry x + uptoBulkEntries r
def uptoBulkEntry {H : Type} : Lit × DataW H → Nat
  | (.string bytes, d) => bytes.length + uptoBulk d + 1
  | (_, d) => uptoBulk d + 1
 end
def uptoSmall : (H : Type) → List (DataW H) → Bool := fun _ ds => decide (uptoBulkAll ds ≤ 1048576)
def OpenSpec.upto (s : _root_.Go.ChangeSpec) : _root_.Go.OpenSpec := { _root_.Go.OpenSpec.ofChange s with cond := some uptoSmall }

/-- 'rollbacknetlaw38.CostIntervals', WHERE WHAT IT READS IS OF BULK AT MOST 1048576: true; the input reads as it did. -/
def costIntervalsUptoRow : OpenClaim := { program := "ytddcgholnhhcoaa", sum := "dc8b0a674f4cc32c89b373af8697ff94960b1d0d880895a817e58d85e2d4e649", func := "rollbacknet/rollbacknetlaw38.CostIntervals", spec := "costIntervals", unfollowed := true, recurses := true, apart := false, narrowed := true }
def CostIntervalsUptoSaid : Prop := costIntervalsUptoRow.holds Try.pinned (OpenSpec.upto costIntervalsSpec)

/-- 'rollbacknetlaw38.CostOverheads', WHERE WHAT IT READS IS OF BULK AT MOST 1048576: true; the input reads as it did. -/
def costOverheadsUptoRow : OpenClaim := { program := "ytddcgholnhhcoaa", sum := "dc8b0a674f4cc32c89b373af8697ff94960b1d0d880895a817e58d85e2d4e649", func := "rollbacknet/rollbacknetlaw38.CostOverheads", spec := "costOverheads", unfollowed := true, recurses := true, apart := false, narrowed := true }
def CostOverheadsUptoSaid : Prop := costOverheadsUptoRow.holds Try.pinned (OpenSpec.upto costOverheadsSpec)

/-- 'rollbacknetlaw38.CostWorst', WHERE WHAT IT READS IS OF BULK AT MOST 1048576: true; the input reads as it did. -/
def costWorstUptoRow : OpenClaim := { program := "ytddcgholnhhcoaa", sum := "dc8b0a674f4cc32c89b373af8697ff94960b1d0d880895a817e58d85e2d4e649", func := "rollbacknet/rollbacknetlaw38.CostWorst", spec := "costWorst", unfollowed := true, recurses := true, apart := false, narrowed := true }
def CostWorstUptoSaid : Prop := costWorstUptoRow.holds Try.pinned (OpenSpec.upto costWorstSpec)

/-- 'rollbacknetlaw38.CostBest', WHERE WHAT IT READS IS OF BULK AT MOST 1048576: true; the input reads as it did. -/
def costBestUptoRow : OpenClaim := { program := "ytddcgholnhhcoaa", sum := "dc8b0a674f4cc32c89b373af8697ff94960b1d0d880895a817e58d85e2d4e649", func := "rollbacknet/rollbacknetlaw38.CostBest", spec := "costBest", unfollowed := true, recurses := true, apart := false, narrowed := true }
def CostBestUptoSaid : Prop := costBestUptoRow.holds Try.pinned (OpenSpec.upto costBestSpec)

/-- 'rollbacknetlaw38.CostLeast', WHERE WHAT IT READS IS OF BULK AT MOST 1048576: true; the input reads as it did. -/
def costLeastUptoRow : OpenClaim := { program := "ytddcgholnhhcoaa", sum := "dc8b0a674f4cc32c89b373af8697ff94960b1d0d880895a817e58d85e2d4e649", func := "rollbacknet/rollbacknetlaw38.CostLeast", spec := "costLeast", unfollowed := true, recurses := true, apart := false, narrowed := true }
def CostLeastUptoSaid : Prop := costLeastUptoRow.holds Try.pinned (OpenSpec.upto costLeastSpec)

/-- 'rollbacknetlaw38.CostFaults', WHERE WHAT IT READS IS OF BULK AT MOST 1048576: true; the input reads as it did. -/
def costFaultsUptoRow : OpenClaim := { program := "ytddcgholnhhcoaa", sum := "dc8b0a674f4cc32c89b373af8697ff94960b1d0d880895a817e58d85e2d4e649", func := "rollbacknet/rollbacknetlaw38.CostFaults", spec := "costFaults", unfollowed := true, recurses := true, apart := false, narrowed := true }
def CostFaultsUptoSaid : Prop := costFaultsUptoRow.holds Try.pinned (OpenSpec.upto costFaultsSpec)

/-- 'rollbacknetlaw38.CostExpects', WHERE WHAT IT READS IS OF BULK AT MOST 1048576: true; the input reads as it did. -/
def costExpectsUptoRow : OpenClaim := { program := "ytddcgholnhhcoaa", sum := "dc8b0a674f4cc32c89b373af8697ff94960b1d0d880895a817e58d85e2d4e649", func := "rollbacknet/rollbacknetlaw38.CostExpects", spec := "costExpects", unfollowed := true, recurses := true, apart := false, narrowed := true }
def CostExpectsUptoSaid : Prop := costExpectsUptoRow.holds Try.pinned (OpenSpec.upto costExpectsSpec)

/-- 'rollbacknetlaw38.CostBestInterval', WHERE WHAT IT READS IS OF BULK AT MOST 1048576: true; the input reads as it did. -/
def costBestIntervalUptoRow : OpenClaim := { program := "ytddcgholnhhcoaa", sum := "dc8b0a674f4cc32c89b373af8697ff94960b1d0d880895a817e58d85e2d4e649", func := "rollbacknet/rollbacknetlaw38.CostBestInterval", spec := "costBestInterval", unfollowed := true, recurses := true, apart := false, narrowed := true }
def CostBestIntervalUptoSaid : Prop := costBestIntervalUptoRow.holds Try.pinned (OpenSpec.upto costBestIntervalSpec)

/-- 'rollbacknetlaw38.CostCompares', WHERE WHAT IT READS IS OF BULK AT MOST 1048576: true; the input reads as it did. -/
def costComparesUptoRow : OpenClaim := { program := "ytddcgholnhhcoaa", sum := "dc8b0a674f4cc32c89b373af8697ff94960b1d0d880895a817e58d85e2d4e649", func := "rollbacknet/rollbacknetlaw38.CostCompares", spec := "costCompares", unfollowed := true, recurses := true, apart := false, narrowed := true }
def CostComparesUptoSaid : Prop := costComparesUptoRow.holds Try.pinned (OpenSpec.upto costComparesSpec)

/-- 'rollbacknetlaw38.CostSteps', WHERE WHAT IT READS IS OF BULK AT MOST 1048576: true; the input reads as it did. -/
def costStepsUptoRow : OpenClaim := { program := "ytddcgholnhhcoaa", sum := "dc8b0a674f4cc32c89b373af8697ff94960b1d0d880895a817e58d85e2d4e649", func := "rollbacknet/rollbacknetlaw38.CostSteps", spec := "costSteps", unfollowed := true, recurses := true, apart := false, narrowed := true }
def CostStepsUptoSaid : Prop := costStepsUptoRow.holds Try.pinned (OpenSpec.upto costStepsSpec)

end Rows
end Go.Proofs.Ytddcgholnhhcoaa
