/-
  No cell of these rows narrows 'for every input' (looked for: loops, veiled, ifaces, maps, wideKeys, modest, calm, conditions, laid).
  DERIVED. THE GIVEN ROWS OF THIS SEAT. 9 by the template 'for every input the law returns true; each argument reads behind the call as it read before'; 0 by the template 'total and deterministic' (their statements: YthadaahemhamdaaTotals.lean).
  GIVEN WITH THE SEED: the statements are not yours to turn. If you find one false, say at which input.
  Laid BY PROGRAM, IN A SANDBOX (cutbox-rows.mjs): the forced cells as the released guide's own fill.sh prints them over the translation 8652b00bc9c4c15b… (all of the seat's roots in one cut). By AI agents, Wed Nov 11 2026. No macro, syntax, notation, axiom, sorry.
-/
import Derived.Test.YthadaahemhamdaaChecked
import GoSem.Claim
import GoSem.ClaimJoined
import GoSem.ClaimMapViews
import Derived.JoinedTies
import Derived.KernelRfl
namespace Go.Proofs.Ythadaahemhamdaa
/- THE CELL 'sum', in the pinned program and in every row, IS THE sha256 OF THE DUMP (.gsa) THAT YthadaahemhamdaaProg.lean LOADS. Nothing in Lean hashes anything: it is a label: what it is worth is what the hold of that sum in a sandbox is worth. -/
noncomputable def Try.pinned : Pinned := { name := "ythadaahemhamdaa", sum := "8652b00bc9c4c15b33e8f7a876a597d33452de138d81b9b47f5af00c853ca5af", checked := Try.checked }
namespace Rows
def none {H : Type} : Left H := { results := [], args := [] }

/-- 'rollbacknetlaw27.DeterminantRestores': WHATEVER THE INPUT: true; the input reads as it did. -/
def determinantRestoresSpec : ChangeSpec := { name := "determinantRestores", fn := fun _ => fun
  | [d1, d2, d3, d4, d5] => { results := [.lit (.bool true)], args := [d1, d2, d3, d4, d5] }
  | _ => none }
def determinantRestoresRow : OpenClaim := { program := "ythadaahemhamdaa", sum := "8652b00bc9c4c15b33e8f7a876a597d33452de138d81b9b47f5af00c853ca5af", func := "rollbacknet/rollbacknetlaw27.DeterminantRestores", spec := "determinantRestores", plainKeys := false, apart := false }
def DeterminantRestoresSaid : Prop := determinantRestoresRow.holds Try.pinned (OpenSpec.ofChange determinantRestoresSpec)

/-- ITS FALSE NEIGHBOUR: 'it returns false'. Refute it at one input. -/
def determinantRestoresWrong : ChangeSpec := { name := "determinantRestores", fn := fun _ => fun
  | [d1, d2, d3, d4, d5] => { results := [.lit (.bool false)], args := [d1, d2, d3, d4, d5] }
  | _ => none }
def DeterminantRestoresWrongFalsely : Prop := determinantRestoresRow.holds Try.pinned (OpenSpec.ofChange determinantRestoresWrong)

/-- 'rollbacknetlaw27.DeterminantCompares': WHATEVER THE INPUT: true; the input reads as it did. -/
def determinantComparesSpec : ChangeSpec := { name := "determinantCompares", fn := fun _ => fun
  | [d1, d2, d3, d4] => { results := [.lit (.bool true)], args := [d1, d2, d3, d4] }
  | _ => none }
def determinantComparesRow : OpenClaim := { program := "ythadaahemhamdaa", sum := "8652b00bc9c4c15b33e8f7a876a597d33452de138d81b9b47f5af00c853ca5af", func := "rollbacknet/rollbacknetlaw27.DeterminantCompares", spec := "determinantCompares", plainKeys := false, apart := false }
def DeterminantComparesSaid : Prop := determinantComparesRow.holds Try.pinned (OpenSpec.ofChange determinantComparesSpec)

/-- ITS FALSE NEIGHBOUR: 'it returns false'. Refute it at one input. -/
def determinantComparesWrong : ChangeSpec := { name := "determinantCompares", fn := fun _ => fun
  | [d1, d2, d3, d4] => { results := [.lit (.bool false)], args := [d1, d2, d3, d4] }
  | _ => none }
def DeterminantComparesWrongFalsely : Prop := determinantComparesRow.holds Try.pinned (OpenSpec.ofChange determinantComparesWrong)

/-- 'rollbacknetlaw27.DeterminantChains': WHATEVER THE INPUT: true; the input reads as it did. -/
def determinantChainsSpec : ChangeSpec := { name := "determinantChains", fn := fun _ => fun
  | [d1, d2, d3, d4, d5] => { results := [.lit (.bool true)], args := [d1, d2, d3, d4, d5] }
  | _ => none }
def determinantChainsRow : OpenClaim := { program := "ythadaahemhamdaa", sum := "8652b00bc9c4c15b33e8f7a876a597d33452de138d81b9b47f5af00c853ca5af", func := "rollbacknet/rollbacknetlaw27.DeterminantChains", spec := "determinantChains", plainKeys := false, apart := false }
def DeterminantChainsSaid : Prop := determinantChainsRow.holds Try.pinned (OpenSpec.ofChange determinantChainsSpec)

/-- ITS FALSE NEIGHBOUR: 'it returns false'. Refute it at one input. -/
def determinantChainsWrong : ChangeSpec := { name := "determinantChains", fn := fun _ => fun
  | [d1, d2, d3, d4, d5] => { results := [.lit (.bool false)], args := [d1, d2, d3, d4, d5] }
  | _ => none }
def DeterminantChainsWrongFalsely : Prop := determinantChainsRow.holds Try.pinned (OpenSpec.ofChange determinantChainsWrong)

/-- 'rollbacknetlaw27.DeterminantMerges': WHATEVER THE INPUT: true; the input reads as it did. -/
def determinantMergesSpec : ChangeSpec := { name := "determinantMerges", fn := fun _ => fun
  | [d1, d2, d3] => { results := [.lit (.bool true)], args := [d1, d2, d3] }
  | _ => none }
def determinantMergesRow : OpenClaim := { program := "ythadaahemhamdaa", sum := "8652b00bc9c4c15b33e8f7a876a597d33452de138d81b9b47f5af00c853ca5af", func := "rollbacknet/rollbacknetlaw27.DeterminantMerges", spec := "determinantMerges", unfollowed := true, recurses := true, plainKeys := false, apart := false }
def DeterminantMergesSaid : Prop := determinantMergesRow.holds Try.pinned (OpenSpec.ofChange determinantMergesSpec)

/-- ITS FALSE NEIGHBOUR: 'it returns false'. Refute it at one input. -/
def determinantMergesWrong : ChangeSpec := { name := "determinantMerges", fn := fun _ => fun
  | [d1, d2, d3] => { results := [.lit (.bool false)], args := [d1, d2, d3] }
  | _ => none }
def DeterminantMergesWrongFalsely : Prop := determinantMergesRow.holds Try.pinned (OpenSpec.ofChange determinantMergesWrong)

/-- 'rollbacknetlaw27.DeterminantGrows': WHATEVER THE INPUT: true; the input reads as it did. -/
def determinantGrowsSpec : ChangeSpec := { name := "determinantGrows", fn := fun _ => fun
  | [d1, d2, d3] => { results := [.lit (.bool true)], args := [d1, d2, d3] }
  | _ => none }
def determinantGrowsRow : OpenClaim := { program := "ythadaahemhamdaa", sum := "8652b00bc9c4c15b33e8f7a876a597d33452de138d81b9b47f5af00c853ca5af", func := "rollbacknet/rollbacknetlaw27.DeterminantGrows", spec := "determinantGrows", unfollowed := true, recurses := true, plainKeys := false, apart := false }
def DeterminantGrowsSaid : Prop := determinantGrowsRow.holds Try.pinned (OpenSpec.ofChange determinantGrowsSpec)

/-- ITS FALSE NEIGHBOUR: 'it returns false'. Refute it at one input. -/
def determinantGrowsWrong : ChangeSpec := { name := "determinantGrows", fn := fun _ => fun
  | [d1, d2, d3] => { results := [.lit (.bool false)], args := [d1, d2, d3] }
  | _ => none }
def DeterminantGrowsWrongFalsely : Prop := determinantGrowsRow.holds Try.pinned (OpenSpec.ofChange determinantGrowsWrong)

/-- 'rollbacknetlaw27.DeterminantIntervals': WHATEVER THE INPUT: true; the input reads as it did. -/
def determinantIntervalsSpec : ChangeSpec := { name := "determinantIntervals", fn := fun _ => fun
  | [d] => { results := [.lit (.bool true)], args := [d] }
  | _ => none }
def determinantIntervalsRow : OpenClaim := { program := "ythadaahemhamdaa", sum := "8652b00bc9c4c15b33e8f7a876a597d33452de138d81b9b47f5af00c853ca5af", func := "rollbacknet/rollbacknetlaw27.DeterminantIntervals", spec := "determinantIntervals", unfollowed := true, recurses := true, plainKeys := false, apart := false }
def DeterminantIntervalsSaid : Prop := determinantIntervalsRow.holds Try.pinned (OpenSpec.ofChange determinantIntervalsSpec)

/-- ITS FALSE NEIGHBOUR: 'it returns false'. Refute it at one input. -/
def determinantIntervalsWrong : ChangeSpec := { name := "determinantIntervals", fn := fun _ => fun
  | [d] => { results := [.lit (.bool false)], args := [d] }
  | _ => none }
def DeterminantIntervalsWrongFalsely : Prop := determinantIntervalsRow.holds Try.pinned (OpenSpec.ofChange determinantIntervalsWrong)

/-- 'rollbacknetlaw27.DeterminantParts': WHATEVER THE INPUT: true; the input reads as it did. -/
def determinantPartsSpec : ChangeSpec := { name := "determinantParts", fn := fun _ => fun
  | [d1, d2, d3] => { results := [.lit (.bool true)], args := [d1, d2, d3] }
  | _ => none }
def determinantPartsRow : OpenClaim := { program := "ythadaahemhamdaa", sum := "8652b00bc9c4c15b33e8f7a876a597d33452de138d81b9b47f5af00c853ca5af", func := "rollbacknet/rollbacknetlaw27.DeterminantParts", spec := "determinantParts", unfollowed := true, recurses := true, plainKeys := false, apart := false }
def DeterminantPartsSaid : Prop := determinantPartsRow.holds Try.pinned (OpenSpec.ofChange determinantPartsSpec)

/-- ITS FALSE NEIGHBOUR: 'it returns false'. Refute it at one input. -/
def determinantPartsWrong : ChangeSpec := { name := "determinantParts", fn := fun _ => fun
  | [d1, d2, d3] => { results := [.lit (.bool false)], args := [d1, d2, d3] }
  | _ => none }
def DeterminantPartsWrongFalsely : Prop := determinantPartsRow.holds Try.pinned (OpenSpec.ofChange determinantPartsWrong)

/-- 'rollbacknetlaw27.DeterminantLists': WHATEVER THE INPUT: true; the input reads as it did. -/
def determinantListsSpec : ChangeSpec := { name := "determinantLists", fn := fun _ => fun
  | [d1, d2, d3, d4, d5] => { results := [.lit (.bool true)], args := [d1, d2, d3, d4, d5] }
  | _ => none }
def determinantListsRow : OpenClaim := { program := "ythadaahemhamdaa", sum := "8652b00bc9c4c15b33e8f7a876a597d33452de138d81b9b47f5af00c853ca5af", func := "rollbacknet/rollbacknetlaw27.DeterminantLists", spec := "determinantLists", unfollowed := true, recurses := true, plainKeys := false, apart := false }
def DeterminantListsSaid : Prop := determinantListsRow.holds Try.pinned (OpenSpec.ofChange determinantListsSpec)

/-- ITS FALSE NEIGHBOUR: 'it returns false'. Refute it at one input. -/
def determinantListsWrong : ChangeSpec := { name := "determinantLists", fn := fun _ => fun
  | [d1, d2, d3, d4, d5] => { results := [.lit (.bool false)], args := [d1, d2, d3, d4, d5] }
  | _ => none }
def DeterminantListsWrongFalsely : Prop := determinantListsRow.holds Try.pinned (OpenSpec.ofChange determinantListsWrong)

/-- 'rollbacknetlaw27.DeterminantUnions': WHATEVER THE INPUT: true; the input reads as it did. -/
def determinantUnionsSpec : ChangeSpec := { name := "determinantUnions", fn := fun _ => fun
  | [d1, d2] => { results := [.lit (.bool true)], args := [d1, d2] }
  | _ => none }
def determinantUnionsRow : OpenClaim := { program := "ythadaahemhamdaa", sum := "8652b00bc9c4c15b33e8f7a876a597d33452de138d81b9b47f5af00c853ca5af", func := "rollbacknet/rollbacknetlaw27.DeterminantUnions", spec := "determinantUnions", unfollowed := true, recurses := true, plainKeys := false, apart := false }
def DeterminantUnionsSaid : Prop := determinantUnionsRow.holds Try.pinned (OpenSpec.ofChange determinantUnionsSpec)

/-- ITS FALSE NEIGHBOUR: 'it returns false'. Refute it at one input. -/
def determinantUnionsWrong : ChangeSpec := { name := "determinantUnions", fn := fun _ => fun
  | [d1, d2] => { results := [.lit (.bool false)], args := [d1, d2] }
  | _ => none }
def DeterminantUnionsWrongFalsely : Prop := determinantUnionsRow.holds Try.pinned (OpenSpec.ofChange determinantUnionsWrong)

/- THE SECOND FORM. 'bulk': how many values and letters a reading holds, each counted each time it is reached (what is shared counts as often as it is met; a slice's spare places count too). A statement '..UptoSaid' is the law's where the arguments, and the package variables that the reading takes, are together of bulk at most 1048576: NARROWER than '..Said'. Prove '..Said' where nothing that the law and all that it calls make is longer than what came in: it says more and counts as full. Else prove '..UptoSaid'. A law counts once. -/
mutual
def uptoBulk {H : Type} : DataW H → Nat
  | .lit (.string bytes) => bytes.length + 1
  | .lit _ => 1
  | .nil => 1
  | .ptr d => uptoBulk d + 1
  | .slice elems spare => uptoBulkAll elems + uptoBulkAll spare + 1
  | .agg parts => uptoBulkAll parts + 1
  | .iface _ d => uptoBulk d + 1
  | .map entries => uptoBulkEntries entries + 1
  | .held _ => 1
def uptoBulkAll {H : Type} : List (DataW H) → Nat
  | [] => 0
  | d :: r => uptoBulk d + uptoBulkAll r
def uptoBulkEntries {H : Type} : List (Lit × DataW H) → Nat
  | [] => 0
  | x :: r => uptoBulkEntry x + uptoBulkEntries r
def uptoBulkEntry {H : Type} : Lit × DataW H → Nat
  | (.string bytes, d) => bytes.length + uptoBulk d + 1
  | (_, d) => uptoBulk d + 1
 end
def uptoSmall : (H : Type) → List (DataW H) → Bool := fun _ ds => decide (uptoBulkAll ds ≤ 1048576)
def OpenSpec.upto (s : _root_.Go.ChangeSpec) : _root_.Go.OpenSpec := { _root_.Go.OpenSpec.ofChange s with cond := some uptoSmall }

/-- 'rollbacknetlaw27.DeterminantRestores', WHERE WHAT IT READS IS OF BULK AT MOST 1048576: true; the input reads as it did. -/
def determinantRestoresUptoRow : OpenClaim := { program := "ythadaahemhamdaa", sum := "8652b00bc9c4c15b33e8f7a876a597d33452de138d81b9b47f5af00c853ca5af", func := "rollbacknet/rollbacknetlaw27.DeterminantRestores", spec := "determinantRestores", plainKeys := false, apart := false, narrowed := true }
def DeterminantRestoresUptoSaid : Prop := determinantRestoresUptoRow.holds Try.pinned (OpenSpec.upto determinantRestoresSpec)

/-- 'rollbacknetlaw27.DeterminantCompares', WHERE WHAT IT READS IS OF BULK AT MOST 1048576: true; the input reads as it did. -/
def determinantComparesUptoRow : OpenClaim := { program := "ythadaahemhamdaa", sum := "8652b00bc9c4c15b33e8f7a876a597d33452de138d81b9b47f5af00c853ca5af", func := "rollbacknet/rollbacknetlaw27.DeterminantCompares", spec := "determinantCompares", plainKeys := false, apart := false, narrowed := true }
def DeterminantComparesUptoSaid : Prop := determinantComparesUptoRow.holds Try.pinned (OpenSpec.upto determinantComparesSpec)

/-- 'rollbacknetlaw27.DeterminantChains', WHERE WHAT IT READS IS OF BULK AT MOST 1048576: true; the input reads as it did. -/
def determinantChainsUptoRow : OpenClaim := { program := "ythadaahemhamdaa", sum := "8652b00bc9c4c15b33e8f7a876a597d33452de138d81b9b47f5af00c853ca5af", func := "rollbacknet/rollbacknetlaw27.DeterminantChains", spec := "determinantChains", plainKeys := false, apart := false, narrowed := true }
def DeterminantChainsUptoSaid : Prop := determinantChainsUptoRow.holds Try.pinned (OpenSpec.upto determinantChainsSpec)

/-- 'rollbacknetlaw27.DeterminantMerges', WHERE WHAT IT READS IS OF BULK AT MOST 1048576: true; the input reads as it did. -/
def determinantMergesUptoRow : OpenClaim := { program := "ythadaahemhamdaa", sum := "8652b00bc9c4c15b33e8f7a876a597d33452de138d81b9b47f5af00c853ca5af", func := "rollbacknet/rollbacknetlaw27.DeterminantMerges", spec := "determinantMerges", unfollowed := true, recurses := true, plainKeys := false, apart := false, narrowed := true }
def DeterminantMergesUptoSaid : Prop := determinantMergesUptoRow.holds Try.pinned (OpenSpec.upto determinantMergesSpec)

/-- 'rollbacknetlaw27.DeterminantGrows', WHERE WHAT IT READS IS OF BULK AT MOST 1048576: true; the input reads as it did. -/
def determinantGrowsUptoRow : OpenClaim := { program := "ythadaahemhamdaa", sum := "8652b00bc9c4c15b33e8f7a876a597d33452de138d81b9b47f5af00c853ca5af", func := "rollbacknet/rollbacknetlaw27.DeterminantGrows", spec := "determinantGrows", unfollowed := true, recurses := true, plainKeys := false, apart := false, narrowed := true }
def DeterminantGrowsUptoSaid : Prop := determinantGrowsUptoRow.holds Try.pinned (OpenSpec.upto determinantGrowsSpec)

/-- 'rollbacknetlaw27.DeterminantIntervals', WHERE WHAT IT READS IS OF BULK AT MOST 1048576: true; the input reads as it did. -/
def determinantIntervalsUptoRow : OpenClaim := { program := "ythadaahemhamdaa", sum := "8652b00bc9c4c15b33e8f7a876a597d33452de138d81b9b47f5af00c853ca5af", func := "rollbacknet/rollbacknetlaw27.DeterminantIntervals", spec := "determinantIntervals", unfollowed := true, recurses := true, plainKeys := false, apart := false, narrowed := true }
def DeterminantIntervalsUptoSaid : Prop := determinantIntervalsUptoRow.holds Try.pinned (OpenSpec.upto determinantIntervalsSpec)

/-- 'rollbacknetlaw27.DeterminantParts', WHERE WHAT IT READS IS OF BULK AT MOST 1048576: true; the input reads as it did. -/
def determinantPartsUptoRow : OpenClaim := { program := "ythadaahemhamdaa", sum := "8652b00bc9c4c15b33e8f7a876a597d33452de138d81b9b47f5af00c853ca5af", func := "rollbacknet/rollbacknetlaw27.DeterminantParts", spec := "determinantParts", unfollowed := true, recurses := true, plainKeys := false, apart := false, narrowed := true }
def DeterminantPartsUptoSaid : Prop := determinantPartsUptoRow.holds Try.pinned (OpenSpec.upto determinantPartsSpec)

/-- 'rollbacknetlaw27.DeterminantLists', WHERE WHAT IT READS IS OF BULK AT MOST 1048576: true; the input reads as it did. -/
def determinantListsUptoRow : OpenClaim := { program := "ythadaahemhamdaa", sum := "8652b00bc9c4c15b33e8f7a876a597d33452de138d81b9b47f5af00c853ca5af", func := "rollbacknet/rollbacknetlaw27.DeterminantLists", spec := "determinantLists", unfollowed := true, recurses := true, plainKeys := false, apart := false, narrowed := true }
def DeterminantListsUptoSaid : Prop := determinantListsUptoRow.holds Try.pinned (OpenSpec.upto determinantListsSpec)

/-- 'rollbacknetlaw27.DeterminantUnions', WHERE WHAT IT READS IS OF BULK AT MOST 1048576: true; the input reads as it did. -/
def determinantUnionsUptoRow : OpenClaim := { program := "ythadaahemhamdaa", sum := "8652b00bc9c4c15b33e8f7a876a597d33452de138d81b9b47f5af00c853ca5af", func := "rollbacknet/rollbacknetlaw27.DeterminantUnions", spec := "determinantUnions", unfollowed := true, recurses := true, plainKeys := false, apart := false, narrowed := true }
def DeterminantUnionsUptoSaid : Prop := determinantUnionsUptoRow.holds Try.pinned (OpenSpec.upto determinantUnionsSpec)

end Rows
end Go.Proofs.Ythadaahemhamdaa
