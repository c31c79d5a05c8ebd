/-
  No cell of these rows narrows 'for every input' (looked for: loops, veiled, ifaces, maps, wideKeys, modest, calm, conditions, laid).
  DERIVED. THE GIVEN ROWS OF THIS SEAT. 9 by the template 'for every input the law returns true; each argument reads behind the call as it read before'; 0 by the template 'total and deterministic' (their statements: YtfnnoncdocghjaaTotals.lean).
  GIVEN WITH THE SEED: the statements are not yours to turn. If you find one false, say at which input.
  Laid BY PROGRAM, IN A SANDBOX (cutbox-rows.mjs): the forced cells as the released guide's own fill.sh prints them over the translation a1bae1e9318cfbf4… (all of the seat's roots in one cut). By AI agents, Wed Nov 11 2026. No macro, syntax, notation, axiom, sorry.
-/
import Derived.Test.YtfnnoncdocghjaaChecked
import GoSem.Claim
import GoSem.ClaimJoined
import GoSem.ClaimMapViews
import Derived.JoinedTies
import Derived.KernelRfl
namespace Go.Proofs.Ytfnnoncdocghjaa
/- THE CELL 'sum', in the pinned program and in every row, IS THE sha256 OF THE DUMP (.gsa) THAT YtfnnoncdocghjaaProg.lean LOADS. Nothing in Lean hashes anything: it is a label: what it is worth is what the hold of that sum in a sandbox is worth. -/
noncomputable def Try.pinned : Pinned := { name := "ytfnnoncdocghjaa", sum := "a1bae1e9318cfbf42bb5f24c7a301194aaba976a1a0485c1e30dfc87ed4b9f76", checked := Try.checked }
namespace Rows
def none {H : Type} : Left H := { results := [], args := [] }

/-- 'rollbacknetlaw28.KnowledgeCounts': WHATEVER THE INPUT: true; the input reads as it did. -/
def knowledgeCountsSpec : ChangeSpec := { name := "knowledgeCounts", fn := fun _ => fun
  | [d1, d2] => { results := [.lit (.bool true)], args := [d1, d2] }
  | _ => none }
def knowledgeCountsRow : OpenClaim := { program := "ytfnnoncdocghjaa", sum := "a1bae1e9318cfbf42bb5f24c7a301194aaba976a1a0485c1e30dfc87ed4b9f76", func := "rollbacknet/rollbacknetlaw28.KnowledgeCounts", spec := "knowledgeCounts", unfollowed := true, recurses := true, apart := false }
def KnowledgeCountsSaid : Prop := knowledgeCountsRow.holds Try.pinned (OpenSpec.ofChange knowledgeCountsSpec)

/-- ITS FALSE NEIGHBOUR: 'it returns false'. Refute it at one input. -/
def knowledgeCountsWrong : ChangeSpec := { name := "knowledgeCounts", fn := fun _ => fun
  | [d1, d2] => { results := [.lit (.bool false)], args := [d1, d2] }
  | _ => none }
def KnowledgeCountsWrongFalsely : Prop := knowledgeCountsRow.holds Try.pinned (OpenSpec.ofChange knowledgeCountsWrong)

/-- 'rollbacknetlaw28.KnowledgeMemories': WHATEVER THE INPUT: true; the input reads as it did. -/
def knowledgeMemoriesSpec : ChangeSpec := { name := "knowledgeMemories", fn := fun _ => fun
  | [d1, d2, d3, d4, d5] => { results := [.lit (.bool true)], args := [d1, d2, d3, d4, d5] }
  | _ => none }
def knowledgeMemoriesRow : OpenClaim := { program := "ytfnnoncdocghjaa", sum := "a1bae1e9318cfbf42bb5f24c7a301194aaba976a1a0485c1e30dfc87ed4b9f76", func := "rollbacknet/rollbacknetlaw28.KnowledgeMemories", spec := "knowledgeMemories", unfollowed := true, recurses := true, apart := false }
def KnowledgeMemoriesSaid : Prop := knowledgeMemoriesRow.holds Try.pinned (OpenSpec.ofChange knowledgeMemoriesSpec)

/-- ITS FALSE NEIGHBOUR: 'it returns false'. Refute it at one input. -/
def knowledgeMemoriesWrong : ChangeSpec := { name := "knowledgeMemories", fn := fun _ => fun
  | [d1, d2, d3, d4, d5] => { results := [.lit (.bool false)], args := [d1, d2, d3, d4, d5] }
  | _ => none }
def KnowledgeMemoriesWrongFalsely : Prop := knowledgeMemoriesRow.holds Try.pinned (OpenSpec.ofChange knowledgeMemoriesWrong)

/-- 'rollbacknetlaw28.KnowledgePlays': WHATEVER THE INPUT: true; the input reads as it did. -/
def knowledgePlaysSpec : ChangeSpec := { name := "knowledgePlays", fn := fun _ => fun
  | [d1, d2, d3, d4] => { results := [.lit (.bool true)], args := [d1, d2, d3, d4] }
  | _ => none }
def knowledgePlaysRow : OpenClaim := { program := "ytfnnoncdocghjaa", sum := "a1bae1e9318cfbf42bb5f24c7a301194aaba976a1a0485c1e30dfc87ed4b9f76", func := "rollbacknet/rollbacknetlaw28.KnowledgePlays", spec := "knowledgePlays", unfollowed := true, recurses := true, apart := false }
def KnowledgePlaysSaid : Prop := knowledgePlaysRow.holds Try.pinned (OpenSpec.ofChange knowledgePlaysSpec)

/-- ITS FALSE NEIGHBOUR: 'it returns false'. Refute it at one input. -/
def knowledgePlaysWrong : ChangeSpec := { name := "knowledgePlays", fn := fun _ => fun
  | [d1, d2, d3, d4] => { results := [.lit (.bool false)], args := [d1, d2, d3, d4] }
  | _ => none }
def KnowledgePlaysWrongFalsely : Prop := knowledgePlaysRow.holds Try.pinned (OpenSpec.ofChange knowledgePlaysWrong)

/-- 'rollbacknetlaw28.KnowledgeBelieves': WHATEVER THE INPUT: true; the input reads as it did. -/
def knowledgeBelievesSpec : ChangeSpec := { name := "knowledgeBelieves", fn := fun _ => fun
  | [d] => { results := [.lit (.bool true)], args := [d] }
  | _ => none }
def knowledgeBelievesRow : OpenClaim := { program := "ytfnnoncdocghjaa", sum := "a1bae1e9318cfbf42bb5f24c7a301194aaba976a1a0485c1e30dfc87ed4b9f76", func := "rollbacknet/rollbacknetlaw28.KnowledgeBelieves", spec := "knowledgeBelieves", unfollowed := true, recurses := true, apart := false }
def KnowledgeBelievesSaid : Prop := knowledgeBelievesRow.holds Try.pinned (OpenSpec.ofChange knowledgeBelievesSpec)

/-- ITS FALSE NEIGHBOUR: 'it returns false'. Refute it at one input. -/
def knowledgeBelievesWrong : ChangeSpec := { name := "knowledgeBelieves", fn := fun _ => fun
  | [d] => { results := [.lit (.bool false)], args := [d] }
  | _ => none }
def KnowledgeBelievesWrongFalsely : Prop := knowledgeBelievesRow.holds Try.pinned (OpenSpec.ofChange knowledgeBelievesWrong)

/-- 'rollbacknetlaw28.KnowledgeReplicates': WHATEVER THE INPUT: true; the input reads as it did. -/
def knowledgeReplicatesSpec : ChangeSpec := { name := "knowledgeReplicates", fn := fun _ => fun
  | [d] => { results := [.lit (.bool true)], args := [d] }
  | _ => none }
def knowledgeReplicatesRow : OpenClaim := { program := "ytfnnoncdocghjaa", sum := "a1bae1e9318cfbf42bb5f24c7a301194aaba976a1a0485c1e30dfc87ed4b9f76", func := "rollbacknet/rollbacknetlaw28.KnowledgeReplicates", spec := "knowledgeReplicates", unfollowed := true, recurses := true, apart := false }
def KnowledgeReplicatesSaid : Prop := knowledgeReplicatesRow.holds Try.pinned (OpenSpec.ofChange knowledgeReplicatesSpec)

/-- ITS FALSE NEIGHBOUR: 'it returns false'. Refute it at one input. -/
def knowledgeReplicatesWrong : ChangeSpec := { name := "knowledgeReplicates", fn := fun _ => fun
  | [d] => { results := [.lit (.bool false)], args := [d] }
  | _ => none }
def KnowledgeReplicatesWrongFalsely : Prop := knowledgeReplicatesRow.holds Try.pinned (OpenSpec.ofChange knowledgeReplicatesWrong)

/-- 'rollbacknetlaw28.KnowledgeSurvives': WHATEVER THE INPUT: true; the input reads as it did. -/
def knowledgeSurvivesSpec : ChangeSpec := { name := "knowledgeSurvives", fn := fun _ => fun
  | [d] => { results := [.lit (.bool true)], args := [d] }
  | _ => none }
def knowledgeSurvivesRow : OpenClaim := { program := "ytfnnoncdocghjaa", sum := "a1bae1e9318cfbf42bb5f24c7a301194aaba976a1a0485c1e30dfc87ed4b9f76", func := "rollbacknet/rollbacknetlaw28.KnowledgeSurvives", spec := "knowledgeSurvives", unfollowed := true, recurses := true, apart := false }
def KnowledgeSurvivesSaid : Prop := knowledgeSurvivesRow.holds Try.pinned (OpenSpec.ofChange knowledgeSurvivesSpec)

/-- ITS FALSE NEIGHBOUR: 'it returns false'. Refute it at one input. -/
def knowledgeSurvivesWrong : ChangeSpec := { name := "knowledgeSurvives", fn := fun _ => fun
  | [d] => { results := [.lit (.bool false)], args := [d] }
  | _ => none }
def KnowledgeSurvivesWrongFalsely : Prop := knowledgeSurvivesRow.holds Try.pinned (OpenSpec.ofChange knowledgeSurvivesWrong)

/-- 'rollbacknetlaw28.KnowledgeFrugal': WHATEVER THE INPUT: true; the input reads as it did. -/
def knowledgeFrugalSpec : ChangeSpec := { name := "knowledgeFrugal", fn := fun _ => fun
  | [d] => { results := [.lit (.bool true)], args := [d] }
  | _ => none }
def knowledgeFrugalRow : OpenClaim := { program := "ytfnnoncdocghjaa", sum := "a1bae1e9318cfbf42bb5f24c7a301194aaba976a1a0485c1e30dfc87ed4b9f76", func := "rollbacknet/rollbacknetlaw28.KnowledgeFrugal", spec := "knowledgeFrugal", unfollowed := true, recurses := true, apart := false }
def KnowledgeFrugalSaid : Prop := knowledgeFrugalRow.holds Try.pinned (OpenSpec.ofChange knowledgeFrugalSpec)

/-- ITS FALSE NEIGHBOUR: 'it returns false'. Refute it at one input. -/
def knowledgeFrugalWrong : ChangeSpec := { name := "knowledgeFrugal", fn := fun _ => fun
  | [d] => { results := [.lit (.bool false)], args := [d] }
  | _ => none }
def KnowledgeFrugalWrongFalsely : Prop := knowledgeFrugalRow.holds Try.pinned (OpenSpec.ofChange knowledgeFrugalWrong)

/-- 'rollbacknetlaw28.KnowledgeSelects': WHATEVER THE INPUT: true; the input reads as it did. -/
def knowledgeSelectsSpec : ChangeSpec := { name := "knowledgeSelects", fn := fun _ => fun
  | [d1, d2, d3, d4, d5] => { results := [.lit (.bool true)], args := [d1, d2, d3, d4, d5] }
  | _ => none }
def knowledgeSelectsRow : OpenClaim := { program := "ytfnnoncdocghjaa", sum := "a1bae1e9318cfbf42bb5f24c7a301194aaba976a1a0485c1e30dfc87ed4b9f76", func := "rollbacknet/rollbacknetlaw28.KnowledgeSelects", spec := "knowledgeSelects", unfollowed := true, recurses := true, apart := false }
def KnowledgeSelectsSaid : Prop := knowledgeSelectsRow.holds Try.pinned (OpenSpec.ofChange knowledgeSelectsSpec)

/-- ITS FALSE NEIGHBOUR: 'it returns false'. Refute it at one input. -/
def knowledgeSelectsWrong : ChangeSpec := { name := "knowledgeSelects", fn := fun _ => fun
  | [d1, d2, d3, d4, d5] => { results := [.lit (.bool false)], args := [d1, d2, d3, d4, d5] }
  | _ => none }
def KnowledgeSelectsWrongFalsely : Prop := knowledgeSelectsRow.holds Try.pinned (OpenSpec.ofChange knowledgeSelectsWrong)

/-- 'rollbacknetlaw28.KnowledgeUnions': WHATEVER THE INPUT: true; the input reads as it did. -/
def knowledgeUnionsSpec : ChangeSpec := { name := "knowledgeUnions", fn := fun _ => fun
  | [d1, d2] => { results := [.lit (.bool true)], args := [d1, d2] }
  | _ => none }
def knowledgeUnionsRow : OpenClaim := { program := "ytfnnoncdocghjaa", sum := "a1bae1e9318cfbf42bb5f24c7a301194aaba976a1a0485c1e30dfc87ed4b9f76", func := "rollbacknet/rollbacknetlaw28.KnowledgeUnions", spec := "knowledgeUnions", unfollowed := true, recurses := true, apart := false }
def KnowledgeUnionsSaid : Prop := knowledgeUnionsRow.holds Try.pinned (OpenSpec.ofChange knowledgeUnionsSpec)

/-- ITS FALSE NEIGHBOUR: 'it returns false'. Refute it at one input. -/
def knowledgeUnionsWrong : ChangeSpec := { name := "knowledgeUnions", fn := fun _ => fun
  | [d1, d2] => { results := [.lit (.bool false)], args := [d1, d2] }
  | _ => none }
def KnowledgeUnionsWrongFalsely : Prop := knowledgeUnionsRow.holds Try.pinned (OpenSpec.ofChange knowledgeUnionsWrong)

/- THE SECOND FORM. 'bulk': how many values and letters a reading holds, each counted each time it is reached (what is shared counts as often as it is met; a slice's spare places count too). A statement '..UptoSaid' is the law's where the arguments, and the package variables that the reading takes, are together of bulk at most 1048576: NARROWER than '..Said'. Prove '..Said' where nothing that the law and all that it calls make is longer than what came in: it says more and counts as full. Else prove '..UptoSaid'. A law counts once. -/
mutual
def uptoBulk {H : Type} : DataW H → Nat
  | .lit (.string bytes) => bytes.length + 1
  | .lit _ => 1
  | .nil => 1
  | .ptr d => uptoBulk d + 1
  | .slice elems spare => uptoBulkAll elems + uptoBulkAll spare + 1
  | .agg parts => uptoBulkAll parts + 1
  | .iface _ d => uptoBulk d + 1
  | .map entries => uptoBulkEntries entries + 1
  | .held _ => 1
def uptoBulkAll {H : Type} : List (DataW H) → Nat
  | [] => 0
  | d :: r => uptoBulk d + uptoBulkAll r
def uptoBulkEntries {H : Type} : List (Lit × DataW H) → Nat
  | [] => 0
  | x :: r => uptoBulkEntry x + uptoBulkEntries r
def uptoBulkEntry {H : Type} : Lit × DataW H → Nat
  | (.string bytes, d) => bytes.length + uptoBulk d + 1
  | (_, d) => uptoBulk d + 1
 end
def uptoSmall : (H : Type) → List (DataW H) → Bool := fun _ ds => decide (uptoBulkAll ds ≤ 1048576)
def OpenSpec.upto (s : _root_.Go.ChangeSpec) : _root_.Go.OpenSpec := { _root_.Go.OpenSpec.ofChange s with cond := some uptoSmall }

/-- 'rollbacknetlaw28.KnowledgeCounts', WHERE WHAT IT READS IS OF BULK AT MOST 1048576: true; the input reads as it did. -/
def knowledgeCountsUptoRow : OpenClaim := { program := "ytfnnoncdocghjaa", sum := "a1bae1e9318cfbf42bb5f24c7a301194aaba976a1a0485c1e30dfc87ed4b9f76", func := "rollbacknet/rollbacknetlaw28.KnowledgeCounts", spec := "knowledgeCounts", unfollowed := true, recurses := true, apart := false, narrowed := true }
def KnowledgeCountsUptoSaid : Prop := knowledgeCountsUptoRow.holds Try.pinned (OpenSpec.upto knowledgeCountsSpec)

/-- 'rollbacknetlaw28.KnowledgeMemories', WHERE WHAT IT READS IS OF BULK AT MOST 1048576: true; the input reads as it did. -/
def knowledgeMemoriesUptoRow : OpenClaim := { program := "ytfnnoncdocghjaa", sum := "a1bae1e9318cfbf42bb5f24c7a301194aaba976a1a0485c1e30dfc87ed4b9f76", func := "rollbacknet/rollbacknetlaw28.KnowledgeMemories", spec := "knowledgeMemories", unfollowed := true, recurses := true, apart := false, narrowed := true }
def KnowledgeMemoriesUptoSaid : Prop := knowledgeMemoriesUptoRow.holds Try.pinned (OpenSpec.upto knowledgeMemoriesSpec)

/-- 'rollbacknetlaw28.KnowledgePlays', WHERE WHAT IT READS IS OF BULK AT MOST 1048576: true; the input reads as it did. -/
def knowledgePlaysUptoRow : OpenClaim := { program := "ytfnnoncdocghjaa", sum := "a1bae1e9318cfbf42bb5f24c7a301194aaba976a1a0485c1e30dfc87ed4b9f76", func := "rollbacknet/rollbacknetlaw28.KnowledgePlays", spec := "knowledgePlays", unfollowed := true, recurses := true, apart := false, narrowed := true }
def KnowledgePlaysUptoSaid : Prop := knowledgePlaysUptoRow.holds Try.pinned (OpenSpec.upto knowledgePlaysSpec)

/-- 'rollbacknetlaw28.KnowledgeBelieves', WHERE WHAT IT READS IS OF BULK AT MOST 1048576: true; the input reads as it did. -/
def knowledgeBelievesUptoRow : OpenClaim := { program := "ytfnnoncdocghjaa", sum := "a1bae1e9318cfbf42bb5f24c7a301194aaba976a1a0485c1e30dfc87ed4b9f76", func := "rollbacknet/rollbacknetlaw28.KnowledgeBelieves", spec := "knowledgeBelieves", unfollowed := true, recurses := true, apart := false, narrowed := true }
def KnowledgeBelievesUptoSaid : Prop := knowledgeBelievesUptoRow.holds Try.pinned (OpenSpec.upto knowledgeBelievesSpec)

/-- 'rollbacknetlaw28.KnowledgeReplicates', WHERE WHAT IT READS IS OF BULK AT MOST 1048576: true; the input reads as it did. -/
def knowledgeReplicatesUptoRow : OpenClaim := { program := "ytfnnoncdocghjaa", sum := "a1bae1e9318cfbf42bb5f24c7a301194aaba976a1a0485c1e30dfc87ed4b9f76", func := "rollbacknet/rollbacknetlaw28.KnowledgeReplicates", spec := "knowledgeReplicates", unfollowed := true, recurses := true, apart := false, narrowed := true }
def KnowledgeReplicatesUptoSaid : Prop := knowledgeReplicatesUptoRow.holds Try.pinned (OpenSpec.upto knowledgeReplicatesSpec)

/-- 'rollbacknetlaw28.KnowledgeSurvives', WHERE WHAT IT READS IS OF BULK AT MOST 1048576: true; the input reads as it did. -/
def knowledgeSurvivesUptoRow : OpenClaim := { program := "ytfnnoncdocghjaa", sum := "a1bae1e9318cfbf42bb5f24c7a301194aaba976a1a0485c1e30dfc87ed4b9f76", func := "rollbacknet/rollbacknetlaw28.KnowledgeSurvives", spec := "knowledgeSurvives", unfollowed := true, recurses := true, apart := false, narrowed := true }
def KnowledgeSurvivesUptoSaid : Prop := knowledgeSurvivesUptoRow.holds Try.pinned (OpenSpec.upto knowledgeSurvivesSpec)

/-- 'rollbacknetlaw28.KnowledgeFrugal', WHERE WHAT IT READS IS OF BULK AT MOST 1048576: true; the input reads as it did. -/
def knowledgeFrugalUptoRow : OpenClaim := { program := "ytfnnoncdocghjaa", sum := "a1bae1e9318cfbf42bb5f24c7a301194aaba976a1a0485c1e30dfc87ed4b9f76", func := "rollbacknet/rollbacknetlaw28.KnowledgeFrugal", spec := "knowledgeFrugal", unfollowed := true, recurses := true, apart := false, narrowed := true }
def KnowledgeFrugalUptoSaid : Prop := knowledgeFrugalUptoRow.holds Try.pinned (OpenSpec.upto knowledgeFrugalSpec)

/-- 'rollbacknetlaw28.KnowledgeSelects', WHERE WHAT IT READS IS OF BULK AT MOST 1048576: true; the input reads as it did. -/
def knowledgeSelectsUptoRow : OpenClaim := { program := "ytfnnoncdocghjaa", sum := "a1bae1e9318cfbf42bb5f24c7a301194aaba976a1a0485c1e30dfc87ed4b9f76", func := "rollbacknet/rollbacknetlaw28.KnowledgeSelects", spec := "knowledgeSelects", unfollowed := true, recurses := true, apart := false, narrowed := true }
def KnowledgeSelectsUptoSaid : Prop := knowledgeSelectsUptoRow.holds Try.pinned (OpenSpec.upto knowledgeSelectsSpec)

/-- 'rollbacknetlaw28.KnowledgeUnions', WHERE WHAT IT READS IS OF BULK AT MOST 1048576: true; the input reads as it did. -/
def knowledgeUnionsUptoRow : OpenClaim := { program := "ytfnnoncdocghjaa", sum := "a1bae1e9318cfbf42bb5f24c7a301194aaba976a1a0485c1e30dfc87ed4b9f76", func := "rollbacknet/rollbacknetlaw28.KnowledgeUnions", spec := "knowledgeUnions", unfollowed := true, recurses := true, apart := false, narrowed := true }
def KnowledgeUnionsUptoSaid : Prop := knowledgeUnionsUptoRow.holds Try.pinned (OpenSpec.upto knowledgeUnionsSpec)

end Rows
end Go.Proofs.Ytfnnoncdocghjaa
