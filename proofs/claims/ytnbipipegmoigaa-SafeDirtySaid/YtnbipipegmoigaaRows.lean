/-
  No cell of these rows narrows 'for every input' (looked for: loops, veiled, ifaces, maps, wideKeys, modest, calm, conditions, laid).
  DERIVED. THE GIVEN ROWS OF THIS SEAT. 12 by the template 'for every input the law returns true; each argument reads behind the call as it read before'; 0 by the template 'total and deterministic' (their statements: YtnbipipegmoigaaTotals.lean).
  GIVEN WITH THE SEED: the statements are not yours to turn. If you find one false, say at which input.
  Laid BY PROGRAM, IN A SANDBOX (cutbox-rows.mjs): the forced cells as the released guide's own fill.sh prints them over the translation 5cc45b3e05701eea… (all of the seat's roots in one cut). By AI agents, Wed Nov 11 2026. No macro, syntax, notation, axiom, sorry.
-/
import Derived.Test.YtnbipipegmoigaaChecked
import GoSem.Claim
import GoSem.ClaimJoined
import GoSem.ClaimMapViews
import Derived.JoinedTies
import Derived.KernelRfl
namespace Go.Proofs.Ytnbipipegmoigaa
/- THE CELL 'sum', in the pinned program and in every row, IS THE sha256 OF THE DUMP (.gsa) THAT YtnbipipegmoigaaProg.lean LOADS. Nothing in Lean hashes anything: it is a label: what it is worth is what the hold of that sum in a sandbox is worth. -/
noncomputable def Try.pinned : Pinned := { name := "ytnbipipegmoigaa", sum := "5cc45b3e05701eea8fa18dc989cc02c3cd0fd640d6d548453ef1d16edf70a6ef", checked := Try.checked }
namespace Rows
def none {H : Type} : Left H := { results := [], args := [] }

/-- 'graftlaw09.TidyMerges': WHATEVER THE INPUT: true; the input reads as it did. -/
def tidyMergesSpec : ChangeSpec := { name := "tidyMerges", fn := fun _ => fun
  | [d] => { results := [.lit (.bool true)], args := [d] }
  | _ => none }
def tidyMergesRow : OpenClaim := { program := "ytnbipipegmoigaa", sum := "5cc45b3e05701eea8fa18dc989cc02c3cd0fd640d6d548453ef1d16edf70a6ef", func := "graft/graftlaw09.TidyMerges", spec := "tidyMerges", unfollowed := true, recurses := true, plainKeys := false, apart := false }
def TidyMergesSaid : Prop := tidyMergesRow.holds Try.pinned (OpenSpec.ofChange tidyMergesSpec)

/-- ITS FALSE NEIGHBOUR: 'it returns false'. Refute it at one input. -/
def tidyMergesWrong : ChangeSpec := { name := "tidyMerges", fn := fun _ => fun
  | [d] => { results := [.lit (.bool false)], args := [d] }
  | _ => none }
def TidyMergesWrongFalsely : Prop := tidyMergesRow.holds Try.pinned (OpenSpec.ofChange tidyMergesWrong)

/-- 'graftlaw09.TidyEquivalent': WHATEVER THE INPUT: true; the input reads as it did. -/
def tidyEquivalentSpec : ChangeSpec := { name := "tidyEquivalent", fn := fun _ => fun
  | [d1, d2] => { results := [.lit (.bool true)], args := [d1, d2] }
  | _ => none }
def tidyEquivalentRow : OpenClaim := { program := "ytnbipipegmoigaa", sum := "5cc45b3e05701eea8fa18dc989cc02c3cd0fd640d6d548453ef1d16edf70a6ef", func := "graft/graftlaw09.TidyEquivalent", spec := "tidyEquivalent", unfollowed := true, recurses := true, plainKeys := false, apart := false }
def TidyEquivalentSaid : Prop := tidyEquivalentRow.holds Try.pinned (OpenSpec.ofChange tidyEquivalentSpec)

/-- ITS FALSE NEIGHBOUR: 'it returns false'. Refute it at one input. -/
def tidyEquivalentWrong : ChangeSpec := { name := "tidyEquivalent", fn := fun _ => fun
  | [d1, d2] => { results := [.lit (.bool false)], args := [d1, d2] }
  | _ => none }
def TidyEquivalentWrongFalsely : Prop := tidyEquivalentRow.holds Try.pinned (OpenSpec.ofChange tidyEquivalentWrong)

/-- 'graftlaw09.TidyCanonical': WHATEVER THE INPUT: true; the input reads as it did. -/
def tidyCanonicalSpec : ChangeSpec := { name := "tidyCanonical", fn := fun _ => fun
  | [d] => { results := [.lit (.bool true)], args := [d] }
  | _ => none }
def tidyCanonicalRow : OpenClaim := { program := "ytnbipipegmoigaa", sum := "5cc45b3e05701eea8fa18dc989cc02c3cd0fd640d6d548453ef1d16edf70a6ef", func := "graft/graftlaw09.TidyCanonical", spec := "tidyCanonical", unfollowed := true, recurses := true, plainKeys := false, apart := false }
def TidyCanonicalSaid : Prop := tidyCanonicalRow.holds Try.pinned (OpenSpec.ofChange tidyCanonicalSpec)

/-- ITS FALSE NEIGHBOUR: 'it returns false'. Refute it at one input. -/
def tidyCanonicalWrong : ChangeSpec := { name := "tidyCanonical", fn := fun _ => fun
  | [d] => { results := [.lit (.bool false)], args := [d] }
  | _ => none }
def TidyCanonicalWrongFalsely : Prop := tidyCanonicalRow.holds Try.pinned (OpenSpec.ofChange tidyCanonicalWrong)

/-- 'graftlaw09.TidyPatches': WHATEVER THE INPUT: true; the input reads as it did. -/
def tidyPatchesSpec : ChangeSpec := { name := "tidyPatches", fn := fun _ => fun
  | [d1, d2, d3] => { results := [.lit (.bool true)], args := [d1, d2, d3] }
  | _ => none }
def tidyPatchesRow : OpenClaim := { program := "ytnbipipegmoigaa", sum := "5cc45b3e05701eea8fa18dc989cc02c3cd0fd640d6d548453ef1d16edf70a6ef", func := "graft/graftlaw09.TidyPatches", spec := "tidyPatches", unfollowed := true, recurses := true, plainKeys := false, apart := false }
def TidyPatchesSaid : Prop := tidyPatchesRow.holds Try.pinned (OpenSpec.ofChange tidyPatchesSpec)

/-- ITS FALSE NEIGHBOUR: 'it returns false'. Refute it at one input. -/
def tidyPatchesWrong : ChangeSpec := { name := "tidyPatches", fn := fun _ => fun
  | [d1, d2, d3] => { results := [.lit (.bool false)], args := [d1, d2, d3] }
  | _ => none }
def TidyPatchesWrongFalsely : Prop := tidyPatchesRow.holds Try.pinned (OpenSpec.ofChange tidyPatchesWrong)

/-- 'graftlaw09.TidyLiterals': WHATEVER THE INPUT: true; the input reads as it did. -/
def tidyLiteralsSpec : ChangeSpec := { name := "tidyLiterals", fn := fun _ => fun
  | [d1, d2, d3] => { results := [.lit (.bool true)], args := [d1, d2, d3] }
  | _ => none }
def tidyLiteralsRow : OpenClaim := { program := "ytnbipipegmoigaa", sum := "5cc45b3e05701eea8fa18dc989cc02c3cd0fd640d6d548453ef1d16edf70a6ef", func := "graft/graftlaw09.TidyLiterals", spec := "tidyLiterals", unfollowed := true, recurses := true, plainKeys := false, apart := false }
def TidyLiteralsSaid : Prop := tidyLiteralsRow.holds Try.pinned (OpenSpec.ofChange tidyLiteralsSpec)

/-- ITS FALSE NEIGHBOUR: 'it returns false'. Refute it at one input. -/
def tidyLiteralsWrong : ChangeSpec := { name := "tidyLiterals", fn := fun _ => fun
  | [d1, d2, d3] => { results := [.lit (.bool false)], args := [d1, d2, d3] }
  | _ => none }
def TidyLiteralsWrongFalsely : Prop := tidyLiteralsRow.holds Try.pinned (OpenSpec.ofChange tidyLiteralsWrong)

/-- 'graftlaw12.ConflictGraphs': WHATEVER THE INPUT: true; the input reads as it did. -/
def conflictGraphsSpec : ChangeSpec := { name := "conflictGraphs", fn := fun _ => fun
  | [d] => { results := [.lit (.bool true)], args := [d] }
  | _ => none }
def conflictGraphsRow : OpenClaim := { program := "ytnbipipegmoigaa", sum := "5cc45b3e05701eea8fa18dc989cc02c3cd0fd640d6d548453ef1d16edf70a6ef", func := "graft/graftlaw12.ConflictGraphs", spec := "conflictGraphs", unfollowed := true, recurses := true, plainKeys := false, apart := false }
def ConflictGraphsSaid : Prop := conflictGraphsRow.holds Try.pinned (OpenSpec.ofChange conflictGraphsSpec)

/-- ITS FALSE NEIGHBOUR: 'it returns false'. Refute it at one input. -/
def conflictGraphsWrong : ChangeSpec := { name := "conflictGraphs", fn := fun _ => fun
  | [d] => { results := [.lit (.bool false)], args := [d] }
  | _ => none }
def ConflictGraphsWrongFalsely : Prop := conflictGraphsRow.holds Try.pinned (OpenSpec.ofChange conflictGraphsWrong)

/-- 'graftlaw12.ConflictWeights': WHATEVER THE INPUT: true; the input reads as it did. -/
def conflictWeightsSpec : ChangeSpec := { name := "conflictWeights", fn := fun _ => fun
  | [d1, d2] => { results := [.lit (.bool true)], args := [d1, d2] }
  | _ => none }
def conflictWeightsRow : OpenClaim := { program := "ytnbipipegmoigaa", sum := "5cc45b3e05701eea8fa18dc989cc02c3cd0fd640d6d548453ef1d16edf70a6ef", func := "graft/graftlaw12.ConflictWeights", spec := "conflictWeights", unfollowed := true, recurses := true, plainKeys := false, apart := false }
def ConflictWeightsSaid : Prop := conflictWeightsRow.holds Try.pinned (OpenSpec.ofChange conflictWeightsSpec)

/-- ITS FALSE NEIGHBOUR: 'it returns false'. Refute it at one input. -/
def conflictWeightsWrong : ChangeSpec := { name := "conflictWeights", fn := fun _ => fun
  | [d1, d2] => { results := [.lit (.bool false)], args := [d1, d2] }
  | _ => none }
def ConflictWeightsWrongFalsely : Prop := conflictWeightsRow.holds Try.pinned (OpenSpec.ofChange conflictWeightsWrong)

/-- 'graftlaw12.ConflictSelf': WHATEVER THE INPUT: true; the input reads as it did. -/
def conflictSelfSpec : ChangeSpec := { name := "conflictSelf", fn := fun _ => fun
  | [d] => { results := [.lit (.bool true)], args := [d] }
  | _ => none }
def conflictSelfRow : OpenClaim := { program := "ytnbipipegmoigaa", sum := "5cc45b3e05701eea8fa18dc989cc02c3cd0fd640d6d548453ef1d16edf70a6ef", func := "graft/graftlaw12.ConflictSelf", spec := "conflictSelf", unfollowed := true, recurses := true, plainKeys := false, apart := false }
def ConflictSelfSaid : Prop := conflictSelfRow.holds Try.pinned (OpenSpec.ofChange conflictSelfSpec)

/-- ITS FALSE NEIGHBOUR: 'it returns false'. Refute it at one input. -/
def conflictSelfWrong : ChangeSpec := { name := "conflictSelf", fn := fun _ => fun
  | [d] => { results := [.lit (.bool false)], args := [d] }
  | _ => none }
def ConflictSelfWrongFalsely : Prop := conflictSelfRow.holds Try.pinned (OpenSpec.ofChange conflictSelfWrong)

/-- 'graftlaw16.SafeChecks': WHATEVER THE INPUT: true; the input reads as it did. -/
def safeChecksSpec : ChangeSpec := { name := "safeChecks", fn := fun _ => fun
  | [d] => { results := [.lit (.bool true)], args := [d] }
  | _ => none }
def safeChecksRow : OpenClaim := { program := "ytnbipipegmoigaa", sum := "5cc45b3e05701eea8fa18dc989cc02c3cd0fd640d6d548453ef1d16edf70a6ef", func := "graft/graftlaw16.SafeChecks", spec := "safeChecks", unfollowed := true, recurses := true, plainKeys := false, apart := false }
def SafeChecksSaid : Prop := safeChecksRow.holds Try.pinned (OpenSpec.ofChange safeChecksSpec)

/-- ITS FALSE NEIGHBOUR: 'it returns false'. Refute it at one input. -/
def safeChecksWrong : ChangeSpec := { name := "safeChecks", fn := fun _ => fun
  | [d] => { results := [.lit (.bool false)], args := [d] }
  | _ => none }
def SafeChecksWrongFalsely : Prop := safeChecksRow.holds Try.pinned (OpenSpec.ofChange safeChecksWrong)

/-- 'graftlaw16.SafeDirty': WHATEVER THE INPUT: true; the input reads as it did. -/
def safeDirtySpec : ChangeSpec := { name := "safeDirty", fn := fun _ => fun
  | [d1, d2] => { results := [.lit (.bool true)], args := [d1, d2] }
  | _ => none }
def safeDirtyRow : OpenClaim := { program := "ytnbipipegmoigaa", sum := "5cc45b3e05701eea8fa18dc989cc02c3cd0fd640d6d548453ef1d16edf70a6ef", func := "graft/graftlaw16.SafeDirty", spec := "safeDirty", unfollowed := true, recurses := true, plainKeys := false, apart := false }
def SafeDirtySaid : Prop := safeDirtyRow.holds Try.pinned (OpenSpec.ofChange safeDirtySpec)

/-- ITS FALSE NEIGHBOUR: 'it returns false'. Refute it at one input. -/
def safeDirtyWrong : ChangeSpec := { name := "safeDirty", fn := fun _ => fun
  | [d1, d2] => { results := [.lit (.bool false)], args := [d1, d2] }
  | _ => none }
def SafeDirtyWrongFalsely : Prop := safeDirtyRow.holds Try.pinned (OpenSpec.ofChange safeDirtyWrong)

/-- 'graftlaw16.SafeExecutes': WHATEVER THE INPUT: true; the input reads as it did. -/
def safeExecutesSpec : ChangeSpec := { name := "safeExecutes", fn := fun _ => fun
  | [d1, d2] => { results := [.lit (.bool true)], args := [d1, d2] }
  | _ => none }
def safeExecutesRow : OpenClaim := { program := "ytnbipipegmoigaa", sum := "5cc45b3e05701eea8fa18dc989cc02c3cd0fd640d6d548453ef1d16edf70a6ef", func := "graft/graftlaw16.SafeExecutes", spec := "safeExecutes", unfollowed := true, recurses := true, plainKeys := false, apart := false }
def SafeExecutesSaid : Prop := safeExecutesRow.holds Try.pinned (OpenSpec.ofChange safeExecutesSpec)

/-- ITS FALSE NEIGHBOUR: 'it returns false'. Refute it at one input. -/
def safeExecutesWrong : ChangeSpec := { name := "safeExecutes", fn := fun _ => fun
  | [d1, d2] => { results := [.lit (.bool false)], args := [d1, d2] }
  | _ => none }
def SafeExecutesWrongFalsely : Prop := safeExecutesRow.holds Try.pinned (OpenSpec.ofChange safeExecutesWrong)

/-- 'graftlaw16.SafePatches': WHATEVER THE INPUT: true; the input reads as it did. -/
def safePatchesSpec : ChangeSpec := { name := "safePatches", fn := fun _ => fun
  | [d1, d2] => { results := [.lit (.bool true)], args := [d1, d2] }
  | _ => none }
def safePatchesRow : OpenClaim := { program := "ytnbipipegmoigaa", sum := "5cc45b3e05701eea8fa18dc989cc02c3cd0fd640d6d548453ef1d16edf70a6ef", func := "graft/graftlaw16.SafePatches", spec := "safePatches", unfollowed := true, recurses := true, plainKeys := false, apart := false }
def SafePatchesSaid : Prop := safePatchesRow.holds Try.pinned (OpenSpec.ofChange safePatchesSpec)

/-- ITS FALSE NEIGHBOUR: 'it returns false'. Refute it at one input. -/
def safePatchesWrong : ChangeSpec := { name := "safePatches", fn := fun _ => fun
  | [d1, d2] => { results := [.lit (.bool false)], args := [d1, d2] }
  | _ => none }
def SafePatchesWrongFalsely : Prop := safePatchesRow.holds Try.pinned (OpenSpec.ofChange safePatchesWrong)

/- THE SECOND FORM. 'bulk': how many values and letters a reading holds, each counted each time it is reached (what is shared counts as often as it is met; a slice's spare places count too). A statement '..UptoSaid' is the law's where the arguments, and the package variables that the reading takes, are together of bulk at most 1048576: NARROWER than '..Said'. Prove '..Said' where nothing that the law and all that it calls make is longer than what came in: it says more and counts as full. Else prove '..UptoSaid'. A law counts once. -/
mutual
def uptoBulk {H : Type} : DataW H → Nat
  | .lit (.string bytes) => bytes.length + 1
  | .lit _ => 1
  | .nil => 1
  | .ptr d => uptoBulk d + 1
  | .slice elems spare => uptoBulkAll elems + uptoBulkAll spare + 1
  | .agg parts => uptoBulkAll parts + 1
  | .iface _ d => uptoBulk d + 1
  | .map entries => uptoBulkEntries entries + 1
  | .held _ => 1
def uptoBulkAll {H : Type} : List (DataW H) → Nat
  | [] => 0
  | d :: r => uptoBulk d + uptoBulkAll r
def uptoBulkEntries {H : Type} : List (Lit × DataW H) → Nat
  | [] => 0
  | x :: r => uptoBulkEntry x + uptoBulkEntries r
def uptoBulkEntry {H : Type} : Lit × DataW H → Nat
  | (.string bytes, d) => bytes.length + uptoBulk d + 1
  | (_, d) => uptoBulk d + 1
 end
def uptoSmall : (H : Type) → List (DataW H) → Bool := fun _ ds => decide (uptoBulkAll ds ≤ 1048576)
def OpenSpec.upto (s : _root_.Go.ChangeSpec) : _root_.Go.OpenSpec := { _root_.Go.OpenSpec.ofChange s with cond := some uptoSmall }

/-- 'graftlaw09.TidyMerges', WHERE WHAT IT READS IS OF BULK AT MOST 1048576: true; the input reads as it did. -/
def tidyMergesUptoRow : OpenClaim := { program := "ytnbipipegmoigaa", sum := "5cc45b3e05701eea8fa18dc989cc02c3cd0fd640d6d548453ef1d16edf70a6ef", func := "graft/graftlaw09.TidyMerges", spec := "tidyMerges", unfollowed := true, recurses := true, plainKeys := false, apart := false, narrowed := true }
def TidyMergesUptoSaid : Prop := tidyMergesUptoRow.holds Try.pinned (OpenSpec.upto tidyMergesSpec)

/-- 'graftlaw09.TidyEquivalent', WHERE WHAT IT READS IS OF BULK AT MOST 1048576: true; the input reads as it did. -/
def tidyEquivalentUptoRow : OpenClaim := { program := "ytnbipipegmoigaa", sum := "5cc45b3e05701eea8fa18dc989cc02c3cd0fd640d6d548453ef1d16edf70a6ef", func := "graft/graftlaw09.TidyEquivalent", spec := "tidyEquivalent", unfollowed := true, recurses := true, plainKeys := false, apart := false, narrowed := true }
def TidyEquivalentUptoSaid : Prop := tidyEquivalentUptoRow.holds Try.pinned (OpenSpec.upto tidyEquivalentSpec)

/-- 'graftlaw09.TidyCanonical', WHERE WHAT IT READS IS OF BULK AT MOST 1048576: true; the input reads as it did. -/
def tidyCanonicalUptoRow : OpenClaim := { program := "ytnbipipegmoigaa", sum := "5cc45b3e05701eea8fa18dc989cc02c3cd0fd640d6d548453ef1d16edf70a6ef", func := "graft/graftlaw09.TidyCanonical", spec := "tidyCanonical", unfollowed := true, recurses := true, plainKeys := false, apart := false, narrowed := true }
def TidyCanonicalUptoSaid : Prop := tidyCanonicalUptoRow.holds Try.pinned (OpenSpec.upto tidyCanonicalSpec)

/-- 'graftlaw09.TidyPatches', WHERE WHAT IT READS IS OF BULK AT MOST 1048576: true; the input reads as it did. -/
def tidyPatchesUptoRow : OpenClaim := { program := "ytnbipipegmoigaa", sum := "5cc45b3e05701eea8fa18dc989cc02c3cd0fd640d6d548453ef1d16edf70a6ef", func := "graft/graftlaw09.TidyPatches", spec := "tidyPatches", unfollowed := true, recurses := true, plainKeys := false, apart := false, narrowed := true }
def TidyPatchesUptoSaid : Prop := tidyPatchesUptoRow.holds Try.pinned (OpenSpec.upto tidyPatchesSpec)

/-- 'graftlaw09.TidyLiterals', WHERE WHAT IT READS IS OF BULK AT MOST 1048576: true; the input reads as it did. -/
def tidyLiteralsUptoRow : OpenClaim := { program := "ytnbipipegmoigaa", sum := "5cc45b3e05701eea8fa18dc989cc02c3cd0fd640d6d548453ef1d16edf70a6ef", func := "graft/graftlaw09.TidyLiterals", spec := "tidyLiterals", unfollowed := true, recurses := true, plainKeys := false, apart := false, narrowed := true }
def TidyLiteralsUptoSaid : Prop := tidyLiteralsUptoRow.holds Try.pinned (OpenSpec.upto tidyLiteralsSpec)

/-- 'graftlaw12.ConflictGraphs', WHERE WHAT IT READS IS OF BULK AT MOST 1048576: true; the input reads as it did. -/
def conflictGraphsUptoRow : OpenClaim := { program := "ytnbipipegmoigaa", sum := "5cc45b3e05701eea8fa18dc989cc02c3cd0fd640d6d548453ef1d16edf70a6ef", func := "graft/graftlaw12.ConflictGraphs", spec := "conflictGraphs", unfollowed := true, recurses := true, plainKeys := false, apart := false, narrowed := true }
def ConflictGraphsUptoSaid : Prop := conflictGraphsUptoRow.holds Try.pinned (OpenSpec.upto conflictGraphsSpec)

/-- 'graftlaw12.ConflictWeights', WHERE WHAT IT READS IS OF BULK AT MOST 1048576: true; the input reads as it did. -/
def conflictWeightsUptoRow : OpenClaim := { program := "ytnbipipegmoigaa", sum := "5cc45b3e05701eea8fa18dc989cc02c3cd0fd640d6d548453ef1d16edf70a6ef", func := "graft/graftlaw12.ConflictWeights", spec := "conflictWeights", unfollowed := true, recurses := true, plainKeys := false, apart := false, narrowed := true }
def ConflictWeightsUptoSaid : Prop := conflictWeightsUptoRow.holds Try.pinned (OpenSpec.upto conflictWeightsSpec)

/-- 'graftlaw12.ConflictSelf', WHERE WHAT IT READS IS OF BULK AT MOST 1048576: true; the input reads as it did. -/
def conflictSelfUptoRow : OpenClaim := { program := "ytnbipipegmoigaa", sum := "5cc45b3e05701eea8fa18dc989cc02c3cd0fd640d6d548453ef1d16edf70a6ef", func := "graft/graftlaw12.ConflictSelf", spec := "conflictSelf", unfollowed := true, recurses := true, plainKeys := false, apart := false, narrowed := true }
def ConflictSelfUptoSaid : Prop := conflictSelfUptoRow.holds Try.pinned (OpenSpec.upto conflictSelfSpec)

/-- 'graftlaw16.SafeChecks', WHERE WHAT IT READS IS OF BULK AT MOST 1048576: true; the input reads as it did. -/
def safeChecksUptoRow : OpenClaim := { program := "ytnbipipegmoigaa", sum := "5cc45b3e05701eea8fa18dc989cc02c3cd0fd640d6d548453ef1d16edf70a6ef", func := "graft/graftlaw16.SafeChecks", spec := "safeChecks", unfollowed := true, recurses := true, plainKeys := false, apart := false, narrowed := true }
def SafeChecksUptoSaid : Prop := safeChecksUptoRow.holds Try.pinned (OpenSpec.upto safeChecksSpec)

/-- 'graftlaw16.SafeDirty', WHERE WHAT IT READS IS OF BULK AT MOST 1048576: true; the input reads as it did. -/
def safeDirtyUptoRow : OpenClaim := { program := "ytnbipipegmoigaa", sum := "5cc45b3e05701eea8fa18dc989cc02c3cd0fd640d6d548453ef1d16edf70a6ef", func := "graft/graftlaw16.SafeDirty", spec := "safeDirty", unfollowed := true, recurses := true, plainKeys := false, apart := false, narrowed := true }
def SafeDirtyUptoSaid : Prop := safeDirtyUptoRow.holds Try.pinned (OpenSpec.upto safeDirtySpec)

/-- 'graftlaw16.SafeExecutes', WHERE WHAT IT READS IS OF BULK AT MOST 1048576: true; the input reads as it did. -/
def safeExecutesUptoRow : OpenClaim := { program := "ytnbipipegmoigaa", sum := "5cc45b3e05701eea8fa18dc989cc02c3cd0fd640d6d548453ef1d16edf70a6ef", func := "graft/graftlaw16.SafeExecutes", spec := "safeExecutes", unfollowed := true, recurses := true, plainKeys := false, apart := false, narrowed := true }
def SafeExecutesUptoSaid : Prop := safeExecutesUptoRow.holds Try.pinned (OpenSpec.upto safeExecutesSpec)

/-- 'graftlaw16.SafePatches', WHERE WHAT IT READS IS OF BULK AT MOST 1048576: true; the input reads as it did. -/
def safePatchesUptoRow : OpenClaim := { program := "ytnbipipegmoigaa", sum := "5cc45b3e05701eea8fa18dc989cc02c3cd0fd640d6d548453ef1d16edf70a6ef", func := "graft/graftlaw16.SafePatches", spec := "safePatches", unfollowed := true, recurses := true, plainKeys := false, apart := false, narrowed := true }
def SafePatchesUptoSaid : Prop := safePatchesUptoRow.holds Try.pinned (OpenSpec.upto safePatchesSpec)

end Rows
end Go.Proofs.Ytnbipipegmoigaa
