/-
  No cell of these rows narrows 'for every input' (looked for: loops, veiled, ifaces, maps, wideKeys, modest, calm, conditions, laid).
  DERIVED. THE GIVEN ROWS OF THIS SEAT. 6 by the template 'for every input the law returns true; each argument reads behind the call as it read before'; 0 by the template 'total and deterministic' (their statements: YthhmandpjlggcaaTotals.lean).
  GIVEN WITH THE SEED: the statements are not yours to turn. If you find one false, say at which input.
  Laid BY PROGRAM, IN A SANDBOX (cutbox-rows.mjs): the forced cells as the released guide's own fill.sh prints them over the translation 35a09314b18a7356… (all of the seat's roots in one cut). By AI agents, Wed Nov 11 2026. No macro, syntax, notation, axiom, sorry.
-/
import Derived.Test.YthhmandpjlggcaaChecked
import GoSem.Claim
import GoSem.ClaimJoined
import GoSem.ClaimMapViews
import Derived.JoinedTies
import Derived.KernelRfl
namespace Go.Proofs.Ythhmandpjlggcaa
/- THE CELL 'sum', in the pinned program and in every row, IS THE sha256 OF THE DUMP (.gsa) THAT YthhmandpjlggcaaProg.lean LOADS. Nothing in Lean hashes anything: it is a label: what it is worth is what the hold of that sum in a sandbox is worth. -/
noncomputable def Try.pinned : Pinned := { name := "ythhmandpjlggcaa", sum := "35a09314b18a73561a6f713f40e2e022866b6f0d2b0de35dba4cda476655c74c", checked := Try.checked }
namespace Rows
def none {H : Type} : Left H := { results := [], args := [] }

/-- 'graftlaw09.TidyMerges': WHATEVER THE INPUT: true; the input reads as it did. -/
def tidyMergesSpec : ChangeSpec := { name := "tidyMerges", fn := fun _ => fun
  | [d] => { results := [.lit (.bool true)], args := [d] }
  | _ => none }
def tidyMergesRow : OpenClaim := { program := "ythhmandpjlggcaa", sum := "35a09314b18a73561a6f713f40e2e022866b6f0d2b0de35dba4cda476655c74c", func := "graft/graftlaw09.TidyMerges", spec := "tidyMerges", unfollowed := true, recurses := true, plainKeys := false, apart := false }
def TidyMergesSaid : Prop := tidyMergesRow.holds Try.pinned (OpenSpec.ofChange tidyMergesSpec)

/-- ITS FALSE NEIGHBOUR: 'it returns false'. Refute it at one input. -/
def tidyMergesWrong : ChangeSpec := { name := "tidyMerges", fn := fun _ => fun
  | [d] => { results := [.lit (.bool false)], args := [d] }
  | _ => none }
def TidyMergesWrongFalsely : Prop := tidyMergesRow.holds Try.pinned (OpenSpec.ofChange tidyMergesWrong)

/-- 'graftlaw12.ConflictGraphs': WHATEVER THE INPUT: true; the input reads as it did. -/
def conflictGraphsSpec : ChangeSpec := { name := "conflictGraphs", fn := fun _ => fun
  | [d] => { results := [.lit (.bool true)], args := [d] }
  | _ => none }
def conflictGraphsRow : OpenClaim := { program := "ythhmandpjlggcaa", sum := "35a09314b18a73561a6f713f40e2e022866b6f0d2b0de35dba4cda476655c74c", func := "graft/graftlaw12.ConflictGraphs", spec := "conflictGraphs", unfollowed := true, recurses := true, plainKeys := false, apart := false }
def ConflictGraphsSaid : Prop := conflictGraphsRow.holds Try.pinned (OpenSpec.ofChange conflictGraphsSpec)

/-- ITS FALSE NEIGHBOUR: 'it returns false'. Refute it at one input. -/
def conflictGraphsWrong : ChangeSpec := { name := "conflictGraphs", fn := fun _ => fun
  | [d] => { results := [.lit (.bool false)], args := [d] }
  | _ => none }
def ConflictGraphsWrongFalsely : Prop := conflictGraphsRow.holds Try.pinned (OpenSpec.ofChange conflictGraphsWrong)

/-- 'graftlaw12.ConflictWeights': WHATEVER THE INPUT: true; the input reads as it did. -/
def conflictWeightsSpec : ChangeSpec := { name := "conflictWeights", fn := fun _ => fun
  | [d1, d2] => { results := [.lit (.bool true)], args := [d1, d2] }
  | _ => none }
def conflictWeightsRow : OpenClaim := { program := "ythhmandpjlggcaa", sum := "35a09314b18a73561a6f713f40e2e022866b6f0d2b0de35dba4cda476655c74c", func := "graft/graftlaw12.ConflictWeights", spec := "conflictWeights", unfollowed := true, recurses := true, plainKeys := false, apart := false }
def ConflictWeightsSaid : Prop := conflictWeightsRow.holds Try.pinned (OpenSpec.ofChange conflictWeightsSpec)

/-- ITS FALSE NEIGHBOUR: 'it returns false'. Refute it at one input. -/
def conflictWeightsWrong : ChangeSpec := { name := "conflictWeights", fn := fun _ => fun
  | [d1, d2] => { results := [.lit (.bool false)], args := [d1, d2] }
  | _ => none }
def ConflictWeightsWrongFalsely : Prop := conflictWeightsRow.holds Try.pinned (OpenSpec.ofChange conflictWeightsWrong)

/-- 'graftlaw12.ConflictSelf': WHATEVER THE INPUT: true; the input reads as it did. -/
def conflictSelfSpec : ChangeSpec := { name := "conflictSelf", fn := fun _ => fun
  | [d] => { results := [.lit (.bool true)], args := [d] }
  | _ => none }
def conflictSelfRow : OpenClaim := { program := "ythhmandpjlggcaa", sum := "35a09314b18a73561a6f713f40e2e022866b6f0d2b0de35dba4cda476655c74c", func := "graft/graftlaw12.ConflictSelf", spec := "conflictSelf", unfollowed := true, recurses := true, plainKeys := false, apart := false }
def ConflictSelfSaid : Prop := conflictSelfRow.holds Try.pinned (OpenSpec.ofChange conflictSelfSpec)

/-- ITS FALSE NEIGHBOUR: 'it returns false'. Refute it at one input. -/
def conflictSelfWrong : ChangeSpec := { name := "conflictSelf", fn := fun _ => fun
  | [d] => { results := [.lit (.bool false)], args := [d] }
  | _ => none }
def ConflictSelfWrongFalsely : Prop := conflictSelfRow.holds Try.pinned (OpenSpec.ofChange conflictSelfWrong)

/-- 'graftlaw12.ConflictViolations': WHATEVER THE INPUT: true; the input reads as it did. -/
def conflictViolationsSpec : ChangeSpec := { name := "conflictViolations", fn := fun _ => fun
  | [d1, d2] => { results := [.lit (.bool true)], args := [d1, d2] }
  | _ => none }
def conflictViolationsRow : OpenClaim := { program := "ythhmandpjlggcaa", sum := "35a09314b18a73561a6f713f40e2e022866b6f0d2b0de35dba4cda476655c74c", func := "graft/graftlaw12.ConflictViolations", spec := "conflictViolations", unfollowed := true, recurses := true, plainKeys := false, apart := false }
def ConflictViolationsSaid : Prop := conflictViolationsRow.holds Try.pinned (OpenSpec.ofChange conflictViolationsSpec)

/-- ITS FALSE NEIGHBOUR: 'it returns false'. Refute it at one input. -/
def conflictViolationsWrong : ChangeSpec := { name := "conflictViolations", fn := fun _ => fun
  | [d1, d2] => { results := [.lit (.bool false)], args := [d1, d2] }
  | _ => none }
def ConflictViolationsWrongFalsely : Prop := conflictViolationsRow.holds Try.pinned (OpenSpec.ofChange conflictViolationsWrong)

/-- 'graftlaw12.ConflictBack': WHATEVER THE INPUT: true; the input reads as it did. -/
def conflictBackSpec : ChangeSpec := { name := "conflictBack", fn := fun _ => fun
  | [d] => { results := [.lit (.bool true)], args := [d] }
  | _ => none }
def conflictBackRow : OpenClaim := { program := "ythhmandpjlggcaa", sum := "35a09314b18a73561a6f713f40e2e022866b6f0d2b0de35dba4cda476655c74c", func := "graft/graftlaw12.ConflictBack", spec := "conflictBack", unfollowed := true, recurses := true, plainKeys := false, apart := false }
def ConflictBackSaid : Prop := conflictBackRow.holds Try.pinned (OpenSpec.ofChange conflictBackSpec)

/-- ITS FALSE NEIGHBOUR: 'it returns false'. Refute it at one input. -/
def conflictBackWrong : ChangeSpec := { name := "conflictBack", fn := fun _ => fun
  | [d] => { results := [.lit (.bool false)], args := [d] }
  | _ => none }
def ConflictBackWrongFalsely : Prop := conflictBackRow.holds Try.pinned (OpenSpec.ofChange conflictBackWrong)

/- THE SECOND FORM. 'bulk': how many values and letters a reading holds, each counted each time it is reached (what is shared counts as often as it is met; a slice's spare places count too). A statement '..UptoSaid' is the law's where the arguments, and the package variables that the reading takes, are together of bulk at most 1048576: NARROWER than '..Said'. Prove '..Said' where nothing that the law and all that it calls make is longer than what came in: it says more and counts as full. Else prove '..UptoSaid'. A law counts once. -/
mutual
def uptoBulk {H : Type} : DataW H → Nat
  | .lit (.string bytes) => bytes.length + 1
  | .lit _ => 1
  | .nil => 1
  | .ptr d => uptoBulk d + 1
  | .slice elems spare => uptoBulkAll elems + uptoBulkAll spare + 1
  | .agg parts => uptoBulkAll parts + 1
  | .iface _ d => uptoBulk d + 1
  | .map entries => uptoBulkEntries entries + 1
  | .held _ => 1
def uptoBulkAll {H : Type} : List (DataW H) → Nat
  | [] => 0
  | d :: r => uptoBulk d + uptoBulkAll r
def uptoBulkEntries {H : Type} : List (Lit × DataW H) → Nat
  | [] => 0
  | x :: r => uptoBulkEntry x + uptoBulkEntries r
def uptoBulkEntry {H : Type} : Lit × DataW H → Nat
  | (.string bytes, d) => bytes.length + uptoBulk d + 1
  | (_, d) => uptoBulk d + 1
 end
def uptoSmall : (H : Type) → List (DataW H) → Bool := fun _ ds => decide (uptoBulkAll ds ≤ 1048576)
def OpenSpec.upto (s : _root_.Go.ChangeSpec) : _root_.Go.OpenSpec := { _root_.Go.OpenSpec.ofChange s with cond := some uptoSmall }

/-- 'graftlaw09.TidyMerges', WHERE WHAT IT READS IS OF BULK AT MOST 1048576: true; the input reads as it did. -/
def tidyMergesUptoRow : OpenClaim := { program := "ythhmandpjlggcaa", sum := "35a09314b18a73561a6f713f40e2e022866b6f0d2b0de35dba4cda476655c74c", func := "graft/graftlaw09.TidyMerges", spec := "tidyMerges", unfollowed := true, recurses := true, plainKeys := false, apart := false, narrowed := true }
def TidyMergesUptoSaid : Prop := tidyMergesUptoRow.holds Try.pinned (OpenSpec.upto tidyMergesSpec)

/-- 'graftlaw12.ConflictGraphs', WHERE WHAT IT READS IS OF BULK AT MOST 1048576: true; the input reads as it did. -/
def conflictGraphsUptoRow : OpenClaim := { program := "ythhmandpjlggcaa", sum := "35a09314b18a73561a6f713f40e2e022866b6f0d2b0de35dba4cda476655c74c", func := "graft/graftlaw12.ConflictGraphs", spec := "conflictGraphs", unfollowed := true, recurses := true, plainKeys := false, apart := false, narrowed := true }
def ConflictGraphsUptoSaid : Prop := conflictGraphsUptoRow.holds Try.pinned (OpenSpec.upto conflictGraphsSpec)

/-- 'graftlaw12.ConflictWeights', WHERE WHAT IT READS IS OF BULK AT MOST 1048576: true; the input reads as it did. -/
def conflictWeightsUptoRow : OpenClaim := { program := "ythhmandpjlggcaa", sum := "35a09314b18a73561a6f713f40e2e022866b6f0d2b0de35dba4cda476655c74c", func := "graft/graftlaw12.ConflictWeights", spec := "conflictWeights", unfollowed := true, recurses := true, plainKeys := false, apart := false, narrowed := true }
def ConflictWeightsUptoSaid : Prop := conflictWeightsUptoRow.holds Try.pinned (OpenSpec.upto conflictWeightsSpec)

/-- 'graftlaw12.ConflictSelf', WHERE WHAT IT READS IS OF BULK AT MOST 1048576: true; the input reads as it did. -/
def conflictSelfUptoRow : OpenClaim := { program := "ythhmandpjlggcaa", sum := "35a09314b18a73561a6f713f40e2e022866b6f0d2b0de35dba4cda476655c74c", func := "graft/graftlaw12.ConflictSelf", spec := "conflictSelf", unfollowed := true, recurses := true, plainKeys := false, apart := false, narrowed := true }
def ConflictSelfUptoSaid : Prop := conflictSelfUptoRow.holds Try.pinned (OpenSpec.upto conflictSelfSpec)

/-- 'graftlaw12.ConflictViolations', WHERE WHAT IT READS IS OF BULK AT MOST 1048576: true; the input reads as it did. -/
def conflictViolationsUptoRow : OpenClaim := { program := "ythhmandpjlggcaa", sum := "35a09314b18a73561a6f713f40e2e022866b6f0d2b0de35dba4cda476655c74c", func := "graft/graftlaw12.ConflictViolations", spec := "conflictViolations", unfollowed := true, recurses := true, plainKeys := false, apart := false, narrowed := true }
def ConflictViolationsUptoSaid : Prop := conflictViolationsUptoRow.holds Try.pinned (OpenSpec.upto conflictViolationsSpec)

/-- 'graftlaw12.ConflictBack', WHERE WHAT IT READS IS OF BULK AT MOST 1048576: true; the input reads as it did. -/
def conflictBackUptoRow : OpenClaim := { program := "ythhmandpjlggcaa", sum := "35a09314b18a73561a6f713f40e2e022866b6f0d2b0de35dba4cda476655c74c", func := "graft/graftlaw12.ConflictBack", spec := "conflictBack", unfollowed := true, recurses := true, plainKeys := false, apart := false, narrowed := true }
def ConflictBackUptoSaid : Prop := conflictBackUptoRow.holds Try.pinned (OpenSpec.upto conflictBackSpec)

end Rows
end Go.Proofs.Ythhmandpjlggcaa
