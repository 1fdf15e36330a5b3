/-
  No cell of these rows narrows 'for every input' (looked for: loops, veiled, ifaces, maps, wideKeys, modest, calm, conditions, laid).
  DERIVED. THE GIVEN ROWS OF THIS SEAT. 10 by the template 'for every input the law returns true; each argument reads behind the call as it read before'; 0 by the template 'total and deterministic' (their statements: YtkalbidbhaalmaaTotals.lean).
  GIVEN WITH THE SEED: the statements are not yours to turn. If you find one false, say at which input.
  Laid BY PROGRAM, IN A SANDBOX (cutbox-rows.mjs): the forced cells as the released guide's own fill.sh prints them over the translation ee7c20815188216b… (all of the seat's roots in one cut). By AI agents, Wed Nov 11 2026. No macro, syntax, notation, axiom, sorry.
-/
import Derived.Test.YtkalbidbhaalmaaChecked
import GoSem.Claim
import GoSem.ClaimJoined
import GoSem.ClaimMapViews
import Derived.JoinedTies
import Derived.KernelRfl
namespace Go.Proofs.Ytkalbidbhaalmaa
/- THE CELL 'sum', in the pinned program and in every row, IS THE sha256 OF THE DUMP (.gsa) THAT YtkalbidbhaalmaaProg.lean LOADS. Nothing in Lean hashes anything: it is a label: what it is worth is what the hold of that sum in a sandbox is worth. -/
noncomputable def Try.pinned : Pinned := { name := "ytkalbidbhaalmaa", sum := "ee7c20815188216ba14bc5b0bec89758b0f62e9f7b9c04c1be53f7575ed3db37", checked := Try.checked }
namespace Rows
def none {H : Type} : Left H := { results := [], args := [] }

/-- 'graftlaw07.FormatDecodes': WHATEVER THE INPUT: true; the input reads as it did. -/
def formatDecodesSpec : ChangeSpec := { name := "formatDecodes", fn := fun _ => fun
  | [d] => { results := [.lit (.bool true)], args := [d] }
  | _ => none }
def formatDecodesRow : OpenClaim := { program := "ytkalbidbhaalmaa", sum := "ee7c20815188216ba14bc5b0bec89758b0f62e9f7b9c04c1be53f7575ed3db37", func := "graft/graftlaw07.FormatDecodes", spec := "formatDecodes", unfollowed := true, recurses := true, apart := false }
def FormatDecodesSaid : Prop := formatDecodesRow.holds Try.pinned (OpenSpec.ofChange formatDecodesSpec)

/-- ITS FALSE NEIGHBOUR: 'it returns false'. Refute it at one input. -/
def formatDecodesWrong : ChangeSpec := { name := "formatDecodes", fn := fun _ => fun
  | [d] => { results := [.lit (.bool false)], args := [d] }
  | _ => none }
def FormatDecodesWrongFalsely : Prop := formatDecodesRow.holds Try.pinned (OpenSpec.ofChange formatDecodesWrong)

/-- 'graftlaw07.FormatInverse': WHATEVER THE INPUT: true; the input reads as it did. -/
def formatInverseSpec : ChangeSpec := { name := "formatInverse", fn := fun _ => fun
  | [d1, d2] => { results := [.lit (.bool true)], args := [d1, d2] }
  | _ => none }
def formatInverseRow : OpenClaim := { program := "ytkalbidbhaalmaa", sum := "ee7c20815188216ba14bc5b0bec89758b0f62e9f7b9c04c1be53f7575ed3db37", func := "graft/graftlaw07.FormatInverse", spec := "formatInverse", unfollowed := true, recurses := true, apart := false }
def FormatInverseSaid : Prop := formatInverseRow.holds Try.pinned (OpenSpec.ofChange formatInverseSpec)

/-- ITS FALSE NEIGHBOUR: 'it returns false'. Refute it at one input. -/
def formatInverseWrong : ChangeSpec := { name := "formatInverse", fn := fun _ => fun
  | [d1, d2] => { results := [.lit (.bool false)], args := [d1, d2] }
  | _ => none }
def FormatInverseWrongFalsely : Prop := formatInverseRow.holds Try.pinned (OpenSpec.ofChange formatInverseWrong)

/-- 'graftlaw07.FormatCuts': WHATEVER THE INPUT: true; the input reads as it did. -/
def formatCutsSpec : ChangeSpec := { name := "formatCuts", fn := fun _ => fun
  | [d1, d2] => { results := [.lit (.bool true)], args := [d1, d2] }
  | _ => none }
def formatCutsRow : OpenClaim := { program := "ytkalbidbhaalmaa", sum := "ee7c20815188216ba14bc5b0bec89758b0f62e9f7b9c04c1be53f7575ed3db37", func := "graft/graftlaw07.FormatCuts", spec := "formatCuts", unfollowed := true, recurses := true, apart := false }
def FormatCutsSaid : Prop := formatCutsRow.holds Try.pinned (OpenSpec.ofChange formatCutsSpec)

/-- ITS FALSE NEIGHBOUR: 'it returns false'. Refute it at one input. -/
def formatCutsWrong : ChangeSpec := { name := "formatCuts", fn := fun _ => fun
  | [d1, d2] => { results := [.lit (.bool false)], args := [d1, d2] }
  | _ => none }
def FormatCutsWrongFalsely : Prop := formatCutsRow.holds Try.pinned (OpenSpec.ofChange formatCutsWrong)

/-- 'graftlaw07.FormatEncodes': WHATEVER THE INPUT: true; the input reads as it did. -/
def formatEncodesSpec : ChangeSpec := { name := "formatEncodes", fn := fun _ => fun
  | [d] => { results := [.lit (.bool true)], args := [d] }
  | _ => none }
def formatEncodesRow : OpenClaim := { program := "ytkalbidbhaalmaa", sum := "ee7c20815188216ba14bc5b0bec89758b0f62e9f7b9c04c1be53f7575ed3db37", func := "graft/graftlaw07.FormatEncodes", spec := "formatEncodes", unfollowed := true, recurses := true, apart := false }
def FormatEncodesSaid : Prop := formatEncodesRow.holds Try.pinned (OpenSpec.ofChange formatEncodesSpec)

/-- ITS FALSE NEIGHBOUR: 'it returns false'. Refute it at one input. -/
def formatEncodesWrong : ChangeSpec := { name := "formatEncodes", fn := fun _ => fun
  | [d] => { results := [.lit (.bool false)], args := [d] }
  | _ => none }
def FormatEncodesWrongFalsely : Prop := formatEncodesRow.holds Try.pinned (OpenSpec.ofChange formatEncodesWrong)

/-- 'graftlaw07.FormatOnce': WHATEVER THE INPUT: true; the input reads as it did. -/
def formatOnceSpec : ChangeSpec := { name := "formatOnce", fn := fun _ => fun
  | [d] => { results := [.lit (.bool true)], args := [d] }
  | _ => none }
def formatOnceRow : OpenClaim := { program := "ytkalbidbhaalmaa", sum := "ee7c20815188216ba14bc5b0bec89758b0f62e9f7b9c04c1be53f7575ed3db37", func := "graft/graftlaw07.FormatOnce", spec := "formatOnce", unfollowed := true, recurses := true, apart := false }
def FormatOnceSaid : Prop := formatOnceRow.holds Try.pinned (OpenSpec.ofChange formatOnceSpec)

/-- ITS FALSE NEIGHBOUR: 'it returns false'. Refute it at one input. -/
def formatOnceWrong : ChangeSpec := { name := "formatOnce", fn := fun _ => fun
  | [d] => { results := [.lit (.bool false)], args := [d] }
  | _ => none }
def FormatOnceWrongFalsely : Prop := formatOnceRow.holds Try.pinned (OpenSpec.ofChange formatOnceWrong)

/-- 'graftlaw05.DeltaChecks': WHATEVER THE INPUT: true; the input reads as it did. -/
def deltaChecksSpec : ChangeSpec := { name := "deltaChecks", fn := fun _ => fun
  | [d] => { results := [.lit (.bool true)], args := [d] }
  | _ => none }
def deltaChecksRow : OpenClaim := { program := "ytkalbidbhaalmaa", sum := "ee7c20815188216ba14bc5b0bec89758b0f62e9f7b9c04c1be53f7575ed3db37", func := "graft/graftlaw05.DeltaChecks", spec := "deltaChecks", unfollowed := true, recurses := true, apart := false }
def DeltaChecksSaid : Prop := deltaChecksRow.holds Try.pinned (OpenSpec.ofChange deltaChecksSpec)

/-- ITS FALSE NEIGHBOUR: 'it returns false'. Refute it at one input. -/
def deltaChecksWrong : ChangeSpec := { name := "deltaChecks", fn := fun _ => fun
  | [d] => { results := [.lit (.bool false)], args := [d] }
  | _ => none }
def DeltaChecksWrongFalsely : Prop := deltaChecksRow.holds Try.pinned (OpenSpec.ofChange deltaChecksWrong)

/-- 'graftlaw05.DeltaBreaks': WHATEVER THE INPUT: true; the input reads as it did. -/
def deltaBreaksSpec : ChangeSpec := { name := "deltaBreaks", fn := fun _ => fun
  | [d1, d2] => { results := [.lit (.bool true)], args := [d1, d2] }
  | _ => none }
def deltaBreaksRow : OpenClaim := { program := "ytkalbidbhaalmaa", sum := "ee7c20815188216ba14bc5b0bec89758b0f62e9f7b9c04c1be53f7575ed3db37", func := "graft/graftlaw05.DeltaBreaks", spec := "deltaBreaks", unfollowed := true, recurses := true, apart := false }
def DeltaBreaksSaid : Prop := deltaBreaksRow.holds Try.pinned (OpenSpec.ofChange deltaBreaksSpec)

/-- ITS FALSE NEIGHBOUR: 'it returns false'. Refute it at one input. -/
def deltaBreaksWrong : ChangeSpec := { name := "deltaBreaks", fn := fun _ => fun
  | [d1, d2] => { results := [.lit (.bool false)], args := [d1, d2] }
  | _ => none }
def DeltaBreaksWrongFalsely : Prop := deltaBreaksRow.holds Try.pinned (OpenSpec.ofChange deltaBreaksWrong)

/-- 'graftlaw05.DeltaSorts': WHATEVER THE INPUT: true; the input reads as it did. -/
def deltaSortsSpec : ChangeSpec := { name := "deltaSorts", fn := fun _ => fun
  | [d] => { results := [.lit (.bool true)], args := [d] }
  | _ => none }
def deltaSortsRow : OpenClaim := { program := "ytkalbidbhaalmaa", sum := "ee7c20815188216ba14bc5b0bec89758b0f62e9f7b9c04c1be53f7575ed3db37", func := "graft/graftlaw05.DeltaSorts", spec := "deltaSorts", unfollowed := true, recurses := true, apart := false }
def DeltaSortsSaid : Prop := deltaSortsRow.holds Try.pinned (OpenSpec.ofChange deltaSortsSpec)

/-- ITS FALSE NEIGHBOUR: 'it returns false'. Refute it at one input. -/
def deltaSortsWrong : ChangeSpec := { name := "deltaSorts", fn := fun _ => fun
  | [d] => { results := [.lit (.bool false)], args := [d] }
  | _ => none }
def DeltaSortsWrongFalsely : Prop := deltaSortsRow.holds Try.pinned (OpenSpec.ofChange deltaSortsWrong)

/-- 'graftlaw05.DeltaTotals': WHATEVER THE INPUT: true; the input reads as it did. -/
def deltaTotalsSpec : ChangeSpec := { name := "deltaTotals", fn := fun _ => fun
  | [d] => { results := [.lit (.bool true)], args := [d] }
  | _ => none }
def deltaTotalsRow : OpenClaim := { program := "ytkalbidbhaalmaa", sum := "ee7c20815188216ba14bc5b0bec89758b0f62e9f7b9c04c1be53f7575ed3db37", func := "graft/graftlaw05.DeltaTotals", spec := "deltaTotals", unfollowed := true, recurses := true, apart := false }
def DeltaTotalsSaid : Prop := deltaTotalsRow.holds Try.pinned (OpenSpec.ofChange deltaTotalsSpec)

/-- ITS FALSE NEIGHBOUR: 'it returns false'. Refute it at one input. -/
def deltaTotalsWrong : ChangeSpec := { name := "deltaTotals", fn := fun _ => fun
  | [d] => { results := [.lit (.bool false)], args := [d] }
  | _ => none }
def DeltaTotalsWrongFalsely : Prop := deltaTotalsRow.holds Try.pinned (OpenSpec.ofChange deltaTotalsWrong)

/-- 'graftlaw05.DeltaWith': WHATEVER THE INPUT: true; the input reads as it did. -/
def deltaWithSpec : ChangeSpec := { name := "deltaWith", fn := fun _ => fun
  | [d1, d2] => { results := [.lit (.bool true)], args := [d1, d2] }
  | _ => none }
def deltaWithRow : OpenClaim := { program := "ytkalbidbhaalmaa", sum := "ee7c20815188216ba14bc5b0bec89758b0f62e9f7b9c04c1be53f7575ed3db37", func := "graft/graftlaw05.DeltaWith", spec := "deltaWith", unfollowed := true, recurses := true, apart := false }
def DeltaWithSaid : Prop := deltaWithRow.holds Try.pinned (OpenSpec.ofChange deltaWithSpec)

/-- ITS FALSE NEIGHBOUR: 'it returns false'. Refute it at one input. -/
def deltaWithWrong : ChangeSpec := { name := "deltaWith", fn := fun _ => fun
  | [d1, d2] => { results := [.lit (.bool false)], args := [d1, d2] }
  | _ => none }
def DeltaWithWrongFalsely : Prop := deltaWithRow.holds Try.pinned (OpenSpec.ofChange deltaWithWrong)

/- THE SECOND FORM. 'bulk': how many values and letters a reading holds, each counted each time it is reached (what is shared counts as often as it is met; a slice's spare places count too). A statement '..UptoSaid' is the law's where the arguments, and the package variables that the reading takes, are together of bulk at most 1048576: NARROWER than '..Said'. Prove '..Said' where nothing that the law and all that it calls make is longer than what came in: it says more and counts as full. Else prove '..UptoSaid'. A law counts once. -/
mutual
def uptoBulk {H : Type} : DataW H → Nat
  | .lit (.string bytes) => bytes.length + 1
  | .lit _ => 1
  | .nil => 1
  | .ptr d => uptoBulk d + 1
  | .slice elems spare => uptoBulkAll elems + uptoBulkAll spare + 1
  | .agg parts => uptoBulkAll parts + 1
  | .iface _ d => uptoBulk d + 1
  | .map entries => uptoBulkEntries entries + 1
  | .held _ => 1
def uptoBulkAll {H : Type} : List (DataW H) → Nat
  | [] => 0
  | d :: r => uptoBulk d + uptoBulkAll r
def uptoBulkEntries {H : Type} : List (Lit × DataW H) → Nat
  | [] => 0
  | x :: r => uptoBulkEntry x + uptoBulkEntries r
def uptoBulkEntry {H : Type} : Lit × DataW H → Nat
  | (.string bytes, d) => bytes.length + uptoBulk d + 1
  | (_, d) => uptoBulk d + 1
 end
def uptoSmall : (H : Type) → List (DataW H) → Bool := fun _ ds => decide (uptoBulkAll ds ≤ 1048576)
def OpenSpec.upto (s : _root_.Go.ChangeSpec) : _root_.Go.OpenSpec := { _root_.Go.OpenSpec.ofChange s with cond := some uptoSmall }

/-- 'graftlaw07.FormatDecodes', WHERE WHAT IT READS IS OF BULK AT MOST 1048576: true; the input reads as it did. -/
def formatDecodesUptoRow : OpenClaim := { program := "ytkalbidbhaalmaa", sum := "ee7c20815188216ba14bc5b0bec89758b0f62e9f7b9c04c1be53f7575ed3db37", func := "graft/graftlaw07.FormatDecodes", spec := "formatDecodes", unfollowed := true, recurses := true, apart := false, narrowed := true }
def FormatDecodesUptoSaid : Prop := formatDecodesUptoRow.holds Try.pinned (OpenSpec.upto formatDecodesSpec)

/-- 'graftlaw07.FormatInverse', WHERE WHAT IT READS IS OF BULK AT MOST 1048576: true; the input reads as it did. -/
def formatInverseUptoRow : OpenClaim := { program := "ytkalbidbhaalmaa", sum := "ee7c20815188216ba14bc5b0bec89758b0f62e9f7b9c04c1be53f7575ed3db37", func := "graft/graftlaw07.FormatInverse", spec := "formatInverse", unfollowed := true, recurses := true, apart := false, narrowed := true }
def FormatInverseUptoSaid : Prop := formatInverseUptoRow.holds Try.pinned (OpenSpec.upto formatInverseSpec)

/-- 'graftlaw07.FormatCuts', WHERE WHAT IT READS IS OF BULK AT MOST 1048576: true; the input reads as it did. -/
def formatCutsUptoRow : OpenClaim := { program := "ytkalbidbhaalmaa", sum := "ee7c20815188216ba14bc5b0bec89758b0f62e9f7b9c04c1be53f7575ed3db37", func := "graft/graftlaw07.FormatCuts", spec := "formatCuts", unfollowed := true, recurses := true, apart := false, narrowed := true }
def FormatCutsUptoSaid : Prop := formatCutsUptoRow.holds Try.pinned (OpenSpec.upto formatCutsSpec)

/-- 'graftlaw07.FormatEncodes', WHERE WHAT IT READS IS OF BULK AT MOST 1048576: true; the input reads as it did. -/
def formatEncodesUptoRow : OpenClaim := { program := "ytkalbidbhaalmaa", sum := "ee7c20815188216ba14bc5b0bec89758b0f62e9f7b9c04c1be53f7575ed3db37", func := "graft/graftlaw07.FormatEncodes", spec := "formatEncodes", unfollowed := true, recurses := true, apart := false, narrowed := true }
def FormatEncodesUptoSaid : Prop := formatEncodesUptoRow.holds Try.pinned (OpenSpec.upto formatEncodesSpec)

/-- 'graftlaw07.FormatOnce', WHERE WHAT IT READS IS OF BULK AT MOST 1048576: true; the input reads as it did. -/
def formatOnceUptoRow : OpenClaim := { program := "ytkalbidbhaalmaa", sum := "ee7c20815188216ba14bc5b0bec89758b0f62e9f7b9c04c1be53f7575ed3db37", func := "graft/graftlaw07.FormatOnce", spec := "formatOnce", unfollowed := true, recurses := true, apart := false, narrowed := true }
def FormatOnceUptoSaid : Prop := formatOnceUptoRow.holds Try.pinned (OpenSpec.upto formatOnceSpec)

/-- 'graftlaw05.DeltaChecks', WHERE WHAT IT READS IS OF BULK AT MOST 1048576: true; the input reads as it did. -/
def deltaChecksUptoRow : OpenClaim := { program := "ytkalbidbhaalmaa", sum := "ee7c20815188216ba14bc5b0bec89758b0f62e9f7b9c04c1be53f7575ed3db37", func := "graft/graftlaw05.DeltaChecks", spec := "deltaChecks", unfollowed := true, recurses := true, apart := false, narrowed := true }
def DeltaChecksUptoSaid : Prop := deltaChecksUptoRow.holds Try.pinned (OpenSpec.upto deltaChecksSpec)

/-- 'graftlaw05.DeltaBreaks', WHERE WHAT IT READS IS OF BULK AT MOST 1048576: true; the input reads as it did. -/
def deltaBreaksUptoRow : OpenClaim := { program := "ytkalbidbhaalmaa", sum := "ee7c20815188216ba14bc5b0bec89758b0f62e9f7b9c04c1be53f7575ed3db37", func := "graft/graftlaw05.DeltaBreaks", spec := "deltaBreaks", unfollowed := true, recurses := true, apart := false, narrowed := true }
def DeltaBreaksUptoSaid : Prop := deltaBreaksUptoRow.holds Try.pinned (OpenSpec.upto deltaBreaksSpec)

/-- 'graftlaw05.DeltaSorts', WHERE WHAT IT READS IS OF BULK AT MOST 1048576: true; the input reads as it did. -/
def deltaSortsUptoRow : OpenClaim := { program := "ytkalbidbhaalmaa", sum := "ee7c20815188216ba14bc5b0bec89758b0f62e9f7b9c04c1be53f7575ed3db37", func := "graft/graftlaw05.DeltaSorts", spec := "deltaSorts", unfollowed := true, recurses := true, apart := false, narrowed := true }
def DeltaSortsUptoSaid : Prop := deltaSortsUptoRow.holds Try.pinned (OpenSpec.upto deltaSortsSpec)

/-- 'graftlaw05.DeltaTotals', WHERE WHAT IT READS IS OF BULK AT MOST 1048576: true; the input reads as it did. -/
def deltaTotalsUptoRow : OpenClaim := { program := "ytkalbidbhaalmaa", sum := "ee7c20815188216ba14bc5b0bec89758b0f62e9f7b9c04c1be53f7575ed3db37", func := "graft/graftlaw05.DeltaTotals", spec := "deltaTotals", unfollowed := true, recurses := true, apart := false, narrowed := true }
def DeltaTotalsUptoSaid : Prop := deltaTotalsUptoRow.holds Try.pinned (OpenSpec.upto deltaTotalsSpec)

/-- 'graftlaw05.DeltaWith', WHERE WHAT IT READS IS OF BULK AT MOST 1048576: true; the input reads as it did. -/
def deltaWithUptoRow : OpenClaim := { program := "ytkalbidbhaalmaa", sum := "ee7c20815188216ba14bc5b0bec89758b0f62e9f7b9c04c1be53f7575ed3db37", func := "graft/graftlaw05.DeltaWith", spec := "deltaWith", unfollowed := true, recurses := true, apart := false, narrowed := true }
def DeltaWithUptoSaid : Prop := deltaWithUptoRow.holds Try.pinned (OpenSpec.upto deltaWithSpec)

end Rows
end Go.Proofs.Ytkalbidbhaalmaa
