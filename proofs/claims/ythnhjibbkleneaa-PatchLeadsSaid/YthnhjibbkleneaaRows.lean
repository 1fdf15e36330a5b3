/-
  No cell of these rows narrows 'for every input' (looked for: loops, veiled, ifaces, maps, wideKeys, modest, calm, conditions, laid).
  DERIVED. THE GIVEN ROWS OF THIS SEAT. 8 by the template 'for every input the law returns true; each argument reads behind the call as it read before'; 0 by the template 'total and deterministic' (their statements: YthnhjibbkleneaaTotals.lean).
  GIVEN WITH THE SEED: the statements are not yours to turn. If you find one false, say at which input.
  Laid BY PROGRAM, IN A SANDBOX (cutbox-rows.mjs): the forced cells as the released guide's own fill.sh prints them over the translation c3f42853a0a08197… (all of the seat's roots in one cut). By AI agents, Wed Nov 11 2026. No macro, syntax, notation, axiom, sorry.
-/
import Derived.Test.YthnhjibbkleneaaChecked
import GoSem.Claim
import GoSem.ClaimJoined
import GoSem.ClaimMapViews
import Derived.JoinedTies
import Derived.KernelRfl
namespace Go.Proofs.Ythnhjibbkleneaa
/- THE CELL 'sum', in the pinned program and in every row, IS THE sha256 OF THE DUMP (.gsa) THAT YthnhjibbkleneaaProg.lean LOADS. Nothing in Lean hashes anything: it is a label: what it is worth is what the hold of that sum in a sandbox is worth. -/
noncomputable def Try.pinned : Pinned := { name := "ythnhjibbkleneaa", sum := "c3f42853a0a08197e248dd7c3d2607041b41da7aa475767849f818628ce9147f", checked := Try.checked }
namespace Rows
def none {H : Type} : Left H := { results := [], args := [] }

/-- 'graftlaw08.PatchApplies': WHATEVER THE INPUT: true; the input reads as it did. -/
def patchAppliesSpec : ChangeSpec := { name := "patchApplies", fn := fun _ => fun
  | [d1, d2] => { results := [.lit (.bool true)], args := [d1, d2] }
  | _ => none }
def patchAppliesRow : OpenClaim := { program := "ythnhjibbkleneaa", sum := "c3f42853a0a08197e248dd7c3d2607041b41da7aa475767849f818628ce9147f", func := "graft/graftlaw08.PatchApplies", spec := "patchApplies", inPlace := ["internal/bytealg.IndexByte", "internal/bytealg.Index"], unfollowed := true, recurses := true, named := ["internal/bytealg.MaxLen"], apart := false }
def PatchAppliesSaid : Prop := patchAppliesRow.holds Try.pinned (OpenSpec.ofChange patchAppliesSpec)

/-- ITS FALSE NEIGHBOUR: 'it returns false'. Refute it at one input. -/
def patchAppliesWrong : ChangeSpec := { name := "patchApplies", fn := fun _ => fun
  | [d1, d2] => { results := [.lit (.bool false)], args := [d1, d2] }
  | _ => none }
def PatchAppliesWrongFalsely : Prop := patchAppliesRow.holds Try.pinned (OpenSpec.ofChange patchAppliesWrong)

/-- 'graftlaw08.PatchOrder': WHATEVER THE INPUT: true; the input reads as it did. -/
def patchOrderSpec : ChangeSpec := { name := "patchOrder", fn := fun _ => fun
  | [d1, d2] => { results := [.lit (.bool true)], args := [d1, d2] }
  | _ => none }
def patchOrderRow : OpenClaim := { program := "ythnhjibbkleneaa", sum := "c3f42853a0a08197e248dd7c3d2607041b41da7aa475767849f818628ce9147f", func := "graft/graftlaw08.PatchOrder", spec := "patchOrder", inPlace := ["internal/bytealg.IndexByte", "internal/bytealg.Index"], unfollowed := true, recurses := true, named := ["internal/bytealg.MaxLen"], apart := false }
def PatchOrderSaid : Prop := patchOrderRow.holds Try.pinned (OpenSpec.ofChange patchOrderSpec)

/-- ITS FALSE NEIGHBOUR: 'it returns false'. Refute it at one input. -/
def patchOrderWrong : ChangeSpec := { name := "patchOrder", fn := fun _ => fun
  | [d1, d2] => { results := [.lit (.bool false)], args := [d1, d2] }
  | _ => none }
def PatchOrderWrongFalsely : Prop := patchOrderRow.holds Try.pinned (OpenSpec.ofChange patchOrderWrong)

/-- 'graftlaw08.PatchBytes': WHATEVER THE INPUT: true; the input reads as it did. -/
def patchBytesSpec : ChangeSpec := { name := "patchBytes", fn := fun _ => fun
  | [d1, d2, d3] => { results := [.lit (.bool true)], args := [d1, d2, d3] }
  | _ => none }
def patchBytesRow : OpenClaim := { program := "ythnhjibbkleneaa", sum := "c3f42853a0a08197e248dd7c3d2607041b41da7aa475767849f818628ce9147f", func := "graft/graftlaw08.PatchBytes", spec := "patchBytes", inPlace := ["internal/bytealg.IndexByte", "internal/bytealg.Index"], unfollowed := true, recurses := true, named := ["internal/bytealg.MaxLen"], apart := false }
def PatchBytesSaid : Prop := patchBytesRow.holds Try.pinned (OpenSpec.ofChange patchBytesSpec)

/-- ITS FALSE NEIGHBOUR: 'it returns false'. Refute it at one input. -/
def patchBytesWrong : ChangeSpec := { name := "patchBytes", fn := fun _ => fun
  | [d1, d2, d3] => { results := [.lit (.bool false)], args := [d1, d2, d3] }
  | _ => none }
def PatchBytesWrongFalsely : Prop := patchBytesRow.holds Try.pinned (OpenSpec.ofChange patchBytesWrong)

/-- 'graftlaw16.SafeEdges': WHATEVER THE INPUT: true; the input reads as it did. -/
def safeEdgesSpec : ChangeSpec := { name := "safeEdges", fn := fun _ => fun
  | [d] => { results := [.lit (.bool true)], args := [d] }
  | _ => none }
def safeEdgesRow : OpenClaim := { program := "ythnhjibbkleneaa", sum := "c3f42853a0a08197e248dd7c3d2607041b41da7aa475767849f818628ce9147f", func := "graft/graftlaw16.SafeEdges", spec := "safeEdges", unfollowed := true, recurses := true, apart := false }
def SafeEdgesSaid : Prop := safeEdgesRow.holds Try.pinned (OpenSpec.ofChange safeEdgesSpec)

/-- ITS FALSE NEIGHBOUR: 'it returns false'. Refute it at one input. -/
def safeEdgesWrong : ChangeSpec := { name := "safeEdges", fn := fun _ => fun
  | [d] => { results := [.lit (.bool false)], args := [d] }
  | _ => none }
def SafeEdgesWrongFalsely : Prop := safeEdgesRow.holds Try.pinned (OpenSpec.ofChange safeEdgesWrong)

/-- 'graftlaw08.PatchLeads': WHATEVER THE INPUT: true; the input reads as it did. -/
def patchLeadsSpec : ChangeSpec := { name := "patchLeads", fn := fun _ => fun
  | [d1, d2, d3] => { results := [.lit (.bool true)], args := [d1, d2, d3] }
  | _ => none }
def patchLeadsRow : OpenClaim := { program := "ythnhjibbkleneaa", sum := "c3f42853a0a08197e248dd7c3d2607041b41da7aa475767849f818628ce9147f", func := "graft/graftlaw08.PatchLeads", spec := "patchLeads", inPlace := ["internal/bytealg.IndexByte", "internal/bytealg.Index"], unfollowed := true, recurses := true, named := ["internal/bytealg.MaxLen"], apart := false }
def PatchLeadsSaid : Prop := patchLeadsRow.holds Try.pinned (OpenSpec.ofChange patchLeadsSpec)

/-- ITS FALSE NEIGHBOUR: 'it returns false'. Refute it at one input. -/
def patchLeadsWrong : ChangeSpec := { name := "patchLeads", fn := fun _ => fun
  | [d1, d2, d3] => { results := [.lit (.bool false)], args := [d1, d2, d3] }
  | _ => none }
def PatchLeadsWrongFalsely : Prop := patchLeadsRow.holds Try.pinned (OpenSpec.ofChange patchLeadsWrong)

/-- 'graftlaw08.PatchMakes': WHATEVER THE INPUT: true; the input reads as it did. -/
def patchMakesSpec : ChangeSpec := { name := "patchMakes", fn := fun _ => fun
  | [d1, d2, d3] => { results := [.lit (.bool true)], args := [d1, d2, d3] }
  | _ => none }
def patchMakesRow : OpenClaim := { program := "ythnhjibbkleneaa", sum := "c3f42853a0a08197e248dd7c3d2607041b41da7aa475767849f818628ce9147f", func := "graft/graftlaw08.PatchMakes", spec := "patchMakes", inPlace := ["internal/bytealg.IndexByte", "internal/bytealg.Index"], unfollowed := true, recurses := true, named := ["internal/bytealg.MaxLen"], apart := false }
def PatchMakesSaid : Prop := patchMakesRow.holds Try.pinned (OpenSpec.ofChange patchMakesSpec)

/-- ITS FALSE NEIGHBOUR: 'it returns false'. Refute it at one input. -/
def patchMakesWrong : ChangeSpec := { name := "patchMakes", fn := fun _ => fun
  | [d1, d2, d3] => { results := [.lit (.bool false)], args := [d1, d2, d3] }
  | _ => none }
def PatchMakesWrongFalsely : Prop := patchMakesRow.holds Try.pinned (OpenSpec.ofChange patchMakesWrong)

/-- 'graftlaw08.PatchVerifies': WHATEVER THE INPUT: true; the input reads as it did. -/
def patchVerifiesSpec : ChangeSpec := { name := "patchVerifies", fn := fun _ => fun
  | [d1, d2] => { results := [.lit (.bool true)], args := [d1, d2] }
  | _ => none }
def patchVerifiesRow : OpenClaim := { program := "ythnhjibbkleneaa", sum := "c3f42853a0a08197e248dd7c3d2607041b41da7aa475767849f818628ce9147f", func := "graft/graftlaw08.PatchVerifies", spec := "patchVerifies", inPlace := ["internal/bytealg.IndexByte", "internal/bytealg.Index"], unfollowed := true, recurses := true, named := ["internal/bytealg.MaxLen"], apart := false }
def PatchVerifiesSaid : Prop := patchVerifiesRow.holds Try.pinned (OpenSpec.ofChange patchVerifiesSpec)

/-- ITS FALSE NEIGHBOUR: 'it returns false'. Refute it at one input. -/
def patchVerifiesWrong : ChangeSpec := { name := "patchVerifies", fn := fun _ => fun
  | [d1, d2] => { results := [.lit (.bool false)], args := [d1, d2] }
  | _ => none }
def PatchVerifiesWrongFalsely : Prop := patchVerifiesRow.holds Try.pinned (OpenSpec.ofChange patchVerifiesWrong)

/-- 'graftlaw08.PatchDescribes': WHATEVER THE INPUT: true; the input reads as it did. -/
def patchDescribesSpec : ChangeSpec := { name := "patchDescribes", fn := fun _ => fun
  | [d1, d2, d3] => { results := [.lit (.bool true)], args := [d1, d2, d3] }
  | _ => none }
def patchDescribesRow : OpenClaim := { program := "ythnhjibbkleneaa", sum := "c3f42853a0a08197e248dd7c3d2607041b41da7aa475767849f818628ce9147f", func := "graft/graftlaw08.PatchDescribes", spec := "patchDescribes", inPlace := ["internal/bytealg.IndexByte", "internal/bytealg.Index"], unfollowed := true, recurses := true, named := ["internal/bytealg.MaxLen"], apart := false }
def PatchDescribesSaid : Prop := patchDescribesRow.holds Try.pinned (OpenSpec.ofChange patchDescribesSpec)

/-- ITS FALSE NEIGHBOUR: 'it returns false'. Refute it at one input. -/
def patchDescribesWrong : ChangeSpec := { name := "patchDescribes", fn := fun _ => fun
  | [d1, d2, d3] => { results := [.lit (.bool false)], args := [d1, d2, d3] }
  | _ => none }
def PatchDescribesWrongFalsely : Prop := patchDescribesRow.holds Try.pinned (OpenSpec.ofChange patchDescribesWrong)

/- THE SECOND FORM. 'bulk': how many values and letters a reading holds, each counted each time it is reached (what is shared counts as often as it is met; a slice's spare places count too). A statement '..UptoSaid' is the law's where the arguments, and the package variables that the reading takes, are together of bulk at most 1048576: NARROWER than '..Said'. Prove '..Said' where nothing that the law and all that it calls make is longer than what came in: it says more and counts as full. Else prove '..UptoSaid'. A law counts once. -/
mutual
def uptoBulk {H : Type} : DataW H → Nat
  | .lit (.string bytes) => bytes.length + 1
  | .lit _ => 1
  | .nil => 1
  | .ptr d => uptoBulk d + 1
  | .slice elems spare => uptoBulkAll elems + uptoBulkAll spare + 1
  | .agg parts => uptoBulkAll parts + 1
  | .iface _ d => uptoBulk d + 1
  | .map entries => uptoBulkEntries entries + 1
  | .held _ => 1
def uptoBulkAll {H : Type} : List (DataW H) → Nat
  | [] => 0
  | d :: r => uptoBulk d + uptoBulkAll r
def uptoBulkEntries {H : Type} : List (Lit × DataW H) → Nat
  | [] => 0
  | x :: r => uptoBulkEntry x + uptoBulkEntries r
def uptoBulkEntry {H : Type} : Lit × DataW H → Nat
  | (.string bytes, d) => bytes.length + uptoBulk d + 1
  | (_, d) => uptoBulk d + 1
 end
def uptoSmall : (H : Type) → List (DataW H) → Bool := fun _ ds => decide (uptoBulkAll ds ≤ 1048576)
def OpenSpec.upto (s : _root_.Go.ChangeSpec) : _root_.Go.OpenSpec := { _root_.Go.OpenSpec.ofChange s with cond := some uptoSmall }

/-- 'graftlaw08.PatchApplies', WHERE WHAT IT READS IS OF BULK AT MOST 1048576: true; the input reads as it did. -/
def patchAppliesUptoRow : OpenClaim := { program := "ythnhjibbkleneaa", sum := "c3f42853a0a08197e248dd7c3d2607041b41da7aa475767849f818628ce9147f", func := "graft/graftlaw08.PatchApplies", spec := "patchApplies", inPlace := ["internal/bytealg.IndexByte", "internal/bytealg.Index"], unfollowed := true, recurses := true, named := ["internal/bytealg.MaxLen"], apart := false, narrowed := true }
def PatchAppliesUptoSaid : Prop := patchAppliesUptoRow.holds Try.pinned (OpenSpec.upto patchAppliesSpec)

/-- 'graftlaw08.PatchOrder', WHERE WHAT IT READS IS OF BULK AT MOST 1048576: true; the input reads as it did. -/
def patchOrderUptoRow : OpenClaim := { program := "ythnhjibbkleneaa", sum := "c3f42853a0a08197e248dd7c3d2607041b41da7aa475767849f818628ce9147f", func := "graft/graftlaw08.PatchOrder", spec := "patchOrder", inPlace := ["internal/bytealg.IndexByte", "internal/bytealg.Index"], unfollowed := true, recurses := true, named := ["internal/bytealg.MaxLen"], apart := false, narrowed := true }
def PatchOrderUptoSaid : Prop := patchOrderUptoRow.holds Try.pinned (OpenSpec.upto patchOrderSpec)

/-- 'graftlaw08.PatchBytes', WHERE WHAT IT READS IS OF BULK AT MOST 1048576: true; the input reads as it did. -/
def patchBytesUptoRow : OpenClaim := { program := "ythnhjibbkleneaa", sum := "c3f42853a0a08197e248dd7c3d2607041b41da7aa475767849f818628ce9147f", func := "graft/graftlaw08.PatchBytes", spec := "patchBytes", inPlace := ["internal/bytealg.IndexByte", "internal/bytealg.Index"], unfollowed := true, recurses := true, named := ["internal/bytealg.MaxLen"], apart := false, narrowed := true }
def PatchBytesUptoSaid : Prop := patchBytesUptoRow.holds Try.pinned (OpenSpec.upto patchBytesSpec)

/-- 'graftlaw16.SafeEdges', WHERE WHAT IT READS IS OF BULK AT MOST 1048576: true; the input reads as it did. -/
def safeEdgesUptoRow : OpenClaim := { program := "ythnhjibbkleneaa", sum := "c3f42853a0a08197e248dd7c3d2607041b41da7aa475767849f818628ce9147f", func := "graft/graftlaw16.SafeEdges", spec := "safeEdges", unfollowed := true, recurses := true, apart := false, narrowed := true }
def SafeEdgesUptoSaid : Prop := safeEdgesUptoRow.holds Try.pinned (OpenSpec.upto safeEdgesSpec)

/-- 'graftlaw08.PatchLeads', WHERE WHAT IT READS IS OF BULK AT MOST 1048576: true; the input reads as it did. -/
def patchLeadsUptoRow : OpenClaim := { program := "ythnhjibbkleneaa", sum := "c3f42853a0a08197e248dd7c3d2607041b41da7aa475767849f818628ce9147f", func := "graft/graftlaw08.PatchLeads", spec := "patchLeads", inPlace := ["internal/bytealg.IndexByte", "internal/bytealg.Index"], unfollowed := true, recurses := true, named := ["internal/bytealg.MaxLen"], apart := false, narrowed := true }
def PatchLeadsUptoSaid : Prop := patchLeadsUptoRow.holds Try.pinned (OpenSpec.upto patchLeadsSpec)

/-- 'graftlaw08.PatchMakes', WHERE WHAT IT READS IS OF BULK AT MOST 1048576: true; the input reads as it did. -/
def patchMakesUptoRow : OpenClaim := { program := "ythnhjibbkleneaa", sum := "c3f42853a0a08197e248dd7c3d2607041b41da7aa475767849f818628ce9147f", func := "graft/graftlaw08.PatchMakes", spec := "patchMakes", inPlace := ["internal/bytealg.IndexByte", "internal/bytealg.Index"], unfollowed := true, recurses := true, named := ["internal/bytealg.MaxLen"], apart := false, narrowed := true }
def PatchMakesUptoSaid : Prop := patchMakesUptoRow.holds Try.pinned (OpenSpec.upto patchMakesSpec)

/-- 'graftlaw08.PatchVerifies', WHERE WHAT IT READS IS OF BULK AT MOST 1048576: true; the input reads as it did. -/
def patchVerifiesUptoRow : OpenClaim := { program := "ythnhjibbkleneaa", sum := "c3f42853a0a08197e248dd7c3d2607041b41da7aa475767849f818628ce9147f", func := "graft/graftlaw08.PatchVerifies", spec := "patchVerifies", inPlace := ["internal/bytealg.IndexByte", "internal/bytealg.Index"], unfollowed := true, recurses := true, named := ["internal/bytealg.MaxLen"], apart := false, narrowed := true }
def PatchVerifiesUptoSaid : Prop := patchVerifiesUptoRow.holds Try.pinned (OpenSpec.upto patchVerifiesSpec)

/-- 'graftlaw08.PatchDescribes', WHERE WHAT IT READS IS OF BULK AT MOST 1048576: true; the input reads as it did. -/
def patchDescribesUptoRow : OpenClaim := { program := "ythnhjibbkleneaa", sum := "c3f42853a0a08197e248dd7c3d2607041b41da7aa475767849f818628ce9147f", func := "graft/graftlaw08.PatchDescribes", spec := "patchDescribes", inPlace := ["internal/bytealg.IndexByte", "internal/bytealg.Index"], unfollowed := true, recurses := true, named := ["internal/bytealg.MaxLen"], apart := false, narrowed := true }
def PatchDescribesUptoSaid : Prop := patchDescribesUptoRow.holds Try.pinned (OpenSpec.upto patchDescribesSpec)

end Rows
end Go.Proofs.Ythnhjibbkleneaa
