/-
  No cell of these rows narrows 'for every input' (looked for: loops, veiled, ifaces, maps, wideKeys, modest, calm, conditions, laid).
  DERIVED. THE GIVEN ROWS OF THIS SEAT. 3 by the template 'for every input the law returns true; each argument reads behind the call as it read before'; 0 by the template 'total and deterministic' (their statements: YtjfkdglgecgjfaaGreatTotals.lean).
  GIVEN WITH THE SEED: the statements are not yours to turn. If you find one false, say at which input.
  Laid BY PROGRAM, IN A SANDBOX (cutbox-rows.mjs): the forced cells as the released guide's own fill.sh prints them over the translation d79d3f440b7cfb8d… (all of the seat's roots in one cut). By AI agents, Wed Nov 11 2026. No macro, syntax, notation, axiom, sorry.
-/
import Derived.Test.YtjfkdglgecgjfaaGreatChecked
import GoSem.Claim
import GoSem.ClaimJoined
import GoSem.ClaimMapViews
import Derived.JoinedTies
import Derived.KernelRfl
namespace Go.Proofs.YtjfkdglgecgjfaaGreat
/- THE CELL 'sum', in the pinned program and in every row, IS THE sha256 OF THE DUMP (.gsa) THAT YtjfkdglgecgjfaaGreatProg.lean LOADS. Nothing in Lean hashes anything: it is a label: what it is worth is what the hold of that sum in a sandbox is worth. -/
noncomputable def Tryz.pinned : Pinned := { name := "ytjfkdglgecgjfaagreat", sum := "d79d3f440b7cfb8d74cecb648f1ed9353791c6efca267bb0202ba16f91af56d1", checked := Tryz.checked }
namespace Rows
def none {H : Type} : Left H := { results := [], args := [] }

/-- 'graftlaw24.ApplyNames': WHATEVER THE INPUT: true; the input reads as it did. -/
def applyNamesSpec : ChangeSpec := { name := "applyNames", fn := fun _ => fun
  | [d] => { results := [.lit (.bool true)], args := [d] }
  | _ => none }
def applyNamesRow : OpenClaim := { program := "ytjfkdglgecgjfaagreat", sum := "d79d3f440b7cfb8d74cecb648f1ed9353791c6efca267bb0202ba16f91af56d1", func := "graft/graftlaw24.ApplyNames", spec := "applyNames", inPlace := ["internal/bytealg.IndexByte", "internal/bytealg.Index", "slices.overlaps[int]"], unfollowed := true, recurses := true, named := ["internal/bytealg.MaxLen"], plainKeys := false, apart := false }
def ApplyNamesSaid : Prop := applyNamesRow.holds Tryz.pinned (OpenSpec.ofChange applyNamesSpec)

/-- ITS FALSE NEIGHBOUR: 'it returns false'. Refute it at one input. -/
def applyNamesWrong : ChangeSpec := { name := "applyNames", fn := fun _ => fun
  | [d] => { results := [.lit (.bool false)], args := [d] }
  | _ => none }
def ApplyNamesWrongFalsely : Prop := applyNamesRow.holds Tryz.pinned (OpenSpec.ofChange applyNamesWrong)

/-- 'grafttop.TopRoundTrip': WHATEVER THE INPUT: true; the input reads as it did. -/
def topRoundTripSpec : ChangeSpec := { name := "topRoundTrip", fn := fun _ => fun
  | [d1, d2] => { results := [.lit (.bool true)], args := [d1, d2] }
  | _ => none }
def topRoundTripRow : OpenClaim := { program := "ytjfkdglgecgjfaagreat", sum := "d79d3f440b7cfb8d74cecb648f1ed9353791c6efca267bb0202ba16f91af56d1", func := "graft/grafttop.TopRoundTrip", spec := "topRoundTrip", inPlace := ["internal/bytealg.IndexByte", "internal/bytealg.Index", "slices.overlaps[int]"], unfollowed := true, recurses := true, named := ["internal/bytealg.MaxLen"], plainKeys := false, apart := false }
def TopRoundTripSaid : Prop := topRoundTripRow.holds Tryz.pinned (OpenSpec.ofChange topRoundTripSpec)

/-- ITS FALSE NEIGHBOUR: 'it returns false'. Refute it at one input. -/
def topRoundTripWrong : ChangeSpec := { name := "topRoundTrip", fn := fun _ => fun
  | [d1, d2] => { results := [.lit (.bool false)], args := [d1, d2] }
  | _ => none }
def TopRoundTripWrongFalsely : Prop := topRoundTripRow.holds Tryz.pinned (OpenSpec.ofChange topRoundTripWrong)

/-- 'grafttop.TopFaults': WHATEVER THE INPUT: true; the input reads as it did. -/
def topFaultsSpec : ChangeSpec := { name := "topFaults", fn := fun _ => fun
  | [d1, d2, d3] => { results := [.lit (.bool true)], args := [d1, d2, d3] }
  | _ => none }
def topFaultsRow : OpenClaim := { program := "ytjfkdglgecgjfaagreat", sum := "d79d3f440b7cfb8d74cecb648f1ed9353791c6efca267bb0202ba16f91af56d1", func := "graft/grafttop.TopFaults", spec := "topFaults", inPlace := ["internal/bytealg.IndexByte", "internal/bytealg.Index", "slices.overlaps[int]"], unfollowed := true, recurses := true, named := ["internal/bytealg.MaxLen"], plainKeys := false, apart := false }
def TopFaultsSaid : Prop := topFaultsRow.holds Tryz.pinned (OpenSpec.ofChange topFaultsSpec)

/-- ITS FALSE NEIGHBOUR: 'it returns false'. Refute it at one input. -/
def topFaultsWrong : ChangeSpec := { name := "topFaults", fn := fun _ => fun
  | [d1, d2, d3] => { results := [.lit (.bool false)], args := [d1, d2, d3] }
  | _ => none }
def TopFaultsWrongFalsely : Prop := topFaultsRow.holds Tryz.pinned (OpenSpec.ofChange topFaultsWrong)

/- THE SECOND FORM. 'bulk': how many values and letters a reading holds, each counted each time it is reached (what is shared counts as often as it is met; a slice's spare places count too). A statement '..UptoSaid' is the law's where the arguments, and the package variables that the reading takes, are together of bulk at most 1048576: NARROWER than '..Said'. Prove '..Said' where nothing that the law and all that it calls make is longer than what came in: it says more and counts as full. Else prove '..UptoSaid'. A law counts once. -/
mutual
def uptoBulk {H : Type} : DataW H → Nat
  | .lit (.string bytes) => bytes.length + 1
  | .lit _ => 1
  | .nil => 1
  | .ptr d => uptoBulk d + 1
  | .slice elems spare => uptoBulkAll elems + uptoBulkAll spare + 1
  | .agg parts => uptoBulkAll parts + 1
  | .iface _ d => uptoBulk d + 1
  | .map entries => uptoBulkEntries entries + 1
  | .held _ => 1
def uptoBulkAll {H : Type} : List (DataW H) → Nat
  | [] => 0
  | d :: r => uptoBulk d + uptoBulkAll r
def uptoBulkEntries {H : Type} : List (Lit × DataW H) → Nat
  | [] => 0
  | x :: r => uptoBulkEntry x + uptoBulkEntries r
def uptoBulkEntry {H : Type} : Lit × DataW H → Nat
  | (.string bytes, d) => bytes.length + uptoBulk d + 1
  | (_, d) => uptoBulk d + 1
 end
def uptoSmall : (H : Type) → List (DataW H) → Bool := fun _ ds => decide (uptoBulkAll ds ≤ 1048576)
def OpenSpec.upto (s : _root_.Go.ChangeSpec) : _root_.Go.OpenSpec := { _root_.Go.OpenSpec.ofChange s with cond := some uptoSmall }

/-- 'graftlaw24.ApplyNames', WHERE WHAT IT READS IS OF BULK AT MOST 1048576: true; the input reads as it did. -/
def applyNamesUptoRow : OpenClaim := { program := "ytjfkdglgecgjfaagreat", sum := "d79d3f440b7cfb8d74cecb648f1ed9353791c6efca267bb0202ba16f91af56d1", func := "graft/graftlaw24.ApplyNames", spec := "applyNames", inPlace := ["internal/bytealg.IndexByte", "internal/bytealg.Index", "slices.overlaps[int]"], unfollowed := true, recurses := true, named := ["internal/bytealg.MaxLen"], plainKeys := false, apart := false, narrowed := true }
def ApplyNamesUptoSaid : Prop := applyNamesUptoRow.holds Tryz.pinned (OpenSpec.upto applyNamesSpec)

/-- 'grafttop.TopRoundTrip', WHERE WHAT IT READS IS OF BULK AT MOST 1048576: true; the input reads as it did. -/
def topRoundTripUptoRow : OpenClaim := { program := "ytjfkdglgecgjfaagreat", sum := "d79d3f440b7cfb8d74cecb648f1ed9353791c6efca267bb0202ba16f91af56d1", func := "graft/grafttop.TopRoundTrip", spec := "topRoundTrip", inPlace := ["internal/bytealg.IndexByte", "internal/bytealg.Index", "slices.overlaps[int]"], unfollowed := true, recurses := true, named := ["internal/bytealg.MaxLen"], plainKeys := false, apart := false, narrowed := true }
def TopRoundTripUptoSaid : Prop := topRoundTripUptoRow.holds Tryz.pinned (OpenSpec.upto topRoundTripSpec)

/-- 'grafttop.TopFaults', WHERE WHAT IT READS IS OF BULK AT MOST 1048576: true; the input reads as it did. -/
def topFaultsUptoRow : OpenClaim := { program := "ytjfkdglgecgjfaagreat", sum := "d79d3f440b7cfb8d74cecb648f1ed9353791c6efca267bb0202ba16f91af56d1", func := "graft/grafttop.TopFaults", spec := "topFaults", inPlace := ["internal/bytealg.IndexByte", "internal/bytealg.Index", "slices.overlaps[int]"], unfollowed := true, recurses := true, named := ["internal/bytealg.MaxLen"], plainKeys := false, apart := false, narrowed := true }
def TopFaultsUptoSaid : Prop := topFaultsUptoRow.holds Tryz.pinned (OpenSpec.upto topFaultsSpec)

end Rows
end Go.Proofs.YtjfkdglgecgjfaaGreat
