/-
  No cell of these rows narrows 'for every input' (looked for: loops, veiled, ifaces, maps, wideKeys, modest, calm, conditions, laid).
  DERIVED. THE GIVEN ROWS OF THIS SEAT. 8 by the template 'for every input the law returns true; each argument reads behind the call as it read before'; 0 by the template 'total and deterministic' (their statements: YtekpafdhgkocaaaGreatTotals.lean).
  GIVEN WITH THE SEED: the statements are not yours to turn. If you find one false, say at which input.
  Laid BY PROGRAM, IN A SANDBOX (cutbox-rows.mjs): the forced cells as the released guide's own fill.sh prints them over the translation dac0c11709d35c2f… (all of the seat's roots in one cut). By AI agents, Wed Nov 11 2026. No macro, syntax, notation, axiom, sorry.
-/
import Derived.Test.YtekpafdhgkocaaaGreatChecked
import GoSem.Claim
import GoSem.ClaimJoined
import GoSem.ClaimMapViews
import Derived.JoinedTies
import Derived.KernelRfl
namespace Go.Proofs.YtekpafdhgkocaaaGreat
/- THE CELL 'sum', in the pinned program and in every row, IS THE sha256 OF THE DUMP (.gsa) THAT YtekpafdhgkocaaaGreatProg.lean LOADS. Nothing in Lean hashes anything: it is a label: what it is worth is what the hold of that sum in a sandbox is worth. -/
noncomputable def Tryz.pinned : Pinned := { name := "ytekpafdhgkocaaagreat", sum := "dac0c11709d35c2faf0bad9c9aff4b2ea5a26d9c82cad98b549858c3974d9f72", checked := Tryz.checked }
namespace Rows
def none {H : Type} : Left H := { results := [], args := [] }

/-- 'graftlaw07.FormatLoads': WHATEVER THE INPUT: true; the input reads as it did. -/
def formatLoadsSpec : ChangeSpec := { name := "formatLoads", fn := fun _ => fun
  | [d] => { results := [.lit (.bool true)], args := [d] }
  | _ => none }
def formatLoadsRow : OpenClaim := { program := "ytekpafdhgkocaaagreat", sum := "dac0c11709d35c2faf0bad9c9aff4b2ea5a26d9c82cad98b549858c3974d9f72", func := "graft/graftlaw07.FormatLoads", spec := "formatLoads", unfollowed := true, recurses := true, plainKeys := false, apart := false }
def FormatLoadsSaid : Prop := formatLoadsRow.holds Tryz.pinned (OpenSpec.ofChange formatLoadsSpec)

/-- ITS FALSE NEIGHBOUR: 'it returns false'. Refute it at one input. -/
def formatLoadsWrong : ChangeSpec := { name := "formatLoads", fn := fun _ => fun
  | [d] => { results := [.lit (.bool false)], args := [d] }
  | _ => none }
def FormatLoadsWrongFalsely : Prop := formatLoadsRow.holds Tryz.pinned (OpenSpec.ofChange formatLoadsWrong)

/-- 'graftlaw16.SafeConverts': WHATEVER THE INPUT: true; the input reads as it did. -/
def safeConvertsSpec : ChangeSpec := { name := "safeConverts", fn := fun _ => fun
  | [d1, d2] => { results := [.lit (.bool true)], args := [d1, d2] }
  | _ => none }
def safeConvertsRow : OpenClaim := { program := "ytekpafdhgkocaaagreat", sum := "dac0c11709d35c2faf0bad9c9aff4b2ea5a26d9c82cad98b549858c3974d9f72", func := "graft/graftlaw16.SafeConverts", spec := "safeConverts", inPlace := ["slices.overlaps[int]"], unfollowed := true, recurses := true, plainKeys := false, apart := false }
def SafeConvertsSaid : Prop := safeConvertsRow.holds Tryz.pinned (OpenSpec.ofChange safeConvertsSpec)

/-- ITS FALSE NEIGHBOUR: 'it returns false'. Refute it at one input. -/
def safeConvertsWrong : ChangeSpec := { name := "safeConverts", fn := fun _ => fun
  | [d1, d2] => { results := [.lit (.bool false)], args := [d1, d2] }
  | _ => none }
def SafeConvertsWrongFalsely : Prop := safeConvertsRow.holds Tryz.pinned (OpenSpec.ofChange safeConvertsWrong)

/-- 'graftlaw15.ConvertMatches': WHATEVER THE INPUT: true; the input reads as it did. -/
def convertMatchesSpec : ChangeSpec := { name := "convertMatches", fn := fun _ => fun
  | [d1, d2] => { results := [.lit (.bool true)], args := [d1, d2] }
  | _ => none }
def convertMatchesRow : OpenClaim := { program := "ytekpafdhgkocaaagreat", sum := "dac0c11709d35c2faf0bad9c9aff4b2ea5a26d9c82cad98b549858c3974d9f72", func := "graft/graftlaw15.ConvertMatches", spec := "convertMatches", inPlace := ["slices.overlaps[int]"], unfollowed := true, recurses := true, plainKeys := false, apart := false }
def ConvertMatchesSaid : Prop := convertMatchesRow.holds Tryz.pinned (OpenSpec.ofChange convertMatchesSpec)

/-- ITS FALSE NEIGHBOUR: 'it returns false'. Refute it at one input. -/
def convertMatchesWrong : ChangeSpec := { name := "convertMatches", fn := fun _ => fun
  | [d1, d2] => { results := [.lit (.bool false)], args := [d1, d2] }
  | _ => none }
def ConvertMatchesWrongFalsely : Prop := convertMatchesRow.holds Tryz.pinned (OpenSpec.ofChange convertMatchesWrong)

/-- 'graftlaw15.ConvertAgain': WHATEVER THE INPUT: true; the input reads as it did. -/
def convertAgainSpec : ChangeSpec := { name := "convertAgain", fn := fun _ => fun
  | [d1, d2] => { results := [.lit (.bool true)], args := [d1, d2] }
  | _ => none }
def convertAgainRow : OpenClaim := { program := "ytekpafdhgkocaaagreat", sum := "dac0c11709d35c2faf0bad9c9aff4b2ea5a26d9c82cad98b549858c3974d9f72", func := "graft/graftlaw15.ConvertAgain", spec := "convertAgain", inPlace := ["slices.overlaps[int]"], unfollowed := true, recurses := true, plainKeys := false, apart := false }
def ConvertAgainSaid : Prop := convertAgainRow.holds Tryz.pinned (OpenSpec.ofChange convertAgainSpec)

/-- ITS FALSE NEIGHBOUR: 'it returns false'. Refute it at one input. -/
def convertAgainWrong : ChangeSpec := { name := "convertAgain", fn := fun _ => fun
  | [d1, d2] => { results := [.lit (.bool false)], args := [d1, d2] }
  | _ => none }
def ConvertAgainWrongFalsely : Prop := convertAgainRow.holds Tryz.pinned (OpenSpec.ofChange convertAgainWrong)

/-- 'graftlaw15.ConvertKeeps': WHATEVER THE INPUT: true; the input reads as it did. -/
def convertKeepsSpec : ChangeSpec := { name := "convertKeeps", fn := fun _ => fun
  | [d1, d2] => { results := [.lit (.bool true)], args := [d1, d2] }
  | _ => none }
def convertKeepsRow : OpenClaim := { program := "ytekpafdhgkocaaagreat", sum := "dac0c11709d35c2faf0bad9c9aff4b2ea5a26d9c82cad98b549858c3974d9f72", func := "graft/graftlaw15.ConvertKeeps", spec := "convertKeeps", inPlace := ["slices.overlaps[int]"], unfollowed := true, recurses := true, plainKeys := false, apart := false }
def ConvertKeepsSaid : Prop := convertKeepsRow.holds Tryz.pinned (OpenSpec.ofChange convertKeepsSpec)

/-- ITS FALSE NEIGHBOUR: 'it returns false'. Refute it at one input. -/
def convertKeepsWrong : ChangeSpec := { name := "convertKeeps", fn := fun _ => fun
  | [d1, d2] => { results := [.lit (.bool false)], args := [d1, d2] }
  | _ => none }
def ConvertKeepsWrongFalsely : Prop := convertKeepsRow.holds Tryz.pinned (OpenSpec.ofChange convertKeepsWrong)

/-- 'graftlaw15.ConvertGrows': WHATEVER THE INPUT: true; the input reads as it did. -/
def convertGrowsSpec : ChangeSpec := { name := "convertGrows", fn := fun _ => fun
  | [d1, d2] => { results := [.lit (.bool true)], args := [d1, d2] }
  | _ => none }
def convertGrowsRow : OpenClaim := { program := "ytekpafdhgkocaaagreat", sum := "dac0c11709d35c2faf0bad9c9aff4b2ea5a26d9c82cad98b549858c3974d9f72", func := "graft/graftlaw15.ConvertGrows", spec := "convertGrows", inPlace := ["slices.overlaps[int]"], unfollowed := true, recurses := true, plainKeys := false, apart := false }
def ConvertGrowsSaid : Prop := convertGrowsRow.holds Tryz.pinned (OpenSpec.ofChange convertGrowsSpec)

/-- ITS FALSE NEIGHBOUR: 'it returns false'. Refute it at one input. -/
def convertGrowsWrong : ChangeSpec := { name := "convertGrows", fn := fun _ => fun
  | [d1, d2] => { results := [.lit (.bool false)], args := [d1, d2] }
  | _ => none }
def ConvertGrowsWrongFalsely : Prop := convertGrowsRow.holds Tryz.pinned (OpenSpec.ofChange convertGrowsWrong)

/-- 'graftlaw15.ConvertPlans': WHATEVER THE INPUT: true; the input reads as it did. -/
def convertPlansSpec : ChangeSpec := { name := "convertPlans", fn := fun _ => fun
  | [d] => { results := [.lit (.bool true)], args := [d] }
  | _ => none }
def convertPlansRow : OpenClaim := { program := "ytekpafdhgkocaaagreat", sum := "dac0c11709d35c2faf0bad9c9aff4b2ea5a26d9c82cad98b549858c3974d9f72", func := "graft/graftlaw15.ConvertPlans", spec := "convertPlans", inPlace := ["slices.overlaps[int]"], unfollowed := true, recurses := true, plainKeys := false, apart := false }
def ConvertPlansSaid : Prop := convertPlansRow.holds Tryz.pinned (OpenSpec.ofChange convertPlansSpec)

/-- ITS FALSE NEIGHBOUR: 'it returns false'. Refute it at one input. -/
def convertPlansWrong : ChangeSpec := { name := "convertPlans", fn := fun _ => fun
  | [d] => { results := [.lit (.bool false)], args := [d] }
  | _ => none }
def ConvertPlansWrongFalsely : Prop := convertPlansRow.holds Tryz.pinned (OpenSpec.ofChange convertPlansWrong)

/-- 'graftlaw15.ConvertOrders': WHATEVER THE INPUT: true; the input reads as it did. -/
def convertOrdersSpec : ChangeSpec := { name := "convertOrders", fn := fun _ => fun
  | [d1, d2] => { results := [.lit (.bool true)], args := [d1, d2] }
  | _ => none }
def convertOrdersRow : OpenClaim := { program := "ytekpafdhgkocaaagreat", sum := "dac0c11709d35c2faf0bad9c9aff4b2ea5a26d9c82cad98b549858c3974d9f72", func := "graft/graftlaw15.ConvertOrders", spec := "convertOrders", inPlace := ["slices.overlaps[int]"], unfollowed := true, recurses := true, plainKeys := false, apart := false }
def ConvertOrdersSaid : Prop := convertOrdersRow.holds Tryz.pinned (OpenSpec.ofChange convertOrdersSpec)

/-- ITS FALSE NEIGHBOUR: 'it returns false'. Refute it at one input. -/
def convertOrdersWrong : ChangeSpec := { name := "convertOrders", fn := fun _ => fun
  | [d1, d2] => { results := [.lit (.bool false)], args := [d1, d2] }
  | _ => none }
def ConvertOrdersWrongFalsely : Prop := convertOrdersRow.holds Tryz.pinned (OpenSpec.ofChange convertOrdersWrong)

/- THE SECOND FORM. 'bulk': how many values and letters a reading holds, each counted each time it is reached (what is shared counts as often as it is met; a slice's spare places count too). A statement '..UptoSaid' is the law's where the arguments, and the package variables that the reading takes, are together of bulk at most 1048576: NARROWER than '..Said'. Prove '..Said' where nothing that the law and all that it calls make is longer than what came in: it says more and counts as full. Else prove '..UptoSaid'. A law counts once. -/
mutual
def uptoBulk {H : Type} : DataW H → Nat
  | .lit (.string bytes) => bytes.length + 1
  | .lit _ => 1
  | .nil => 1
  | .ptr d => uptoBulk d + 1
  | .slice elems spare => uptoBulkAll elems + uptoBulkAll spare + 1
  | .agg parts => uptoBulkAll parts + 1
  | .iface _ d => uptoBulk d + 1
  | .map entries => uptoBulkEntries entries + 1
  | .held _ => 1
def uptoBulkAll {H : Type} : List (DataW H) → Nat
  | [] => 0
  | d :: r => uptoBulk d + uptoBulkAll r
def uptoBulkEntries {H : Type} : List (Lit × DataW H) → Nat
  | [] => 0
  | x :: r => uptoBulkEntry x + uptoBulkEntries r
def uptoBulkEntry {H : Type} : Lit × DataW H → Nat
  | (.string bytes, d) => bytes.length + uptoBulk d + 1
  | (_, d) => uptoBulk d + 1
 end
def uptoSmall : (H : Type) → List (DataW H) → Bool := fun _ ds => decide (uptoBulkAll ds ≤ 1048576)
def OpenSpec.upto (s : _root_.Go.ChangeSpec) : _root_.Go.OpenSpec := { _root_.Go.OpenSpec.ofChange s with cond := some uptoSmall }

/-- 'graftlaw07.FormatLoads', WHERE WHAT IT READS IS OF BULK AT MOST 1048576: true; the input reads as it did. -/
def formatLoadsUptoRow : OpenClaim := { program := "ytekpafdhgkocaaagreat", sum := "dac0c11709d35c2faf0bad9c9aff4b2ea5a26d9c82cad98b549858c3974d9f72", func := "graft/graftlaw07.FormatLoads", spec := "formatLoads", unfollowed := true, recurses := true, plainKeys := false, apart := false, narrowed := true }
def FormatLoadsUptoSaid : Prop := formatLoadsUptoRow.holds Tryz.pinned (OpenSpec.upto formatLoadsSpec)

/-- 'graftlaw16.SafeConverts', WHERE WHAT IT READS IS OF BULK AT MOST 1048576: true; the input reads as it did. -/
def safeConvertsUptoRow : OpenClaim := { program := "ytekpafdhgkocaaagreat", sum := "dac0c11709d35c2faf0bad9c9aff4b2ea5a26d9c82cad98b549858c3974d9f72", func := "graft/graftlaw16.SafeConverts", spec := "safeConverts", inPlace := ["slices.overlaps[int]"], unfollowed := true, recurses := true, plainKeys := false, apart := false, narrowed := true }
def SafeConvertsUptoSaid : Prop := safeConvertsUptoRow.holds Tryz.pinned (OpenSpec.upto safeConvertsSpec)

/-- 'graftlaw15.ConvertMatches', WHERE WHAT IT READS IS OF BULK AT MOST 1048576: true; the input reads as it did. -/
def convertMatchesUptoRow : OpenClaim := { program := "ytekpafdhgkocaaagreat", sum := "dac0c11709d35c2faf0bad9c9aff4b2ea5a26d9c82cad98b549858c3974d9f72", func := "graft/graftlaw15.ConvertMatches", spec := "convertMatches", inPlace := ["slices.overlaps[int]"], unfollowed := true, recurses := true, plainKeys := false, apart := false, narrowed := true }
def ConvertMatchesUptoSaid : Prop := convertMatchesUptoRow.holds Tryz.pinned (OpenSpec.upto convertMatchesSpec)

/-- 'graftlaw15.ConvertAgain', WHERE WHAT IT READS IS OF BULK AT MOST 1048576: true; the input reads as it did. -/
def convertAgainUptoRow : OpenClaim := { program := "ytekpafdhgkocaaagreat", sum := "dac0c11709d35c2faf0bad9c9aff4b2ea5a26d9c82cad98b549858c3974d9f72", func := "graft/graftlaw15.ConvertAgain", spec := "convertAgain", inPlace := ["slices.overlaps[int]"], unfollowed := true, recurses := true, plainKeys := false, apart := false, narrowed := true }
def ConvertAgainUptoSaid : Prop := convertAgainUptoRow.holds Tryz.pinned (OpenSpec.upto convertAgainSpec)

/-- 'graftlaw15.ConvertKeeps', WHERE WHAT IT READS IS OF BULK AT MOST 1048576: true; the input reads as it did. -/
def convertKeepsUptoRow : OpenClaim := { program := "ytekpafdhgkocaaagreat", sum := "dac0c11709d35c2faf0bad9c9aff4b2ea5a26d9c82cad98b549858c3974d9f72", func := "graft/graftlaw15.ConvertKeeps", spec := "convertKeeps", inPlace := ["slices.overlaps[int]"], unfollowed := true, recurses := true, plainKeys := false, apart := false, narrowed := true }
def ConvertKeepsUptoSaid : Prop := convertKeepsUptoRow.holds Tryz.pinned (OpenSpec.upto convertKeepsSpec)

/-- 'graftlaw15.ConvertGrows', WHERE WHAT IT READS IS OF BULK AT MOST 1048576: true; the input reads as it did. -/
def convertGrowsUptoRow : OpenClaim := { program := "ytekpafdhgkocaaagreat", sum := "dac0c11709d35c2faf0bad9c9aff4b2ea5a26d9c82cad98b549858c3974d9f72", func := "graft/graftlaw15.ConvertGrows", spec := "convertGrows", inPlace := ["slices.overlaps[int]"], unfollowed := true, recurses := true, plainKeys := false, apart := false, narrowed := true }
def ConvertGrowsUptoSaid : Prop := convertGrowsUptoRow.holds Tryz.pinned (OpenSpec.upto convertGrowsSpec)

/-- 'graftlaw15.ConvertPlans', WHERE WHAT IT READS IS OF BULK AT MOST 1048576: true; the input reads as it did. -/
def convertPlansUptoRow : OpenClaim := { program := "ytekpafdhgkocaaagreat", sum := "dac0c11709d35c2faf0bad9c9aff4b2ea5a26d9c82cad98b549858c3974d9f72", func := "graft/graftlaw15.ConvertPlans", spec := "convertPlans", inPlace := ["slices.overlaps[int]"], unfollowed := true, recurses := true, plainKeys := false, apart := false, narrowed := true }
def ConvertPlansUptoSaid : Prop := convertPlansUptoRow.holds Tryz.pinned (OpenSpec.upto convertPlansSpec)

/-- 'graftlaw15.ConvertOrders', WHERE WHAT IT READS IS OF BULK AT MOST 1048576: true; the input reads as it did. -/
def convertOrdersUptoRow : OpenClaim := { program := "ytekpafdhgkocaaagreat", sum := "dac0c11709d35c2faf0bad9c9aff4b2ea5a26d9c82cad98b549858c3974d9f72", func := "graft/graftlaw15.ConvertOrders", spec := "convertOrders", inPlace := ["slices.overlaps[int]"], unfollowed := true, recurses := true, plainKeys := false, apart := false, narrowed := true }
def ConvertOrdersUptoSaid : Prop := convertOrdersUptoRow.holds Tryz.pinned (OpenSpec.upto convertOrdersSpec)

end Rows
end Go.Proofs.YtekpafdhgkocaaaGreat
