/- Functions of the program, plain: graftref05_Few, extent_Valid, delta_inRange, command_of, command_Check, command_Source, extent_End, command_Target, delta_single, cmp_isNaN_int, cmp_Compare_int, delta_sorted_1, slices_insertionSortCmpFunc_int_v0_delta_sorted_1, slices_swapRangeCmpFunc_int_v0_delta_sorted_1, slices_rotateCmpFunc_int_v0_delta_sorted_1, slices_symMergeCmpFunc_int_v0_delta_sorted_1, slices_stableCmpFunc_int_v0_delta_sorted_1, slices_SortStableFunc_int_int_v0_delta_sorted_1, delta_sorted, delta_tiles, extent_between, extent_Overlap, delta_overlap, delta_Check, slices_Clone_byte_byte, command_Clone, delta_With, extent_Contains_1, slices_IndexFunc_api_Extent_api_Extent_extent_Contains_1, slices_ContainsFunc_api_Extent_api_Extent_extent_Contains_1, extent_Contains, delta_Find_1, slices_IndexFunc_api_Command_api_Command_delta_Find_1, delta_Find, delta_Valid, graftlaw05_alive, graftref01_Max, graftref04_Len, graftref04_Target, graftref01_Valid, graftref04_Source, graftref04_Check, graftref05_single, graftref01_Overlap, graftref01_Has, graftref05_has, graftref05_Find, graftref05_gap, graftref05_Check, graftlaw05_DeltaChecks, graftref05_Valid, graftlaw05_DeltaBreaks, delta_Sort, graftref05_Sort, graftref05_With, graftref04_Same, graftref04_All, graftref05_Same, graftlaw05_DeltaSorts, delta_Totals, graftref05_Totals, graftlaw05_DeltaTotals, bytes_Equal, command_Same, slices_EqualFunc_api_Command_api_Command_api_Command_api_Command_command_Same, delta_Same, graftlaw05_DeltaWith. Printed by a program. -/
import Derived.Test.YtkalbidbhaalmaaTy
namespace Go.Proofs.Ytkalbidbhaalmaa
open G
def G.graftref05_Few_l1 (a0 : G.Delta) (s1 : Int) : Option (Int ⊕ (Unit ⊕ Bool)) :=
  if s1 < (a0.commands.length : Int) then
    (idx a0.commands s1).bind fun x2 =>
    if (x2.data.length : Int) > 300 then
      some (.inr (.inr false))
    else
      some (.inl (IntKind.i64.wrap (s1 + 1)))
  else
    some (.inr (.inl ()))
noncomputable def G.graftref05_Few (a0 : G.Delta) : Option Bool :=
  (
    Iter (G.graftref05_Few_l1 a0) 0).bind fun v1 => joinK v1 fun u1 =>
  some (decide ((a0.commands.length : Int) ≤ 40))
def G.extent_Valid (a0 : G.Extent) : Option Bool :=
  if (imin a0.off a0.len) ≥ 0 then
    if a0.off ≤ 4611686018427387903 then
      some (decide (a0.len ≤ (IntKind.i64.wrap (4611686018427387903 - a0.off))))
    else
      some false
  else
    some false
def G.delta_inRange (a0 : Int) : Option Bool :=
  (G.extent_Valid (⟨0, a0⟩ : G.Extent)).bind fun y1 =>
  some y1
def G.command_of (a0 : G.Command) : Option G.command_target :=
  (
    if a0.kind = 1 then
      some a0.len
    else
      some (a0.data.length : Int)).bind fun v1 =>
  some (⟨(⟨a0.to, v1⟩ : G.Extent)⟩ : G.command_target)
def G.command_Check (a0 : G.Command) : Option Int :=
  (
    if a0.kind ≠ 1 then
      some (a0.kind != 2)
    else
      some false).bind fun v1 =>
  if v1 = true then
    some 11
  else
    (G.command_of a0).bind fun y1 =>
    if y1.extent.len = 0 then
      some 7
    else
      (G.extent_Valid y1.extent).bind fun y2 =>
      (
        if a0.kind = 1 then
          if y2 = true then
            if (a0.data.length : Int) = 0 then
              (G.extent_Valid (⟨a0.from_, a0.len⟩ : G.Extent)).bind fun y3 =>
              some y3
            else
              some false
          else
            some false
        else
          if y2 = true then
            if a0.from_ = 0 then
              some (a0.len == 0)
            else
              some false
          else
            some false).bind fun v2 =>
      if v2 = false then
        some 2
      else
        some 0
def G.command_Source (a0 : G.Command) : Option (G.Extent × Bool) :=
  if a0.kind ≠ 1 then
    some ((⟨0, 0⟩ : G.Extent), false)
  else
    some ((⟨a0.from_, a0.len⟩ : G.Extent), true)
def G.extent_End (a0 : G.Extent) : Option Int :=
  some (IntKind.i64.wrap (a0.off + a0.len))
def G.command_Target (a0 : G.Command) : Option G.Extent :=
  (G.command_of a0).bind fun y1 =>
  some y1.extent
def G.delta_single (a0 : G.Delta) (a1 : G.Command) : Option Int :=
  (G.command_Check a1).bind fun y1 =>
  if y1 ≠ 0 then
    some y1
  else
    (G.command_Source a1).bind fun y2 =>
    (
      if y2.2 = true then
        (G.extent_End y2.1).bind fun y5 =>
        some (decide (y5 > a0.oldLen))
      else
        some false).bind fun v1 =>
    if v1 = true then
      some 5
    else
      (G.command_Target a1).bind fun y3 =>
      (G.extent_End y3).bind fun y4 =>
      if y4 > a0.newLen then
        some 6
      else
        some 0
def G.cmp_isNaN_int (a0 : Int) : Option Bool :=
  some (a0 != a0)
def G.cmp_Compare_int (a0 : Int) (a1 : Int) : Option Int :=
  (G.cmp_isNaN_int a0).bind fun y1 =>
  (G.cmp_isNaN_int a1).bind fun y2 =>
  if y1 = true then
    if y2 = true then
      some 0
    else
      some (-1)
  else
    if y2 = true then
      some 1
    else
      if a0 < a1 then
        some (-1)
      else
        if a0 > a1 then
          some 1
        else
          some 0
def G.delta_sorted_1 (a0 : Int) (a1 : Int) (a2 : List G.Command) : Option Int :=
  (idx a2 a0).bind fun x1 =>
  (idx a2 a1).bind fun x2 =>
  (G.cmp_Compare_int x1.to x2.to).bind fun y1 =>
  some y1
def G.slices_insertionSortCmpFunc_int_v0_delta_sorted_1_l2 (a1 : Int) (a3 : (List G.Command)) (s1 : Int × (List Int)) (s2 : Int × (List Int)) : Option ((Int × (List Int)) ⊕ ((Int × (List Int)) ⊕ (List Int))) :=
  (
    if s2.1 > a1 then
      (idx s2.2 s2.1).bind fun x7 =>
      (idx s2.2 (IntKind.i64.wrap (s2.1 - 1))).bind fun x8 =>
      (G.delta_sorted_1 x7 x8 a3).bind fun y1 =>
      some (decide (y1 < 0))
    else
      some false).bind fun v1 =>
  if v1 = true then
    (idx s2.2 (IntKind.i64.wrap (s2.1 - 1))).bind fun x3 =>
    (idx s2.2 s2.1).bind fun x4 =>
    (idx s2.2 s2.1).bind fun x5 =>
    (idx (s2.2.set s2.1.toNat x3) (IntKind.i64.wrap (s2.1 - 1))).bind fun x6 =>
    some (.inl ((IntKind.i64.wrap (s2.1 - 1)), ((s2.2.set s2.1.toNat x3).set (IntKind.i64.wrap (s2.1 - 1)).toNat x4)))
  else
    some (.inr (.inl ((IntKind.i64.wrap (s1.1 + 1)), s2.2)))
noncomputable def G.slices_insertionSortCmpFunc_int_v0_delta_sorted_1_l1 (a1 : Int) (a2 : Int) (a3 : (List G.Command)) (s1 : Int × (List Int)) : Option ((Int × (List Int)) ⊕ (List Int)) :=
  if s1.1 < a2 then
    Iter (G.slices_insertionSortCmpFunc_int_v0_delta_sorted_1_l2 a1 a3 s1) (s1.1, s1.2)
  else
    some (.inr s1.2)
noncomputable def G.slices_insertionSortCmpFunc_int_v0_delta_sorted_1 (a0 : List Int) (a1 : Int) (a2 : Int) (a3 : (List G.Command)) : Option (List Int) :=
  Iter (G.slices_insertionSortCmpFunc_int_v0_delta_sorted_1_l1 a1 a2 a3) ((IntKind.i64.wrap (a1 + 1)), a0)
def G.slices_swapRangeCmpFunc_int_v0_delta_sorted_1_l1 (a1 : Int) (a2 : Int) (a3 : Int) (s1 : Int × (List Int)) : Option ((Int × (List Int)) ⊕ (List Int)) :=
  if s1.1 < a3 then
    (idx s1.2 (IntKind.i64.wrap (a2 + s1.1))).bind fun x2 =>
    (idx s1.2 (IntKind.i64.wrap (a1 + s1.1))).bind fun x3 =>
    (idx s1.2 (IntKind.i64.wrap (a1 + s1.1))).bind fun x4 =>
    (idx (s1.2.set (IntKind.i64.wrap (a1 + s1.1)).toNat x2) (IntKind.i64.wrap (a2 + s1.1))).bind fun x5 =>
    some (.inl ((IntKind.i64.wrap (s1.1 + 1)), ((s1.2.set (IntKind.i64.wrap (a1 + s1.1)).toNat x2).set (IntKind.i64.wrap (a2 + s1.1)).toNat x3)))
  else
    some (.inr s1.2)
noncomputable def G.slices_swapRangeCmpFunc_int_v0_delta_sorted_1 (a0 : List Int) (a1 : Int) (a2 : Int) (a3 : Int) (a4 : (List G.Command)) : Option (List Int) :=
  Iter (G.slices_swapRangeCmpFunc_int_v0_delta_sorted_1_l1 a1 a2 a3) (0, a0)
noncomputable def G.slices_rotateCmpFunc_int_v0_delta_sorted_1_l1 (a2 : Int) (a4 : (List G.Command)) (s1 : Int × Int × (List Int)) : Option ((Int × Int × (List Int)) ⊕ (Int × (List Int))) :=
  if s1.1 ≠ s1.2.1 then
    if s1.1 > s1.2.1 then
      (G.slices_swapRangeCmpFunc_int_v0_delta_sorted_1 s1.2.2 (IntKind.i64.wrap (a2 - s1.1)) a2 s1.2.1 a4).bind fun y2 =>
      some (.inl ((IntKind.i64.wrap (s1.1 - s1.2.1)), s1.2.1, y2))
    else
      (G.slices_swapRangeCmpFunc_int_v0_delta_sorted_1 s1.2.2 (IntKind.i64.wrap (a2 - s1.1)) (IntKind.i64.wrap ((IntKind.i64.wrap (a2 + s1.2.1)) - s1.1)) s1.1 a4).bind fun y3 =>
      some (.inl (s1.1, (IntKind.i64.wrap (s1.2.1 - s1.1)), y3))
  else
    some (.inr (s1.1, s1.2.2))
noncomputable def G.slices_rotateCmpFunc_int_v0_delta_sorted_1 (a0 : List Int) (a1 : Int) (a2 : Int) (a3 : Int) (a4 : (List G.Command)) : Option (List Int) :=
  (
    Iter (G.slices_rotateCmpFunc_int_v0_delta_sorted_1_l1 a2 a4) ((IntKind.i64.wrap (a2 - a1)), (IntKind.i64.wrap (a3 - a2)), a0)).bind fun v1 =>
  (G.slices_swapRangeCmpFunc_int_v0_delta_sorted_1 v1.2 (IntKind.i64.wrap (a2 - v1.1)) a2 v1.1 a4).bind fun y1 =>
  some y1
def G.slices_symMergeCmpFunc_int_v0_delta_sorted_1_l1 (a0 : List Int) (a1 : Int) (a2 : Int) (a3 : Int) (a4 : (List G.Command)) (s1 : Int × Int) : Option ((Int × Int) ⊕ Int) :=
  if s1.1 < s1.2 then
    (idx a0 (IntKind.i64.wrap ((IntKind.i64.wrap ((IntKind.i64.wrap ((IntKind.i64.wrap (ishr .u64 (IntKind.u64.wrap (IntKind.i64.wrap (a1 + a3))) 1)) + a2)) - 1)) - (IntKind.i64.wrap (ishr .u64 (IntKind.u64.wrap (IntKind.i64.wrap (s1.1 + s1.2))) 1))))).bind fun x2 =>
    (idx a0 (IntKind.i64.wrap (ishr .u64 (IntKind.u64.wrap (IntKind.i64.wrap (s1.1 + s1.2))) 1))).bind fun x3 =>
    (G.delta_sorted_1 x2 x3 a4).bind fun y4 =>
    if decide (y4 < 0) = false then
      some (.inl ((IntKind.i64.wrap ((IntKind.i64.wrap (ishr .u64 (IntKind.u64.wrap (IntKind.i64.wrap (s1.1 + s1.2))) 1)) + 1)), s1.2))
    else
      some (.inl (s1.1, (IntKind.i64.wrap (ishr .u64 (IntKind.u64.wrap (IntKind.i64.wrap (s1.1 + s1.2))) 1))))
  else
    some (.inr s1.1)
def G.slices_symMergeCmpFunc_int_v0_delta_sorted_1_l2 (v10 : Int) (s2 : Int × (List Int)) : Option ((Int × (List Int)) ⊕ (Unit ⊕ (List Int))) :=
  if s2.1 > v10 then
    (idx s2.2 (IntKind.i64.wrap (s2.1 - 1))).bind fun x5 =>
    (idx s2.2 s2.1).bind fun x6 =>
    (idx s2.2 s2.1).bind fun x7 =>
    (idx (s2.2.set s2.1.toNat x5) (IntKind.i64.wrap (s2.1 - 1))).bind fun x8 =>
    some (.inl ((IntKind.i64.wrap (s2.1 - 1)), ((s2.2.set s2.1.toNat x5).set (IntKind.i64.wrap (s2.1 - 1)).toNat x6)))
  else
    some (.inr (.inr s2.2))
def G.slices_symMergeCmpFunc_int_v0_delta_sorted_1_l3 (a0 : List Int) (a2 : Int) (a4 : (List G.Command)) (s3 : Int × Int) : Option ((Int × Int) ⊕ Int) :=
  if s3.1 < s3.2 then
    (idx a0 a2).bind fun x10 =>
    (idx a0 (IntKind.i64.wrap (ishr .u64 (IntKind.u64.wrap (IntKind.i64.wrap (s3.1 + s3.2))) 1))).bind fun x11 =>
    (G.delta_sorted_1 x10 x11 a4).bind fun y5 =>
    if decide (y5 < 0) = false then
      some (.inl ((IntKind.i64.wrap ((IntKind.i64.wrap (ishr .u64 (IntKind.u64.wrap (IntKind.i64.wrap (s3.1 + s3.2))) 1)) + 1)), s3.2))
    else
      some (.inl (s3.1, (IntKind.i64.wrap (ishr .u64 (IntKind.u64.wrap (IntKind.i64.wrap (s3.1 + s3.2))) 1))))
  else
    some (.inr s3.1)
def G.slices_symMergeCmpFunc_int_v0_delta_sorted_1_l4 (v11 : Int) (s4 : Int × (List Int)) : Option ((Int × (List Int)) ⊕ (Unit ⊕ (List Int))) :=
  if s4.1 < (IntKind.i64.wrap (v11 - 1)) then
    (idx s4.2 (IntKind.i64.wrap (s4.1 + 1))).bind fun x13 =>
    (idx s4.2 s4.1).bind fun x14 =>
    (idx s4.2 s4.1).bind fun x15 =>
    (idx (s4.2.set s4.1.toNat x13) (IntKind.i64.wrap (s4.1 + 1))).bind fun x16 =>
    some (.inl ((IntKind.i64.wrap (s4.1 + 1)), ((s4.2.set s4.1.toNat x13).set (IntKind.i64.wrap (s4.1 + 1)).toNat x14)))
  else
    some (.inr (.inr s4.2))
def G.slices_symMergeCmpFunc_int_v0_delta_sorted_1_l5 (a0 : List Int) (a1 : Int) (a4 : (List G.Command)) (s5 : Int × Int) : Option ((Int × Int) ⊕ Int) :=
  if s5.1 < s5.2 then
    (idx a0 (IntKind.i64.wrap (ishr .u64 (IntKind.u64.wrap (IntKind.i64.wrap (s5.1 + s5.2))) 1))).bind fun x18 =>
    (idx a0 a1).bind fun x19 =>
    (G.delta_sorted_1 x18 x19 a4).bind fun y6 =>
    if y6 < 0 then
      some (.inl ((IntKind.i64.wrap ((IntKind.i64.wrap (ishr .u64 (IntKind.u64.wrap (IntKind.i64.wrap (s5.1 + s5.2))) 1)) + 1)), s5.2))
    else
      some (.inl (s5.1, (IntKind.i64.wrap (ishr .u64 (IntKind.u64.wrap (IntKind.i64.wrap (s5.1 + s5.2))) 1))))
  else
    some (.inr s5.1)
noncomputable def G.slices_symMergeCmpFunc_int_v0_delta_sorted_1_b (fx : ((List Int) × Int × Int × Int × (List G.Command)) → Option (List Int)) (a0 : List Int) (a1 : Int) (a2 : Int) (a3 : Int) (a4 : (List G.Command)) : Option (List Int) :=
  (
    if (IntKind.i64.wrap (a2 - a1)) = 1 then
      (
        Iter (G.slices_symMergeCmpFunc_int_v0_delta_sorted_1_l5 a0 a1 a4) (a2, a3)).bind fun v11 =>
      Iter (G.slices_symMergeCmpFunc_int_v0_delta_sorted_1_l4 v11) (a1, a0)
    else
      some (.inl ())).bind fun v1 => joinK v1 fun u1 =>
  (
    if (IntKind.i64.wrap (a3 - a2)) = 1 then
      (
        Iter (G.slices_symMergeCmpFunc_int_v0_delta_sorted_1_l3 a0 a2 a4) (a1, a2)).bind fun v10 =>
      Iter (G.slices_symMergeCmpFunc_int_v0_delta_sorted_1_l2 v10) (a2, a0)
    else
      some (.inl ())).bind fun v2 => joinK v2 fun u2 =>
  (
    if a2 > (IntKind.i64.wrap (ishr .u64 (IntKind.u64.wrap (IntKind.i64.wrap (a1 + a3))) 1)) then
      some ((IntKind.i64.wrap ((IntKind.i64.wrap ((IntKind.i64.wrap (ishr .u64 (IntKind.u64.wrap (IntKind.i64.wrap (a1 + a3))) 1)) + a2)) - a3)), (IntKind.i64.wrap (ishr .u64 (IntKind.u64.wrap (IntKind.i64.wrap (a1 + a3))) 1)))
    else
      some (a1, a2)).bind fun v3 =>
  (
    Iter (G.slices_symMergeCmpFunc_int_v0_delta_sorted_1_l1 a0 a1 a2 a3 a4) (v3.1, v3.2)).bind fun v4 =>
  (
    if v4 < a2 then
      some (decide (a2 < (IntKind.i64.wrap ((IntKind.i64.wrap ((IntKind.i64.wrap (ishr .u64 (IntKind.u64.wrap (IntKind.i64.wrap (a1 + a3))) 1)) + a2)) - v4))))
    else
      some false).bind fun v5 =>
  (
    if v5 = true then
      (G.slices_rotateCmpFunc_int_v0_delta_sorted_1 a0 v4 a2 (IntKind.i64.wrap ((IntKind.i64.wrap ((IntKind.i64.wrap (ishr .u64 (IntKind.u64.wrap (IntKind.i64.wrap (a1 + a3))) 1)) + a2)) - v4)) a4).bind fun y3 =>
      some y3
    else
      some a0).bind fun v6 =>
  (
    if a1 < v4 then
      some (decide (v4 < (IntKind.i64.wrap (ishr .u64 (IntKind.u64.wrap (IntKind.i64.wrap (a1 + a3))) 1))))
    else
      some false).bind fun v7 =>
  (
    if v7 = true then
      (fx (v6, a1, v4, (IntKind.i64.wrap (ishr .u64 (IntKind.u64.wrap (IntKind.i64.wrap (a1 + a3))) 1)), a4)).bind fun y2 =>
      some y2
    else
      some v6).bind fun v8 =>
  (
    if (IntKind.i64.wrap (ishr .u64 (IntKind.u64.wrap (IntKind.i64.wrap (a1 + a3))) 1)) < (IntKind.i64.wrap ((IntKind.i64.wrap ((IntKind.i64.wrap (ishr .u64 (IntKind.u64.wrap (IntKind.i64.wrap (a1 + a3))) 1)) + a2)) - v4)) then
      some (decide ((IntKind.i64.wrap ((IntKind.i64.wrap ((IntKind.i64.wrap (ishr .u64 (IntKind.u64.wrap (IntKind.i64.wrap (a1 + a3))) 1)) + a2)) - v4)) < a3))
    else
      some false).bind fun v9 =>
  if v9 = true then
    (fx (v8, (IntKind.i64.wrap (ishr .u64 (IntKind.u64.wrap (IntKind.i64.wrap (a1 + a3))) 1)), (IntKind.i64.wrap ((IntKind.i64.wrap ((IntKind.i64.wrap (ishr .u64 (IntKind.u64.wrap (IntKind.i64.wrap (a1 + a3))) 1)) + a2)) - v4)), a3, a4)).bind fun y1 =>
    some y1
  else
    some v8
noncomputable def G.slices_symMergeCmpFunc_int_v0_delta_sorted_1_F (fx : ((List Int) × Int × Int × Int × (List G.Command)) → Option (List Int)) (x : ((List Int) × Int × Int × Int × (List G.Command))) : Option (List Int) := G.slices_symMergeCmpFunc_int_v0_delta_sorted_1_b fx x.1 x.2.1 x.2.2.1 x.2.2.2.1 x.2.2.2.2
noncomputable def G.slices_symMergeCmpFunc_int_v0_delta_sorted_1 (a0 : List Int) (a1 : Int) (a2 : Int) (a3 : Int) (a4 : (List G.Command)) : Option (List Int) := Fix G.slices_symMergeCmpFunc_int_v0_delta_sorted_1_F (a0, a1, a2, a3, a4)
noncomputable def G.slices_stableCmpFunc_int_v0_delta_sorted_1_l2 (a1 : Int) (a2 : (List G.Command)) (s1 : Int × (List Int)) (s2 : Int × Int × (List Int)) : Option ((Int × Int × (List Int)) ⊕ (Int × (List Int))) :=
  if s2.2.1 ≤ a1 then
    (G.slices_symMergeCmpFunc_int_v0_delta_sorted_1 s2.2.2 s2.1 (IntKind.i64.wrap (s2.1 + s1.1)) s2.2.1 a2).bind fun y3 =>
    some (.inl (s2.2.1, (IntKind.i64.wrap (s2.2.1 + (IntKind.i64.wrap (2 * s1.1)))), y3))
  else
    some (.inr (s2.1, s2.2.2))
noncomputable def G.slices_stableCmpFunc_int_v0_delta_sorted_1_l1 (a1 : Int) (a2 : (List G.Command)) (s1 : Int × (List Int)) : Option ((Int × (List Int)) ⊕ (List Int)) :=
  if s1.1 < a1 then
    (
      Iter (G.slices_stableCmpFunc_int_v0_delta_sorted_1_l2 a1 a2 s1) (0, (IntKind.i64.wrap (2 * s1.1)), s1.2)).bind fun v2 =>
    if (IntKind.i64.wrap (v2.1 + s1.1)) < a1 then
      (G.slices_symMergeCmpFunc_int_v0_delta_sorted_1 v2.2 v2.1 (IntKind.i64.wrap (v2.1 + s1.1)) a1 a2).bind fun y2 =>
      some (.inl ((IntKind.i64.wrap (s1.1 * 2)), y2))
    else
      some (.inl ((IntKind.i64.wrap (s1.1 * 2)), v2.2))
  else
    some (.inr s1.2)
noncomputable def G.slices_stableCmpFunc_int_v0_delta_sorted_1_l3 (a1 : Int) (a2 : (List G.Command)) (s3 : Int × Int × (List Int)) : Option ((Int × Int × (List Int)) ⊕ (Int × (List Int))) :=
  if s3.2.1 ≤ a1 then
    (G.slices_insertionSortCmpFunc_int_v0_delta_sorted_1 s3.2.2 s3.1 s3.2.1 a2).bind fun y4 =>
    some (.inl (s3.2.1, (IntKind.i64.wrap (s3.2.1 + 20)), y4))
  else
    some (.inr (s3.1, s3.2.2))
noncomputable def G.slices_stableCmpFunc_int_v0_delta_sorted_1 (a0 : List Int) (a1 : Int) (a2 : (List G.Command)) : Option (List Int) :=
  (
    Iter (G.slices_stableCmpFunc_int_v0_delta_sorted_1_l3 a1 a2) (0, 20, a0)).bind fun v1 =>
  (G.slices_insertionSortCmpFunc_int_v0_delta_sorted_1 v1.2 v1.1 a1 a2).bind fun y1 =>
  Iter (G.slices_stableCmpFunc_int_v0_delta_sorted_1_l1 a1 a2) (20, y1)
noncomputable def G.slices_SortStableFunc_int_int_v0_delta_sorted_1 (a0 : List Int) (a1 : (List G.Command)) : Option (List Int) :=
  (G.slices_stableCmpFunc_int_v0_delta_sorted_1 a0 (a0.length : Int) a1).bind fun y1 =>
  some y1
def G.delta_sorted_l1 (a0 : List G.Command) (s1 : Int × (List Int)) : Option ((Int × (List Int)) ⊕ (List Int)) :=
  if s1.1 < (a0.length : Int) then
    (idx s1.2 s1.1).bind fun x2 =>
    some (.inl ((IntKind.i64.wrap (s1.1 + 1)), (s1.2.set s1.1.toNat s1.1)))
  else
    some (.inr s1.2)
noncomputable def G.delta_sorted (a0 : List G.Command) : Option ((List Int) × (List G.Command)) :=
  (chk (0 ≤ (a0.length : Int) ∧ (a0.length : Int) * 8 ≤ 140737488355328)).bind fun y1 =>
  (
    Iter (G.delta_sorted_l1 a0) (0, (List.replicate a0.length 0))).bind fun v1 =>
  (G.slices_SortStableFunc_int_int_v0_delta_sorted_1 v1 a0).bind fun y2 =>
  (chk (y2.length ≤ 140737488355328)).bind fun y3 =>
  some (y2, a0)
def G.delta_tiles_l1 (y1 : ((List Int) × (List G.Command))) (s1 : Int × Int × Int) : Option ((Int × Int × Int) ⊕ ((Int × Int) ⊕ (Int × Bool))) :=
  if s1.2.2 < (y1.1.length : Int) then
    (idx y1.1 s1.2.2).bind fun x2 =>
    (idx y1.2 x2).bind fun x3 =>
    (G.command_Target x3).bind fun y2 =>
    if y2.off < s1.2.1 then
      some (.inr (.inr (0, true)))
    else
      (
        if y2.off > s1.2.1 then
          some (decide (s1.1 < 0))
        else
          some false).bind fun v2 =>
      (
        if v2 = true then
          some s1.2.1
        else
          some s1.1).bind fun v3 =>
      (G.extent_End y2).bind fun y3 =>
      some (.inl (v3, y3, (IntKind.i64.wrap (s1.2.2 + 1))))
  else
    some (.inr (.inl (s1.1, s1.2.1)))
noncomputable def G.delta_tiles (a0 : List G.Command) : Option (Int × Bool) :=
  (G.delta_sorted a0).bind fun y1 =>
  (
    Iter (G.delta_tiles_l1 y1) ((-1), 0, 0)).bind fun v1 => joinK v1 fun u1 =>
  if u1.1 ≥ 0 then
    some (u1.1, false)
  else
    some (u1.2, false)
def G.extent_between (a0 : Int) (a1 : Int) (a2 : Int) : Option (G.Extent × Bool) :=
  if (IntKind.i64.wrap (a1 - a0)) < a2 then
    some ((⟨0, 0⟩ : G.Extent), false)
  else
    some ((⟨a0, (IntKind.i64.wrap (a1 - a0))⟩ : G.Extent), true)
def G.extent_Overlap (a0 : G.Extent) (a1 : G.Extent) : Option (G.Extent × Bool) :=
  (G.extent_End a0).bind fun y1 =>
  (G.extent_End a1).bind fun y2 =>
  (G.extent_between (imax a0.off a1.off) (imin y1 y2) 1).bind fun y3 =>
  some (y3.1, y3.2)
def G.delta_overlap_l2 (a0 : List G.Command) (s1 : Int) (x2 : List G.Command) (s2 : Int) : Option (Int ⊕ (Int ⊕ Int)) :=
  if s2 < (x2.length : Int) then
    (idx x2 s2).bind fun x4 =>
    (idx a0 s1).bind fun x5 =>
    (G.command_Target x5).bind fun y1 =>
    (G.command_Target x4).bind fun y2 =>
    (G.extent_Overlap y1 y2).bind fun y3 =>
    if y3.2 = true then
      some (.inr (.inr s1))
    else
      some (.inl (IntKind.i64.wrap (s2 + 1)))
  else
    some (.inr (.inl (IntKind.i64.wrap (s1 + 1))))
noncomputable def G.delta_overlap_l1 (a0 : List G.Command) (s1 : Int) : Option (Int ⊕ Int) :=
  if s1 < (a0.length : Int) then
    (slcTo a0 s1).bind fun x2 =>
    Iter (G.delta_overlap_l2 a0 s1 x2) 0
  else
    some (.inr (-1))
noncomputable def G.delta_overlap (a0 : List G.Command) : Option Int :=
  Iter (G.delta_overlap_l1 a0) 0
def G.delta_Check_l1 (a0 : G.Delta) (s1 : Int) : Option (Int ⊕ (Unit ⊕ G.Fault)) :=
  if s1 < (a0.commands.length : Int) then
    (idx a0.commands s1).bind fun x2 =>
    (G.delta_single a0 x2).bind fun y3 =>
    if y3 ≠ 0 then
      some (.inr (.inr (⟨y3, s1⟩ : G.Fault)))
    else
      some (.inl (IntKind.i64.wrap (s1 + 1)))
  else
    some (.inr (.inl ()))
noncomputable def G.delta_Check (a0 : G.Delta) : Option G.Fault :=
  (
    (G.delta_inRange a0.oldLen).bind fun y4 =>
    if y4 = false then
      some true
    else
      (G.delta_inRange a0.newLen).bind fun y5 =>
      some (!y5)).bind fun v1 =>
  if v1 = true then
    some (⟨2, (-1)⟩ : G.Fault)
  else
    (
      Iter (G.delta_Check_l1 a0) 0).bind fun v2 => joinK v2 fun u1 =>
    (G.delta_tiles a0.commands).bind fun y1 =>
    if y1.2 = true then
      (G.delta_overlap a0.commands).bind fun y2 =>
      some (⟨4, y2⟩ : G.Fault)
    else
      if y1.1 < a0.newLen then
        some (⟨3, y1.1⟩ : G.Fault)
      else
        some (⟨0, 0⟩ : G.Fault)
def G.slices_Clone_byte_byte (a0 : List UInt8) : Option (List UInt8) :=
  (app 1 ([] : List UInt8) a0).bind fun x1 =>
  some x1
def G.command_Clone (a0 : G.Command) : Option G.Command :=
  (G.slices_Clone_byte_byte a0.data).bind fun y1 =>
  some (⟨a0.kind, a0.to, a0.from_, a0.len, y1⟩ : G.Command)
def G.delta_With_l1 (a0 : G.Delta) (a1 : List G.Command) (s1 : (List G.Command) × Int) : Option (((List G.Command) × Int) ⊕ G.Delta) :=
  if s1.2 < (a1.length : Int) then
    (idx a1 s1.2).bind fun x2 =>
    (G.command_Clone x2).bind fun y1 =>
    (app 56 s1.1 ([y1] : List G.Command)).bind fun x3 =>
    some (.inl (x3, (IntKind.i64.wrap (s1.2 + 1))))
  else
    some (.inr (⟨a0.oldLen, a0.newLen, a0.oldHash, a0.newHash, s1.1⟩ : G.Delta))
noncomputable def G.delta_With (a0 : G.Delta) (a1 : List G.Command) : Option G.Delta :=
  Iter (G.delta_With_l1 a0 a1) (([] : List G.Command), 0)
def G.extent_Contains_1 (a0 : G.Extent) (a1 : G.Extent) : Option Bool :=
  if a0.off < a1.off then
    some true
  else
    (G.extent_End a0).bind fun y1 =>
    (G.extent_End a1).bind fun y2 =>
    some (decide (y1 > y2))
def G.slices_IndexFunc_api_Extent_api_Extent_extent_Contains_1_l1 (a0 : List G.Extent) (a1 : G.Extent) (s1 : Int) : Option (Int ⊕ Int) :=
  if s1 < (a0.length : Int) then
    (idx a0 s1).bind fun x2 =>
    (G.extent_Contains_1 x2 a1).bind fun y1 =>
    if y1 = true then
      some (.inr s1)
    else
      some (.inl (IntKind.i64.wrap (s1 + 1)))
  else
    some (.inr (-1))
noncomputable def G.slices_IndexFunc_api_Extent_api_Extent_extent_Contains_1 (a0 : List G.Extent) (a1 : G.Extent) : Option Int :=
  Iter (G.slices_IndexFunc_api_Extent_api_Extent_extent_Contains_1_l1 a0 a1) 0
noncomputable def G.slices_ContainsFunc_api_Extent_api_Extent_extent_Contains_1 (a0 : List G.Extent) (a1 : G.Extent) : Option Bool :=
  (G.slices_IndexFunc_api_Extent_api_Extent_extent_Contains_1 a0 a1).bind fun y1 =>
  some (decide (y1 ≥ 0))
noncomputable def G.extent_Contains (a0 : G.Extent) (a1 : List G.Extent) : Option Bool :=
  (G.slices_ContainsFunc_api_Extent_api_Extent_extent_Contains_1 a1 a0).bind fun y1 =>
  some (!y1)
noncomputable def G.delta_Find_1 (a0 : G.Command) (a1 : Int) : Option Bool :=
  (G.command_Target a0).bind fun y1 =>
  (G.extent_Contains y1 ([(⟨a1, 1⟩ : G.Extent)] : List G.Extent)).bind fun y2 =>
  some y2
noncomputable def G.slices_IndexFunc_api_Command_api_Command_delta_Find_1_l1 (a0 : List G.Command) (a1 : Int) (s1 : Int) : Option (Int ⊕ Int) :=
  if s1 < (a0.length : Int) then
    (idx a0 s1).bind fun x2 =>
    (G.delta_Find_1 x2 a1).bind fun y1 =>
    if y1 = true then
      some (.inr s1)
    else
      some (.inl (IntKind.i64.wrap (s1 + 1)))
  else
    some (.inr (-1))
noncomputable def G.slices_IndexFunc_api_Command_api_Command_delta_Find_1 (a0 : List G.Command) (a1 : Int) : Option Int :=
  Iter (G.slices_IndexFunc_api_Command_api_Command_delta_Find_1_l1 a0 a1) 0
noncomputable def G.delta_Find (a0 : G.Delta) (a1 : Int) : Option Int :=
  (G.slices_IndexFunc_api_Command_api_Command_delta_Find_1 a0.commands a1).bind fun y1 =>
  some y1
noncomputable def G.delta_Valid (a0 : G.Delta) : Option Bool :=
  (G.delta_Check a0).bind fun y1 =>
  some (decide (y1.code = 0 ∧ y1.at_ = 0))
noncomputable def G.graftlaw05_alive : Option Bool :=
  (G.delta_Check (⟨4, 6, (fun _ => (0 : UInt8)), (fun _ => (0 : UInt8)), ([(⟨1, 2, 0, 4, ([] : List UInt8)⟩ : G.Command), (⟨2, 0, 0, 0, ([(97 : UInt8), (98 : UInt8)] : List UInt8)⟩ : G.Command)] : List G.Command)⟩ : G.Delta)).bind fun y1 =>
  if y1.code = 0 ∧ y1.at_ = 0 then
    (G.delta_With (⟨4, 6, (fun _ => (0 : UInt8)), (fun _ => (0 : UInt8)), ([(⟨1, 2, 0, 4, ([] : List UInt8)⟩ : G.Command), (⟨2, 0, 0, 0, ([(97 : UInt8), (98 : UInt8)] : List UInt8)⟩ : G.Command)] : List G.Command)⟩ : G.Delta) ([(⟨1, 2, 0, 4, ([] : List UInt8)⟩ : G.Command)] : List G.Command)).bind fun y2 =>
    (G.delta_Check y2).bind fun y3 =>
    if y3.code = 3 ∧ y3.at_ = 0 then
      (G.delta_Find (⟨4, 6, (fun _ => (0 : UInt8)), (fun _ => (0 : UInt8)), ([(⟨1, 2, 0, 4, ([] : List UInt8)⟩ : G.Command), (⟨2, 0, 0, 0, ([(97 : UInt8), (98 : UInt8)] : List UInt8)⟩ : G.Command)] : List G.Command)⟩ : G.Delta) 1).bind fun y4 =>
      if y4 = 1 then
        (G.delta_Valid (⟨4, 6, (fun _ => (0 : UInt8)), (fun _ => (0 : UInt8)), ([(⟨1, 2, 0, 4, ([] : List UInt8)⟩ : G.Command), (⟨2, 0, 0, 0, ([(97 : UInt8), (98 : UInt8)] : List UInt8)⟩ : G.Command)] : List G.Command)⟩ : G.Delta)).bind fun y5 =>
        some y5
      else
        some false
    else
      some false
  else
    some false
def G.graftref01_Max : Option Int :=
  some 4611686018427387903
def G.graftref04_Len (a0 : G.Command) : Option Int :=
  if a0.kind = 1 then
    some a0.len
  else
    some (a0.data.length : Int)
def G.graftref04_Target (a0 : G.Command) : Option G.Extent :=
  (G.graftref04_Len a0).bind fun y1 =>
  some (⟨a0.to, y1⟩ : G.Extent)
def G.graftref01_Valid (a0 : G.Extent) : Option Bool :=
  if a0.off ≥ 0 then
    if a0.len ≥ 0 then
      (G.graftref01_Max).bind fun y1 =>
      if a0.off ≤ y1 then
        (G.graftref01_Max).bind fun y2 =>
        some (decide (a0.len ≤ (IntKind.i64.wrap (y2 - a0.off))))
      else
        some false
    else
      some false
  else
    some false
def G.graftref04_Source (a0 : G.Command) : Option G.Extent :=
  some (⟨a0.from_, a0.len⟩ : G.Extent)
def G.graftref04_Check (a0 : G.Command) : Option Int :=
  (
    if a0.kind ≠ 1 then
      some (a0.kind != 2)
    else
      some false).bind fun v1 =>
  if v1 = true then
    some 11
  else
    (G.graftref04_Len a0).bind fun y1 =>
    if y1 = 0 then
      some 7
    else
      (G.graftref04_Target a0).bind fun y2 =>
      (G.graftref01_Valid y2).bind fun y3 =>
      if y3 = false then
        some 2
      else
        (
          if a0.kind = 1 then
            if (a0.data.length : Int) > 0 then
              some true
            else
              (G.graftref04_Source a0).bind fun y4 =>
              (G.graftref01_Valid y4).bind fun y5 =>
              some (!y5)
          else
            some false).bind fun v2 =>
        if v2 = true then
          some 2
        else
          (
            if a0.kind = 2 then
              if a0.from_ ≠ 0 then
                some true
              else
                some (a0.len != 0)
            else
              some false).bind fun v3 =>
          if v3 = true then
            some 2
          else
            some 0
def G.graftref05_single (a0 : G.Delta) (a1 : G.Command) : Option Int :=
  (G.graftref04_Check a1).bind fun y1 =>
  if y1 ≠ 0 then
    some y1
  else
    (
      if a1.kind = 1 then
        some (decide ((IntKind.i64.wrap (a1.from_ + a1.len)) > a0.oldLen))
      else
        some false).bind fun v1 =>
    if v1 = true then
      some 5
    else
      (G.graftref04_Len a1).bind fun y2 =>
      if (IntKind.i64.wrap (a1.to + y2)) > a0.newLen then
        some 6
      else
        some 0
def G.graftref01_Overlap (a0 : G.Extent) (a1 : G.Extent) : Option G.Extent :=
  if (imax a0.off a1.off) ≥ (imin (IntKind.i64.wrap (a0.off + a0.len)) (IntKind.i64.wrap (a1.off + a1.len))) then
    some (⟨0, 0⟩ : G.Extent)
  else
    some (⟨(imax a0.off a1.off), (IntKind.i64.wrap ((imin (IntKind.i64.wrap (a0.off + a0.len)) (IntKind.i64.wrap (a1.off + a1.len))) - (imax a0.off a1.off)))⟩ : G.Extent)
def G.graftref01_Has (a0 : G.Extent) (a1 : Int) : Option Bool :=
  if a1 ≥ a0.off then
    some (decide (a1 < (IntKind.i64.wrap (a0.off + a0.len))))
  else
    some false
def G.graftref05_has (a0 : G.Command) (a1 : Int) : Option Bool :=
  (G.graftref04_Target a0).bind fun y1 =>
  (G.graftref01_Has y1 a1).bind fun y2 =>
  some y2
def G.graftref05_Find_l1 (a0 : G.Delta) (a1 : Int) (s1 : Int) : Option (Int ⊕ Int) :=
  if s1 < (a0.commands.length : Int) then
    (idx a0.commands s1).bind fun x2 =>
    (G.graftref05_has x2 a1).bind fun y1 =>
    if y1 = true then
      some (.inr s1)
    else
      some (.inl (IntKind.i64.wrap (s1 + 1)))
  else
    some (.inr (-1))
noncomputable def G.graftref05_Find (a0 : G.Delta) (a1 : Int) : Option Int :=
  Iter (G.graftref05_Find_l1 a0 a1) 0
noncomputable def G.graftref05_gap_l1 (a0 : G.Delta) (s1 : Int × Int) : Option ((Int × Int) ⊕ Int) :=
  if s1.2 < (a0.commands.length : Int) then
    (
      if s1.2 ≥ 0 then
        (idx a0.commands s1.2).bind fun x2 =>
        (idx a0.commands s1.2).bind fun x3 =>
        (G.graftref04_Len x3).bind fun y2 =>
        some (IntKind.i64.wrap (x2.to + y2))
      else
        some 0).bind fun v1 =>
    (
      if v1 < a0.newLen then
        (G.graftref05_Find a0 v1).bind fun y1 =>
        if y1 < 0 then
          if s1.1 < 0 then
            some true
          else
            some (decide (v1 < s1.1))
        else
          some false
      else
        some false).bind fun v2 =>
    if v2 = true then
      some (.inl (v1, (IntKind.i64.wrap (s1.2 + 1))))
    else
      some (.inl (s1.1, (IntKind.i64.wrap (s1.2 + 1))))
  else
    some (.inr s1.1)
noncomputable def G.graftref05_gap (a0 : G.Delta) : Option Int :=
  Iter (G.graftref05_gap_l1 a0) ((-1), (-1))
def G.graftref05_Check_l2 (a0 : G.Delta) (s1 : Int) (s2 : Int) : Option (Int ⊕ (Int ⊕ (Unit ⊕ (Int × Int)))) :=
  if s2 < s1 then
    (idx a0.commands s1).bind fun x3 =>
    (G.graftref04_Target x3).bind fun y2 =>
    (idx a0.commands s2).bind fun x4 =>
    (G.graftref04_Target x4).bind fun y3 =>
    (G.graftref01_Overlap y2 y3).bind fun y4 =>
    if y4.len > 0 then
      some (.inr (.inr (.inr (4, s1))))
    else
      some (.inl (IntKind.i64.wrap (s2 + 1)))
  else
    some (.inr (.inl (IntKind.i64.wrap (s1 + 1))))
noncomputable def G.graftref05_Check_l1 (a0 : G.Delta) (s1 : Int) : Option (Int ⊕ (Unit ⊕ (Int × Int))) :=
  if s1 < (a0.commands.length : Int) then
    Iter (G.graftref05_Check_l2 a0 s1) 0
  else
    some (.inr (.inl ()))
def G.graftref05_Check_l3 (a0 : G.Delta) (s3 : Int) : Option (Int ⊕ (Unit ⊕ (Int × Int))) :=
  if s3 < (a0.commands.length : Int) then
    (idx a0.commands s3).bind fun x6 =>
    (G.graftref05_single a0 x6).bind fun y5 =>
    if y5 ≠ 0 then
      some (.inr (.inr (y5, s3)))
    else
      some (.inl (IntKind.i64.wrap (s3 + 1)))
  else
    some (.inr (.inl ()))
noncomputable def G.graftref05_Check (a0 : G.Delta) : Option (Int × Int) :=
  (
    if a0.oldLen < 0 then
      some true
    else
      if a0.newLen < 0 then
        some true
      else
        (G.graftref01_Max).bind fun y6 =>
        if a0.oldLen > y6 then
          some true
        else
          (G.graftref01_Max).bind fun y7 =>
          some (decide (a0.newLen > y7))).bind fun v1 =>
  if v1 = true then
    some (2, (-1))
  else
    (
      Iter (G.graftref05_Check_l3 a0) 0).bind fun v2 => joinK v2 fun u1 =>
    (
      Iter (G.graftref05_Check_l1 a0) 0).bind fun v3 => joinK v3 fun u2 =>
    (G.graftref05_gap a0).bind fun y1 =>
    if y1 ≥ 0 then
      some (3, y1)
    else
      some (0, 0)
noncomputable def G.graftlaw05_DeltaChecks (a0 : G.Delta) : Option Bool :=
  (G.graftref05_Few a0).bind fun y1 =>
  if y1 = false then
    (G.graftlaw05_alive).bind fun y2 =>
    some y2
  else
    (G.graftref05_Check a0).bind fun y3 =>
    (G.delta_Check a0).bind fun y4 =>
    (G.graftlaw05_alive).bind fun y5 =>
    if y5 = true then
      if y4.code = y3.1 then
        if y4.at_ = y3.2 then
          (G.delta_Valid a0).bind fun y6 =>
          some (y6 == (y3.1 == 0))
        else
          some false
      else
        some false
    else
      some false
noncomputable def G.graftref05_Valid (a0 : G.Delta) : Option Bool :=
  (G.graftref05_Check a0).bind fun y1 =>
  some (y1.1 == 0)
noncomputable def G.graftlaw05_DeltaBreaks (a0 : G.Delta) (a1 : UInt8) : Option Bool :=
  (
    (G.graftref05_Few a0).bind fun y8 =>
    if y8 = false then
      some true
    else
      (G.graftref05_Valid a0).bind fun y9 =>
      if y9 = false then
        some true
      else
        some ((a0.commands.length : Int) == 0)).bind fun v1 =>
  if v1 = true then
    (G.graftlaw05_alive).bind fun y1 =>
    some y1
  else
    (chk ((a0.commands.length : Int) ≠ 0)).bind fun y2 =>
    (idx a0.commands (Int.tmod (a1.toNat : Int) (a0.commands.length : Int))).bind fun x1 =>
    (slcTo a0.commands (Int.tmod (a1.toNat : Int) (a0.commands.length : Int))).bind fun x2 =>
    (app 56 ([] : List G.Command) x2).bind fun x3 =>
    (slcFrom a0.commands (IntKind.i64.wrap ((Int.tmod (a1.toNat : Int) (a0.commands.length : Int)) + 1))).bind fun x4 =>
    (app 56 x3 x4).bind fun x5 =>
    (app 56 ([] : List G.Command) a0.commands).bind fun x6 =>
    (app 56 x6 ([x1] : List G.Command)).bind fun x7 =>
    (G.graftlaw05_alive).bind fun y3 =>
    if y3 = true then
      (G.delta_With a0 x5).bind fun y4 =>
      (G.delta_Check y4).bind fun y5 =>
      if y5.code = 3 ∧ y5.at_ = x1.to then
        (G.delta_With a0 x7).bind fun y6 =>
        (G.delta_Check y6).bind fun y7 =>
        some (decide (y7.code = 4 ∧ y7.at_ = (a0.commands.length : Int)))
      else
        some false
    else
      some false
def G.delta_Sort_l1 (a0 : G.Delta) (y1 : ((List Int) × (List G.Command))) (s1 : (List G.Command) × Int) : Option (((List G.Command) × Int) ⊕ (List G.Command)) :=
  if s1.2 < (y1.1.length : Int) then
    (idx y1.1 s1.2).bind fun x2 =>
    (idx y1.2 x2).bind fun x3 =>
    (G.command_Target x3).bind fun y3 =>
    (idx a0.commands x2).bind fun x4 =>
    (app 56 s1.1 ([x4] : List G.Command)).bind fun x5 =>
    some (.inl (x5, (IntKind.i64.wrap (s1.2 + 1))))
  else
    some (.inr s1.1)
noncomputable def G.delta_Sort (a0 : G.Delta) : Option G.Delta :=
  (G.delta_sorted a0.commands).bind fun y1 =>
  (
    Iter (G.delta_Sort_l1 a0 y1) (([] : List G.Command), 0)).bind fun v1 =>
  (G.delta_With a0 v1).bind fun y2 =>
  some y2
def G.graftref05_Sort_l2 (a0 : List G.Command) (s1 : (List G.Command) × Int) (s2 : Int) : Option (Int ⊕ Int) :=
  (
    if s2 > 0 then
      (idx s1.1 (IntKind.i64.wrap (s2 - 1))).bind fun x9 =>
      (idx a0 s1.2).bind fun x10 =>
      some (decide (x9.to > x10.to))
    else
      some false).bind fun v2 =>
  if v2 = true then
    some (.inl (IntKind.i64.wrap (s2 - 1)))
  else
    some (.inr s2)
noncomputable def G.graftref05_Sort_l1 (a0 : List G.Command) (s1 : (List G.Command) × Int) : Option (((List G.Command) × Int) ⊕ (List G.Command)) :=
  if s1.2 < (a0.length : Int) then
    (
      Iter (G.graftref05_Sort_l2 a0 s1) (s1.1.length : Int)).bind fun v1 =>
    (slcTo s1.1 v1).bind fun x2 =>
    (app 56 ([] : List G.Command) x2).bind fun x3 =>
    (idx a0 s1.2).bind fun x4 =>
    (app 56 x3 ([x4] : List G.Command)).bind fun x5 =>
    (slcFrom s1.1 v1).bind fun x6 =>
    (app 56 x5 x6).bind fun x7 =>
    some (.inl (x7, (IntKind.i64.wrap (s1.2 + 1))))
  else
    some (.inr s1.1)
noncomputable def G.graftref05_Sort (a0 : List G.Command) : Option (List G.Command) :=
  Iter (G.graftref05_Sort_l1 a0) (([] : List G.Command), 0)
def G.graftref05_With (a0 : G.Delta) (a1 : List G.Command) : Option G.Delta :=
  some (⟨a0.oldLen, a0.newLen, a0.oldHash, a0.newHash, a1⟩ : G.Delta)
def G.graftref04_Same (a0 : G.Command) (a1 : G.Command) : Option Bool :=
  if a0.kind = a1.kind then
    if a0.to = a1.to then
      if a0.from_ = a1.from_ then
        if a0.len = a1.len then
          some (decide (a0.data = a1.data))
        else
          some false
      else
        some false
    else
      some false
  else
    some false
def G.graftref04_All_l1 (a0 : List G.Command) (a1 : List G.Command) (s1 : Int) : Option (Int ⊕ Bool) :=
  if s1 < (a0.length : Int) then
    (idx a0 s1).bind fun x2 =>
    (idx a1 s1).bind fun x3 =>
    (G.graftref04_Same x2 x3).bind fun y1 =>
    if y1 = false then
      some (.inr false)
    else
      some (.inl (IntKind.i64.wrap (s1 + 1)))
  else
    some (.inr true)
noncomputable def G.graftref04_All (a0 : List G.Command) (a1 : List G.Command) : Option Bool :=
  if (a0.length : Int) ≠ (a1.length : Int) then
    some false
  else
    Iter (G.graftref04_All_l1 a0 a1) 0
noncomputable def G.graftref05_Same (a0 : G.Delta) (a1 : G.Delta) : Option Bool :=
  if a0.oldLen = a1.oldLen then
    if a0.newLen = a1.newLen then
      if (hashEq a0.oldHash a1.oldHash) = true then
        if (hashEq a0.newHash a1.newHash) = true then
          (G.graftref04_All a0.commands a1.commands).bind fun y1 =>
          some y1
        else
          some false
      else
        some false
    else
      some false
  else
    some false
def G.graftlaw05_DeltaSorts_l1 (y2 : G.Delta) (s1 : Int × Int) : Option ((Int × Int) ⊕ (Int ⊕ Bool)) :=
  if s1.2 < (y2.commands.length : Int) then
    (idx y2.commands s1.2).bind fun x3 =>
    if x3.to ≠ s1.1 then
      some (.inr (.inr false))
    else
      (G.graftref04_Len x3).bind fun y5 =>
      some (.inl ((IntKind.i64.wrap (s1.1 + y5)), (IntKind.i64.wrap (s1.2 + 1))))
  else
    some (.inr (.inl s1.1))
noncomputable def G.graftlaw05_DeltaSorts (a0 : G.Delta) : Option Bool :=
  (
    (G.graftref05_Few a0).bind fun y10 =>
    if y10 = false then
      some true
    else
      (G.graftref05_Valid a0).bind fun y11 =>
      some (!y11)).bind fun v1 =>
  if v1 = true then
    (G.graftlaw05_alive).bind fun y1 =>
    some y1
  else
    (app 56 ([] : List G.Command) a0.commands).bind fun x1 =>
    (G.delta_Sort (⟨a0.oldLen, a0.newLen, a0.oldHash, a0.newHash, x1⟩ : G.Delta)).bind fun y2 =>
    (
      (G.graftref05_Sort a0.commands).bind fun y6 =>
      (G.graftref05_With a0 y6).bind fun y7 =>
      (G.graftref05_Same y2 y7).bind fun y8 =>
      if y8 = false then
        some true
      else
        (G.graftref05_Same (⟨a0.oldLen, a0.newLen, a0.oldHash, a0.newHash, x1⟩ : G.Delta) a0).bind fun y9 =>
        some (!y9)).bind fun v2 =>
    if v2 = true then
      some false
    else
      (
        Iter (G.graftlaw05_DeltaSorts_l1 y2) (0, 0)).bind fun v3 => joinK v3 fun u1 =>
      (G.graftlaw05_alive).bind fun y3 =>
      if y3 = true then
        if u1 = a0.newLen then
          (G.delta_Valid y2).bind fun y4 =>
          some y4
        else
          some false
      else
        some false
def G.delta_Totals_l1 (a0 : G.Delta) (s1 : Int × Int) : Option ((Int × Int) ⊕ Int) :=
  if s1.2 < (a0.commands.length : Int) then
    (idx a0.commands s1.2).bind fun x2 =>
    (G.command_Source x2).bind fun y1 =>
    if y1.2 = true then
      some (.inl ((IntKind.i64.wrap (s1.1 + y1.1.len)), (IntKind.i64.wrap (s1.2 + 1))))
    else
      some (.inl (s1.1, (IntKind.i64.wrap (s1.2 + 1))))
  else
    some (.inr s1.1)
noncomputable def G.delta_Totals (a0 : G.Delta) : Option (Int × Int) :=
  (
    Iter (G.delta_Totals_l1 a0) (0, 0)).bind fun v1 =>
  some (v1, (IntKind.i64.wrap (a0.newLen - v1)))
def G.graftref05_Totals_l1 (a0 : G.Delta) (s1 : Int × Int × Int) : Option ((Int × Int × Int) ⊕ (Int × Int)) :=
  if s1.2.2 < (a0.commands.length : Int) then
    (idx a0.commands s1.2.2).bind fun x2 =>
    if x2.kind = 1 then
      (idx a0.commands s1.2.2).bind fun x3 =>
      some (.inl ((IntKind.i64.wrap (s1.1 + x3.len)), s1.2.1, (IntKind.i64.wrap (s1.2.2 + 1))))
    else
      (idx a0.commands s1.2.2).bind fun x4 =>
      some (.inl (s1.1, (IntKind.i64.wrap (s1.2.1 + (x4.data.length : Int))), (IntKind.i64.wrap (s1.2.2 + 1))))
  else
    some (.inr (s1.1, s1.2.1))
noncomputable def G.graftref05_Totals (a0 : G.Delta) : Option (Int × Int) :=
  (
    Iter (G.graftref05_Totals_l1 a0) (0, 0, 0)).bind fun v1 =>
  some (v1.1, v1.2)
noncomputable def G.graftlaw05_DeltaTotals (a0 : G.Delta) : Option Bool :=
  (
    (G.graftref05_Few a0).bind fun y5 =>
    if y5 = false then
      some true
    else
      (G.graftref05_Valid a0).bind fun y6 =>
      some (!y6)).bind fun v1 =>
  if v1 = true then
    (G.graftlaw05_alive).bind fun y1 =>
    some y1
  else
    (G.delta_Totals a0).bind fun y2 =>
    (G.graftref05_Totals a0).bind fun y3 =>
    (G.graftlaw05_alive).bind fun y4 =>
    if y4 = true then
      if y2.1 = y3.1 then
        if y2.2 = y3.2 then
          some ((IntKind.i64.wrap (y2.1 + y2.2)) == a0.newLen)
        else
          some false
      else
        some false
    else
      some false
def G.bytes_Equal (a0 : List UInt8) (a1 : List UInt8) : Option Bool :=
  some (decide (a0 = a1))
def G.command_Same (a0 : G.Command) (a1 : G.Command) : Option Bool :=
  if a0.kind = a1.kind then
    if a0.to = a1.to then
      if a0.from_ = a1.from_ then
        if a0.len = a1.len then
          (G.bytes_Equal a0.data a1.data).bind fun y1 =>
          some y1
        else
          some false
      else
        some false
    else
      some false
  else
    some false
def G.slices_EqualFunc_api_Command_api_Command_api_Command_api_Command_command_Same_l1 (a0 : List G.Command) (a1 : List G.Command) (s1 : Int) : Option (Int ⊕ Bool) :=
  if s1 < (a0.length : Int) then
    (idx a0 s1).bind fun x2 =>
    (idx a1 s1).bind fun x3 =>
    (G.command_Same x2 x3).bind fun y1 =>
    if y1 = false then
      some (.inr false)
    else
      some (.inl (IntKind.i64.wrap (s1 + 1)))
  else
    some (.inr true)
noncomputable def G.slices_EqualFunc_api_Command_api_Command_api_Command_api_Command_command_Same (a0 : List G.Command) (a1 : List G.Command) (a2 : Unit) : Option Bool :=
  if (a0.length : Int) ≠ (a1.length : Int) then
    some false
  else
    Iter (G.slices_EqualFunc_api_Command_api_Command_api_Command_api_Command_command_Same_l1 a0 a1) 0
noncomputable def G.delta_Same (a0 : G.Delta) (a1 : G.Delta) : Option Bool :=
  if a0.oldLen = a1.oldLen then
    if a0.newLen = a1.newLen then
      if (hashEq a0.oldHash a1.oldHash) = true then
        if (hashEq a0.newHash a1.newHash) = true then
          (G.slices_EqualFunc_api_Command_api_Command_api_Command_api_Command_command_Same a0.commands a1.commands ()).bind fun y1 =>
          some y1
        else
          some false
      else
        some false
    else
      some false
  else
    some false
noncomputable def G.graftlaw05_DeltaWith (a0 : G.Delta) (a1 : G.Delta) : Option Bool :=
  (
    (G.graftref05_Few a0).bind fun y11 =>
    if y11 = false then
      some true
    else
      (G.graftref05_Few a1).bind fun y12 =>
      some (!y12)).bind fun v1 =>
  if v1 = true then
    (G.graftlaw05_alive).bind fun y1 =>
    some y1
  else
    (G.delta_With a0 a1.commands).bind fun y2 =>
    (G.graftlaw05_alive).bind fun y3 =>
    if y3 = true then
      (G.graftref05_With a0 a1.commands).bind fun y4 =>
      (G.graftref05_Same y2 y4).bind fun y5 =>
      if y5 = true then
        (G.delta_Same a0 a1).bind fun y6 =>
        (G.graftref05_Same a0 a1).bind fun y7 =>
        if y6 = y7 then
          (G.delta_Same a0 a0).bind fun y8 =>
          if y8 = true then
            (G.delta_Same y2 a0).bind fun y9 =>
            (G.graftref04_All a0.commands a1.commands).bind fun y10 =>
            some (y9 == y10)
          else
            some false
        else
          some false
      else
        some false
    else
      some false
end Go.Proofs.Ytkalbidbhaalmaa
