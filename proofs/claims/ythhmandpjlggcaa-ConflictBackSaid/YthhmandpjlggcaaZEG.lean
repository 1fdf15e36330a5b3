/- Part of what the laws need: plain words, the walker and its laws, the program's functions. -/
import Derived.Test.YthhmandpjlggcaaZTy
namespace Go.Proofs.Ythhmandpjlggcaa
open G
def eqk_G_digraph_Edge (x y : G.digraph_Edge) : Bool := (intEq x.from_ y.from_ && (intEq x.to y.to && true))
noncomputable def G.graftref04_Len (a0 : G.Command) : Option Int :=
  if a0.kind = (1 : Int) then
    some a0.len
  else
    some (a0.data.length : Int)
noncomputable def G.graftref04_Target (a0 : G.Command) : Option G.Extent :=
  (G.graftref04_Len a0).bind fun y1 =>
  some (⟨a0.to, y1⟩ : G.Extent)
noncomputable def G.graftref01_Max : Option Int :=
  some (4611686018427387903 : Int)
noncomputable def G.graftref01_Valid (a0 : G.Extent) : Option Bool :=
  if a0.off ≥ (0 : Int) then
    if a0.len ≥ (0 : Int) then
      (G.graftref01_Max).bind fun y1 =>
      if a0.off ≤ y1 then
        (G.graftref01_Max).bind fun y2 =>
        some (decide (a0.len ≤ (IntKind.i64.wrap (y2 - a0.off))))
      else
        some false
    else
      some false
  else
    some false
noncomputable def G.graftref04_Source (a0 : G.Command) : Option G.Extent :=
  some (⟨a0.from_, a0.len⟩ : G.Extent)
noncomputable def G.graftref04_Check (a0 : G.Command) : Option Int :=
  (
    if a0.kind ≠ (1 : Int) then
      some (a0.kind != (2 : Int))
    else
      some false).bind fun v1 =>
  if v1 = true then
    some (11 : Int)
  else
    (G.graftref04_Len a0).bind fun y2 =>
    if y2 = (0 : Int) then
      some (7 : Int)
    else
      (G.graftref04_Target a0).bind fun y3 =>
      (G.graftref01_Valid y3).bind fun y4 =>
      if y4 = false then
        some (2 : Int)
      else
        (
          if a0.kind = (1 : Int) then
            if (a0.data.length : Int) > (0 : Int) then
              some true
            else
              (G.graftref04_Source a0).bind fun y6 =>
              (G.graftref01_Valid y6).bind fun y7 =>
              some (!y7)
          else
            some false).bind fun v5 =>
        if v5 = true then
          some (2 : Int)
        else
          (
            if a0.kind = (2 : Int) then
              if a0.from_ ≠ (0 : Int) then
                some true
              else
                some (a0.len != (0 : Int))
            else
              some false).bind fun v8 =>
          if v8 = true then
            some (2 : Int)
          else
            some (0 : Int)
noncomputable def G.graftref01_Overlap (a0 : G.Extent) (a1 : G.Extent) : Option G.Extent :=
  if (imax a0.off a1.off) ≥ (imin (IntKind.i64.wrap (a0.off + a0.len)) (IntKind.i64.wrap (a1.off + a1.len))) then
    some (⟨(0 : Int), (0 : Int)⟩ : G.Extent)
  else
    some (⟨(imax a0.off a1.off), (IntKind.i64.wrap ((imin (IntKind.i64.wrap (a0.off + a0.len)) (IntKind.i64.wrap (a1.off + a1.len))) - (imax a0.off a1.off)))⟩ : G.Extent)
noncomputable def G.graftref12_Right_l2 (a0 : (List G.Command)) (s1 : Int) (s6 : Int) : Option (Int ⊕ (Int ⊕ Bool)) :=
  if s6 < s1 then
    (idx a0 s1).bind fun x7 =>
    (G.graftref04_Target x7).bind fun y8 =>
    (idx a0 s6).bind fun x9 =>
    (G.graftref04_Target x9).bind fun y10 =>
    (G.graftref01_Overlap y8 y10).bind fun y11 =>
    if y11.len > (0 : Int) then
      some (.inr (.inr false))
    else
      some (.inl (IntKind.i64.wrap (s6 + (1 : Int))))
  else
    some (.inr (.inl (IntKind.i64.wrap (s1 + (1 : Int)))))
noncomputable def G.graftref12_Right_l1 (a0 : (List G.Command)) (s1 : Int) : Option (Int ⊕ Bool) :=
  if s1 < (a0.length : Int) then
    (
      (idx a0 s1).bind fun x3 =>
      (G.graftref04_Check x3).bind fun y4 =>
      if y4 ≠ (0 : Int) then
        some true
      else
        (idx a0 s1).bind fun x5 =>
        some (decide ((x5.data.length : Int) > (200 : Int)))).bind fun v2 =>
    if v2 = true then
      some (.inr false)
    else
      Iter (G.graftref12_Right_l2 a0 s1) (0 : Int)
  else
    some (.inr true)
noncomputable def G.graftref12_Right (a0 : List G.Command) : Option Bool :=
  if (a0.length : Int) > (30 : Int) then
    some false
  else
    Iter (G.graftref12_Right_l1 a0) (0 : Int)
noncomputable def G.digraph_New (a0 : Int) : Option (Int × (List (G.digraph_Edge × Bool)) × (List (Int × (List Int))) × (List (Int × (List Int)))) :=
  (
    if a0 < (0 : Int) then
      some true
    else
      some (decide (a0 > (1048576 : Int)))).bind fun v1 =>
  if v1 = true then
    none
  else
    some (a0, ([] : List (G.digraph_Edge × Bool)), ([] : List (Int × (List Int))), ([] : List (Int × (List Int))))
noncomputable def G.command_of (a0 : G.Command) : Option G.command_target :=
  (
    if a0.kind = (1 : Int) then
      some a0.len
    else
      some (a0.data.length : Int)).bind fun v1 =>
  some (⟨(⟨a0.to, v1⟩ : G.Extent)⟩ : G.command_target)
noncomputable def G.command_Target (a0 : G.Command) : Option G.Extent :=
  (G.command_of a0).bind fun y1 =>
  some y1.extent
noncomputable def G.extent_Valid (a0 : G.Extent) : Option Bool :=
  if (imin a0.off a0.len) ≥ (0 : Int) then
    if a0.off ≤ (4611686018427387903 : Int) then
      some (decide (a0.len ≤ (IntKind.i64.wrap ((4611686018427387903 : Int) - a0.off))))
    else
      some false
  else
    some false
noncomputable def G.math_bits_Len64 (a0 : Int) : Option Int :=
  (
    if a0 ≥ (4294967296 : Int) then
      some ((ishr .u64 a0 (32 : Int)), (32 : Int))
    else
      some (a0, (0 : Int))).bind fun v1 =>
  (
    if v1.1 ≥ (65536 : Int) then
      some ((ishr .u64 v1.1 (16 : Int)), (IntKind.i64.wrap (v1.2 + (16 : Int))))
    else
      some (v1.1, v1.2)).bind fun v2 =>
  (
    if v2.1 ≥ (256 : Int) then
      some ((ishr .u64 v2.1 (8 : Int)), (IntKind.i64.wrap (v2.2 + (8 : Int))))
    else
      some (v2.1, v2.2)).bind fun v3 =>
  (idx ([0, 1, 2, 2, 3, 3, 3, 3, 4, 4, 4, 4, 4, 4, 4, 4, 5, 5, 5, 5, 5, 5, 5, 5, 5, 5, 5, 5, 5, 5, 5, 5, 6, 6, 6, 6, 6, 6, 6, 6, 6, 6, 6, 6, 6, 6, 6, 6, 6, 6, 6, 6, 6, 6, 6, 6, 6, 6, 6, 6, 6, 6, 6, 6, 7, 7, 7, 7, 7, 7, 7, 7, 7, 7, 7, 7, 7, 7, 7, 7, 7, 7, 7, 7, 7, 7, 7, 7, 7, 7, 7, 7, 7, 7, 7, 7, 7, 7, 7, 7, 7, 7, 7, 7, 7, 7, 7, 7, 7, 7, 7, 7, 7, 7, 7, 7, 7, 7, 7, 7, 7, 7, 7, 7, 7, 7, 7, 7, 8, 8, 8, 8, 8, 8, 8, 8, 8, 8, 8, 8, 8, 8, 8, 8, 8, 8, 8, 8, 8, 8, 8, 8, 8, 8, 8, 8, 8, 8, 8, 8, 8, 8, 8, 8, 8, 8, 8, 8, 8, 8, 8, 8, 8, 8, 8, 8, 8, 8, 8, 8, 8, 8, 8, 8, 8, 8, 8, 8, 8, 8, 8, 8, 8, 8, 8, 8, 8, 8, 8, 8, 8, 8, 8, 8, 8, 8, 8, 8, 8, 8, 8, 8, 8, 8, 8, 8, 8, 8, 8, 8, 8, 8, 8, 8, 8, 8, 8, 8, 8, 8, 8, 8, 8, 8, 8, 8, 8, 8, 8, 8, 8, 8, 8, 8, 8, 8, 8, 8, 8, 8, 8, 8, 8, 8, 8, 8] : List UInt8) ((u8 v3.1).toNat : Int)).bind fun y4 =>
  some (IntKind.i64.wrap (v3.2 + (y4.toNat : Int)))
noncomputable def G.math_bits_Len (a0 : Int) : Option Int :=
  (G.math_bits_Len64 a0).bind fun y1 =>
  some y1
noncomputable def G.cmp_isNaN_int (a0 : Int) : Option Bool :=
  some (a0 != a0)
noncomputable def G.cmp_Compare_int (a0 : Int) (a1 : Int) : Option Int :=
  (G.cmp_isNaN_int a0).bind fun y1 =>
  (G.cmp_isNaN_int a1).bind fun y2 =>
  if y1 = true then
    if y2 = true then
      some (0 : Int)
    else
      some (-1 : Int)
  else
    if y2 = true then
      some (1 : Int)
    else
      if a0 < a1 then
        some (-1 : Int)
      else
        if a0 > a1 then
          some (1 : Int)
        else
          some (0 : Int)
noncomputable def G.index_New_1 (a0 : G.index_entry) (a1 : G.index_entry) : Option Int :=
  (G.cmp_Compare_int a0.extent.off a1.extent.off).bind fun y1 =>
  some y1
noncomputable def G.slices_insertionSortCmpFunc_index_entry_v0_index_New_1_l2 (a1 : Int) (s1 : Int × (List G.index_entry)) (s2 : Int × (List G.index_entry)) : Option ((Int × (List G.index_entry)) ⊕ ((Int × (List G.index_entry)) ⊕ (List G.index_entry))) :=
  (
    if s2.1 > a1 then
      (idx s2.2 s2.1).bind fun x4 =>
      (idx s2.2 (IntKind.i64.wrap (s2.1 - (1 : Int)))).bind fun x5 =>
      (G.index_New_1 x4 x5).bind fun y6 =>
      some (decide (y6 < (0 : Int)))
    else
      some false).bind fun v3 =>
  if v3 = true then
    (idx s2.2 (IntKind.i64.wrap (s2.1 - (1 : Int)))).bind fun x7 =>
    (idx s2.2 s2.1).bind fun x8 =>
    (idx s2.2 s2.1).bind fun x9 =>
    (idx (s2.2.set s2.1.toNat x7) (IntKind.i64.wrap (s2.1 - (1 : Int)))).bind fun x10 =>
    some (.inl ((IntKind.i64.wrap (s2.1 - (1 : Int))), ((s2.2.set s2.1.toNat x7).set (IntKind.i64.wrap (s2.1 - (1 : Int))).toNat x8)))
  else
    some (.inr (.inl ((IntKind.i64.wrap (s1.1 + (1 : Int))), s2.2)))
noncomputable def G.slices_insertionSortCmpFunc_index_entry_v0_index_New_1_l1 (a1 : Int) (a2 : Int) (s1 : Int × (List G.index_entry)) : Option ((Int × (List G.index_entry)) ⊕ (List G.index_entry)) :=
  if s1.1 < a2 then
    Iter (G.slices_insertionSortCmpFunc_index_entry_v0_index_New_1_l2 a1 s1) (s1.1, s1.2)
  else
    some (.inr s1.2)
noncomputable def G.slices_insertionSortCmpFunc_index_entry_v0_index_New_1 (a0 : List G.index_entry) (a1 : Int) (a2 : Int) : Option (List G.index_entry) :=
  Iter (G.slices_insertionSortCmpFunc_index_entry_v0_index_New_1_l1 a1 a2) ((IntKind.i64.wrap (a1 + (1 : Int))), a0)
noncomputable def G.slices_siftDownCmpFunc_index_entry_v0_index_New_1_l1 (a2 : Int) (a3 : Int) (s1 : Int × (List G.index_entry)) : Option ((Int × (List G.index_entry)) ⊕ (List G.index_entry)) :=
  if (IntKind.i64.wrap ((IntKind.i64.wrap ((2 : Int) * s1.1)) + (1 : Int))) ≥ a2 then
    some (.inr s1.2)
  else
    (
      if (IntKind.i64.wrap ((IntKind.i64.wrap ((IntKind.i64.wrap ((2 : Int) * s1.1)) + (1 : Int))) + (1 : Int))) < a2 then
        (idx s1.2 (IntKind.i64.wrap (a3 + (IntKind.i64.wrap ((IntKind.i64.wrap ((2 : Int) * s1.1)) + (1 : Int)))))).bind fun x3 =>
        (idx s1.2 (IntKind.i64.wrap ((IntKind.i64.wrap (a3 + (IntKind.i64.wrap ((IntKind.i64.wrap ((2 : Int) * s1.1)) + (1 : Int))))) + (1 : Int)))).bind fun x4 =>
        (G.index_New_1 x3 x4).bind fun y5 =>
        some (decide (y5 < (0 : Int)))
      else
        some false).bind fun v2 =>
    (
      if v2 = true then
        some (IntKind.i64.wrap ((IntKind.i64.wrap ((IntKind.i64.wrap ((2 : Int) * s1.1)) + (1 : Int))) + (1 : Int)))
      else
        some (IntKind.i64.wrap ((IntKind.i64.wrap ((2 : Int) * s1.1)) + (1 : Int)))).bind fun v6 =>
    (idx s1.2 (IntKind.i64.wrap (a3 + s1.1))).bind fun x7 =>
    (idx s1.2 (IntKind.i64.wrap (a3 + v6))).bind fun x8 =>
    (G.index_New_1 x7 x8).bind fun y9 =>
    if (decide (y9 < (0 : Int))) = false then
      some (.inr s1.2)
    else
      (idx s1.2 (IntKind.i64.wrap (a3 + v6))).bind fun x10 =>
      (idx s1.2 (IntKind.i64.wrap (a3 + s1.1))).bind fun x11 =>
      (idx s1.2 (IntKind.i64.wrap (a3 + s1.1))).bind fun x12 =>
      (idx (s1.2.set (IntKind.i64.wrap (a3 + s1.1)).toNat x10) (IntKind.i64.wrap (a3 + v6))).bind fun x13 =>
      some (.inl (v6, ((s1.2.set (IntKind.i64.wrap (a3 + s1.1)).toNat x10).set (IntKind.i64.wrap (a3 + v6)).toNat x11)))
noncomputable def G.slices_siftDownCmpFunc_index_entry_v0_index_New_1 (a0 : List G.index_entry) (a1 : Int) (a2 : Int) (a3 : Int) : Option (List G.index_entry) :=
  Iter (G.slices_siftDownCmpFunc_index_entry_v0_index_New_1_l1 a2 a3) (a1, a0)
noncomputable def G.slices_heapSortCmpFunc_index_entry_v0_index_New_1_l1 (a1 : Int) (a2 : Int) (s2 : Int × (List G.index_entry)) : Option ((Int × (List G.index_entry)) ⊕ (List G.index_entry)) :=
  if s2.1 ≥ (0 : Int) then
    (G.slices_siftDownCmpFunc_index_entry_v0_index_New_1 s2.2 s2.1 (IntKind.i64.wrap (a2 - a1)) a1).bind fun y3 =>
    some (.inl ((IntKind.i64.wrap (s2.1 - (1 : Int))), y3))
  else
    some (.inr s2.2)
noncomputable def G.slices_heapSortCmpFunc_index_entry_v0_index_New_1_l2 (a1 : Int) (s4 : Int × (List G.index_entry)) : Option ((Int × (List G.index_entry)) ⊕ (List G.index_entry)) :=
  if s4.1 ≥ (0 : Int) then
    (idx s4.2 (IntKind.i64.wrap (a1 + s4.1))).bind fun x5 =>
    (idx s4.2 a1).bind fun x6 =>
    (idx s4.2 a1).bind fun x7 =>
    (idx (s4.2.set a1.toNat x5) (IntKind.i64.wrap (a1 + s4.1))).bind fun x8 =>
    (G.slices_siftDownCmpFunc_index_entry_v0_index_New_1 ((s4.2.set a1.toNat x5).set (IntKind.i64.wrap (a1 + s4.1)).toNat x6) (0 : Int) s4.1 a1).bind fun y9 =>
    some (.inl ((IntKind.i64.wrap (s4.1 - (1 : Int))), y9))
  else
    some (.inr s4.2)
noncomputable def G.slices_heapSortCmpFunc_index_entry_v0_index_New_1 (a0 : List G.index_entry) (a1 : Int) (a2 : Int) : Option (List G.index_entry) :=
  (
    Iter (G.slices_heapSortCmpFunc_index_entry_v0_index_New_1_l1 a1 a2) ((IntKind.i64.wrap (Int.tdiv (IntKind.i64.wrap ((IntKind.i64.wrap (a2 - a1)) - (1 : Int))) (2 : Int))), a0)).bind fun v1 =>
  Iter (G.slices_heapSortCmpFunc_index_entry_v0_index_New_1_l2 a1) ((IntKind.i64.wrap ((IntKind.i64.wrap (a2 - a1)) - (1 : Int))), v1)
noncomputable def G.slices_nextPowerOfTwo (a0 : Int) : Option Int :=
  (G.math_bits_Len (IntKind.u64.wrap a0)).bind fun y1 =>
  (chk (0 ≤ y1)).bind fun y2 =>
  some (ishl .u64 (1 : Int) y1)
noncomputable def G.slices_xorshift_Next (a0 : Int) : Option (Int × Int) :=
  some ((bxor .u64 (bxor .u64 (bxor .u64 a0 (ishl .u64 a0 (13 : Int))) (ishr .u64 (bxor .u64 a0 (ishl .u64 a0 (13 : Int))) (7 : Int))) (ishl .u64 (bxor .u64 (bxor .u64 a0 (ishl .u64 a0 (13 : Int))) (ishr .u64 (bxor .u64 a0 (ishl .u64 a0 (13 : Int))) (7 : Int))) (17 : Int))), (bxor .u64 (bxor .u64 (bxor .u64 a0 (ishl .u64 a0 (13 : Int))) (ishr .u64 (bxor .u64 a0 (ishl .u64 a0 (13 : Int))) (7 : Int))) (ishl .u64 (bxor .u64 (bxor .u64 a0 (ishl .u64 a0 (13 : Int))) (ishr .u64 (bxor .u64 a0 (ishl .u64 a0 (13 : Int))) (7 : Int))) (17 : Int))))
noncomputable def G.slices_breakPatternsCmpFunc_index_entry_v0_index_New_1_l1 (a1 : Int) (a2 : Int) (y1 : Int) (s2 : Int × (List G.index_entry) × Int) : Option ((Int × (List G.index_entry) × Int) ⊕ (List G.index_entry)) :=
  if s2.1 ≤ (IntKind.i64.wrap ((IntKind.i64.wrap (a1 + (IntKind.i64.wrap ((IntKind.i64.wrap (Int.tdiv (IntKind.i64.wrap (a2 - a1)) (4 : Int))) * (2 : Int))))) + (1 : Int))) then
    (G.slices_xorshift_Next s2.2.2).bind fun y3 =>
    (
      if (IntKind.i64.wrap (band .u64 y3.1 (IntKind.u64.wrap (y1 - (1 : Int))))) ≥ (IntKind.i64.wrap (a2 - a1)) then
        some (IntKind.i64.wrap ((IntKind.i64.wrap (band .u64 y3.1 (IntKind.u64.wrap (y1 - (1 : Int))))) - (IntKind.i64.wrap (a2 - a1))))
      else
        some (IntKind.i64.wrap (band .u64 y3.1 (IntKind.u64.wrap (y1 - (1 : Int)))))).bind fun v4 =>
    (idx s2.2.1 (IntKind.i64.wrap (a1 + v4))).bind fun x5 =>
    (idx s2.2.1 s2.1).bind fun x6 =>
    (idx s2.2.1 s2.1).bind fun x7 =>
    (idx (s2.2.1.set s2.1.toNat x5) (IntKind.i64.wrap (a1 + v4))).bind fun x8 =>
    some (.inl ((IntKind.i64.wrap (s2.1 + (1 : Int))), ((s2.2.1.set s2.1.toNat x5).set (IntKind.i64.wrap (a1 + v4)).toNat x6), y3.2))
  else
    some (.inr s2.2.1)
noncomputable def G.slices_breakPatternsCmpFunc_index_entry_v0_index_New_1 (a0 : List G.index_entry) (a1 : Int) (a2 : Int) : Option (List G.index_entry) :=
  if (IntKind.i64.wrap (a2 - a1)) ≥ (8 : Int) then
    (G.slices_nextPowerOfTwo (IntKind.i64.wrap (a2 - a1))).bind fun y1 =>
    Iter (G.slices_breakPatternsCmpFunc_index_entry_v0_index_New_1_l1 a1 a2 y1) ((IntKind.i64.wrap ((IntKind.i64.wrap (a1 + (IntKind.i64.wrap ((IntKind.i64.wrap (Int.tdiv (IntKind.i64.wrap (a2 - a1)) (4 : Int))) * (2 : Int))))) - (1 : Int))), a0, (IntKind.u64.wrap (IntKind.i64.wrap (a2 - a1))))
  else
    some a0
noncomputable def G.slices_order2CmpFunc_index_entry_v0_index_New_1 (a0 : List G.index_entry) (a1 : Int) (a2 : Int) (a3 : Int) : Option (Int × Int × Int) :=
  (idx a0 a2).bind fun x1 =>
  (idx a0 a1).bind fun x2 =>
  (G.index_New_1 x1 x2).bind fun y3 =>
  if y3 < (0 : Int) then
    some (a2, a1, (IntKind.i64.wrap (a3 + (1 : Int))))
  else
    some (a1, a2, a3)
noncomputable def G.slices_medianCmpFunc_index_entry_v0_index_New_1 (a0 : List G.index_entry) (a1 : Int) (a2 : Int) (a3 : Int) (a4 : Int) : Option (Int × Int) :=
  (G.slices_order2CmpFunc_index_entry_v0_index_New_1 a0 a1 a2 a4).bind fun y1 =>
  (G.slices_order2CmpFunc_index_entry_v0_index_New_1 a0 y1.2.1 a3 y1.2.2).bind fun y2 =>
  (G.slices_order2CmpFunc_index_entry_v0_index_New_1 a0 y1.1 y2.1 y2.2.2).bind fun y3 =>
  some (y3.2.1, y3.2.2)
noncomputable def G.slices_medianAdjacentCmpFunc_index_entry_v0_index_New_1 (a0 : List G.index_entry) (a1 : Int) (a2 : Int) : Option (Int × Int) :=
  (G.slices_medianCmpFunc_index_entry_v0_index_New_1 a0 (IntKind.i64.wrap (a1 - (1 : Int))) a1 (IntKind.i64.wrap (a1 + (1 : Int))) a2).bind fun y1 =>
  some (y1.1, y1.2)
noncomputable def G.slices_choosePivotCmpFunc_index_entry_v0_index_New_1 (a0 : List G.index_entry) (a1 : Int) (a2 : Int) : Option (Int × Int) :=
  (
    if (IntKind.i64.wrap (a2 - a1)) ≥ (8 : Int) then
      (
        if (IntKind.i64.wrap (a2 - a1)) ≥ (50 : Int) then
          (G.slices_medianAdjacentCmpFunc_index_entry_v0_index_New_1 a0 (IntKind.i64.wrap (a1 + (IntKind.i64.wrap ((IntKind.i64.wrap (Int.tdiv (IntKind.i64.wrap (a2 - a1)) (4 : Int))) * (1 : Int))))) (0 : Int)).bind fun y3 =>
          (G.slices_medianAdjacentCmpFunc_index_entry_v0_index_New_1 a0 (IntKind.i64.wrap (a1 + (IntKind.i64.wrap ((IntKind.i64.wrap (Int.tdiv (IntKind.i64.wrap (a2 - a1)) (4 : Int))) * (2 : Int))))) y3.2).bind fun y4 =>
          (G.slices_medianAdjacentCmpFunc_index_entry_v0_index_New_1 a0 (IntKind.i64.wrap (a1 + (IntKind.i64.wrap ((IntKind.i64.wrap (Int.tdiv (IntKind.i64.wrap (a2 - a1)) (4 : Int))) * (3 : Int))))) y4.2).bind fun y5 =>
          some (y3.1, y4.1, y5.1, y5.2)
        else
          some ((IntKind.i64.wrap (a1 + (IntKind.i64.wrap ((IntKind.i64.wrap (Int.tdiv (IntKind.i64.wrap (a2 - a1)) (4 : Int))) * (1 : Int))))), (IntKind.i64.wrap (a1 + (IntKind.i64.wrap ((IntKind.i64.wrap (Int.tdiv (IntKind.i64.wrap (a2 - a1)) (4 : Int))) * (2 : Int))))), (IntKind.i64.wrap (a1 + (IntKind.i64.wrap ((IntKind.i64.wrap (Int.tdiv (IntKind.i64.wrap (a2 - a1)) (4 : Int))) * (3 : Int))))), (0 : Int))).bind fun v2 =>
      (G.slices_medianCmpFunc_index_entry_v0_index_New_1 a0 v2.1 v2.2.1 v2.2.2.1 v2.2.2.2).bind fun y6 =>
      some (y6.1, y6.2)
    else
      some ((IntKind.i64.wrap (a1 + (IntKind.i64.wrap ((IntKind.i64.wrap (Int.tdiv (IntKind.i64.wrap (a2 - a1)) (4 : Int))) * (2 : Int))))), (0 : Int))).bind fun v1 =>
  if v1.2 = (0 : Int) then
    some (v1.1, (1 : Int))
  else
    if v1.2 = (12 : Int) then
      some (v1.1, (2 : Int))
    else
      some (v1.1, (0 : Int))
noncomputable def G.slices_reverseRangeCmpFunc_index_entry_v0_index_New_1_l1 (s1 : Int × Int × (List G.index_entry)) : Option ((Int × Int × (List G.index_entry)) ⊕ (List G.index_entry)) :=
  if s1.1 < s1.2.1 then
    (idx s1.2.2 s1.2.1).bind fun x2 =>
    (idx s1.2.2 s1.1).bind fun x3 =>
    (idx s1.2.2 s1.1).bind fun x4 =>
    (idx (s1.2.2.set s1.1.toNat x2) s1.2.1).bind fun x5 =>
    some (.inl ((IntKind.i64.wrap (s1.1 + (1 : Int))), (IntKind.i64.wrap (s1.2.1 - (1 : Int))), ((s1.2.2.set s1.1.toNat x2).set s1.2.1.toNat x3)))
  else
    some (.inr s1.2.2)
noncomputable def G.slices_reverseRangeCmpFunc_index_entry_v0_index_New_1 (a0 : List G.index_entry) (a1 : Int) (a2 : Int) : Option (List G.index_entry) :=
  Iter G.slices_reverseRangeCmpFunc_index_entry_v0_index_New_1_l1 (a1, (IntKind.i64.wrap (a2 - (1 : Int))), a0)
noncomputable def G.slices_partialInsertionSortCmpFunc_index_entry_v0_index_New_1_l2 (a2 : Int) (s1 : Int × Int × (List G.index_entry)) (s3 : Int) : Option (Int ⊕ Int) :=
  (
    if s3 < a2 then
      (idx s1.2.2 s3).bind fun x5 =>
      (idx s1.2.2 (IntKind.i64.wrap (s3 - (1 : Int)))).bind fun x6 =>
      (G.index_New_1 x5 x6).bind fun y7 =>
      some (!(decide (y7 < (0 : Int))))
    else
      some false).bind fun v4 =>
  if v4 = true then
    some (.inl (IntKind.i64.wrap (s3 + (1 : Int))))
  else
    some (.inr s3)
noncomputable def G.slices_partialInsertionSortCmpFunc_index_entry_v0_index_New_1_l3 (s13 : Int × (List G.index_entry)) : Option ((Int × (List G.index_entry)) ⊕ (List G.index_entry)) :=
  if s13.1 ≥ (1 : Int) then
    (idx s13.2 s13.1).bind fun x14 =>
    (idx s13.2 (IntKind.i64.wrap (s13.1 - (1 : Int)))).bind fun x15 =>
    (G.index_New_1 x14 x15).bind fun y16 =>
    if (decide (y16 < (0 : Int))) = false then
      some (.inr s13.2)
    else
      (idx s13.2 (IntKind.i64.wrap (s13.1 - (1 : Int)))).bind fun x17 =>
      (idx s13.2 s13.1).bind fun x18 =>
      (idx s13.2 s13.1).bind fun x19 =>
      (idx (s13.2.set s13.1.toNat x17) (IntKind.i64.wrap (s13.1 - (1 : Int)))).bind fun x20 =>
      some (.inl ((IntKind.i64.wrap (s13.1 - (1 : Int))), ((s13.2.set s13.1.toNat x17).set (IntKind.i64.wrap (s13.1 - (1 : Int))).toNat x18)))
  else
    some (.inr s13.2)
noncomputable def G.slices_partialInsertionSortCmpFunc_index_entry_v0_index_New_1_l4 (a2 : Int) (s1 : Int × Int × (List G.index_entry)) (v2 : Int) (s21 : Int × (List G.index_entry)) : Option ((Int × (List G.index_entry)) ⊕ ((Int × Int × (List G.index_entry)) ⊕ (Bool × (List G.index_entry)))) :=
  if s21.1 < a2 then
    (idx s21.2 s21.1).bind fun x22 =>
    (idx s21.2 (IntKind.i64.wrap (s21.1 - (1 : Int)))).bind fun x23 =>
    (G.index_New_1 x22 x23).bind fun y24 =>
    if (decide (y24 < (0 : Int))) = false then
      some (.inr (.inl (v2, (IntKind.i64.wrap (s1.2.1 + (1 : Int))), s21.2)))
    else
      (idx s21.2 (IntKind.i64.wrap (s21.1 - (1 : Int)))).bind fun x25 =>
      (idx s21.2 s21.1).bind fun x26 =>
      (idx s21.2 s21.1).bind fun x27 =>
      (idx (s21.2.set s21.1.toNat x25) (IntKind.i64.wrap (s21.1 - (1 : Int)))).bind fun x28 =>
      some (.inl ((IntKind.i64.wrap (s21.1 + (1 : Int))), ((s21.2.set s21.1.toNat x25).set (IntKind.i64.wrap (s21.1 - (1 : Int))).toNat x26)))
  else
    some (.inr (.inl (v2, (IntKind.i64.wrap (s1.2.1 + (1 : Int))), s21.2)))
noncomputable def G.slices_partialInsertionSortCmpFunc_index_entry_v0_index_New_1_l1 (a1 : Int) (a2 : Int) (s1 : Int × Int × (List G.index_entry)) : Option ((Int × Int × (List G.index_entry)) ⊕ (Bool × (List G.index_entry))) :=
  if s1.2.1 < (5 : Int) then
    (
      Iter (G.slices_partialInsertionSortCmpFunc_index_entry_v0_index_New_1_l2 a2 s1) s1.1).bind fun v2 =>
    if v2 = a2 then
      some (.inr (true, s1.2.2))
    else
      if (IntKind.i64.wrap (a2 - a1)) < (50 : Int) then
        some (.inr (false, s1.2.2))
      else
        (idx s1.2.2 (IntKind.i64.wrap (v2 - (1 : Int)))).bind fun x8 =>
        (idx s1.2.2 v2).bind fun x9 =>
        (idx s1.2.2 v2).bind fun x10 =>
        (idx (s1.2.2.set v2.toNat x8) (IntKind.i64.wrap (v2 - (1 : Int)))).bind fun x11 =>
        (
          if (IntKind.i64.wrap (v2 - a1)) ≥ (2 : Int) then
            Iter G.slices_partialInsertionSortCmpFunc_index_entry_v0_index_New_1_l3 ((IntKind.i64.wrap (v2 - (1 : Int))), ((s1.2.2.set v2.toNat x8).set (IntKind.i64.wrap (v2 - (1 : Int))).toNat x9))
          else
            some ((s1.2.2.set v2.toNat x8).set (IntKind.i64.wrap (v2 - (1 : Int))).toNat x9)).bind fun v12 =>
        if (IntKind.i64.wrap (a2 - v2)) ≥ (2 : Int) then
          Iter (G.slices_partialInsertionSortCmpFunc_index_entry_v0_index_New_1_l4 a2 s1 v2) ((IntKind.i64.wrap (v2 + (1 : Int))), v12)
        else
          some (.inl (v2, (IntKind.i64.wrap (s1.2.1 + (1 : Int))), v12))
  else
    some (.inr (false, s1.2.2))
noncomputable def G.slices_partialInsertionSortCmpFunc_index_entry_v0_index_New_1 (a0 : List G.index_entry) (a1 : Int) (a2 : Int) : Option (Bool × (List G.index_entry)) :=
  Iter (G.slices_partialInsertionSortCmpFunc_index_entry_v0_index_New_1_l1 a1 a2) ((IntKind.i64.wrap (a1 + (1 : Int))), (0 : Int), a0)
noncomputable def G.slices_partitionEqualCmpFunc_index_entry_v0_index_New_1_l2 (a1 : Int) (s5 : Int × Int × (List G.index_entry)) (s7 : Int) : Option (Int ⊕ Int) :=
  (
    if s7 ≤ s5.2.1 then
      (idx s5.2.2 a1).bind fun x9 =>
      (idx s5.2.2 s7).bind fun x10 =>
      (G.index_New_1 x9 x10).bind fun y11 =>
      some (!(decide (y11 < (0 : Int))))
    else
      some false).bind fun v8 =>
  if v8 = true then
    some (.inl (IntKind.i64.wrap (s7 + (1 : Int))))
  else
    some (.inr s7)
noncomputable def G.slices_partitionEqualCmpFunc_index_entry_v0_index_New_1_l3 (a1 : Int) (s5 : Int × Int × (List G.index_entry)) (v6 : Int) (s13 : Int) : Option (Int ⊕ Int) :=
  (
    if v6 ≤ s13 then
      (idx s5.2.2 a1).bind fun x15 =>
      (idx s5.2.2 s13).bind fun x16 =>
      (G.index_New_1 x15 x16).bind fun y17 =>
      some (decide (y17 < (0 : Int)))
    else
      some false).bind fun v14 =>
  if v14 = true then
    some (.inl (IntKind.i64.wrap (s13 - (1 : Int))))
  else
    some (.inr s13)
noncomputable def G.slices_partitionEqualCmpFunc_index_entry_v0_index_New_1_l1 (a1 : Int) (s5 : Int × Int × (List G.index_entry)) : Option ((Int × Int × (List G.index_entry)) ⊕ (Int × (List G.index_entry))) :=
  (
    Iter (G.slices_partitionEqualCmpFunc_index_entry_v0_index_New_1_l2 a1 s5) s5.1).bind fun v6 =>
  (
    Iter (G.slices_partitionEqualCmpFunc_index_entry_v0_index_New_1_l3 a1 s5 v6) s5.2.1).bind fun v12 =>
  if v6 > v12 then
    some (.inr (v6, s5.2.2))
  else
    (idx s5.2.2 v12).bind fun x18 =>
    (idx s5.2.2 v6).bind fun x19 =>
    (idx s5.2.2 v6).bind fun x20 =>
    (idx (s5.2.2.set v6.toNat x18) v12).bind fun x21 =>
    some (.inl ((IntKind.i64.wrap (v6 + (1 : Int))), (IntKind.i64.wrap (v12 - (1 : Int))), ((s5.2.2.set v6.toNat x18).set v12.toNat x19)))
noncomputable def G.slices_partitionEqualCmpFunc_index_entry_v0_index_New_1 (a0 : List G.index_entry) (a1 : Int) (a2 : Int) (a3 : Int) : Option (Int × (List G.index_entry)) :=
  (idx a0 a3).bind fun x1 =>
  (idx a0 a1).bind fun x2 =>
  (idx a0 a1).bind fun x3 =>
  (idx (a0.set a1.toNat x1) a3).bind fun x4 =>
  Iter (G.slices_partitionEqualCmpFunc_index_entry_v0_index_New_1_l1 a1) ((IntKind.i64.wrap (a1 + (1 : Int))), (IntKind.i64.wrap (a2 - (1 : Int))), ((a0.set a1.toNat x1).set a3.toNat x2))
noncomputable def G.slices_partitionCmpFunc_index_entry_v0_index_New_1_l1 (a0 : (List G.index_entry)) (a1 : Int) (a2 : Int) (a3 : Int) (x1 : G.index_entry) (x2 : G.index_entry) (s6 : Int) : Option (Int ⊕ Int) :=
  (
    if s6 ≤ (IntKind.i64.wrap (a2 - (1 : Int))) then
      (idx ((a0.set a1.toNat x1).set a3.toNat x2) s6).bind fun x8 =>
      (idx ((a0.set a1.toNat x1).set a3.toNat x2) a1).bind fun x9 =>
      (G.index_New_1 x8 x9).bind fun y10 =>
      some (decide (y10 < (0 : Int)))
    else
      some false).bind fun v7 =>
  if v7 = true then
    some (.inl (IntKind.i64.wrap (s6 + (1 : Int))))
  else
    some (.inr s6)
noncomputable def G.slices_partitionCmpFunc_index_entry_v0_index_New_1_l2 (a0 : (List G.index_entry)) (a1 : Int) (a3 : Int) (x1 : G.index_entry) (x2 : G.index_entry) (v5 : Int) (s12 : Int) : Option (Int ⊕ Int) :=
  (
    if v5 ≤ s12 then
      (idx ((a0.set a1.toNat x1).set a3.toNat x2) s12).bind fun x14 =>
      (idx ((a0.set a1.toNat x1).set a3.toNat x2) a1).bind fun x15 =>
      (G.index_New_1 x14 x15).bind fun y16 =>
      some (!(decide (y16 < (0 : Int))))
    else
      some false).bind fun v13 =>
  if v13 = true then
    some (.inl (IntKind.i64.wrap (s12 - (1 : Int))))
  else
    some (.inr s12)
noncomputable def G.slices_partitionCmpFunc_index_entry_v0_index_New_1_l4 (a1 : Int) (s26 : Int × Int × (List G.index_entry)) (s28 : Int) : Option (Int ⊕ Int) :=
  (
    if s28 ≤ s26.2.1 then
      (idx s26.2.2 s28).bind fun x30 =>
      (idx s26.2.2 a1).bind fun x31 =>
      (G.index_New_1 x30 x31).bind fun y32 =>
      some (decide (y32 < (0 : Int)))
    else
      some false).bind fun v29 =>
  if v29 = true then
    some (.inl (IntKind.i64.wrap (s28 + (1 : Int))))
  else
    some (.inr s28)
noncomputable def G.slices_partitionCmpFunc_index_entry_v0_index_New_1_l5 (a1 : Int) (s26 : Int × Int × (List G.index_entry)) (v27 : Int) (s34 : Int) : Option (Int ⊕ Int) :=
  (
    if v27 ≤ s34 then
      (idx s26.2.2 s34).bind fun x36 =>
      (idx s26.2.2 a1).bind fun x37 =>
      (G.index_New_1 x36 x37).bind fun y38 =>
      some (!(decide (y38 < (0 : Int))))
    else
      some false).bind fun v35 =>
  if v35 = true then
    some (.inl (IntKind.i64.wrap (s34 - (1 : Int))))
  else
    some (.inr s34)
noncomputable def G.slices_partitionCmpFunc_index_entry_v0_index_New_1_l3 (a1 : Int) (s26 : Int × Int × (List G.index_entry)) : Option ((Int × Int × (List G.index_entry)) ⊕ (Int × (List G.index_entry))) :=
  (
    Iter (G.slices_partitionCmpFunc_index_entry_v0_index_New_1_l4 a1 s26) s26.1).bind fun v27 =>
  (
    Iter (G.slices_partitionCmpFunc_index_entry_v0_index_New_1_l5 a1 s26 v27) s26.2.1).bind fun v33 =>
  if v27 > v33 then
    some (.inr (v33, s26.2.2))
  else
    (idx s26.2.2 v33).bind fun x39 =>
    (idx s26.2.2 v27).bind fun x40 =>
    (idx s26.2.2 v27).bind fun x41 =>
    (idx (s26.2.2.set v27.toNat x39) v33).bind fun x42 =>
    some (.inl ((IntKind.i64.wrap (v27 + (1 : Int))), (IntKind.i64.wrap (v33 - (1 : Int))), ((s26.2.2.set v27.toNat x39).set v33.toNat x40)))
noncomputable def G.slices_partitionCmpFunc_index_entry_v0_index_New_1 (a0 : List G.index_entry) (a1 : Int) (a2 : Int) (a3 : Int) : Option (Int × Bool × (List G.index_entry)) :=
  (idx a0 a3).bind fun x1 =>
  (idx a0 a1).bind fun x2 =>
  (idx a0 a1).bind fun x3 =>
  (idx (a0.set a1.toNat x1) a3).bind fun x4 =>
  (
    Iter (G.slices_partitionCmpFunc_index_entry_v0_index_New_1_l1 a0 a1 a2 a3 x1 x2) (IntKind.i64.wrap (a1 + (1 : Int)))).bind fun v5 =>
  (
    Iter (G.slices_partitionCmpFunc_index_entry_v0_index_New_1_l2 a0 a1 a3 x1 x2 v5) (IntKind.i64.wrap (a2 - (1 : Int)))).bind fun v11 =>
  if v5 > v11 then
    (idx ((a0.set a1.toNat x1).set a3.toNat x2) a1).bind fun x17 =>
    (idx ((a0.set a1.toNat x1).set a3.toNat x2) v11).bind fun x18 =>
    (idx ((a0.set a1.toNat x1).set a3.toNat x2) v11).bind fun x19 =>
    (idx (((a0.set a1.toNat x1).set a3.toNat x2).set v11.toNat x17) a1).bind fun x20 =>
    some (v11, true, ((((a0.set a1.toNat x1).set a3.toNat x2).set v11.toNat x17).set a1.toNat x18))
  else
    (idx ((a0.set a1.toNat x1).set a3.toNat x2) v11).bind fun x21 =>
    (idx ((a0.set a1.toNat x1).set a3.toNat x2) v5).bind fun x22 =>
    (idx ((a0.set a1.toNat x1).set a3.toNat x2) v5).bind fun x23 =>
    (idx (((a0.set a1.toNat x1).set a3.toNat x2).set v5.toNat x21) v11).bind fun x24 =>
    (
      Iter (G.slices_partitionCmpFunc_index_entry_v0_index_New_1_l3 a1) ((IntKind.i64.wrap (v5 + (1 : Int))), (IntKind.i64.wrap (v11 - (1 : Int))), ((((a0.set a1.toNat x1).set a3.toNat x2).set v5.toNat x21).set v11.toNat x22))).bind fun v25 =>
    (idx v25.2 a1).bind fun x43 =>
    (idx v25.2 v25.1).bind fun x44 =>
    (idx v25.2 v25.1).bind fun x45 =>
    (idx (v25.2.set v25.1.toNat x43) a1).bind fun x46 =>
    some (v25.1, false, ((v25.2.set v25.1.toNat x43).set a1.toNat x44))
noncomputable def G.slices_pdqsortCmpFunc_index_entry_v0_index_New_1_l1 (fx : ((List G.index_entry) × Int × Int × Int) → Option (List G.index_entry)) (s1 : Int × Int × Int × Bool × Bool × (List G.index_entry)) : Option ((Int × Int × Int × Bool × Bool × (List G.index_entry)) ⊕ (List G.index_entry)) :=
  if (IntKind.i64.wrap (s1.2.1 - s1.1)) ≤ (12 : Int) then
    (G.slices_insertionSortCmpFunc_index_entry_v0_index_New_1 s1.2.2.2.2.2 s1.1 s1.2.1).bind fun y2 =>
    some (.inr y2)
  else
    if s1.2.2.1 = (0 : Int) then
      (G.slices_heapSortCmpFunc_index_entry_v0_index_New_1 s1.2.2.2.2.2 s1.1 s1.2.1).bind fun y3 =>
      some (.inr y3)
    else
      (
        if s1.2.2.2.1 = false then
          (G.slices_breakPatternsCmpFunc_index_entry_v0_index_New_1 s1.2.2.2.2.2 s1.1 s1.2.1).bind fun y5 =>
          some ((IntKind.i64.wrap (s1.2.2.1 - (1 : Int))), y5)
        else
          some (s1.2.2.1, s1.2.2.2.2.2)).bind fun v4 =>
      (G.slices_choosePivotCmpFunc_index_entry_v0_index_New_1 v4.2 s1.1 s1.2.1).bind fun y6 =>
      (
        if y6.2 = (2 : Int) then
          (G.slices_reverseRangeCmpFunc_index_entry_v0_index_New_1 v4.2 s1.1 s1.2.1).bind fun y8 =>
          some ((IntKind.i64.wrap ((IntKind.i64.wrap (s1.2.1 - (1 : Int))) - (IntKind.i64.wrap (y6.1 - s1.1)))), (1 : Int), y8)
        else
          some (y6.1, y6.2, v4.2)).bind fun v7 =>
      (
        if s1.2.2.2.1 = true then
          if s1.2.2.2.2.1 = true then
            some (v7.2.1 == (1 : Int))
          else
            some false
        else
          some false).bind fun v9 =>
      ((
        if v9 = true then
          (G.slices_partialInsertionSortCmpFunc_index_entry_v0_index_New_1 v7.2.2 s1.1 s1.2.1).bind fun y12 =>
          if y12.1 = true then
            some (.inr (.inr y12.2))
          else
            some (.inl y12.2)
        else
          some (.inl v7.2.2)) : Option ((List G.index_entry) ⊕ ((Int × Int × Int × Bool × Bool × (List G.index_entry)) ⊕ (List G.index_entry)))).bind fun v10 => joinK v10 fun u11 =>
      (
        if s1.1 > (0 : Int) then
          (idx u11 (IntKind.i64.wrap (s1.1 - (1 : Int)))).bind fun x14 =>
          (idx u11 v7.1).bind fun x15 =>
          (G.index_New_1 x14 x15).bind fun y16 =>
          some (!(decide (y16 < (0 : Int))))
        else
          some false).bind fun v13 =>
      if v13 = true then
        (G.slices_partitionEqualCmpFunc_index_entry_v0_index_New_1 u11 s1.1 s1.2.1 v7.1).bind fun y17 =>
        some (.inl (y17.1, s1.2.1, v4.1, s1.2.2.2.1, s1.2.2.2.2.1, y17.2))
      else
        (G.slices_partitionCmpFunc_index_entry_v0_index_New_1 u11 s1.1 s1.2.1 v7.1).bind fun y18 =>
        if (IntKind.i64.wrap (y18.1 - s1.1)) < (IntKind.i64.wrap (s1.2.1 - y18.1)) then
          (fx (y18.2.2, s1.1, y18.1, v4.1)).bind fun y19 =>
          some (.inl ((IntKind.i64.wrap (y18.1 + (1 : Int))), s1.2.1, v4.1, (decide ((IntKind.i64.wrap (y18.1 - s1.1)) ≥ (IntKind.i64.wrap (Int.tdiv (IntKind.i64.wrap (s1.2.1 - s1.1)) (8 : Int))))), y18.2.1, y19))
        else
          (fx (y18.2.2, (IntKind.i64.wrap (y18.1 + (1 : Int))), s1.2.1, v4.1)).bind fun y20 =>
          some (.inl (s1.1, y18.1, v4.1, (decide ((IntKind.i64.wrap (s1.2.1 - y18.1)) ≥ (IntKind.i64.wrap (Int.tdiv (IntKind.i64.wrap (s1.2.1 - s1.1)) (8 : Int))))), y18.2.1, y20))
noncomputable def G.slices_pdqsortCmpFunc_index_entry_v0_index_New_1_b (fx : ((List G.index_entry) × Int × Int × Int) → Option (List G.index_entry)) (a0 : List G.index_entry) (a1 : Int) (a2 : Int) (a3 : Int) : Option (List G.index_entry) :=
  Iter (G.slices_pdqsortCmpFunc_index_entry_v0_index_New_1_l1 fx) (a1, a2, a3, true, true, a0)
noncomputable def G.slices_pdqsortCmpFunc_index_entry_v0_index_New_1_F (fx : ((List G.index_entry) × Int × Int × Int) → Option (List G.index_entry)) (x : (List G.index_entry) × Int × Int × Int) : Option (List G.index_entry) := G.slices_pdqsortCmpFunc_index_entry_v0_index_New_1_b fx x.1 x.2.1 x.2.2.1 x.2.2.2
noncomputable def G.slices_pdqsortCmpFunc_index_entry_v0_index_New_1 (a0 : List G.index_entry) (a1 : Int) (a2 : Int) (a3 : Int) : Option (List G.index_entry) := Fix G.slices_pdqsortCmpFunc_index_entry_v0_index_New_1_F (a0, a1, a2, a3)
noncomputable def G.slices_SortFunc_index_entry_index_entry_v0_index_New_1_w (a0 : List G.index_entry) : Option (List G.index_entry) :=
  (G.math_bits_Len (IntKind.u64.wrap (a0.length : Int))).bind fun y1 =>
  (G.slices_pdqsortCmpFunc_index_entry_v0_index_New_1 a0 (0 : Int) (a0.length : Int) y1).bind fun y2 =>
  some y2
noncomputable def G.extent_End (a0 : G.Extent) : Option Int :=
  some (IntKind.i64.wrap (a0.off + a0.len))
noncomputable def G.index_New_l1 (a0 : (List G.Extent)) (s3 : Int × (List G.index_entry)) : Option ((Int × (List G.index_entry)) ⊕ ((List G.index_entry) ⊕ (Unit ⊕ (List G.index_entry)))) :=
  if s3.1 < (a0.length : Int) then
    (idx a0 s3.1).bind fun x4 =>
    (
      (G.extent_Valid x4).bind fun y6 =>
      if y6 = false then
        some true
      else
        some (x4.len == (0 : Int))).bind fun v5 =>
    if v5 = true then
      some (.inr (.inr (.inl ())))
    else
      (app 24 s3.2 [(⟨(⟨x4.off, x4.len⟩ : G.Extent), s3.1⟩ : G.index_entry)]).bind fun y7 =>
      some (.inl ((IntKind.i64.wrap (s3.1 + (1 : Int))), y7))
  else
    some (.inr (.inl s3.2))
noncomputable def G.index_New_l2 (y8 : (List G.index_entry)) (s9 : Int) : Option (Int ⊕ (Unit ⊕ (List G.index_entry))) :=
  if s9 < (y8.length : Int) then
    (
      if s9 > (0 : Int) then
        (idx y8 s9).bind fun x11 =>
        (idx y8 (IntKind.i64.wrap (s9 - (1 : Int)))).bind fun x12 =>
        (G.extent_End x12.extent).bind fun y13 =>
        some (decide (x11.extent.off < y13))
      else
        some false).bind fun v10 =>
    if v10 = true then
      some (.inr (.inl ()))
    else
      some (.inl (IntKind.i64.wrap (s9 + (1 : Int))))
  else
    some (.inr (.inr y8))
noncomputable def G.index_New (a0 : List G.Extent) : Option (Unit ⊕ (List G.index_entry)) :=
  ((
    Iter (G.index_New_l1 a0) ((0 : Int), ([] : List G.index_entry))) : Option ((List G.index_entry) ⊕ (Unit ⊕ (List G.index_entry)))).bind fun v1 => joinK v1 fun u2 =>
  (G.slices_SortFunc_index_entry_index_entry_v0_index_New_1_w u2).bind fun y8 =>
  Iter (G.index_New_l2 y8) (0 : Int)
noncomputable def G.conflict_targets_l1 (a0 : (List G.Command)) (s2 : (List G.Extent) × Int) : Option (((List G.Extent) × Int) ⊕ (List G.Extent)) :=
  if s2.2 < (a0.length : Int) then
    (idx a0 s2.2).bind fun x3 =>
    (G.command_Target x3).bind fun y4 =>
    (app 16 s2.1 [y4]).bind fun y5 =>
    some (.inl (y5, (IntKind.i64.wrap (s2.2 + (1 : Int)))))
  else
    some (.inr s2.1)
noncomputable def G.conflict_targets (a0 : List G.Command) : Option (Unit ⊕ (List G.index_entry)) :=
  (
    Iter (G.conflict_targets_l1 a0) (([] : List G.Extent), (0 : Int))).bind fun v1 =>
  (G.index_New v1).bind fun y6 =>
  match y6 with
  | .inl y7 =>
    some (.inl ())
  | .inr y8 =>
    some (.inr y8)
noncomputable def G.command_Source (a0 : G.Command) : Option (G.Extent × Bool) :=
  if a0.kind ≠ (1 : Int) then
    some ((⟨(0 : Int), (0 : Int)⟩ : G.Extent), false)
  else
    some ((⟨a0.from_, a0.len⟩ : G.Extent), true)
noncomputable def G.index_Index_overlaps_nil0 (a0 : G.Extent) : Option G.Extent :=
  some a0
noncomputable def G.index_Index_Len_nil0 : Option Int :=
  some (0 : Int)
noncomputable def G.sort_Search_index_Index_after_1_l1 (s1 : Int × Int) : Option ((Int × Int) ⊕ Int) :=
  if s1.1 < s1.2 then
    none
  else
    some (.inr s1.1)
noncomputable def G.sort_Search_index_Index_after_1 (a0 : Int) (a1 : Int) : Option Int :=
  Iter G.sort_Search_index_Index_after_1_l1 ((0 : Int), a0)
noncomputable def G.index_Index_after_nil0 (a0 : Int) : Option Int :=
  (G.index_Index_Len_nil0).bind fun y1 =>
  (G.sort_Search_index_Index_after_1 y1 a0).bind fun y2 =>
  some y2
noncomputable def G.index_Index_overlaps_1_index_Index_Meet_l1 (s2 : Int) : Option (Int ⊕ Unit) :=
  (G.index_Index_Len_nil0).bind fun y3 =>
  if s2 < y3 then
    none
  else
    some (.inr ())
noncomputable def G.index_Index_overlaps_1_index_Index_Meet (a0 : G.Extent) (a1 : List Int) : Option Unit :=
  (G.index_Index_after_nil0 a0.off).bind fun y1 =>
  Iter G.index_Index_overlaps_1_index_Index_Meet_l1 y1
noncomputable def G.index_Index_Meet_nil0 (a0 : G.Extent) : Option (List Int) :=
  (G.index_Index_overlaps_nil0 a0).bind fun y1 =>
  (G.index_Index_overlaps_1_index_Index_Meet y1 ([] : List Int)).bind fun y2 =>
  some ([] : List Int)
noncomputable def G.digraph_Graph_Len (a0 : Int) (a1 : List (G.digraph_Edge × Bool)) (a2 : List (Int × (List Int))) (a3 : List (Int × (List Int))) : Option Int :=
  some a0
noncomputable def G.digraph_Graph_vertex (a0 : Int) (a1 : Int) (a2 : List (G.digraph_Edge × Bool)) (a3 : List (Int × (List Int))) (a4 : List (Int × (List Int))) : Option Bool :=
  if a0 ≥ (0 : Int) then
    (G.digraph_Graph_Len a1 a2 a3 a4).bind fun y1 =>
    some (decide (a0 < y1))
  else
    some false
noncomputable def G.digraph_Graph_Add_l1 (a0 : (List G.digraph_Edge)) (a1 : Int) (s1 : Int × Int × (List (G.digraph_Edge × Bool)) × (List (Int × (List Int))) × (List (Int × (List Int)))) : Option ((Int × Int × (List (G.digraph_Edge × Bool)) × (List (Int × (List Int))) × (List (Int × (List Int)))) ⊕ (Int × (List (G.digraph_Edge × Bool)) × (List (Int × (List Int))) × (List (Int × (List Int))))) :=
  if s1.2.1 < (a0.length : Int) then
    (idx a0 s1.2.1).bind fun x2 =>
    (
      (G.digraph_Graph_vertex x2.from_ a1 s1.2.2.1 s1.2.2.2.1 s1.2.2.2.2).bind fun y4 =>
      if y4 = false then
        some true
      else
        (G.digraph_Graph_vertex x2.to a1 s1.2.2.1 s1.2.2.2.1 s1.2.2.2.2).bind fun y5 =>
        if y5 = false then
          some true
        else
          if x2.from_ = x2.to then
            some true
          else
            some ((mget eqk_G_digraph_Edge s1.2.2.1 x2).getD false)).bind fun v3 =>
    if v3 = true then
      some (.inl (s1.1, (IntKind.i64.wrap (s1.2.1 + (1 : Int))), s1.2.2.1, s1.2.2.2.1, s1.2.2.2.2))
    else
      (app 8 ((mget intEq s1.2.2.2.1 x2.from_).getD []) [x2.to]).bind fun y6 =>
      (chk (intEq x2.from_ x2.from_ = true)).bind fun y7 =>
      (app 8 ((mget intEq s1.2.2.2.2 x2.to).getD []) [x2.from_]).bind fun y8 =>
      (chk (intEq x2.to x2.to = true)).bind fun y9 =>
      some (.inl ((IntKind.i64.wrap (s1.1 + (1 : Int))), (IntKind.i64.wrap (s1.2.1 + (1 : Int))), (mput eqk_G_digraph_Edge s1.2.2.1 x2 true), (mput intEq s1.2.2.2.1 x2.from_ y6), (mput intEq s1.2.2.2.2 x2.to y8)))
  else
    some (.inr (s1.1, s1.2.2.1, s1.2.2.2.1, s1.2.2.2.2))
noncomputable def G.digraph_Graph_Add (a0 : List G.digraph_Edge) (a1 : Int) (a2 : List (G.digraph_Edge × Bool)) (a3 : List (Int × (List Int))) (a4 : List (Int × (List Int))) : Option (Int × (List (G.digraph_Edge × Bool)) × (List (Int × (List Int))) × (List (Int × (List Int)))) :=
  Iter (G.digraph_Graph_Add_l1 a0 a1) ((0 : Int), (0 : Int), a2, a3, a4)
noncomputable def G.index_Index_overlaps (a0 : G.Extent) (a1 : List G.index_entry) : Option G.Extent :=
  some a0
noncomputable def G.index_Index_Len (a0 : List G.index_entry) : Option Int :=
  some (a0.length : Int)
noncomputable def G.index_Index_after_1x (a0 : Int) (a1 : List G.index_entry) (a2 : Int) : Option Bool :=
  (idx a1 a0).bind fun x1 =>
  (G.extent_End x1.extent).bind fun y2 =>
  some (decide (y2 > a2))
noncomputable def G.sort_Search_index_Index_after_1x_l1 (a1 : (List G.index_entry)) (a2 : Int) (s1 : Int × Int) : Option ((Int × Int) ⊕ Int) :=
  if s1.1 < s1.2 then
    (G.index_Index_after_1x (IntKind.i64.wrap (ishr .u64 (IntKind.u64.wrap (IntKind.i64.wrap (s1.1 + s1.2))) (1 : Int))) a1 a2).bind fun y2 =>
    if y2 = false then
      some (.inl ((IntKind.i64.wrap ((IntKind.i64.wrap (ishr .u64 (IntKind.u64.wrap (IntKind.i64.wrap (s1.1 + s1.2))) (1 : Int))) + (1 : Int))), s1.2))
    else
      some (.inl (s1.1, (IntKind.i64.wrap (ishr .u64 (IntKind.u64.wrap (IntKind.i64.wrap (s1.1 + s1.2))) (1 : Int)))))
  else
    some (.inr s1.1)
noncomputable def G.sort_Search_index_Index_after_1x (a0 : Int) (a1 : List G.index_entry) (a2 : Int) : Option Int :=
  Iter (G.sort_Search_index_Index_after_1x_l1 a1 a2) ((0 : Int), a0)
noncomputable def G.index_Index_after (a0 : Int) (a1 : List G.index_entry) : Option Int :=
  (G.index_Index_Len a1).bind fun y1 =>
  (G.sort_Search_index_Index_after_1x y1 a1 a0).bind fun y2 =>
  some y2
noncomputable def G.extent_between (a0 : Int) (a1 : Int) (a2 : Int) : Option (G.Extent × Bool) :=
  if (IntKind.i64.wrap (a1 - a0)) < a2 then
    some ((⟨(0 : Int), (0 : Int)⟩ : G.Extent), false)
  else
    some ((⟨a0, (IntKind.i64.wrap (a1 - a0))⟩ : G.Extent), true)
noncomputable def G.extent_Overlap (a0 : G.Extent) (a1 : G.Extent) : Option (G.Extent × Bool) :=
  (G.extent_End a0).bind fun y1 =>
  (G.extent_End a1).bind fun y2 =>
  (G.extent_between (imax a0.off a1.off) (imin y1 y2) (1 : Int)).bind fun y3 =>
  some (y3.1, y3.2)
noncomputable def G.index_Index_Meet_b1 (a0 : Int) (a1 : G.Extent) (a2 : List Int) : Option (List Int) :=
  (app 8 a2 [a0]).bind fun y1 =>
  some y1
noncomputable def G.index_Index_overlaps_1_index_Index_Meetx_l1 (a0 : (List G.index_entry)) (a1 : G.Extent) (s2 : Int × (List Int)) : Option ((Int × (List Int)) ⊕ (List Int)) :=
  (G.index_Index_Len a0).bind fun y3 =>
  if s2.1 < y3 then
    (idx a0 s2.1).bind fun x4 =>
    (G.extent_Overlap x4.extent a1).bind fun y5 =>
    (
      if y5.2 = false then
        some (true, s2.2)
      else
        (idx a0 s2.1).bind fun x7 =>
        (G.index_Index_Meet_b1 x7.position y5.1 s2.2).bind fun y8 =>
        some (false, y8)).bind fun v6 =>
    if v6.1 = true then
      some (.inr v6.2)
    else
      some (.inl ((IntKind.i64.wrap (s2.1 + (1 : Int))), v6.2))
  else
    some (.inr s2.2)
noncomputable def G.index_Index_overlaps_1_index_Index_Meetx (a0 : List G.index_entry) (a1 : G.Extent) (a2 : List Int) : Option (List Int) :=
  (G.index_Index_after a1.off a0).bind fun y1 =>
  Iter (G.index_Index_overlaps_1_index_Index_Meetx_l1 a0 a1) (y1, a2)
noncomputable def G.index_Index_Meet (a0 : G.Extent) (a1 : List G.index_entry) : Option (List Int) :=
  (G.index_Index_overlaps a0 a1).bind fun y1 =>
  (G.index_Index_overlaps_1_index_Index_Meetx a1 y1 ([] : List Int)).bind fun y2 =>
  some y2
noncomputable def G.conflict_Graph_l2 (y1 : Int × (List (G.digraph_Edge × Bool)) × (List (Int × (List Int))) × (List (Int × (List Int)))) (s5 : Int × (List (G.digraph_Edge × Bool)) × (List (Int × (List Int))) × (List (Int × (List Int)))) (y8 : (List Int)) (s9 : Int × (List (G.digraph_Edge × Bool)) × (List (Int × (List Int))) × (List (Int × (List Int)))) : Option ((Int × (List (G.digraph_Edge × Bool)) × (List (Int × (List Int))) × (List (Int × (List Int)))) ⊕ ((Int × (List (G.digraph_Edge × Bool)) × (List (Int × (List Int))) × (List (Int × (List Int)))) ⊕ (Int × (List (G.digraph_Edge × Bool)) × (List (Int × (List Int))) × (List (Int × (List Int)))))) :=
  if s9.1 < (y8.length : Int) then
    (idx y8 s9.1).bind fun x10 =>
    (G.digraph_Graph_Add [(⟨s5.1, x10⟩ : G.digraph_Edge)] y1.1 s9.2.1 s9.2.2.1 s9.2.2.2).bind fun y11 =>
    some (.inl ((IntKind.i64.wrap (s9.1 + (1 : Int))), y11.2.1, y11.2.2.1, y11.2.2.2))
  else
    some (.inr (.inl ((IntKind.i64.wrap (s5.1 + (1 : Int))), s9.2.1, s9.2.2.1, s9.2.2.2)))
noncomputable def G.conflict_Graph_l1 (a0 : (List G.Command)) (y1 : Int × (List (G.digraph_Edge × Bool)) × (List (Int × (List Int))) × (List (Int × (List Int)))) (s5 : Int × (List (G.digraph_Edge × Bool)) × (List (Int × (List Int))) × (List (Int × (List Int)))) : Option ((Int × (List (G.digraph_Edge × Bool)) × (List (Int × (List Int))) × (List (Int × (List Int)))) ⊕ (Int × (List (G.digraph_Edge × Bool)) × (List (Int × (List Int))) × (List (Int × (List Int))))) :=
  if s5.1 < (a0.length : Int) then
    (idx a0 s5.1).bind fun x6 =>
    (G.command_Source x6).bind fun y7 =>
    if y7.2 = true then
      (G.index_Index_Meet_nil0 y7.1).bind fun y8 =>
      Iter (G.conflict_Graph_l2 y1 s5 y8) ((0 : Int), s5.2.1, s5.2.2.1, s5.2.2.2)
    else
      some (.inl ((IntKind.i64.wrap (s5.1 + (1 : Int))), s5.2.1, s5.2.2.1, s5.2.2.2))
  else
    some (.inr (y1.1, s5.2.1, s5.2.2.1, s5.2.2.2))
noncomputable def G.conflict_Graph_l4 (y1 : Int × (List (G.digraph_Edge × Bool)) × (List (Int × (List Int))) × (List (Int × (List Int)))) (s12 : Int × (List (G.digraph_Edge × Bool)) × (List (Int × (List Int))) × (List (Int × (List Int)))) (y15 : (List Int)) (s16 : Int × (List (G.digraph_Edge × Bool)) × (List (Int × (List Int))) × (List (Int × (List Int)))) : Option ((Int × (List (G.digraph_Edge × Bool)) × (List (Int × (List Int))) × (List (Int × (List Int)))) ⊕ ((Int × (List (G.digraph_Edge × Bool)) × (List (Int × (List Int))) × (List (Int × (List Int)))) ⊕ (Int × (List (G.digraph_Edge × Bool)) × (List (Int × (List Int))) × (List (Int × (List Int)))))) :=
  if s16.1 < (y15.length : Int) then
    (idx y15 s16.1).bind fun x17 =>
    (G.digraph_Graph_Add [(⟨s12.1, x17⟩ : G.digraph_Edge)] y1.1 s16.2.1 s16.2.2.1 s16.2.2.2).bind fun y18 =>
    some (.inl ((IntKind.i64.wrap (s16.1 + (1 : Int))), y18.2.1, y18.2.2.1, y18.2.2.2))
  else
    some (.inr (.inl ((IntKind.i64.wrap (s12.1 + (1 : Int))), s16.2.1, s16.2.2.1, s16.2.2.2)))
noncomputable def G.conflict_Graph_l3 (a0 : (List G.Command)) (y1 : Int × (List (G.digraph_Edge × Bool)) × (List (Int × (List Int))) × (List (Int × (List Int)))) (y4 : (List G.index_entry)) (s12 : Int × (List (G.digraph_Edge × Bool)) × (List (Int × (List Int))) × (List (Int × (List Int)))) : Option ((Int × (List (G.digraph_Edge × Bool)) × (List (Int × (List Int))) × (List (Int × (List Int)))) ⊕ (Int × (List (G.digraph_Edge × Bool)) × (List (Int × (List Int))) × (List (Int × (List Int))))) :=
  if s12.1 < (a0.length : Int) then
    (idx a0 s12.1).bind fun x13 =>
    (G.command_Source x13).bind fun y14 =>
    if y14.2 = true then
      (G.index_Index_Meet y14.1 y4).bind fun y15 =>
      Iter (G.conflict_Graph_l4 y1 s12 y15) ((0 : Int), s12.2.1, s12.2.2.1, s12.2.2.2)
    else
      some (.inl ((IntKind.i64.wrap (s12.1 + (1 : Int))), s12.2.1, s12.2.2.1, s12.2.2.2))
  else
    some (.inr (y1.1, s12.2.1, s12.2.2.1, s12.2.2.2))
noncomputable def G.conflict_Graph (a0 : List G.Command) : Option (Int × (List (G.digraph_Edge × Bool)) × (List (Int × (List Int))) × (List (Int × (List Int)))) :=
  (G.digraph_New (a0.length : Int)).bind fun y1 =>
  (G.conflict_targets a0).bind fun y2 =>
  match y2 with
  | .inl y3 =>
    Iter (G.conflict_Graph_l1 a0 y1) ((0 : Int), y1.2.1, y1.2.2.1, y1.2.2.2)
  | .inr y4 =>
    Iter (G.conflict_Graph_l3 a0 y1 y4) ((0 : Int), y1.2.1, y1.2.2.1, y1.2.2.2)
noncomputable def G.digraph_Graph_Size (a0 : Int) (a1 : List (G.digraph_Edge × Bool)) (a2 : List (Int × (List Int))) (a3 : List (Int × (List Int))) : Option Int :=
  some (a1.length : Int)
noncomputable def G.digraph_Graph_Has (a0 : G.digraph_Edge) (a1 : Int) (a2 : List (G.digraph_Edge × Bool)) (a3 : List (Int × (List Int))) (a4 : List (Int × (List Int))) : Option Bool :=
  some ((mget eqk_G_digraph_Edge a2 a0).getD false)
noncomputable def G.conflict_Reads (a0 : G.Command) (a1 : G.Command) : Option Int :=
  (G.command_Source a0).bind fun y1 =>
  if y1.2 = false then
    some (0 : Int)
  else
    (G.command_Target a1).bind fun y2 =>
    (G.extent_Overlap y1.1 y2).bind fun y3 =>
    some y3.1.len
noncomputable def G.conflict_Weight (a0 : List G.Command) (a1 : G.digraph_Edge) : Option Int :=
  (
    if a1.from_ = a1.to ∧ a1.to = a1.to then
      some true
    else
      if (imin a1.from_ a1.to) < (0 : Int) then
        some true
      else
        some (decide ((imax a1.from_ a1.to) ≥ (a0.length : Int)))).bind fun v1 =>
  if v1 = true then
    some (0 : Int)
  else
    (idx a0 a1.from_).bind fun x2 =>
    (idx a0 a1.to).bind fun x3 =>
    (G.conflict_Reads x2 x3).bind fun y4 =>
    some y4
noncomputable def G.command_Overlaps (a0 : G.Command) : Option Bool :=
  (G.command_Source a0).bind fun y1 =>
  if y1.2 = false then
    some false
  else
    (G.command_Target a0).bind fun y2 =>
    (G.extent_Overlap y1.1 y2).bind fun y3 =>
    some y3.2
noncomputable def G.conflict_Self_l1 (a0 : (List G.Command)) (s1 : (List Int) × Int) : Option (((List Int) × Int) ⊕ (List Int)) :=
  if s1.2 < (a0.length : Int) then
    (idx a0 s1.2).bind fun x2 =>
    (G.command_Overlaps x2).bind fun y3 =>
    if y3 = true then
      (app 8 s1.1 [s1.2]).bind fun y4 =>
      some (.inl (y4, (IntKind.i64.wrap (s1.2 + (1 : Int)))))
    else
      some (.inl (s1.1, (IntKind.i64.wrap (s1.2 + (1 : Int)))))
  else
    some (.inr s1.1)
noncomputable def G.conflict_Self (a0 : List G.Command) : Option (List Int) :=
  Iter (G.conflict_Self_l1 a0) (([] : List Int), (0 : Int))
noncomputable def G.graftlaw12_alive : Option Bool :=
  (G.conflict_Graph [(⟨(1 : Int), (0 : Int), (4 : Int), (4 : Int), ([] : List UInt8)⟩ : G.Command), (⟨(1 : Int), (4 : Int), (0 : Int), (4 : Int), ([] : List UInt8)⟩ : G.Command)]).bind fun y1 =>
  (G.digraph_Graph_Size y1.1 y1.2.1 y1.2.2.1 y1.2.2.2).bind fun y2 =>
  if y2 = (2 : Int) then
    (G.digraph_Graph_Has (⟨(0 : Int), (1 : Int)⟩ : G.digraph_Edge) y1.1 y1.2.1 y1.2.2.1 y1.2.2.2).bind fun y3 =>
    if y3 = true then
      (G.digraph_Graph_Has (⟨(1 : Int), (0 : Int)⟩ : G.digraph_Edge) y1.1 y1.2.1 y1.2.2.1 y1.2.2.2).bind fun y4 =>
      if y4 = true then
        (G.conflict_Weight [(⟨(1 : Int), (0 : Int), (4 : Int), (4 : Int), ([] : List UInt8)⟩ : G.Command), (⟨(1 : Int), (4 : Int), (0 : Int), (4 : Int), ([] : List UInt8)⟩ : G.Command)] (⟨(0 : Int), (1 : Int)⟩ : G.digraph_Edge)).bind fun y5 =>
        if y5 = (4 : Int) then
          (G.conflict_Self [(⟨(1 : Int), (0 : Int), (4 : Int), (4 : Int), ([] : List UInt8)⟩ : G.Command), (⟨(1 : Int), (4 : Int), (0 : Int), (4 : Int), ([] : List UInt8)⟩ : G.Command)]).bind fun y6 =>
          some ((y6.length : Int) == (0 : Int))
        else
          some false
      else
        some false
    else
      some false
  else
    some false
noncomputable def G.graftref12_Reads (a0 : G.Command) (a1 : G.Command) : Option Int :=
  if a0.kind ≠ (1 : Int) then
    some (0 : Int)
  else
    (G.graftref04_Source a0).bind fun y1 =>
    (G.graftref04_Target a1).bind fun y2 =>
    (G.graftref01_Overlap y1 y2).bind fun y3 =>
    some y3.len
noncomputable def G.graftref12_Graph_l2 (a0 : (List G.Command)) (s1 : Int × Int × (List G.graftref11_Edge)) (s2 : Int × Int × (List G.graftref11_Edge)) : Option ((Int × Int × (List G.graftref11_Edge)) ⊕ ((Int × Int × (List G.graftref11_Edge)) ⊕ (Int × (List G.graftref11_Edge)))) :=
  if s2.1 < (a0.length : Int) then
    (
      if s1.1 ≠ s2.1 then
        (idx a0 s1.1).bind fun x4 =>
        (idx a0 s2.1).bind fun x5 =>
        (G.graftref12_Reads x4 x5).bind fun y6 =>
        some (decide (y6 > (0 : Int)))
      else
        some false).bind fun v3 =>
    if v3 = true then
      (app 16 s2.2.2 [(⟨s1.1, s2.1⟩ : G.graftref11_Edge)]).bind fun y7 =>
      some (.inl ((IntKind.i64.wrap (s2.1 + (1 : Int))), s2.2.1, y7))
    else
      some (.inl ((IntKind.i64.wrap (s2.1 + (1 : Int))), s2.2.1, s2.2.2))
  else
    some (.inr (.inl ((IntKind.i64.wrap (s1.1 + (1 : Int))), s2.2.1, s2.2.2)))
noncomputable def G.graftref12_Graph_l1 (a0 : (List G.Command)) (s1 : Int × Int × (List G.graftref11_Edge)) : Option ((Int × Int × (List G.graftref11_Edge)) ⊕ (Int × (List G.graftref11_Edge))) :=
  if s1.1 < (a0.length : Int) then
    Iter (G.graftref12_Graph_l2 a0 s1) ((0 : Int), s1.2.1, s1.2.2)
  else
    some (.inr (s1.2.1, s1.2.2))
noncomputable def G.graftref12_Graph (a0 : List G.Command) : Option (Int × (List G.graftref11_Edge)) :=
  Iter (G.graftref12_Graph_l1 a0) ((0 : Int), (a0.length : Int), ([] : List G.graftref11_Edge))
noncomputable def G.graftlaw12_ConflictGraphs_l1 (y3 : Int × (List (G.digraph_Edge × Bool)) × (List (Int × (List Int))) × (List (Int × (List Int)))) (y4 : Int × (List G.graftref11_Edge)) (s10 : Int) : Option (Int ⊕ (Unit ⊕ Bool)) :=
  if s10 < (y4.2.length : Int) then
    (idx y4.2 s10).bind fun x11 =>
    (G.digraph_Graph_Has (⟨x11.from_, x11.to⟩ : G.digraph_Edge) y3.1 y3.2.1 y3.2.2.1 y3.2.2.2).bind fun y12 =>
    if y12 = false then
      some (.inr (.inr false))
    else
      some (.inl (IntKind.i64.wrap (s10 + (1 : Int))))
  else
    some (.inr (.inl ()))
noncomputable def G.graftlaw12_ConflictGraphs (a0 : List G.Command) : Option Bool :=
  (G.graftref12_Right a0).bind fun y1 =>
  if y1 = false then
    (G.graftlaw12_alive).bind fun y2 =>
    some y2
  else
    (G.conflict_Graph a0).bind fun y3 =>
    (G.graftref12_Graph a0).bind fun y4 =>
    (
      (G.digraph_Graph_Len y3.1 y3.2.1 y3.2.2.1 y3.2.2.2).bind fun y6 =>
      if y6 ≠ (a0.length : Int) then
        some true
      else
        (G.digraph_Graph_Size y3.1 y3.2.1 y3.2.2.1 y3.2.2.2).bind fun y7 =>
        some (y7 != (y4.2.length : Int))).bind fun v5 =>
    if v5 = true then
      some false
    else
      ((
        Iter (G.graftlaw12_ConflictGraphs_l1 y3 y4) (0 : Int)) : Option (Unit ⊕ Bool)).bind fun v8 => joinK v8 fun u9 =>
      (G.graftlaw12_alive).bind fun y13 =>
      some y13
noncomputable def G.graftref10_Covered_l1 (a0 : (List G.Extent)) (a1 : G.Extent) (s1 : Int × Int) : Option ((Int × Int) ⊕ Int) :=
  if s1.2 < (a0.length : Int) then
    (idx a0 s1.2).bind fun x2 =>
    (G.graftref01_Overlap x2 a1).bind fun y3 =>
    some (.inl ((IntKind.i64.wrap (s1.1 + y3.len)), (IntKind.i64.wrap (s1.2 + (1 : Int)))))
  else
    some (.inr s1.1)
noncomputable def G.graftref10_Covered (a0 : List G.Extent) (a1 : G.Extent) : Option Int :=
  Iter (G.graftref10_Covered_l1 a0 a1) ((0 : Int), (0 : Int))
noncomputable def G.graftlaw12_ConflictWeights_l1 (a0 : (List G.Command)) (s4 : (List G.Extent) × Int) : Option (((List G.Extent) × Int) ⊕ (List G.Extent)) :=
  if s4.2 < (a0.length : Int) then
    (idx a0 s4.2).bind fun x5 =>
    (G.graftref04_Target x5).bind fun y6 =>
    (app 16 s4.1 [y6]).bind fun y7 =>
    some (.inl (y7, (IntKind.i64.wrap (s4.2 + (1 : Int)))))
  else
    some (.inr s4.1)
noncomputable def G.graftlaw12_ConflictWeights_l3 (a0 : (List G.Command)) (s10 : Int) (s14 : Int × Int) : Option ((Int × Int) ⊕ Int) :=
  if s14.2 < (a0.length : Int) then
    (G.conflict_Weight a0 (⟨s10, s14.2⟩ : G.digraph_Edge)).bind fun y15 =>
    some (.inl ((IntKind.i64.wrap (s14.1 + y15)), (IntKind.i64.wrap (s14.2 + (1 : Int)))))
  else
    some (.inr s14.1)
noncomputable def G.graftlaw12_ConflictWeights_l2 (a0 : (List G.Command)) (v3 : (List G.Extent)) (s10 : Int) : Option (Int ⊕ (Unit ⊕ Bool)) :=
  if s10 < (a0.length : Int) then
    (idx a0 s10).bind fun x11 =>
    if x11.kind ≠ (1 : Int) then
      some (.inl (IntKind.i64.wrap (s10 + (1 : Int))))
    else
      (G.conflict_Reads x11 x11).bind fun y12 =>
      (
        Iter (G.graftlaw12_ConflictWeights_l3 a0 s10) (y12, (0 : Int))).bind fun v13 =>
      (G.graftref04_Source x11).bind fun y16 =>
      (G.graftref10_Covered v3 y16).bind fun y17 =>
      if v13 ≠ y17 then
        some (.inr (.inr false))
      else
        some (.inl (IntKind.i64.wrap (s10 + (1 : Int))))
  else
    some (.inr (.inl ()))
noncomputable def G.graftlaw12_ConflictWeights (a0 : List G.Command) (a1 : Nat → Int) : Option Bool :=
  (G.graftref12_Right a0).bind fun y1 =>
  if y1 = false then
    (G.graftlaw12_alive).bind fun y2 =>
    some y2
  else
    (
      Iter (G.graftlaw12_ConflictWeights_l1 a0) (([] : List G.Extent), (0 : Int))).bind fun v3 =>
    ((
      Iter (G.graftlaw12_ConflictWeights_l2 a0 v3) (0 : Int)) : Option (Unit ⊕ Bool)).bind fun v8 => joinK v8 fun u9 =>
    (G.conflict_Weight a0 (⟨(a1 0), (a1 1)⟩ : G.digraph_Edge)).bind fun y18 =>
    (
      if (a1 0) < (0 : Int) then
        some true
      else
        if (a1 1) < (0 : Int) then
          some true
        else
          if (a1 0) ≥ (a0.length : Int) then
            some true
          else
            if (a1 1) ≥ (a0.length : Int) then
              some true
            else
              some ((a1 0) == (a1 1))).bind fun v19 =>
    if v19 = true then
      (
        (G.graftlaw12_alive).bind fun y21 =>
        if y21 = true then
          some (y18 == (0 : Int))
        else
          some false).bind fun v20 =>
      some v20
    else
      (G.graftlaw12_alive).bind fun y22 =>
      if y22 = true then
        (idx a0 (a1 0)).bind fun x23 =>
        (idx a0 (a1 1)).bind fun x24 =>
        (G.graftref12_Reads x23 x24).bind fun y25 =>
        some (y18 == y25)
      else
        some false
noncomputable def G.graftref04_Overlaps (a0 : G.Command) : Option Bool :=
  if a0.kind = (1 : Int) then
    (G.graftref04_Source a0).bind fun y1 =>
    (G.graftref04_Target a0).bind fun y2 =>
    (G.graftref01_Overlap y1 y2).bind fun y3 =>
    some (decide (y3.len > (0 : Int)))
  else
    some false
noncomputable def G.slices_Equal_int_int_l1 (a0 : (List Int)) (a1 : (List Int)) (s1 : Int) : Option (Int ⊕ Bool) :=
  if s1 < (a0.length : Int) then
    (idx a0 s1).bind fun x2 =>
    (idx a1 s1).bind fun x3 =>
    if x2 ≠ x3 then
      some (.inr false)
    else
      some (.inl (IntKind.i64.wrap (s1 + (1 : Int))))
  else
    some (.inr true)
noncomputable def G.slices_Equal_int_int (a0 : List Int) (a1 : List Int) : Option Bool :=
  if (a0.length : Int) ≠ (a1.length : Int) then
    some false
  else
    Iter (G.slices_Equal_int_int_l1 a0 a1) (0 : Int)
noncomputable def G.graftlaw12_ConflictSelf_l1 (a0 : (List G.Command)) (s4 : (List Int) × Int) : Option (((List Int) × Int) ⊕ (List Int)) :=
  if s4.2 < (a0.length : Int) then
    (idx a0 s4.2).bind fun x5 =>
    (G.graftref04_Overlaps x5).bind fun y6 =>
    if y6 = true then
      (app 8 s4.1 [s4.2]).bind fun y7 =>
      some (.inl (y7, (IntKind.i64.wrap (s4.2 + (1 : Int)))))
    else
      some (.inl (s4.1, (IntKind.i64.wrap (s4.2 + (1 : Int)))))
  else
    some (.inr s4.1)
noncomputable def G.graftlaw12_ConflictSelf_l2 (a0 : (List G.Command)) (v3 : (List Int)) (s10 : Int) : Option (Int ⊕ (Unit ⊕ Bool)) :=
  if s10 < (v3.length : Int) then
    (idx v3 s10).bind fun x11 =>
    (idx a0 x11).bind fun x12 =>
    (idx a0 x11).bind fun x13 =>
    (G.conflict_Reads x12 x13).bind fun y14 =>
    if y14 = (0 : Int) then
      some (.inr (.inr false))
    else
      some (.inl (IntKind.i64.wrap (s10 + (1 : Int))))
  else
    some (.inr (.inl ()))
noncomputable def G.graftlaw12_ConflictSelf (a0 : List G.Command) : Option Bool :=
  (G.graftref12_Right a0).bind fun y1 =>
  if y1 = false then
    (G.graftlaw12_alive).bind fun y2 =>
    some y2
  else
    (
      Iter (G.graftlaw12_ConflictSelf_l1 a0) (([] : List Int), (0 : Int))).bind fun v3 =>
    ((
      Iter (G.graftlaw12_ConflictSelf_l2 a0 v3) (0 : Int)) : Option (Unit ⊕ Bool)).bind fun v8 => joinK v8 fun u9 =>
    (G.graftlaw12_alive).bind fun y15 =>
    if y15 = true then
      (G.conflict_Self a0).bind fun y16 =>
      (G.slices_Equal_int_int y16 v3).bind fun y17 =>
      some y17
    else
      some false
noncomputable def G.slices_Backward_int_int (a0 : List Int) : Option (List Int) :=
  some a0
noncomputable def G.conflict_Violations_b1 (a0 : Int) (a1 : Int) (a2 : List (Int × Int)) : Option (List (Int × Int)) :=
  some (mput intEq a2 a1 a0)
noncomputable def G.slices_Backward_int_int_1_conflict_Violations_l1 (a0 : (List Int)) (s1 : Int × (List (Int × Int))) : Option ((Int × (List (Int × Int))) ⊕ (List (Int × Int))) :=
  if s1.1 ≥ (0 : Int) then
    (idx a0 s1.1).bind fun x2 =>
    (G.conflict_Violations_b1 s1.1 x2 s1.2).bind fun y3 =>
    some (.inl ((IntKind.i64.wrap (s1.1 - (1 : Int))), y3))
  else
    some (.inr s1.2)
noncomputable def G.slices_Backward_int_int_1_conflict_Violations (a0 : List Int) (a1 : List (Int × Int)) : Option (List (Int × Int)) :=
  Iter (G.slices_Backward_int_int_1_conflict_Violations_l1 a0) ((IntKind.i64.wrap ((a0.length : Int) - (1 : Int))), a1)
noncomputable def G.slices_Values_int_int (a0 : List Int) : Option (List Int) :=
  some a0
noncomputable def G.slices_AppendSeq_int_int_b1 (a0 : Int) (a1 : List Int) : Option (List Int) :=
  (app 8 a1 [a0]).bind fun y1 =>
  some y1
noncomputable def G.slices_Values_int_int_1_slices_AppendSeq_int_int_l1 (a0 : (List Int)) (s1 : Int × (List Int)) : Option ((Int × (List Int)) ⊕ (List Int)) :=
  if s1.1 < (a0.length : Int) then
    (idx a0 s1.1).bind fun x2 =>
    (G.slices_AppendSeq_int_int_b1 x2 s1.2).bind fun y3 =>
    some (.inl ((IntKind.i64.wrap (s1.1 + (1 : Int))), y3))
  else
    some (.inr s1.2)
noncomputable def G.slices_Values_int_int_1_slices_AppendSeq_int_int (a0 : List Int) (a1 : List Int) : Option (List Int) :=
  Iter (G.slices_Values_int_int_1_slices_AppendSeq_int_int_l1 a0) ((0 : Int), a1)
noncomputable def G.slices_AppendSeq_int_int_nil0_slices_Values_int_int_1 (a0 : List Int) : Option (List Int) :=
  (G.slices_Values_int_int_1_slices_AppendSeq_int_int a0 ([] : List Int)).bind fun y1 =>
  some y1
noncomputable def G.slices_Collect_int_slices_Values_int_int_1 (a0 : List Int) : Option (List Int) :=
  (G.slices_AppendSeq_int_int_nil0_slices_Values_int_int_1 a0).bind fun y1 =>
  some y1
noncomputable def G.cmp_Less_int (a0 : Int) (a1 : Int) : Option Bool :=
  (G.cmp_isNaN_int a0).bind fun y1 =>
  if y1 = true then
    (G.cmp_isNaN_int a1).bind fun y2 =>
    if y2 = false then
      some true
    else
      some (decide (a0 < a1))
  else
    some (decide (a0 < a1))
noncomputable def G.slices_insertionSortOrdered_int_v0_l2 (a1 : Int) (s1 : Int × (List Int)) (s2 : Int × (List Int)) : Option ((Int × (List Int)) ⊕ ((Int × (List Int)) ⊕ (List Int))) :=
  (
    if s2.1 > a1 then
      (idx s2.2 s2.1).bind fun x4 =>
      (idx s2.2 (IntKind.i64.wrap (s2.1 - (1 : Int)))).bind fun x5 =>
      (G.cmp_Less_int x4 x5).bind fun y6 =>
      some y6
    else
      some false).bind fun v3 =>
  if v3 = true then
    (idx s2.2 (IntKind.i64.wrap (s2.1 - (1 : Int)))).bind fun x7 =>
    (idx s2.2 s2.1).bind fun x8 =>
    (idx s2.2 s2.1).bind fun x9 =>
    (idx (s2.2.set s2.1.toNat x7) (IntKind.i64.wrap (s2.1 - (1 : Int)))).bind fun x10 =>
    some (.inl ((IntKind.i64.wrap (s2.1 - (1 : Int))), ((s2.2.set s2.1.toNat x7).set (IntKind.i64.wrap (s2.1 - (1 : Int))).toNat x8)))
  else
    some (.inr (.inl ((IntKind.i64.wrap (s1.1 + (1 : Int))), s2.2)))
noncomputable def G.slices_insertionSortOrdered_int_v0_l1 (a1 : Int) (a2 : Int) (s1 : Int × (List Int)) : Option ((Int × (List Int)) ⊕ (List Int)) :=
  if s1.1 < a2 then
    Iter (G.slices_insertionSortOrdered_int_v0_l2 a1 s1) (s1.1, s1.2)
  else
    some (.inr s1.2)
noncomputable def G.slices_insertionSortOrdered_int_v0 (a0 : List Int) (a1 : Int) (a2 : Int) : Option (List Int) :=
  Iter (G.slices_insertionSortOrdered_int_v0_l1 a1 a2) ((IntKind.i64.wrap (a1 + (1 : Int))), a0)
noncomputable def G.slices_siftDownOrdered_int_v0_l1 (a2 : Int) (a3 : Int) (s1 : Int × (List Int)) : Option ((Int × (List Int)) ⊕ (List Int)) :=
  if (IntKind.i64.wrap ((IntKind.i64.wrap ((2 : Int) * s1.1)) + (1 : Int))) ≥ a2 then
    some (.inr s1.2)
  else
    (
      if (IntKind.i64.wrap ((IntKind.i64.wrap ((IntKind.i64.wrap ((2 : Int) * s1.1)) + (1 : Int))) + (1 : Int))) < a2 then
        (idx s1.2 (IntKind.i64.wrap (a3 + (IntKind.i64.wrap ((IntKind.i64.wrap ((2 : Int) * s1.1)) + (1 : Int)))))).bind fun x3 =>
        (idx s1.2 (IntKind.i64.wrap ((IntKind.i64.wrap (a3 + (IntKind.i64.wrap ((IntKind.i64.wrap ((2 : Int) * s1.1)) + (1 : Int))))) + (1 : Int)))).bind fun x4 =>
        (G.cmp_Less_int x3 x4).bind fun y5 =>
        some y5
      else
        some false).bind fun v2 =>
    (
      if v2 = true then
        some (IntKind.i64.wrap ((IntKind.i64.wrap ((IntKind.i64.wrap ((2 : Int) * s1.1)) + (1 : Int))) + (1 : Int)))
      else
        some (IntKind.i64.wrap ((IntKind.i64.wrap ((2 : Int) * s1.1)) + (1 : Int)))).bind fun v6 =>
    (idx s1.2 (IntKind.i64.wrap (a3 + s1.1))).bind fun x7 =>
    (idx s1.2 (IntKind.i64.wrap (a3 + v6))).bind fun x8 =>
    (G.cmp_Less_int x7 x8).bind fun y9 =>
    if y9 = false then
      some (.inr s1.2)
    else
      (idx s1.2 (IntKind.i64.wrap (a3 + v6))).bind fun x10 =>
      (idx s1.2 (IntKind.i64.wrap (a3 + s1.1))).bind fun x11 =>
      (idx s1.2 (IntKind.i64.wrap (a3 + s1.1))).bind fun x12 =>
      (idx (s1.2.set (IntKind.i64.wrap (a3 + s1.1)).toNat x10) (IntKind.i64.wrap (a3 + v6))).bind fun x13 =>
      some (.inl (v6, ((s1.2.set (IntKind.i64.wrap (a3 + s1.1)).toNat x10).set (IntKind.i64.wrap (a3 + v6)).toNat x11)))
noncomputable def G.slices_siftDownOrdered_int_v0 (a0 : List Int) (a1 : Int) (a2 : Int) (a3 : Int) : Option (List Int) :=
  Iter (G.slices_siftDownOrdered_int_v0_l1 a2 a3) (a1, a0)
noncomputable def G.slices_heapSortOrdered_int_v0_l1 (a1 : Int) (a2 : Int) (s2 : Int × (List Int)) : Option ((Int × (List Int)) ⊕ (List Int)) :=
  if s2.1 ≥ (0 : Int) then
    (G.slices_siftDownOrdered_int_v0 s2.2 s2.1 (IntKind.i64.wrap (a2 - a1)) a1).bind fun y3 =>
    some (.inl ((IntKind.i64.wrap (s2.1 - (1 : Int))), y3))
  else
    some (.inr s2.2)
noncomputable def G.slices_heapSortOrdered_int_v0_l2 (a1 : Int) (s4 : Int × (List Int)) : Option ((Int × (List Int)) ⊕ (List Int)) :=
  if s4.1 ≥ (0 : Int) then
    (idx s4.2 (IntKind.i64.wrap (a1 + s4.1))).bind fun x5 =>
    (idx s4.2 a1).bind fun x6 =>
    (idx s4.2 a1).bind fun x7 =>
    (idx (s4.2.set a1.toNat x5) (IntKind.i64.wrap (a1 + s4.1))).bind fun x8 =>
    (G.slices_siftDownOrdered_int_v0 ((s4.2.set a1.toNat x5).set (IntKind.i64.wrap (a1 + s4.1)).toNat x6) (0 : Int) s4.1 a1).bind fun y9 =>
    some (.inl ((IntKind.i64.wrap (s4.1 - (1 : Int))), y9))
  else
    some (.inr s4.2)
noncomputable def G.slices_heapSortOrdered_int_v0 (a0 : List Int) (a1 : Int) (a2 : Int) : Option (List Int) :=
  (
    Iter (G.slices_heapSortOrdered_int_v0_l1 a1 a2) ((IntKind.i64.wrap (Int.tdiv (IntKind.i64.wrap ((IntKind.i64.wrap (a2 - a1)) - (1 : Int))) (2 : Int))), a0)).bind fun v1 =>
  Iter (G.slices_heapSortOrdered_int_v0_l2 a1) ((IntKind.i64.wrap ((IntKind.i64.wrap (a2 - a1)) - (1 : Int))), v1)
noncomputable def G.slices_breakPatternsOrdered_int_v0_l1 (a1 : Int) (a2 : Int) (y1 : Int) (s2 : Int × (List Int) × Int) : Option ((Int × (List Int) × Int) ⊕ (List Int)) :=
  if s2.1 ≤ (IntKind.i64.wrap ((IntKind.i64.wrap (a1 + (IntKind.i64.wrap ((IntKind.i64.wrap (Int.tdiv (IntKind.i64.wrap (a2 - a1)) (4 : Int))) * (2 : Int))))) + (1 : Int))) then
    (G.slices_xorshift_Next s2.2.2).bind fun y3 =>
    (
      if (IntKind.i64.wrap (band .u64 y3.1 (IntKind.u64.wrap (y1 - (1 : Int))))) ≥ (IntKind.i64.wrap (a2 - a1)) then
        some (IntKind.i64.wrap ((IntKind.i64.wrap (band .u64 y3.1 (IntKind.u64.wrap (y1 - (1 : Int))))) - (IntKind.i64.wrap (a2 - a1))))
      else
        some (IntKind.i64.wrap (band .u64 y3.1 (IntKind.u64.wrap (y1 - (1 : Int)))))).bind fun v4 =>
    (idx s2.2.1 (IntKind.i64.wrap (a1 + v4))).bind fun x5 =>
    (idx s2.2.1 s2.1).bind fun x6 =>
    (idx s2.2.1 s2.1).bind fun x7 =>
    (idx (s2.2.1.set s2.1.toNat x5) (IntKind.i64.wrap (a1 + v4))).bind fun x8 =>
    some (.inl ((IntKind.i64.wrap (s2.1 + (1 : Int))), ((s2.2.1.set s2.1.toNat x5).set (IntKind.i64.wrap (a1 + v4)).toNat x6), y3.2))
  else
    some (.inr s2.2.1)
noncomputable def G.slices_breakPatternsOrdered_int_v0 (a0 : List Int) (a1 : Int) (a2 : Int) : Option (List Int) :=
  if (IntKind.i64.wrap (a2 - a1)) ≥ (8 : Int) then
    (G.slices_nextPowerOfTwo (IntKind.i64.wrap (a2 - a1))).bind fun y1 =>
    Iter (G.slices_breakPatternsOrdered_int_v0_l1 a1 a2 y1) ((IntKind.i64.wrap ((IntKind.i64.wrap (a1 + (IntKind.i64.wrap ((IntKind.i64.wrap (Int.tdiv (IntKind.i64.wrap (a2 - a1)) (4 : Int))) * (2 : Int))))) - (1 : Int))), a0, (IntKind.u64.wrap (IntKind.i64.wrap (a2 - a1))))
  else
    some a0
noncomputable def G.slices_order2Ordered_int_v0 (a0 : List Int) (a1 : Int) (a2 : Int) (a3 : Int) : Option (Int × Int × Int) :=
  (idx a0 a2).bind fun x1 =>
  (idx a0 a1).bind fun x2 =>
  (G.cmp_Less_int x1 x2).bind fun y3 =>
  if y3 = true then
    some (a2, a1, (IntKind.i64.wrap (a3 + (1 : Int))))
  else
    some (a1, a2, a3)
noncomputable def G.slices_medianOrdered_int_v0 (a0 : List Int) (a1 : Int) (a2 : Int) (a3 : Int) (a4 : Int) : Option (Int × Int) :=
  (G.slices_order2Ordered_int_v0 a0 a1 a2 a4).bind fun y1 =>
  (G.slices_order2Ordered_int_v0 a0 y1.2.1 a3 y1.2.2).bind fun y2 =>
  (G.slices_order2Ordered_int_v0 a0 y1.1 y2.1 y2.2.2).bind fun y3 =>
  some (y3.2.1, y3.2.2)
noncomputable def G.slices_medianAdjacentOrdered_int_v0 (a0 : List Int) (a1 : Int) (a2 : Int) : Option (Int × Int) :=
  (G.slices_medianOrdered_int_v0 a0 (IntKind.i64.wrap (a1 - (1 : Int))) a1 (IntKind.i64.wrap (a1 + (1 : Int))) a2).bind fun y1 =>
  some (y1.1, y1.2)
noncomputable def G.slices_choosePivotOrdered_int_v0 (a0 : List Int) (a1 : Int) (a2 : Int) : Option (Int × Int) :=
  (
    if (IntKind.i64.wrap (a2 - a1)) ≥ (8 : Int) then
      (
        if (IntKind.i64.wrap (a2 - a1)) ≥ (50 : Int) then
          (G.slices_medianAdjacentOrdered_int_v0 a0 (IntKind.i64.wrap (a1 + (IntKind.i64.wrap ((IntKind.i64.wrap (Int.tdiv (IntKind.i64.wrap (a2 - a1)) (4 : Int))) * (1 : Int))))) (0 : Int)).bind fun y3 =>
          (G.slices_medianAdjacentOrdered_int_v0 a0 (IntKind.i64.wrap (a1 + (IntKind.i64.wrap ((IntKind.i64.wrap (Int.tdiv (IntKind.i64.wrap (a2 - a1)) (4 : Int))) * (2 : Int))))) y3.2).bind fun y4 =>
          (G.slices_medianAdjacentOrdered_int_v0 a0 (IntKind.i64.wrap (a1 + (IntKind.i64.wrap ((IntKind.i64.wrap (Int.tdiv (IntKind.i64.wrap (a2 - a1)) (4 : Int))) * (3 : Int))))) y4.2).bind fun y5 =>
          some (y3.1, y4.1, y5.1, y5.2)
        else
          some ((IntKind.i64.wrap (a1 + (IntKind.i64.wrap ((IntKind.i64.wrap (Int.tdiv (IntKind.i64.wrap (a2 - a1)) (4 : Int))) * (1 : Int))))), (IntKind.i64.wrap (a1 + (IntKind.i64.wrap ((IntKind.i64.wrap (Int.tdiv (IntKind.i64.wrap (a2 - a1)) (4 : Int))) * (2 : Int))))), (IntKind.i64.wrap (a1 + (IntKind.i64.wrap ((IntKind.i64.wrap (Int.tdiv (IntKind.i64.wrap (a2 - a1)) (4 : Int))) * (3 : Int))))), (0 : Int))).bind fun v2 =>
      (G.slices_medianOrdered_int_v0 a0 v2.1 v2.2.1 v2.2.2.1 v2.2.2.2).bind fun y6 =>
      some (y6.1, y6.2)
    else
      some ((IntKind.i64.wrap (a1 + (IntKind.i64.wrap ((IntKind.i64.wrap (Int.tdiv (IntKind.i64.wrap (a2 - a1)) (4 : Int))) * (2 : Int))))), (0 : Int))).bind fun v1 =>
  if v1.2 = (0 : Int) then
    some (v1.1, (1 : Int))
  else
    if v1.2 = (12 : Int) then
      some (v1.1, (2 : Int))
    else
      some (v1.1, (0 : Int))
noncomputable def G.slices_reverseRangeOrdered_int_v0_l1 (s1 : Int × Int × (List Int)) : Option ((Int × Int × (List Int)) ⊕ (List Int)) :=
  if s1.1 < s1.2.1 then
    (idx s1.2.2 s1.2.1).bind fun x2 =>
    (idx s1.2.2 s1.1).bind fun x3 =>
    (idx s1.2.2 s1.1).bind fun x4 =>
    (idx (s1.2.2.set s1.1.toNat x2) s1.2.1).bind fun x5 =>
    some (.inl ((IntKind.i64.wrap (s1.1 + (1 : Int))), (IntKind.i64.wrap (s1.2.1 - (1 : Int))), ((s1.2.2.set s1.1.toNat x2).set s1.2.1.toNat x3)))
  else
    some (.inr s1.2.2)
noncomputable def G.slices_reverseRangeOrdered_int_v0 (a0 : List Int) (a1 : Int) (a2 : Int) : Option (List Int) :=
  Iter G.slices_reverseRangeOrdered_int_v0_l1 (a1, (IntKind.i64.wrap (a2 - (1 : Int))), a0)
noncomputable def G.slices_partialInsertionSortOrdered_int_v0_l2 (a2 : Int) (s1 : Int × Int × (List Int)) (s3 : Int) : Option (Int ⊕ Int) :=
  (
    if s3 < a2 then
      (idx s1.2.2 s3).bind fun x5 =>
      (idx s1.2.2 (IntKind.i64.wrap (s3 - (1 : Int)))).bind fun x6 =>
      (G.cmp_Less_int x5 x6).bind fun y7 =>
      some (!y7)
    else
      some false).bind fun v4 =>
  if v4 = true then
    some (.inl (IntKind.i64.wrap (s3 + (1 : Int))))
  else
    some (.inr s3)
noncomputable def G.slices_partialInsertionSortOrdered_int_v0_l3 (s13 : Int × (List Int)) : Option ((Int × (List Int)) ⊕ (List Int)) :=
  if s13.1 ≥ (1 : Int) then
    (idx s13.2 s13.1).bind fun x14 =>
    (idx s13.2 (IntKind.i64.wrap (s13.1 - (1 : Int)))).bind fun x15 =>
    (G.cmp_Less_int x14 x15).bind fun y16 =>
    if y16 = false then
      some (.inr s13.2)
    else
      (idx s13.2 (IntKind.i64.wrap (s13.1 - (1 : Int)))).bind fun x17 =>
      (idx s13.2 s13.1).bind fun x18 =>
      (idx s13.2 s13.1).bind fun x19 =>
      (idx (s13.2.set s13.1.toNat x17) (IntKind.i64.wrap (s13.1 - (1 : Int)))).bind fun x20 =>
      some (.inl ((IntKind.i64.wrap (s13.1 - (1 : Int))), ((s13.2.set s13.1.toNat x17).set (IntKind.i64.wrap (s13.1 - (1 : Int))).toNat x18)))
  else
    some (.inr s13.2)
noncomputable def G.slices_partialInsertionSortOrdered_int_v0_l4 (a2 : Int) (s1 : Int × Int × (List Int)) (v2 : Int) (s21 : Int × (List Int)) : Option ((Int × (List Int)) ⊕ ((Int × Int × (List Int)) ⊕ (Bool × (List Int)))) :=
  if s21.1 < a2 then
    (idx s21.2 s21.1).bind fun x22 =>
    (idx s21.2 (IntKind.i64.wrap (s21.1 - (1 : Int)))).bind fun x23 =>
    (G.cmp_Less_int x22 x23).bind fun y24 =>
    if y24 = false then
      some (.inr (.inl (v2, (IntKind.i64.wrap (s1.2.1 + (1 : Int))), s21.2)))
    else
      (idx s21.2 (IntKind.i64.wrap (s21.1 - (1 : Int)))).bind fun x25 =>
      (idx s21.2 s21.1).bind fun x26 =>
      (idx s21.2 s21.1).bind fun x27 =>
      (idx (s21.2.set s21.1.toNat x25) (IntKind.i64.wrap (s21.1 - (1 : Int)))).bind fun x28 =>
      some (.inl ((IntKind.i64.wrap (s21.1 + (1 : Int))), ((s21.2.set s21.1.toNat x25).set (IntKind.i64.wrap (s21.1 - (1 : Int))).toNat x26)))
  else
    some (.inr (.inl (v2, (IntKind.i64.wrap (s1.2.1 + (1 : Int))), s21.2)))
noncomputable def G.slices_partialInsertionSortOrdered_int_v0_l1 (a1 : Int) (a2 : Int) (s1 : Int × Int × (List Int)) : Option ((Int × Int × (List Int)) ⊕ (Bool × (List Int))) :=
  if s1.2.1 < (5 : Int) then
    (
      Iter (G.slices_partialInsertionSortOrdered_int_v0_l2 a2 s1) s1.1).bind fun v2 =>
    if v2 = a2 then
      some (.inr (true, s1.2.2))
    else
      if (IntKind.i64.wrap (a2 - a1)) < (50 : Int) then
        some (.inr (false, s1.2.2))
      else
        (idx s1.2.2 (IntKind.i64.wrap (v2 - (1 : Int)))).bind fun x8 =>
        (idx s1.2.2 v2).bind fun x9 =>
        (idx s1.2.2 v2).bind fun x10 =>
        (idx (s1.2.2.set v2.toNat x8) (IntKind.i64.wrap (v2 - (1 : Int)))).bind fun x11 =>
        (
          if (IntKind.i64.wrap (v2 - a1)) ≥ (2 : Int) then
            Iter G.slices_partialInsertionSortOrdered_int_v0_l3 ((IntKind.i64.wrap (v2 - (1 : Int))), ((s1.2.2.set v2.toNat x8).set (IntKind.i64.wrap (v2 - (1 : Int))).toNat x9))
          else
            some ((s1.2.2.set v2.toNat x8).set (IntKind.i64.wrap (v2 - (1 : Int))).toNat x9)).bind fun v12 =>
        if (IntKind.i64.wrap (a2 - v2)) ≥ (2 : Int) then
          Iter (G.slices_partialInsertionSortOrdered_int_v0_l4 a2 s1 v2) ((IntKind.i64.wrap (v2 + (1 : Int))), v12)
        else
          some (.inl (v2, (IntKind.i64.wrap (s1.2.1 + (1 : Int))), v12))
  else
    some (.inr (false, s1.2.2))
noncomputable def G.slices_partialInsertionSortOrdered_int_v0 (a0 : List Int) (a1 : Int) (a2 : Int) : Option (Bool × (List Int)) :=
  Iter (G.slices_partialInsertionSortOrdered_int_v0_l1 a1 a2) ((IntKind.i64.wrap (a1 + (1 : Int))), (0 : Int), a0)
noncomputable def G.slices_partitionEqualOrdered_int_v0_l2 (a1 : Int) (s5 : Int × Int × (List Int)) (s7 : Int) : Option (Int ⊕ Int) :=
  (
    if s7 ≤ s5.2.1 then
      (idx s5.2.2 a1).bind fun x9 =>
      (idx s5.2.2 s7).bind fun x10 =>
      (G.cmp_Less_int x9 x10).bind fun y11 =>
      some (!y11)
    else
      some false).bind fun v8 =>
  if v8 = true then
    some (.inl (IntKind.i64.wrap (s7 + (1 : Int))))
  else
    some (.inr s7)
noncomputable def G.slices_partitionEqualOrdered_int_v0_l3 (a1 : Int) (s5 : Int × Int × (List Int)) (v6 : Int) (s13 : Int) : Option (Int ⊕ Int) :=
  (
    if v6 ≤ s13 then
      (idx s5.2.2 a1).bind fun x15 =>
      (idx s5.2.2 s13).bind fun x16 =>
      (G.cmp_Less_int x15 x16).bind fun y17 =>
      some y17
    else
      some false).bind fun v14 =>
  if v14 = true then
    some (.inl (IntKind.i64.wrap (s13 - (1 : Int))))
  else
    some (.inr s13)
noncomputable def G.slices_partitionEqualOrdered_int_v0_l1 (a1 : Int) (s5 : Int × Int × (List Int)) : Option ((Int × Int × (List Int)) ⊕ (Int × (List Int))) :=
  (
    Iter (G.slices_partitionEqualOrdered_int_v0_l2 a1 s5) s5.1).bind fun v6 =>
  (
    Iter (G.slices_partitionEqualOrdered_int_v0_l3 a1 s5 v6) s5.2.1).bind fun v12 =>
  if v6 > v12 then
    some (.inr (v6, s5.2.2))
  else
    (idx s5.2.2 v12).bind fun x18 =>
    (idx s5.2.2 v6).bind fun x19 =>
    (idx s5.2.2 v6).bind fun x20 =>
    (idx (s5.2.2.set v6.toNat x18) v12).bind fun x21 =>
    some (.inl ((IntKind.i64.wrap (v6 + (1 : Int))), (IntKind.i64.wrap (v12 - (1 : Int))), ((s5.2.2.set v6.toNat x18).set v12.toNat x19)))
noncomputable def G.slices_partitionEqualOrdered_int_v0 (a0 : List Int) (a1 : Int) (a2 : Int) (a3 : Int) : Option (Int × (List Int)) :=
  (idx a0 a3).bind fun x1 =>
  (idx a0 a1).bind fun x2 =>
  (idx a0 a1).bind fun x3 =>
  (idx (a0.set a1.toNat x1) a3).bind fun x4 =>
  Iter (G.slices_partitionEqualOrdered_int_v0_l1 a1) ((IntKind.i64.wrap (a1 + (1 : Int))), (IntKind.i64.wrap (a2 - (1 : Int))), ((a0.set a1.toNat x1).set a3.toNat x2))
noncomputable def G.slices_partitionOrdered_int_v0_l1 (a0 : (List Int)) (a1 : Int) (a2 : Int) (a3 : Int) (x1 : Int) (x2 : Int) (s6 : Int) : Option (Int ⊕ Int) :=
  (
    if s6 ≤ (IntKind.i64.wrap (a2 - (1 : Int))) then
      (idx ((a0.set a1.toNat x1).set a3.toNat x2) s6).bind fun x8 =>
      (idx ((a0.set a1.toNat x1).set a3.toNat x2) a1).bind fun x9 =>
      (G.cmp_Less_int x8 x9).bind fun y10 =>
      some y10
    else
      some false).bind fun v7 =>
  if v7 = true then
    some (.inl (IntKind.i64.wrap (s6 + (1 : Int))))
  else
    some (.inr s6)
noncomputable def G.slices_partitionOrdered_int_v0_l2 (a0 : (List Int)) (a1 : Int) (a3 : Int) (x1 : Int) (x2 : Int) (v5 : Int) (s12 : Int) : Option (Int ⊕ Int) :=
  (
    if v5 ≤ s12 then
      (idx ((a0.set a1.toNat x1).set a3.toNat x2) s12).bind fun x14 =>
      (idx ((a0.set a1.toNat x1).set a3.toNat x2) a1).bind fun x15 =>
      (G.cmp_Less_int x14 x15).bind fun y16 =>
      some (!y16)
    else
      some false).bind fun v13 =>
  if v13 = true then
    some (.inl (IntKind.i64.wrap (s12 - (1 : Int))))
  else
    some (.inr s12)
noncomputable def G.slices_partitionOrdered_int_v0_l4 (a1 : Int) (s26 : Int × Int × (List Int)) (s28 : Int) : Option (Int ⊕ Int) :=
  (
    if s28 ≤ s26.2.1 then
      (idx s26.2.2 s28).bind fun x30 =>
      (idx s26.2.2 a1).bind fun x31 =>
      (G.cmp_Less_int x30 x31).bind fun y32 =>
      some y32
    else
      some false).bind fun v29 =>
  if v29 = true then
    some (.inl (IntKind.i64.wrap (s28 + (1 : Int))))
  else
    some (.inr s28)
noncomputable def G.slices_partitionOrdered_int_v0_l5 (a1 : Int) (s26 : Int × Int × (List Int)) (v27 : Int) (s34 : Int) : Option (Int ⊕ Int) :=
  (
    if v27 ≤ s34 then
      (idx s26.2.2 s34).bind fun x36 =>
      (idx s26.2.2 a1).bind fun x37 =>
      (G.cmp_Less_int x36 x37).bind fun y38 =>
      some (!y38)
    else
      some false).bind fun v35 =>
  if v35 = true then
    some (.inl (IntKind.i64.wrap (s34 - (1 : Int))))
  else
    some (.inr s34)
noncomputable def G.slices_partitionOrdered_int_v0_l3 (a1 : Int) (s26 : Int × Int × (List Int)) : Option ((Int × Int × (List Int)) ⊕ (Int × (List Int))) :=
  (
    Iter (G.slices_partitionOrdered_int_v0_l4 a1 s26) s26.1).bind fun v27 =>
  (
    Iter (G.slices_partitionOrdered_int_v0_l5 a1 s26 v27) s26.2.1).bind fun v33 =>
  if v27 > v33 then
    some (.inr (v33, s26.2.2))
  else
    (idx s26.2.2 v33).bind fun x39 =>
    (idx s26.2.2 v27).bind fun x40 =>
    (idx s26.2.2 v27).bind fun x41 =>
    (idx (s26.2.2.set v27.toNat x39) v33).bind fun x42 =>
    some (.inl ((IntKind.i64.wrap (v27 + (1 : Int))), (IntKind.i64.wrap (v33 - (1 : Int))), ((s26.2.2.set v27.toNat x39).set v33.toNat x40)))
noncomputable def G.slices_partitionOrdered_int_v0 (a0 : List Int) (a1 : Int) (a2 : Int) (a3 : Int) : Option (Int × Bool × (List Int)) :=
  (idx a0 a3).bind fun x1 =>
  (idx a0 a1).bind fun x2 =>
  (idx a0 a1).bind fun x3 =>
  (idx (a0.set a1.toNat x1) a3).bind fun x4 =>
  (
    Iter (G.slices_partitionOrdered_int_v0_l1 a0 a1 a2 a3 x1 x2) (IntKind.i64.wrap (a1 + (1 : Int)))).bind fun v5 =>
  (
    Iter (G.slices_partitionOrdered_int_v0_l2 a0 a1 a3 x1 x2 v5) (IntKind.i64.wrap (a2 - (1 : Int)))).bind fun v11 =>
  if v5 > v11 then
    (idx ((a0.set a1.toNat x1).set a3.toNat x2) a1).bind fun x17 =>
    (idx ((a0.set a1.toNat x1).set a3.toNat x2) v11).bind fun x18 =>
    (idx ((a0.set a1.toNat x1).set a3.toNat x2) v11).bind fun x19 =>
    (idx (((a0.set a1.toNat x1).set a3.toNat x2).set v11.toNat x17) a1).bind fun x20 =>
    some (v11, true, ((((a0.set a1.toNat x1).set a3.toNat x2).set v11.toNat x17).set a1.toNat x18))
  else
    (idx ((a0.set a1.toNat x1).set a3.toNat x2) v11).bind fun x21 =>
    (idx ((a0.set a1.toNat x1).set a3.toNat x2) v5).bind fun x22 =>
    (idx ((a0.set a1.toNat x1).set a3.toNat x2) v5).bind fun x23 =>
    (idx (((a0.set a1.toNat x1).set a3.toNat x2).set v5.toNat x21) v11).bind fun x24 =>
    (
      Iter (G.slices_partitionOrdered_int_v0_l3 a1) ((IntKind.i64.wrap (v5 + (1 : Int))), (IntKind.i64.wrap (v11 - (1 : Int))), ((((a0.set a1.toNat x1).set a3.toNat x2).set v5.toNat x21).set v11.toNat x22))).bind fun v25 =>
    (idx v25.2 a1).bind fun x43 =>
    (idx v25.2 v25.1).bind fun x44 =>
    (idx v25.2 v25.1).bind fun x45 =>
    (idx (v25.2.set v25.1.toNat x43) a1).bind fun x46 =>
    some (v25.1, false, ((v25.2.set v25.1.toNat x43).set a1.toNat x44))
noncomputable def G.slices_pdqsortOrdered_int_v0_l1 (fx : ((List Int) × Int × Int × Int) → Option (List Int)) (s1 : Int × Int × Int × Bool × Bool × (List Int)) : Option ((Int × Int × Int × Bool × Bool × (List Int)) ⊕ (List Int)) :=
  if (IntKind.i64.wrap (s1.2.1 - s1.1)) ≤ (12 : Int) then
    (G.slices_insertionSortOrdered_int_v0 s1.2.2.2.2.2 s1.1 s1.2.1).bind fun y2 =>
    some (.inr y2)
  else
    if s1.2.2.1 = (0 : Int) then
      (G.slices_heapSortOrdered_int_v0 s1.2.2.2.2.2 s1.1 s1.2.1).bind fun y3 =>
      some (.inr y3)
    else
      (
        if s1.2.2.2.1 = false then
          (G.slices_breakPatternsOrdered_int_v0 s1.2.2.2.2.2 s1.1 s1.2.1).bind fun y5 =>
          some ((IntKind.i64.wrap (s1.2.2.1 - (1 : Int))), y5)
        else
          some (s1.2.2.1, s1.2.2.2.2.2)).bind fun v4 =>
      (G.slices_choosePivotOrdered_int_v0 v4.2 s1.1 s1.2.1).bind fun y6 =>
      (
        if y6.2 = (2 : Int) then
          (G.slices_reverseRangeOrdered_int_v0 v4.2 s1.1 s1.2.1).bind fun y8 =>
          some ((IntKind.i64.wrap ((IntKind.i64.wrap (s1.2.1 - (1 : Int))) - (IntKind.i64.wrap (y6.1 - s1.1)))), (1 : Int), y8)
        else
          some (y6.1, y6.2, v4.2)).bind fun v7 =>
      (
        if s1.2.2.2.1 = true then
          if s1.2.2.2.2.1 = true then
            some (v7.2.1 == (1 : Int))
          else
            some false
        else
          some false).bind fun v9 =>
      ((
        if v9 = true then
          (G.slices_partialInsertionSortOrdered_int_v0 v7.2.2 s1.1 s1.2.1).bind fun y12 =>
          if y12.1 = true then
            some (.inr (.inr y12.2))
          else
            some (.inl y12.2)
        else
          some (.inl v7.2.2)) : Option ((List Int) ⊕ ((Int × Int × Int × Bool × Bool × (List Int)) ⊕ (List Int)))).bind fun v10 => joinK v10 fun u11 =>
      (
        if s1.1 > (0 : Int) then
          (idx u11 (IntKind.i64.wrap (s1.1 - (1 : Int)))).bind fun x14 =>
          (idx u11 v7.1).bind fun x15 =>
          (G.cmp_Less_int x14 x15).bind fun y16 =>
          some (!y16)
        else
          some false).bind fun v13 =>
      if v13 = true then
        (G.slices_partitionEqualOrdered_int_v0 u11 s1.1 s1.2.1 v7.1).bind fun y17 =>
        some (.inl (y17.1, s1.2.1, v4.1, s1.2.2.2.1, s1.2.2.2.2.1, y17.2))
      else
        (G.slices_partitionOrdered_int_v0 u11 s1.1 s1.2.1 v7.1).bind fun y18 =>
        if (IntKind.i64.wrap (y18.1 - s1.1)) < (IntKind.i64.wrap (s1.2.1 - y18.1)) then
          (fx (y18.2.2, s1.1, y18.1, v4.1)).bind fun y19 =>
          some (.inl ((IntKind.i64.wrap (y18.1 + (1 : Int))), s1.2.1, v4.1, (decide ((IntKind.i64.wrap (y18.1 - s1.1)) ≥ (IntKind.i64.wrap (Int.tdiv (IntKind.i64.wrap (s1.2.1 - s1.1)) (8 : Int))))), y18.2.1, y19))
        else
          (fx (y18.2.2, (IntKind.i64.wrap (y18.1 + (1 : Int))), s1.2.1, v4.1)).bind fun y20 =>
          some (.inl (s1.1, y18.1, v4.1, (decide ((IntKind.i64.wrap (s1.2.1 - y18.1)) ≥ (IntKind.i64.wrap (Int.tdiv (IntKind.i64.wrap (s1.2.1 - s1.1)) (8 : Int))))), y18.2.1, y20))
noncomputable def G.slices_pdqsortOrdered_int_v0_b (fx : ((List Int) × Int × Int × Int) → Option (List Int)) (a0 : List Int) (a1 : Int) (a2 : Int) (a3 : Int) : Option (List Int) :=
  Iter (G.slices_pdqsortOrdered_int_v0_l1 fx) (a1, a2, a3, true, true, a0)
noncomputable def G.slices_pdqsortOrdered_int_v0_F (fx : ((List Int) × Int × Int × Int) → Option (List Int)) (x : (List Int) × Int × Int × Int) : Option (List Int) := G.slices_pdqsortOrdered_int_v0_b fx x.1 x.2.1 x.2.2.1 x.2.2.2
noncomputable def G.slices_pdqsortOrdered_int_v0 (a0 : List Int) (a1 : Int) (a2 : Int) (a3 : Int) : Option (List Int) := Fix G.slices_pdqsortOrdered_int_v0_F (a0, a1, a2, a3)
noncomputable def G.slices_Sort_int_int_v0 (a0 : List Int) : Option (List Int) :=
  (G.math_bits_Len (IntKind.u64.wrap (a0.length : Int))).bind fun y1 =>
  (G.slices_pdqsortOrdered_int_v0 a0 (0 : Int) (a0.length : Int) y1).bind fun y2 =>
  some y2
noncomputable def G.slices_Sorted_int_slices_Values_int_int_1 (a0 : List Int) : Option (List Int) :=
  (G.slices_Collect_int_slices_Values_int_int_1 a0).bind fun y1 =>
  (G.slices_Sort_int_int_v0 y1).bind fun y2 =>
  some y2
noncomputable def G.digraph_Graph_Out (a0 : Int) (a1 : Int) (a2 : List (G.digraph_Edge × Bool)) (a3 : List (Int × (List Int))) (a4 : List (Int × (List Int))) : Option (List Int) :=
  (G.slices_Values_int_int ((mget intEq a3 a0).getD [])).bind fun y1 =>
  (G.slices_Sorted_int_slices_Values_int_int_1 y1).bind fun y2 =>
  some y2
noncomputable def G.conflict_Violations_1 (a0 : Int) (a1 : List Int) (a2 : List (Int × Int)) : Option Int :=
  if (mget intEq a2 a0).isSome = true then
    some ((mget intEq a2 a0).getD (0 : Int))
  else
    some (a1.length : Int)
noncomputable def G.conflict_Violations_l2 (a1 : (List Int)) (y2 : (List (Int × Int))) (s4 : (List G.digraph_Edge) × Int) (y5 : (List Int)) (s6 : (List G.digraph_Edge) × Int) : Option (((List G.digraph_Edge) × Int) ⊕ (((List G.digraph_Edge) × Int) ⊕ (List G.digraph_Edge))) :=
  if s6.2 < (y5.length : Int) then
    (idx y5 s6.2).bind fun x7 =>
    (G.conflict_Violations_1 x7 a1 y2).bind fun y8 =>
    (G.conflict_Violations_1 s4.2 a1 y2).bind fun y9 =>
    if y8 < y9 then
      (app 16 s6.1 [(⟨s4.2, x7⟩ : G.digraph_Edge)]).bind fun y10 =>
      some (.inl (y10, (IntKind.i64.wrap (s6.2 + (1 : Int)))))
    else
      some (.inl (s6.1, (IntKind.i64.wrap (s6.2 + (1 : Int)))))
  else
    some (.inr (.inl (s6.1, (IntKind.i64.wrap (s4.2 + (1 : Int))))))
noncomputable def G.conflict_Violations_l1 (a0 : (List G.Command)) (a1 : (List Int)) (y2 : (List (Int × Int))) (y3 : Int × (List (G.digraph_Edge × Bool)) × (List (Int × (List Int))) × (List (Int × (List Int)))) (s4 : (List G.digraph_Edge) × Int) : Option (((List G.digraph_Edge) × Int) ⊕ (List G.digraph_Edge)) :=
  if s4.2 < (a0.length : Int) then
    (G.digraph_Graph_Out s4.2 y3.1 y3.2.1 y3.2.2.1 y3.2.2.2).bind fun y5 =>
    Iter (G.conflict_Violations_l2 a1 y2 s4 y5) (s4.1, (0 : Int))
  else
    some (.inr s4.1)
noncomputable def G.conflict_Violations (a0 : List G.Command) (a1 : List Int) : Option (List G.digraph_Edge) :=
  (G.slices_Backward_int_int a1).bind fun y1 =>
  (G.slices_Backward_int_int_1_conflict_Violations y1 ([] : List (Int × Int))).bind fun y2 =>
  (G.conflict_Graph a0).bind fun y3 =>
  Iter (G.conflict_Violations_l1 a0 a1 y2 y3) (([] : List G.digraph_Edge), (0 : Int))
noncomputable def G.graftref12_place_l1 (a0 : (List Int)) (a1 : Int) (s1 : Int) : Option (Int ⊕ Int) :=
  if s1 < (a0.length : Int) then
    (idx a0 s1).bind fun x2 =>
    if x2 = a1 then
      some (.inr s1)
    else
      some (.inl (IntKind.i64.wrap (s1 + (1 : Int))))
  else
    some (.inr (a0.length : Int))
noncomputable def G.graftref12_place (a0 : List Int) (a1 : Int) : Option Int :=
  Iter (G.graftref12_place_l1 a0 a1) (0 : Int)
noncomputable def G.graftref12_Violations_l1 (a1 : (List Int)) (y1 : Int × (List G.graftref11_Edge)) (s2 : (List G.graftref11_Edge) × Int) : Option (((List G.graftref11_Edge) × Int) ⊕ (List G.graftref11_Edge)) :=
  if s2.2 < (y1.2.length : Int) then
    (idx y1.2 s2.2).bind fun x3 =>
    (G.graftref12_place a1 x3.to).bind fun y4 =>
    (idx y1.2 s2.2).bind fun x5 =>
    (G.graftref12_place a1 x5.from_).bind fun y6 =>
    if y4 < y6 then
      (idx y1.2 s2.2).bind fun x7 =>
      (app 16 s2.1 [x7]).bind fun y8 =>
      some (.inl (y8, (IntKind.i64.wrap (s2.2 + (1 : Int)))))
    else
      some (.inl (s2.1, (IntKind.i64.wrap (s2.2 + (1 : Int)))))
  else
    some (.inr s2.1)
noncomputable def G.graftref12_Violations (a0 : List G.Command) (a1 : List Int) : Option (List G.graftref11_Edge) :=
  (G.graftref12_Graph a0).bind fun y1 =>
  Iter (G.graftref12_Violations_l1 a1 y1) (([] : List G.graftref11_Edge), (0 : Int))
noncomputable def G.graftlaw12_edges_l1 (a0 : (List G.graftref11_Edge)) (s1 : (List G.digraph_Edge) × Int) : Option (((List G.digraph_Edge) × Int) ⊕ (List G.digraph_Edge)) :=
  if s1.2 < (a0.length : Int) then
    (idx a0 s1.2).bind fun x2 =>
    (app 16 s1.1 [(⟨x2.from_, x2.to⟩ : G.digraph_Edge)]).bind fun y3 =>
    some (.inl (y3, (IntKind.i64.wrap (s1.2 + (1 : Int)))))
  else
    some (.inr s1.1)
noncomputable def G.graftlaw12_edges (a0 : List G.graftref11_Edge) : Option (List G.digraph_Edge) :=
  Iter (G.graftlaw12_edges_l1 a0) (([] : List G.digraph_Edge), (0 : Int))
noncomputable def G.slices_Equal_digraph_Edge_digraph_Edge_l1 (a0 : (List G.digraph_Edge)) (a1 : (List G.digraph_Edge)) (s1 : Int) : Option (Int ⊕ Bool) :=
  if s1 < (a0.length : Int) then
    (idx a0 s1).bind fun x2 =>
    (idx a1 s1).bind fun x3 =>
    if (decide (x2.from_ = x3.from_ ∧ x2.to = x3.to)) = false then
      some (.inr false)
    else
      some (.inl (IntKind.i64.wrap (s1 + (1 : Int))))
  else
    some (.inr true)
noncomputable def G.slices_Equal_digraph_Edge_digraph_Edge (a0 : List G.digraph_Edge) (a1 : List G.digraph_Edge) : Option Bool :=
  if (a0.length : Int) ≠ (a1.length : Int) then
    some false
  else
    Iter (G.slices_Equal_digraph_Edge_digraph_Edge_l1 a0 a1) (0 : Int)
noncomputable def G.graftlaw12_ConflictViolations (a0 : List G.Command) (a1 : List Int) : Option Bool :=
  (
    (G.graftref12_Right a0).bind fun y2 =>
    if y2 = false then
      some true
    else
      some (decide ((a1.length : Int) > (60 : Int)))).bind fun v1 =>
  if v1 = true then
    (G.graftlaw12_alive).bind fun y3 =>
    some y3
  else
    (G.graftlaw12_alive).bind fun y4 =>
    if y4 = true then
      (G.conflict_Violations a0 a1).bind fun y5 =>
      (G.graftref12_Violations a0 a1).bind fun y6 =>
      (G.graftlaw12_edges y6).bind fun y7 =>
      (G.slices_Equal_digraph_Edge_digraph_Edge y5 y7).bind fun y8 =>
      some y8
    else
      some false
noncomputable def G.slices_Backward_int_int_v0 (a0 : List Int) : Option Unit :=
  some ()
noncomputable def G.slices_Backward_int_int_1_conflict_Violationsx_l1 (a0 : (List Int)) (s1 : Int × (List (Int × Int))) : Option ((Int × (List (Int × Int))) ⊕ (List (Int × Int))) :=
  if s1.1 ≥ (0 : Int) then
    (idx a0 s1.1).bind fun x2 =>
    (G.conflict_Violations_b1 s1.1 x2 s1.2).bind fun y3 =>
    some (.inl ((IntKind.i64.wrap (s1.1 - (1 : Int))), y3))
  else
    some (.inr s1.2)
noncomputable def G.slices_Backward_int_int_1_conflict_Violationsx (a0 : List Int) (a1 : List (Int × Int)) : Option (List (Int × Int)) :=
  Iter (G.slices_Backward_int_int_1_conflict_Violationsx_l1 a0) ((IntKind.i64.wrap ((a0.length : Int) - (1 : Int))), a1)
noncomputable def G.conflict_Violations_1x (a0 : Int) (a1 : List Int) (a2 : List (Int × Int)) : Option Int :=
  if (mget intEq a2 a0).isSome = true then
    some ((mget intEq a2 a0).getD (0 : Int))
  else
    some (a1.length : Int)
noncomputable def G.conflict_Violations_v1_l2 (a1 : (List Int)) (y2 : (List (Int × Int))) (s4 : (List G.digraph_Edge) × Int) (y5 : (List Int)) (s6 : (List G.digraph_Edge) × Int) : Option (((List G.digraph_Edge) × Int) ⊕ (((List G.digraph_Edge) × Int) ⊕ (List G.digraph_Edge))) :=
  if s6.2 < (y5.length : Int) then
    (idx y5 s6.2).bind fun x7 =>
    (G.conflict_Violations_1x x7 a1 y2).bind fun y8 =>
    (G.conflict_Violations_1x s4.2 a1 y2).bind fun y9 =>
    if y8 < y9 then
      (app 16 s6.1 [(⟨s4.2, x7⟩ : G.digraph_Edge)]).bind fun y10 =>
      some (.inl (y10, (IntKind.i64.wrap (s6.2 + (1 : Int)))))
    else
      some (.inl (s6.1, (IntKind.i64.wrap (s6.2 + (1 : Int)))))
  else
    some (.inr (.inl (s6.1, (IntKind.i64.wrap (s4.2 + (1 : Int))))))
noncomputable def G.conflict_Violations_v1_l1 (a0 : (List G.Command)) (a1 : (List Int)) (y2 : (List (Int × Int))) (y3 : Int × (List (G.digraph_Edge × Bool)) × (List (Int × (List Int))) × (List (Int × (List Int)))) (s4 : (List G.digraph_Edge) × Int) : Option (((List G.digraph_Edge) × Int) ⊕ (List G.digraph_Edge)) :=
  if s4.2 < (a0.length : Int) then
    (G.digraph_Graph_Out s4.2 y3.1 y3.2.1 y3.2.2.1 y3.2.2.2).bind fun y5 =>
    Iter (G.conflict_Violations_v1_l2 a1 y2 s4 y5) (s4.1, (0 : Int))
  else
    some (.inr s4.1)
noncomputable def G.conflict_Violations_v1 (a0 : List G.Command) (a1 : List Int) : Option (List G.digraph_Edge) :=
  (G.slices_Backward_int_int_v0 a1).bind fun y1 =>
  (G.slices_Backward_int_int_1_conflict_Violationsx a1 ([] : List (Int × Int))).bind fun y2 =>
  (G.conflict_Graph a0).bind fun y3 =>
  Iter (G.conflict_Violations_v1_l1 a0 a1 y2 y3) (([] : List G.digraph_Edge), (0 : Int))
noncomputable def G.slices_Reverse_int_int_v0_l1 (s1 : Int × Int × (List Int)) : Option ((Int × Int × (List Int)) ⊕ (List Int)) :=
  if s1.1 < s1.2.1 then
    (idx s1.2.2 s1.2.1).bind fun x2 =>
    (idx s1.2.2 s1.1).bind fun x3 =>
    (idx s1.2.2 s1.1).bind fun x4 =>
    (idx (s1.2.2.set s1.1.toNat x2) s1.2.1).bind fun x5 =>
    some (.inl ((IntKind.i64.wrap (s1.1 + (1 : Int))), (IntKind.i64.wrap (s1.2.1 - (1 : Int))), ((s1.2.2.set s1.1.toNat x2).set s1.2.1.toNat x3)))
  else
    some (.inr s1.2.2)
noncomputable def G.slices_Reverse_int_int_v0 (a0 : List Int) : Option (List Int) :=
  Iter G.slices_Reverse_int_int_v0_l1 ((0 : Int), (IntKind.i64.wrap ((a0.length : Int) - (1 : Int))), a0)
noncomputable def G.slices_Index_digraph_Edge_digraph_Edge_l1 (a0 : (List G.digraph_Edge)) (a1 : G.digraph_Edge) (s1 : Int) : Option (Int ⊕ Int) :=
  if s1 < (a0.length : Int) then
    (idx a0 s1).bind fun x2 =>
    if a1.from_ = x2.from_ ∧ a1.to = x2.to then
      some (.inr s1)
    else
      some (.inl (IntKind.i64.wrap (s1 + (1 : Int))))
  else
    some (.inr (-1 : Int))
noncomputable def G.slices_Index_digraph_Edge_digraph_Edge (a0 : List G.digraph_Edge) (a1 : G.digraph_Edge) : Option Int :=
  Iter (G.slices_Index_digraph_Edge_digraph_Edge_l1 a0 a1) (0 : Int)
noncomputable def G.slices_Contains_digraph_Edge_digraph_Edge (a0 : List G.digraph_Edge) (a1 : G.digraph_Edge) : Option Bool :=
  (G.slices_Index_digraph_Edge_digraph_Edge a0 a1).bind fun y1 =>
  some (decide (y1 ≥ (0 : Int)))
noncomputable def G.graftlaw12_ConflictBack_l1 (a0 : (List G.Command)) (s4 : Int × (List Int)) : Option ((Int × (List Int)) ⊕ (List Int)) :=
  if s4.1 < (a0.length : Int) then
    (app 8 s4.2 [s4.1]).bind fun y5 =>
    some (.inl ((IntKind.i64.wrap (s4.1 + (1 : Int))), y5))
  else
    some (.inr s4.2)
noncomputable def G.graftlaw12_ConflictBack_l2 (y6 : (List G.digraph_Edge)) (y8 : (List G.digraph_Edge)) (y9 : Int × (List (G.digraph_Edge × Bool)) × (List (Int × (List Int))) × (List (Int × (List Int)))) (s12 : Int) : Option (Int ⊕ (Unit ⊕ Bool)) :=
  if s12 < (y6.length : Int) then
    (idx y6 s12).bind fun x13 =>
    (
      (G.digraph_Graph_Has x13 y9.1 y9.2.1 y9.2.2.1 y9.2.2.2).bind fun y15 =>
      if y15 = false then
        some true
      else
        (G.slices_Contains_digraph_Edge_digraph_Edge y8 x13).bind fun y16 =>
        if y16 = true then
          some true
        else
          some (decide (x13.to > x13.from_))).bind fun v14 =>
    if v14 = true then
      some (.inr (.inr false))
    else
      some (.inl (IntKind.i64.wrap (s12 + (1 : Int))))
  else
    some (.inr (.inl ()))
noncomputable def G.graftlaw12_ConflictBack (a0 : List G.Command) : Option Bool :=
  (G.graftref12_Right a0).bind fun y1 =>
  if y1 = false then
    (G.graftlaw12_alive).bind fun y2 =>
    some y2
  else
    (
      Iter (G.graftlaw12_ConflictBack_l1 a0) ((0 : Int), ([] : List Int))).bind fun v3 =>
    (G.conflict_Violations_v1 a0 v3).bind fun y6 =>
    (G.slices_Reverse_int_int_v0 v3).bind fun y7 =>
    (G.conflict_Violations_v1 a0 y7).bind fun y8 =>
    (G.conflict_Graph a0).bind fun y9 =>
    ((
      Iter (G.graftlaw12_ConflictBack_l2 y6 y8 y9) (0 : Int)) : Option (Unit ⊕ Bool)).bind fun v10 => joinK v10 fun u11 =>
    (G.graftlaw12_alive).bind fun y17 =>
    if y17 = true then
      (G.digraph_Graph_Size y9.1 y9.2.1 y9.2.2.1 y9.2.2.2).bind fun y18 =>
      if (IntKind.i64.wrap ((y6.length : Int) + (y8.length : Int))) = y18 then
        (G.graftref12_Graph a0).bind fun y19 =>
        some ((IntKind.i64.wrap ((y6.length : Int) + (y8.length : Int))) == (y19.2.length : Int))
      else
        some false
    else
      some false
end Go.Proofs.Ythhmandpjlggcaa
