/- Functions of the program, plain. Printed by a program. -/
import Derived.Test.YthnhjibbkleneaaTy
namespace Go.Proofs.Ythnhjibbkleneaa
open G
noncomputable def G.graftref04_Len (a0 : G.Command) : Option Int :=
  if a0.kind = (1 : Int) then
    some a0.len
  else
    some (a0.data.length : Int)
noncomputable def G.graftref04_Target (a0 : G.Command) : Option G.Extent :=
  (G.graftref04_Len a0).bind fun y1 =>
  some (⟨a0.to, y1⟩ : G.Extent)
noncomputable def G.graftref01_Max : Option Int :=
  some (4611686018427387903 : Int)
noncomputable def G.graftref01_Valid (a0 : G.Extent) : Option Bool :=
  if a0.off ≥ (0 : Int) then
    if a0.len ≥ (0 : Int) then
      (G.graftref01_Max).bind fun y1 =>
      if a0.off ≤ y1 then
        (G.graftref01_Max).bind fun y2 =>
        some (decide (a0.len ≤ (IntKind.i64.wrap (y2 - a0.off))))
      else
        some false
    else
      some false
  else
    some false
noncomputable def G.graftref04_Source (a0 : G.Command) : Option G.Extent :=
  some (⟨a0.from_, a0.len⟩ : G.Extent)
noncomputable def G.graftref04_Check (a0 : G.Command) : Option Int :=
  (
    if a0.kind ≠ (1 : Int) then
      some (a0.kind != (2 : Int))
    else
      some false).bind fun v1 =>
  if v1 = true then
    some (11 : Int)
  else
    (G.graftref04_Len a0).bind fun y2 =>
    if y2 = (0 : Int) then
      some (7 : Int)
    else
      (G.graftref04_Target a0).bind fun y3 =>
      (G.graftref01_Valid y3).bind fun y4 =>
      if y4 = false then
        some (2 : Int)
      else
        (
          if a0.kind = (1 : Int) then
            if (a0.data.length : Int) > (0 : Int) then
              some true
            else
              (G.graftref04_Source a0).bind fun y6 =>
              (G.graftref01_Valid y6).bind fun y7 =>
              some (!y7)
          else
            some false).bind fun v5 =>
        if v5 = true then
          some (2 : Int)
        else
          (
            if a0.kind = (2 : Int) then
              if a0.from_ ≠ (0 : Int) then
                some true
              else
                some (a0.len != (0 : Int))
            else
              some false).bind fun v8 =>
          if v8 = true then
            some (2 : Int)
          else
            some (0 : Int)
noncomputable def G.graftref01_Overlap (a0 : G.Extent) (a1 : G.Extent) : Option G.Extent :=
  if (imax a0.off a1.off) ≥ (imin (IntKind.i64.wrap (a0.off + a0.len)) (IntKind.i64.wrap (a1.off + a1.len))) then
    some (⟨(0 : Int), (0 : Int)⟩ : G.Extent)
  else
    some (⟨(imax a0.off a1.off), (IntKind.i64.wrap ((imin (IntKind.i64.wrap (a0.off + a0.len)) (IntKind.i64.wrap (a1.off + a1.len))) - (imax a0.off a1.off)))⟩ : G.Extent)
noncomputable def G.graftref12_Right_l2 (a0 : (List G.Command)) (s1 : Int) (s6 : Int) : Option (Int ⊕ (Int ⊕ Bool)) :=
  if s6 < s1 then
    (idx a0 s1).bind fun x7 =>
    (G.graftref04_Target x7).bind fun y8 =>
    (idx a0 s6).bind fun x9 =>
    (G.graftref04_Target x9).bind fun y10 =>
    (G.graftref01_Overlap y8 y10).bind fun y11 =>
    if y11.len > (0 : Int) then
      some (.inr (.inr false))
    else
      some (.inl (IntKind.i64.wrap (s6 + (1 : Int))))
  else
    some (.inr (.inl (IntKind.i64.wrap (s1 + (1 : Int)))))
noncomputable def G.graftref12_Right_l1 (a0 : (List G.Command)) (s1 : Int) : Option (Int ⊕ Bool) :=
  if s1 < (a0.length : Int) then
    (
      (idx a0 s1).bind fun x3 =>
      (G.graftref04_Check x3).bind fun y4 =>
      if y4 ≠ (0 : Int) then
        some true
      else
        (idx a0 s1).bind fun x5 =>
        some (decide ((x5.data.length : Int) > (200 : Int)))).bind fun v2 =>
    if v2 = true then
      some (.inr false)
    else
      Iter (G.graftref12_Right_l2 a0 s1) (0 : Int)
  else
    some (.inr true)
noncomputable def G.graftref12_Right (a0 : List G.Command) : Option Bool :=
  if (a0.length : Int) > (30 : Int) then
    some false
  else
    Iter (G.graftref12_Right_l1 a0) (0 : Int)
noncomputable def G.graftref16_Short_l1 (a0 : (List G.Command)) (s1 : Int) : Option (Int ⊕ Bool) :=
  if s1 < (a0.length : Int) then
    (idx a0 s1).bind fun x2 =>
    (G.graftref04_Len x2).bind fun y3 =>
    if y3 > (300 : Int) then
      some (.inr false)
    else
      some (.inl (IntKind.i64.wrap (s1 + (1 : Int))))
  else
    some (.inr true)
noncomputable def G.graftref16_Short (a0 : List G.Command) : Option Bool :=
  Iter (G.graftref16_Short_l1 a0) (0 : Int)
noncomputable def G.command_Source (a0 : G.Command) : Option (G.Extent × Bool) :=
  if a0.kind ≠ (1 : Int) then
    some ((⟨(0 : Int), (0 : Int)⟩ : G.Extent), false)
  else
    some ((⟨a0.from_, a0.len⟩ : G.Extent), true)
noncomputable def G.command_of (a0 : G.Command) : Option G.command_target :=
  (
    if a0.kind = (1 : Int) then
      some a0.len
    else
      some (a0.data.length : Int)).bind fun v1 =>
  some (⟨(⟨a0.to, v1⟩ : G.Extent)⟩ : G.command_target)
noncomputable def G.command_Target (a0 : G.Command) : Option G.Extent :=
  (G.command_of a0).bind fun y1 =>
  some y1.extent
noncomputable def G.extent_End (a0 : G.Extent) : Option Int :=
  some (IntKind.i64.wrap (a0.off + a0.len))
noncomputable def G.extent_Contains_1 (a0 : G.Extent) (a1 : G.Extent) : Option Bool :=
  if a0.off < a1.off then
    some true
  else
    (G.extent_End a0).bind fun y1 =>
    (G.extent_End a1).bind fun y2 =>
    some (decide (y1 > y2))
noncomputable def G.slices_IndexFunc_api_Extent_api_Extent_extent_Contains_1_l1 (a0 : (List G.Extent)) (a1 : G.Extent) (s1 : Int) : Option (Int ⊕ Int) :=
  if s1 < (a0.length : Int) then
    (idx a0 s1).bind fun x2 =>
    (G.extent_Contains_1 x2 a1).bind fun y3 =>
    if y3 = true then
      some (.inr s1)
    else
      some (.inl (IntKind.i64.wrap (s1 + (1 : Int))))
  else
    some (.inr (-1 : Int))
noncomputable def G.slices_IndexFunc_api_Extent_api_Extent_extent_Contains_1 (a0 : List G.Extent) (a1 : G.Extent) : Option Int :=
  Iter (G.slices_IndexFunc_api_Extent_api_Extent_extent_Contains_1_l1 a0 a1) (0 : Int)
noncomputable def G.slices_ContainsFunc_api_Extent_api_Extent_extent_Contains_1 (a0 : List G.Extent) (a1 : G.Extent) : Option Bool :=
  (G.slices_IndexFunc_api_Extent_api_Extent_extent_Contains_1 a0 a1).bind fun y1 =>
  some (decide (y1 ≥ (0 : Int)))
noncomputable def G.extent_Contains (a0 : G.Extent) (a1 : List G.Extent) : Option Bool :=
  (G.slices_ContainsFunc_api_Extent_api_Extent_extent_Contains_1 a1 a0).bind fun y1 =>
  some (!y1)
noncomputable def G.slices_Clone_byte_byte_w (a0 : List UInt8) : Option (List UInt8) :=
  match a0.isEmpty with
  | true =>
    agree (
      some ([] : List UInt8)) (
      (app 1 ([] : List UInt8) a0).bind fun y1 =>
      some y1)
  | false =>
    (app 1 ([] : List UInt8) a0).bind fun y1 =>
    some y1
noncomputable def G.safe_Execute_l1 (a0 : (List UInt8)) (a1 : (List G.Command)) (s3 : Int) : Option (Int ⊕ (Unit ⊕ ((List UInt8) × Bool))) :=
  if s3 < (a1.length : Int) then
    (idx a1 s3).bind fun x4 =>
    (G.command_Source x4).bind fun y5 =>
    (
      (G.command_Target x4).bind fun y7 =>
      (G.extent_Contains (⟨(0 : Int), (a0.length : Int)⟩ : G.Extent) [y7]).bind fun y8 =>
      if y8 = false then
        some true
      else
        if y5.2 = true then
          (G.extent_Contains (⟨(0 : Int), (a0.length : Int)⟩ : G.Extent) [y5.1]).bind fun y9 =>
          some (!y9)
        else
          some false).bind fun v6 =>
    if v6 = true then
      some (.inr (.inr (([] : List UInt8), false)))
    else
      some (.inl (IntKind.i64.wrap (s3 + (1 : Int))))
  else
    some (.inr (.inl ()))
noncomputable def G.safe_Execute_l2 (a1 : (List G.Command)) (s11 : Int × (List UInt8)) : Option ((Int × (List UInt8)) ⊕ ((List UInt8) × Bool)) :=
  if s11.1 < (a1.length : Int) then
    (idx a1 s11.1).bind fun x12 =>
    (G.command_Source x12).bind fun y13 =>
    if y13.2 = true then
      (chk (0 ≤ x12.to ∧ x12.to ≤ (s11.2.length : Int))).bind fun y14 =>
      (G.extent_End y13.1).bind fun y15 =>
      (chk (0 ≤ y13.1.off ∧ y13.1.off ≤ y15 ∧ y15 ≤ (s11.2.length : Int))).bind fun y16 =>
      some (.inl ((IntKind.i64.wrap (s11.1 + (1 : Int))), (cpy s11.2 x12.to.toNat (((s11.2.drop y13.1.off.toNat).take (y15 - y13.1.off).toNat).take ((s11.2.length : Int) - x12.to).toNat))))
    else
      (chk (0 ≤ x12.to ∧ x12.to ≤ (s11.2.length : Int))).bind fun y17 =>
      some (.inl ((IntKind.i64.wrap (s11.1 + (1 : Int))), (cpy s11.2 x12.to.toNat (x12.data.take ((s11.2.length : Int) - x12.to).toNat))))
  else
    some (.inr (s11.2, true))
noncomputable def G.safe_Execute (a0 : List UInt8) (a1 : List G.Command) : Option ((List UInt8) × Bool) :=
  ((
    Iter (G.safe_Execute_l1 a0 a1) (0 : Int)) : Option (Unit ⊕ ((List UInt8) × Bool))).bind fun v1 => joinK v1 fun u2 =>
  (G.slices_Clone_byte_byte_w a0).bind fun y10 =>
  Iter (G.safe_Execute_l2 a1) ((0 : Int), y10)
noncomputable def G.safe_steps (a0 : List G.Command) : Option (List G.Command) :=
  some a0
noncomputable def G.extent_between (a0 : Int) (a1 : Int) (a2 : Int) : Option (G.Extent × Bool) :=
  if (IntKind.i64.wrap (a1 - a0)) < a2 then
    some ((⟨(0 : Int), (0 : Int)⟩ : G.Extent), false)
  else
    some ((⟨a0, (IntKind.i64.wrap (a1 - a0))⟩ : G.Extent), true)
noncomputable def G.extent_Overlap (a0 : G.Extent) (a1 : G.Extent) : Option (G.Extent × Bool) :=
  (G.extent_End a0).bind fun y1 =>
  (G.extent_End a1).bind fun y2 =>
  (G.extent_between (imax a0.off a1.off) (imin y1 y2) (1 : Int)).bind fun y3 =>
  some (y3.1, y3.2)
noncomputable def G.safe_reads_1 (a0 : G.Extent) (a1 : G.Extent) : Option Bool :=
  (G.extent_Overlap a1 a0).bind fun y1 =>
  some y1.2
noncomputable def G.slices_IndexFunc_api_Extent_api_Extent_safe_reads_1_l1 (a0 : (List G.Extent)) (a1 : G.Extent) (s1 : Int) : Option (Int ⊕ Int) :=
  if s1 < (a0.length : Int) then
    (idx a0 s1).bind fun x2 =>
    (G.safe_reads_1 x2 a1).bind fun y3 =>
    if y3 = true then
      some (.inr s1)
    else
      some (.inl (IntKind.i64.wrap (s1 + (1 : Int))))
  else
    some (.inr (-1 : Int))
noncomputable def G.slices_IndexFunc_api_Extent_api_Extent_safe_reads_1 (a0 : List G.Extent) (a1 : G.Extent) : Option Int :=
  Iter (G.slices_IndexFunc_api_Extent_api_Extent_safe_reads_1_l1 a0 a1) (0 : Int)
noncomputable def G.slices_ContainsFunc_api_Extent_api_Extent_safe_reads_1 (a0 : List G.Extent) (a1 : G.Extent) : Option Bool :=
  (G.slices_IndexFunc_api_Extent_api_Extent_safe_reads_1 a0 a1).bind fun y1 =>
  some (decide (y1 ≥ (0 : Int)))
noncomputable def G.safe_reads (a0 : G.Command) (a1 : List G.Extent) : Option Bool :=
  (G.command_Source a0).bind fun y1 =>
  if y1.2 = true then
    (G.slices_ContainsFunc_api_Extent_api_Extent_safe_reads_1 a1 y1.1).bind fun y2 =>
    some y2
  else
    some false
noncomputable def G.safe_Prefix_b1 (a0 : Int) (a1 : List G.Extent) (a2 : List G.Command) (a3 : Int) : Option (Int ⊕ Unit) :=
  (idx a2 a0).bind fun x1 =>
  (G.safe_reads x1 a1).bind fun y2 =>
  if y2 = true then
    some (.inl a0)
  else
    some (.inr ())
noncomputable def G.safe_steps_1_safe_Prefix_l1 (a0 : (List G.Command)) (s1 : (List G.Extent) × Int × (List G.Command) × Int) : Option (((List G.Extent) × Int × (List G.Command) × Int) ⊕ (((List G.Command) × Int) ⊕ ((List G.Command) × Int))) :=
  if s1.2.1 < (a0.length : Int) then
    (idx a0 s1.2.1).bind fun x2 =>
    (G.safe_Prefix_b1 s1.2.1 s1.1 s1.2.2.1 s1.2.2.2).bind fun y3 =>
    match y3 with
    | .inl y4 =>
      some (.inr (.inl (s1.2.2.1, y4)))
    | .inr y5 =>
      (G.command_Target x2).bind fun y6 =>
      (app 16 s1.1 [y6]).bind fun y7 =>
      some (.inl (y7, (IntKind.i64.wrap (s1.2.1 + (1 : Int))), s1.2.2.1, s1.2.2.2))
  else
    some (.inr (.inr (s1.2.2.1, s1.2.2.2)))
noncomputable def G.safe_steps_1_safe_Prefix (a0 : List G.Command) (a1 : List G.Command) (a2 : Int) : Option (((List G.Command) × Int) ⊕ ((List G.Command) × Int)) :=
  Iter (G.safe_steps_1_safe_Prefix_l1 a0) (([] : List G.Extent), (0 : Int), a1, a2)
noncomputable def G.safe_Prefix (a0 : List G.Command) : Option Int :=
  (G.safe_steps a0).bind fun y1 =>
  (G.safe_steps_1_safe_Prefix y1 a0 (0 : Int)).bind fun y2 =>
  match y2 with
  | .inl y3 =>
    some y3.2
  | .inr y4 =>
    some (y4.1.length : Int)
noncomputable def G.safe_Check (a0 : List G.Command) : Option G.Fault :=
  (G.safe_Prefix a0).bind fun y1 =>
  if y1 < (a0.length : Int) then
    some (⟨(16 : Int), y1⟩ : G.Fault)
  else
    some (⟨(0 : Int), (0 : Int)⟩ : G.Fault)
noncomputable def G.safe_Dirty_b1 (a0 : Int) (a1 : List G.Extent) (a2 : Int) (a3 : List G.Extent) : Option (List G.Extent) :=
  if a0 = a2 then
    some a1
  else
    some a3
noncomputable def G.safe_Dirty_b1x (a0 : Int) (a1 : List G.Extent) (a2 : Int) (a3 : List G.Extent) : Option (List G.Extent) :=
  if a0 = a2 then
    some a1
  else
    some a3
noncomputable def G.safe_steps_1_safe_Dirty_l1 (a0 : (List G.Command)) (s1 : (List G.Extent) × Int × Int × (List G.Extent)) : Option (((List G.Extent) × Int × Int × (List G.Extent)) ⊕ (Int × (List G.Extent))) :=
  if s1.2.1 < (a0.length : Int) then
    (idx a0 s1.2.1).bind fun x2 =>
    (G.safe_Dirty_b1x s1.2.1 s1.1 s1.2.2.1 s1.2.2.2).bind fun y3 =>
    (G.command_Target x2).bind fun y4 =>
    (app 16 s1.1 [y4]).bind fun y5 =>
    some (.inl (y5, (IntKind.i64.wrap (s1.2.1 + (1 : Int))), s1.2.2.1, y3))
  else
    some (.inr (s1.2.2.1, s1.2.2.2))
noncomputable def G.safe_steps_1_safe_Dirty (a0 : List G.Command) (a1 : Int) (a2 : List G.Extent) : Option (Int × (List G.Extent)) :=
  Iter (G.safe_steps_1_safe_Dirty_l1 a0) (([] : List G.Extent), (0 : Int), a1, a2)
noncomputable def G.extent_Valid (a0 : G.Extent) : Option Bool :=
  if (imin a0.off a0.len) ≥ (0 : Int) then
    if a0.off ≤ (4611686018427387903 : Int) then
      some (decide (a0.len ≤ (IntKind.i64.wrap ((4611686018427387903 : Int) - a0.off))))
    else
      some false
  else
    some false
noncomputable def G.math_bits_Len64 (a0 : Int) : Option Int :=
  (
    if a0 ≥ (4294967296 : Int) then
      some ((ishr .u64 a0 (32 : Int)), (32 : Int))
    else
      some (a0, (0 : Int))).bind fun v1 =>
  (
    if v1.1 ≥ (65536 : Int) then
      some ((ishr .u64 v1.1 (16 : Int)), (IntKind.i64.wrap (v1.2 + (16 : Int))))
    else
      some (v1.1, v1.2)).bind fun v2 =>
  (
    if v2.1 ≥ (256 : Int) then
      some ((ishr .u64 v2.1 (8 : Int)), (IntKind.i64.wrap (v2.2 + (8 : Int))))
    else
      some (v2.1, v2.2)).bind fun v3 =>
  (idx ([0, 1, 2, 2, 3, 3, 3, 3, 4, 4, 4, 4, 4, 4, 4, 4, 5, 5, 5, 5, 5, 5, 5, 5, 5, 5, 5, 5, 5, 5, 5, 5, 6, 6, 6, 6, 6, 6, 6, 6, 6, 6, 6, 6, 6, 6, 6, 6, 6, 6, 6, 6, 6, 6, 6, 6, 6, 6, 6, 6, 6, 6, 6, 6, 7, 7, 7, 7, 7, 7, 7, 7, 7, 7, 7, 7, 7, 7, 7, 7, 7, 7, 7, 7, 7, 7, 7, 7, 7, 7, 7, 7, 7, 7, 7, 7, 7, 7, 7, 7, 7, 7, 7, 7, 7, 7, 7, 7, 7, 7, 7, 7, 7, 7, 7, 7, 7, 7, 7, 7, 7, 7, 7, 7, 7, 7, 7, 7, 8, 8, 8, 8, 8, 8, 8, 8, 8, 8, 8, 8, 8, 8, 8, 8, 8, 8, 8, 8, 8, 8, 8, 8, 8, 8, 8, 8, 8, 8, 8, 8, 8, 8, 8, 8, 8, 8, 8, 8, 8, 8, 8, 8, 8, 8, 8, 8, 8, 8, 8, 8, 8, 8, 8, 8, 8, 8, 8, 8, 8, 8, 8, 8, 8, 8, 8, 8, 8, 8, 8, 8, 8, 8, 8, 8, 8, 8, 8, 8, 8, 8, 8, 8, 8, 8, 8, 8, 8, 8, 8, 8, 8, 8, 8, 8, 8, 8, 8, 8, 8, 8, 8, 8, 8, 8, 8, 8, 8, 8, 8, 8, 8, 8, 8, 8, 8, 8, 8, 8, 8, 8, 8, 8, 8, 8, 8, 8] : List UInt8) ((u8 v3.1).toNat : Int)).bind fun y4 =>
  some (IntKind.i64.wrap (v3.2 + (y4.toNat : Int)))
noncomputable def G.math_bits_Len (a0 : Int) : Option Int :=
  (G.math_bits_Len64 a0).bind fun y1 =>
  some y1
noncomputable def G.cmp_isNaN_int (a0 : Int) : Option Bool :=
  some (a0 != a0)
noncomputable def G.cmp_Compare_int (a0 : Int) (a1 : Int) : Option Int :=
  (G.cmp_isNaN_int a0).bind fun y1 =>
  (G.cmp_isNaN_int a1).bind fun y2 =>
  if y1 = true then
    if y2 = true then
      some (0 : Int)
    else
      some (-1 : Int)
  else
    if y2 = true then
      some (1 : Int)
    else
      if a0 < a1 then
        some (-1 : Int)
      else
        if a0 > a1 then
          some (1 : Int)
        else
          some (0 : Int)
noncomputable def G.index_New_1 (a0 : G.index_entry) (a1 : G.index_entry) : Option Int :=
  (G.cmp_Compare_int a0.extent.off a1.extent.off).bind fun y1 =>
  some y1
noncomputable def G.slices_insertionSortCmpFunc_index_entry_v0_index_New_1_l2 (a1 : Int) (s1 : Int × (List G.index_entry)) (s2 : Int × (List G.index_entry)) : Option ((Int × (List G.index_entry)) ⊕ ((Int × (List G.index_entry)) ⊕ (List G.index_entry))) :=
  (
    if s2.1 > a1 then
      (idx s2.2 s2.1).bind fun x4 =>
      (idx s2.2 (IntKind.i64.wrap (s2.1 - (1 : Int)))).bind fun x5 =>
      (G.index_New_1 x4 x5).bind fun y6 =>
      some (decide (y6 < (0 : Int)))
    else
      some false).bind fun v3 =>
  if v3 = true then
    (idx s2.2 (IntKind.i64.wrap (s2.1 - (1 : Int)))).bind fun x7 =>
    (idx s2.2 s2.1).bind fun x8 =>
    (idx s2.2 s2.1).bind fun x9 =>
    (idx (s2.2.set s2.1.toNat x7) (IntKind.i64.wrap (s2.1 - (1 : Int)))).bind fun x10 =>
    some (.inl ((IntKind.i64.wrap (s2.1 - (1 : Int))), ((s2.2.set s2.1.toNat x7).set (IntKind.i64.wrap (s2.1 - (1 : Int))).toNat x8)))
  else
    some (.inr (.inl ((IntKind.i64.wrap (s1.1 + (1 : Int))), s2.2)))
noncomputable def G.slices_insertionSortCmpFunc_index_entry_v0_index_New_1_l1 (a1 : Int) (a2 : Int) (s1 : Int × (List G.index_entry)) : Option ((Int × (List G.index_entry)) ⊕ (List G.index_entry)) :=
  if s1.1 < a2 then
    Iter (G.slices_insertionSortCmpFunc_index_entry_v0_index_New_1_l2 a1 s1) (s1.1, s1.2)
  else
    some (.inr s1.2)
noncomputable def G.slices_insertionSortCmpFunc_index_entry_v0_index_New_1 (a0 : List G.index_entry) (a1 : Int) (a2 : Int) : Option (List G.index_entry) :=
  Iter (G.slices_insertionSortCmpFunc_index_entry_v0_index_New_1_l1 a1 a2) ((IntKind.i64.wrap (a1 + (1 : Int))), a0)
noncomputable def G.slices_siftDownCmpFunc_index_entry_v0_index_New_1_l1 (a2 : Int) (a3 : Int) (s1 : Int × (List G.index_entry)) : Option ((Int × (List G.index_entry)) ⊕ (List G.index_entry)) :=
  if (IntKind.i64.wrap ((IntKind.i64.wrap ((2 : Int) * s1.1)) + (1 : Int))) ≥ a2 then
    some (.inr s1.2)
  else
    (
      if (IntKind.i64.wrap ((IntKind.i64.wrap ((IntKind.i64.wrap ((2 : Int) * s1.1)) + (1 : Int))) + (1 : Int))) < a2 then
        (idx s1.2 (IntKind.i64.wrap (a3 + (IntKind.i64.wrap ((IntKind.i64.wrap ((2 : Int) * s1.1)) + (1 : Int)))))).bind fun x3 =>
        (idx s1.2 (IntKind.i64.wrap ((IntKind.i64.wrap (a3 + (IntKind.i64.wrap ((IntKind.i64.wrap ((2 : Int) * s1.1)) + (1 : Int))))) + (1 : Int)))).bind fun x4 =>
        (G.index_New_1 x3 x4).bind fun y5 =>
        some (decide (y5 < (0 : Int)))
      else
        some false).bind fun v2 =>
    (
      if v2 = true then
        some (IntKind.i64.wrap ((IntKind.i64.wrap ((IntKind.i64.wrap ((2 : Int) * s1.1)) + (1 : Int))) + (1 : Int)))
      else
        some (IntKind.i64.wrap ((IntKind.i64.wrap ((2 : Int) * s1.1)) + (1 : Int)))).bind fun v6 =>
    (idx s1.2 (IntKind.i64.wrap (a3 + s1.1))).bind fun x7 =>
    (idx s1.2 (IntKind.i64.wrap (a3 + v6))).bind fun x8 =>
    (G.index_New_1 x7 x8).bind fun y9 =>
    if (decide (y9 < (0 : Int))) = false then
      some (.inr s1.2)
    else
      (idx s1.2 (IntKind.i64.wrap (a3 + v6))).bind fun x10 =>
      (idx s1.2 (IntKind.i64.wrap (a3 + s1.1))).bind fun x11 =>
      (idx s1.2 (IntKind.i64.wrap (a3 + s1.1))).bind fun x12 =>
      (idx (s1.2.set (IntKind.i64.wrap (a3 + s1.1)).toNat x10) (IntKind.i64.wrap (a3 + v6))).bind fun x13 =>
      some (.inl (v6, ((s1.2.set (IntKind.i64.wrap (a3 + s1.1)).toNat x10).set (IntKind.i64.wrap (a3 + v6)).toNat x11)))
noncomputable def G.slices_siftDownCmpFunc_index_entry_v0_index_New_1 (a0 : List G.index_entry) (a1 : Int) (a2 : Int) (a3 : Int) : Option (List G.index_entry) :=
  Iter (G.slices_siftDownCmpFunc_index_entry_v0_index_New_1_l1 a2 a3) (a1, a0)
noncomputable def G.slices_heapSortCmpFunc_index_entry_v0_index_New_1_l1 (a1 : Int) (a2 : Int) (s2 : Int × (List G.index_entry)) : Option ((Int × (List G.index_entry)) ⊕ (List G.index_entry)) :=
  if s2.1 ≥ (0 : Int) then
    (G.slices_siftDownCmpFunc_index_entry_v0_index_New_1 s2.2 s2.1 (IntKind.i64.wrap (a2 - a1)) a1).bind fun y3 =>
    some (.inl ((IntKind.i64.wrap (s2.1 - (1 : Int))), y3))
  else
    some (.inr s2.2)
noncomputable def G.slices_heapSortCmpFunc_index_entry_v0_index_New_1_l2 (a1 : Int) (s4 : Int × (List G.index_entry)) : Option ((Int × (List G.index_entry)) ⊕ (List G.index_entry)) :=
  if s4.1 ≥ (0 : Int) then
    (idx s4.2 (IntKind.i64.wrap (a1 + s4.1))).bind fun x5 =>
    (idx s4.2 a1).bind fun x6 =>
    (idx s4.2 a1).bind fun x7 =>
    (idx (s4.2.set a1.toNat x5) (IntKind.i64.wrap (a1 + s4.1))).bind fun x8 =>
    (G.slices_siftDownCmpFunc_index_entry_v0_index_New_1 ((s4.2.set a1.toNat x5).set (IntKind.i64.wrap (a1 + s4.1)).toNat x6) (0 : Int) s4.1 a1).bind fun y9 =>
    some (.inl ((IntKind.i64.wrap (s4.1 - (1 : Int))), y9))
  else
    some (.inr s4.2)
noncomputable def G.slices_heapSortCmpFunc_index_entry_v0_index_New_1 (a0 : List G.index_entry) (a1 : Int) (a2 : Int) : Option (List G.index_entry) :=
  (
    Iter (G.slices_heapSortCmpFunc_index_entry_v0_index_New_1_l1 a1 a2) ((IntKind.i64.wrap (Int.tdiv (IntKind.i64.wrap ((IntKind.i64.wrap (a2 - a1)) - (1 : Int))) (2 : Int))), a0)).bind fun v1 =>
  Iter (G.slices_heapSortCmpFunc_index_entry_v0_index_New_1_l2 a1) ((IntKind.i64.wrap ((IntKind.i64.wrap (a2 - a1)) - (1 : Int))), v1)
noncomputable def G.slices_nextPowerOfTwo (a0 : Int) : Option Int :=
  (G.math_bits_Len (IntKind.u64.wrap a0)).bind fun y1 =>
  (chk (0 ≤ y1)).bind fun y2 =>
  some (ishl .u64 (1 : Int) y1)
noncomputable def G.slices_xorshift_Next (a0 : Int) : Option (Int × Int) :=
  some ((bxor .u64 (bxor .u64 (bxor .u64 a0 (ishl .u64 a0 (13 : Int))) (ishr .u64 (bxor .u64 a0 (ishl .u64 a0 (13 : Int))) (7 : Int))) (ishl .u64 (bxor .u64 (bxor .u64 a0 (ishl .u64 a0 (13 : Int))) (ishr .u64 (bxor .u64 a0 (ishl .u64 a0 (13 : Int))) (7 : Int))) (17 : Int))), (bxor .u64 (bxor .u64 (bxor .u64 a0 (ishl .u64 a0 (13 : Int))) (ishr .u64 (bxor .u64 a0 (ishl .u64 a0 (13 : Int))) (7 : Int))) (ishl .u64 (bxor .u64 (bxor .u64 a0 (ishl .u64 a0 (13 : Int))) (ishr .u64 (bxor .u64 a0 (ishl .u64 a0 (13 : Int))) (7 : Int))) (17 : Int))))
noncomputable def G.slices_breakPatternsCmpFunc_index_entry_v0_index_New_1_l1 (a1 : Int) (a2 : Int) (y1 : Int) (s2 : Int × (List G.index_entry) × Int) : Option ((Int × (List G.index_entry) × Int) ⊕ (List G.index_entry)) :=
  if s2.1 ≤ (IntKind.i64.wrap ((IntKind.i64.wrap (a1 + (IntKind.i64.wrap ((IntKind.i64.wrap (Int.tdiv (IntKind.i64.wrap (a2 - a1)) (4 : Int))) * (2 : Int))))) + (1 : Int))) then
    (G.slices_xorshift_Next s2.2.2).bind fun y3 =>
    (
      if (IntKind.i64.wrap (band .u64 y3.1 (IntKind.u64.wrap (y1 - (1 : Int))))) ≥ (IntKind.i64.wrap (a2 - a1)) then
        some (IntKind.i64.wrap ((IntKind.i64.wrap (band .u64 y3.1 (IntKind.u64.wrap (y1 - (1 : Int))))) - (IntKind.i64.wrap (a2 - a1))))
      else
        some (IntKind.i64.wrap (band .u64 y3.1 (IntKind.u64.wrap (y1 - (1 : Int)))))).bind fun v4 =>
    (idx s2.2.1 (IntKind.i64.wrap (a1 + v4))).bind fun x5 =>
    (idx s2.2.1 s2.1).bind fun x6 =>
    (idx s2.2.1 s2.1).bind fun x7 =>
    (idx (s2.2.1.set s2.1.toNat x5) (IntKind.i64.wrap (a1 + v4))).bind fun x8 =>
    some (.inl ((IntKind.i64.wrap (s2.1 + (1 : Int))), ((s2.2.1.set s2.1.toNat x5).set (IntKind.i64.wrap (a1 + v4)).toNat x6), y3.2))
  else
    some (.inr s2.2.1)
noncomputable def G.slices_breakPatternsCmpFunc_index_entry_v0_index_New_1 (a0 : List G.index_entry) (a1 : Int) (a2 : Int) : Option (List G.index_entry) :=
  if (IntKind.i64.wrap (a2 - a1)) ≥ (8 : Int) then
    (G.slices_nextPowerOfTwo (IntKind.i64.wrap (a2 - a1))).bind fun y1 =>
    Iter (G.slices_breakPatternsCmpFunc_index_entry_v0_index_New_1_l1 a1 a2 y1) ((IntKind.i64.wrap ((IntKind.i64.wrap (a1 + (IntKind.i64.wrap ((IntKind.i64.wrap (Int.tdiv (IntKind.i64.wrap (a2 - a1)) (4 : Int))) * (2 : Int))))) - (1 : Int))), a0, (IntKind.u64.wrap (IntKind.i64.wrap (a2 - a1))))
  else
    some a0
noncomputable def G.slices_order2CmpFunc_index_entry_v0_index_New_1 (a0 : List G.index_entry) (a1 : Int) (a2 : Int) (a3 : Int) : Option (Int × Int × Int) :=
  (idx a0 a2).bind fun x1 =>
  (idx a0 a1).bind fun x2 =>
  (G.index_New_1 x1 x2).bind fun y3 =>
  if y3 < (0 : Int) then
    some (a2, a1, (IntKind.i64.wrap (a3 + (1 : Int))))
  else
    some (a1, a2, a3)
noncomputable def G.slices_medianCmpFunc_index_entry_v0_index_New_1 (a0 : List G.index_entry) (a1 : Int) (a2 : Int) (a3 : Int) (a4 : Int) : Option (Int × Int) :=
  (G.slices_order2CmpFunc_index_entry_v0_index_New_1 a0 a1 a2 a4).bind fun y1 =>
  (G.slices_order2CmpFunc_index_entry_v0_index_New_1 a0 y1.2.1 a3 y1.2.2).bind fun y2 =>
  (G.slices_order2CmpFunc_index_entry_v0_index_New_1 a0 y1.1 y2.1 y2.2.2).bind fun y3 =>
  some (y3.2.1, y3.2.2)
noncomputable def G.slices_medianAdjacentCmpFunc_index_entry_v0_index_New_1 (a0 : List G.index_entry) (a1 : Int) (a2 : Int) : Option (Int × Int) :=
  (G.slices_medianCmpFunc_index_entry_v0_index_New_1 a0 (IntKind.i64.wrap (a1 - (1 : Int))) a1 (IntKind.i64.wrap (a1 + (1 : Int))) a2).bind fun y1 =>
  some (y1.1, y1.2)
noncomputable def G.slices_choosePivotCmpFunc_index_entry_v0_index_New_1 (a0 : List G.index_entry) (a1 : Int) (a2 : Int) : Option (Int × Int) :=
  (
    if (IntKind.i64.wrap (a2 - a1)) ≥ (8 : Int) then
      (
        if (IntKind.i64.wrap (a2 - a1)) ≥ (50 : Int) then
          (G.slices_medianAdjacentCmpFunc_index_entry_v0_index_New_1 a0 (IntKind.i64.wrap (a1 + (IntKind.i64.wrap ((IntKind.i64.wrap (Int.tdiv (IntKind.i64.wrap (a2 - a1)) (4 : Int))) * (1 : Int))))) (0 : Int)).bind fun y3 =>
          (G.slices_medianAdjacentCmpFunc_index_entry_v0_index_New_1 a0 (IntKind.i64.wrap (a1 + (IntKind.i64.wrap ((IntKind.i64.wrap (Int.tdiv (IntKind.i64.wrap (a2 - a1)) (4 : Int))) * (2 : Int))))) y3.2).bind fun y4 =>
          (G.slices_medianAdjacentCmpFunc_index_entry_v0_index_New_1 a0 (IntKind.i64.wrap (a1 + (IntKind.i64.wrap ((IntKind.i64.wrap (Int.tdiv (IntKind.i64.wrap (a2 - a1)) (4 : Int))) * (3 : Int))))) y4.2).bind fun y5 =>
          some (y3.1, y4.1, y5.1, y5.2)
        else
          some ((IntKind.i64.wrap (a1 + (IntKind.i64.wrap ((IntKind.i64.wrap (Int.tdiv (IntKind.i64.wrap (a2 - a1)) (4 : Int))) * (1 : Int))))), (IntKind.i64.wrap (a1 + (IntKind.i64.wrap ((IntKind.i64.wrap (Int.tdiv (IntKind.i64.wrap (a2 - a1)) (4 : Int))) * (2 : Int))))), (IntKind.i64.wrap (a1 + (IntKind.i64.wrap ((IntKind.i64.wrap (Int.tdiv (IntKind.i64.wrap (a2 - a1)) (4 : Int))) * (3 : Int))))), (0 : Int))).bind fun v2 =>
      (G.slices_medianCmpFunc_index_entry_v0_index_New_1 a0 v2.1 v2.2.1 v2.2.2.1 v2.2.2.2).bind fun y6 =>
      some (y6.1, y6.2)
    else
      some ((IntKind.i64.wrap (a1 + (IntKind.i64.wrap ((IntKind.i64.wrap (Int.tdiv (IntKind.i64.wrap (a2 - a1)) (4 : Int))) * (2 : Int))))), (0 : Int))).bind fun v1 =>
  if v1.2 = (0 : Int) then
    some (v1.1, (1 : Int))
  else
    if v1.2 = (12 : Int) then
      some (v1.1, (2 : Int))
    else
      some (v1.1, (0 : Int))
noncomputable def G.slices_reverseRangeCmpFunc_index_entry_v0_index_New_1_l1 (s1 : Int × Int × (List G.index_entry)) : Option ((Int × Int × (List G.index_entry)) ⊕ (List G.index_entry)) :=
  if s1.1 < s1.2.1 then
    (idx s1.2.2 s1.2.1).bind fun x2 =>
    (idx s1.2.2 s1.1).bind fun x3 =>
    (idx s1.2.2 s1.1).bind fun x4 =>
    (idx (s1.2.2.set s1.1.toNat x2) s1.2.1).bind fun x5 =>
    some (.inl ((IntKind.i64.wrap (s1.1 + (1 : Int))), (IntKind.i64.wrap (s1.2.1 - (1 : Int))), ((s1.2.2.set s1.1.toNat x2).set s1.2.1.toNat x3)))
  else
    some (.inr s1.2.2)
noncomputable def G.slices_reverseRangeCmpFunc_index_entry_v0_index_New_1 (a0 : List G.index_entry) (a1 : Int) (a2 : Int) : Option (List G.index_entry) :=
  Iter G.slices_reverseRangeCmpFunc_index_entry_v0_index_New_1_l1 (a1, (IntKind.i64.wrap (a2 - (1 : Int))), a0)
noncomputable def G.slices_partialInsertionSortCmpFunc_index_entry_v0_index_New_1_l2 (a2 : Int) (s1 : Int × Int × (List G.index_entry)) (s3 : Int) : Option (Int ⊕ Int) :=
  (
    if s3 < a2 then
      (idx s1.2.2 s3).bind fun x5 =>
      (idx s1.2.2 (IntKind.i64.wrap (s3 - (1 : Int)))).bind fun x6 =>
      (G.index_New_1 x5 x6).bind fun y7 =>
      some (!(decide (y7 < (0 : Int))))
    else
      some false).bind fun v4 =>
  if v4 = true then
    some (.inl (IntKind.i64.wrap (s3 + (1 : Int))))
  else
    some (.inr s3)
noncomputable def G.slices_partialInsertionSortCmpFunc_index_entry_v0_index_New_1_l3 (s13 : Int × (List G.index_entry)) : Option ((Int × (List G.index_entry)) ⊕ (List G.index_entry)) :=
  if s13.1 ≥ (1 : Int) then
    (idx s13.2 s13.1).bind fun x14 =>
    (idx s13.2 (IntKind.i64.wrap (s13.1 - (1 : Int)))).bind fun x15 =>
    (G.index_New_1 x14 x15).bind fun y16 =>
    if (decide (y16 < (0 : Int))) = false then
      some (.inr s13.2)
    else
      (idx s13.2 (IntKind.i64.wrap (s13.1 - (1 : Int)))).bind fun x17 =>
      (idx s13.2 s13.1).bind fun x18 =>
      (idx s13.2 s13.1).bind fun x19 =>
      (idx (s13.2.set s13.1.toNat x17) (IntKind.i64.wrap (s13.1 - (1 : Int)))).bind fun x20 =>
      some (.inl ((IntKind.i64.wrap (s13.1 - (1 : Int))), ((s13.2.set s13.1.toNat x17).set (IntKind.i64.wrap (s13.1 - (1 : Int))).toNat x18)))
  else
    some (.inr s13.2)
noncomputable def G.slices_partialInsertionSortCmpFunc_index_entry_v0_index_New_1_l4 (a2 : Int) (s1 : Int × Int × (List G.index_entry)) (v2 : Int) (s21 : Int × (List G.index_entry)) : Option ((Int × (List G.index_entry)) ⊕ ((Int × Int × (List G.index_entry)) ⊕ (Bool × (List G.index_entry)))) :=
  if s21.1 < a2 then
    (idx s21.2 s21.1).bind fun x22 =>
    (idx s21.2 (IntKind.i64.wrap (s21.1 - (1 : Int)))).bind fun x23 =>
    (G.index_New_1 x22 x23).bind fun y24 =>
    if (decide (y24 < (0 : Int))) = false then
      some (.inr (.inl (v2, (IntKind.i64.wrap (s1.2.1 + (1 : Int))), s21.2)))
    else
      (idx s21.2 (IntKind.i64.wrap (s21.1 - (1 : Int)))).bind fun x25 =>
      (idx s21.2 s21.1).bind fun x26 =>
      (idx s21.2 s21.1).bind fun x27 =>
      (idx (s21.2.set s21.1.toNat x25) (IntKind.i64.wrap (s21.1 - (1 : Int)))).bind fun x28 =>
      some (.inl ((IntKind.i64.wrap (s21.1 + (1 : Int))), ((s21.2.set s21.1.toNat x25).set (IntKind.i64.wrap (s21.1 - (1 : Int))).toNat x26)))
  else
    some (.inr (.inl (v2, (IntKind.i64.wrap (s1.2.1 + (1 : Int))), s21.2)))
noncomputable def G.slices_partialInsertionSortCmpFunc_index_entry_v0_index_New_1_l1 (a1 : Int) (a2 : Int) (s1 : Int × Int × (List G.index_entry)) : Option ((Int × Int × (List G.index_entry)) ⊕ (Bool × (List G.index_entry))) :=
  if s1.2.1 < (5 : Int) then
    (
      Iter (G.slices_partialInsertionSortCmpFunc_index_entry_v0_index_New_1_l2 a2 s1) s1.1).bind fun v2 =>
    if v2 = a2 then
      some (.inr (true, s1.2.2))
    else
      if (IntKind.i64.wrap (a2 - a1)) < (50 : Int) then
        some (.inr (false, s1.2.2))
      else
        (idx s1.2.2 (IntKind.i64.wrap (v2 - (1 : Int)))).bind fun x8 =>
        (idx s1.2.2 v2).bind fun x9 =>
        (idx s1.2.2 v2).bind fun x10 =>
        (idx (s1.2.2.set v2.toNat x8) (IntKind.i64.wrap (v2 - (1 : Int)))).bind fun x11 =>
        (
          if (IntKind.i64.wrap (v2 - a1)) ≥ (2 : Int) then
            Iter G.slices_partialInsertionSortCmpFunc_index_entry_v0_index_New_1_l3 ((IntKind.i64.wrap (v2 - (1 : Int))), ((s1.2.2.set v2.toNat x8).set (IntKind.i64.wrap (v2 - (1 : Int))).toNat x9))
          else
            some ((s1.2.2.set v2.toNat x8).set (IntKind.i64.wrap (v2 - (1 : Int))).toNat x9)).bind fun v12 =>
        if (IntKind.i64.wrap (a2 - v2)) ≥ (2 : Int) then
          Iter (G.slices_partialInsertionSortCmpFunc_index_entry_v0_index_New_1_l4 a2 s1 v2) ((IntKind.i64.wrap (v2 + (1 : Int))), v12)
        else
          some (.inl (v2, (IntKind.i64.wrap (s1.2.1 + (1 : Int))), v12))
  else
    some (.inr (false, s1.2.2))
noncomputable def G.slices_partialInsertionSortCmpFunc_index_entry_v0_index_New_1 (a0 : List G.index_entry) (a1 : Int) (a2 : Int) : Option (Bool × (List G.index_entry)) :=
  Iter (G.slices_partialInsertionSortCmpFunc_index_entry_v0_index_New_1_l1 a1 a2) ((IntKind.i64.wrap (a1 + (1 : Int))), (0 : Int), a0)
noncomputable def G.slices_partitionEqualCmpFunc_index_entry_v0_index_New_1_l2 (a1 : Int) (s5 : Int × Int × (List G.index_entry)) (s7 : Int) : Option (Int ⊕ Int) :=
  (
    if s7 ≤ s5.2.1 then
      (idx s5.2.2 a1).bind fun x9 =>
      (idx s5.2.2 s7).bind fun x10 =>
      (G.index_New_1 x9 x10).bind fun y11 =>
      some (!(decide (y11 < (0 : Int))))
    else
      some false).bind fun v8 =>
  if v8 = true then
    some (.inl (IntKind.i64.wrap (s7 + (1 : Int))))
  else
    some (.inr s7)
noncomputable def G.slices_partitionEqualCmpFunc_index_entry_v0_index_New_1_l3 (a1 : Int) (s5 : Int × Int × (List G.index_entry)) (v6 : Int) (s13 : Int) : Option (Int ⊕ Int) :=
  (
    if v6 ≤ s13 then
      (idx s5.2.2 a1).bind fun x15 =>
      (idx s5.2.2 s13).bind fun x16 =>
      (G.index_New_1 x15 x16).bind fun y17 =>
      some (decide (y17 < (0 : Int)))
    else
      some false).bind fun v14 =>
  if v14 = true then
    some (.inl (IntKind.i64.wrap (s13 - (1 : Int))))
  else
    some (.inr s13)
noncomputable def G.slices_partitionEqualCmpFunc_index_entry_v0_index_New_1_l1 (a1 : Int) (s5 : Int × Int × (List G.index_entry)) : Option ((Int × Int × (List G.index_entry)) ⊕ (Int × (List G.index_entry))) :=
  (
    Iter (G.slices_partitionEqualCmpFunc_index_entry_v0_index_New_1_l2 a1 s5) s5.1).bind fun v6 =>
  (
    Iter (G.slices_partitionEqualCmpFunc_index_entry_v0_index_New_1_l3 a1 s5 v6) s5.2.1).bind fun v12 =>
  if v6 > v12 then
    some (.inr (v6, s5.2.2))
  else
    (idx s5.2.2 v12).bind fun x18 =>
    (idx s5.2.2 v6).bind fun x19 =>
    (idx s5.2.2 v6).bind fun x20 =>
    (idx (s5.2.2.set v6.toNat x18) v12).bind fun x21 =>
    some (.inl ((IntKind.i64.wrap (v6 + (1 : Int))), (IntKind.i64.wrap (v12 - (1 : Int))), ((s5.2.2.set v6.toNat x18).set v12.toNat x19)))
noncomputable def G.slices_partitionEqualCmpFunc_index_entry_v0_index_New_1 (a0 : List G.index_entry) (a1 : Int) (a2 : Int) (a3 : Int) : Option (Int × (List G.index_entry)) :=
  (idx a0 a3).bind fun x1 =>
  (idx a0 a1).bind fun x2 =>
  (idx a0 a1).bind fun x3 =>
  (idx (a0.set a1.toNat x1) a3).bind fun x4 =>
  Iter (G.slices_partitionEqualCmpFunc_index_entry_v0_index_New_1_l1 a1) ((IntKind.i64.wrap (a1 + (1 : Int))), (IntKind.i64.wrap (a2 - (1 : Int))), ((a0.set a1.toNat x1).set a3.toNat x2))
noncomputable def G.slices_partitionCmpFunc_index_entry_v0_index_New_1_l1 (a0 : (List G.index_entry)) (a1 : Int) (a2 : Int) (a3 : Int) (x1 : G.index_entry) (x2 : G.index_entry) (s6 : Int) : Option (Int ⊕ Int) :=
  (
    if s6 ≤ (IntKind.i64.wrap (a2 - (1 : Int))) then
      (idx ((a0.set a1.toNat x1).set a3.toNat x2) s6).bind fun x8 =>
      (idx ((a0.set a1.toNat x1).set a3.toNat x2) a1).bind fun x9 =>
      (G.index_New_1 x8 x9).bind fun y10 =>
      some (decide (y10 < (0 : Int)))
    else
      some false).bind fun v7 =>
  if v7 = true then
    some (.inl (IntKind.i64.wrap (s6 + (1 : Int))))
  else
    some (.inr s6)
noncomputable def G.slices_partitionCmpFunc_index_entry_v0_index_New_1_l2 (a0 : (List G.index_entry)) (a1 : Int) (a3 : Int) (x1 : G.index_entry) (x2 : G.index_entry) (v5 : Int) (s12 : Int) : Option (Int ⊕ Int) :=
  (
    if v5 ≤ s12 then
      (idx ((a0.set a1.toNat x1).set a3.toNat x2) s12).bind fun x14 =>
      (idx ((a0.set a1.toNat x1).set a3.toNat x2) a1).bind fun x15 =>
      (G.index_New_1 x14 x15).bind fun y16 =>
      some (!(decide (y16 < (0 : Int))))
    else
      some false).bind fun v13 =>
  if v13 = true then
    some (.inl (IntKind.i64.wrap (s12 - (1 : Int))))
  else
    some (.inr s12)
noncomputable def G.slices_partitionCmpFunc_index_entry_v0_index_New_1_l4 (a1 : Int) (s26 : Int × Int × (List G.index_entry)) (s28 : Int) : Option (Int ⊕ Int) :=
  (
    if s28 ≤ s26.2.1 then
      (idx s26.2.2 s28).bind fun x30 =>
      (idx s26.2.2 a1).bind fun x31 =>
      (G.index_New_1 x30 x31).bind fun y32 =>
      some (decide (y32 < (0 : Int)))
    else
      some false).bind fun v29 =>
  if v29 = true then
    some (.inl (IntKind.i64.wrap (s28 + (1 : Int))))
  else
    some (.inr s28)
noncomputable def G.slices_partitionCmpFunc_index_entry_v0_index_New_1_l5 (a1 : Int) (s26 : Int × Int × (List G.index_entry)) (v27 : Int) (s34 : Int) : Option (Int ⊕ Int) :=
  (
    if v27 ≤ s34 then
      (idx s26.2.2 s34).bind fun x36 =>
      (idx s26.2.2 a1).bind fun x37 =>
      (G.index_New_1 x36 x37).bind fun y38 =>
      some (!(decide (y38 < (0 : Int))))
    else
      some false).bind fun v35 =>
  if v35 = true then
    some (.inl (IntKind.i64.wrap (s34 - (1 : Int))))
  else
    some (.inr s34)
noncomputable def G.slices_partitionCmpFunc_index_entry_v0_index_New_1_l3 (a1 : Int) (s26 : Int × Int × (List G.index_entry)) : Option ((Int × Int × (List G.index_entry)) ⊕ (Int × (List G.index_entry))) :=
  (
    Iter (G.slices_partitionCmpFunc_index_entry_v0_index_New_1_l4 a1 s26) s26.1).bind fun v27 =>
  (
    Iter (G.slices_partitionCmpFunc_index_entry_v0_index_New_1_l5 a1 s26 v27) s26.2.1).bind fun v33 =>
  if v27 > v33 then
    some (.inr (v33, s26.2.2))
  else
    (idx s26.2.2 v33).bind fun x39 =>
    (idx s26.2.2 v27).bind fun x40 =>
    (idx s26.2.2 v27).bind fun x41 =>
    (idx (s26.2.2.set v27.toNat x39) v33).bind fun x42 =>
    some (.inl ((IntKind.i64.wrap (v27 + (1 : Int))), (IntKind.i64.wrap (v33 - (1 : Int))), ((s26.2.2.set v27.toNat x39).set v33.toNat x40)))
noncomputable def G.slices_partitionCmpFunc_index_entry_v0_index_New_1 (a0 : List G.index_entry) (a1 : Int) (a2 : Int) (a3 : Int) : Option (Int × Bool × (List G.index_entry)) :=
  (idx a0 a3).bind fun x1 =>
  (idx a0 a1).bind fun x2 =>
  (idx a0 a1).bind fun x3 =>
  (idx (a0.set a1.toNat x1) a3).bind fun x4 =>
  (
    Iter (G.slices_partitionCmpFunc_index_entry_v0_index_New_1_l1 a0 a1 a2 a3 x1 x2) (IntKind.i64.wrap (a1 + (1 : Int)))).bind fun v5 =>
  (
    Iter (G.slices_partitionCmpFunc_index_entry_v0_index_New_1_l2 a0 a1 a3 x1 x2 v5) (IntKind.i64.wrap (a2 - (1 : Int)))).bind fun v11 =>
  if v5 > v11 then
    (idx ((a0.set a1.toNat x1).set a3.toNat x2) a1).bind fun x17 =>
    (idx ((a0.set a1.toNat x1).set a3.toNat x2) v11).bind fun x18 =>
    (idx ((a0.set a1.toNat x1).set a3.toNat x2) v11).bind fun x19 =>
    (idx (((a0.set a1.toNat x1).set a3.toNat x2).set v11.toNat x17) a1).bind fun x20 =>
    some (v11, true, ((((a0.set a1.toNat x1).set a3.toNat x2).set v11.toNat x17).set a1.toNat x18))
  else
    (idx ((a0.set a1.toNat x1).set a3.toNat x2) v11).bind fun x21 =>
    (idx ((a0.set a1.toNat x1).set a3.toNat x2) v5).bind fun x22 =>
    (idx ((a0.set a1.toNat x1).set a3.toNat x2) v5).bind fun x23 =>
    (idx (((a0.set a1.toNat x1).set a3.toNat x2).set v5.toNat x21) v11).bind fun x24 =>
    (
      Iter (G.slices_partitionCmpFunc_index_entry_v0_index_New_1_l3 a1) ((IntKind.i64.wrap (v5 + (1 : Int))), (IntKind.i64.wrap (v11 - (1 : Int))), ((((a0.set a1.toNat x1).set a3.toNat x2).set v5.toNat x21).set v11.toNat x22))).bind fun v25 =>
    (idx v25.2 a1).bind fun x43 =>
    (idx v25.2 v25.1).bind fun x44 =>
    (idx v25.2 v25.1).bind fun x45 =>
    (idx (v25.2.set v25.1.toNat x43) a1).bind fun x46 =>
    some (v25.1, false, ((v25.2.set v25.1.toNat x43).set a1.toNat x44))
noncomputable def G.slices_pdqsortCmpFunc_index_entry_v0_index_New_1_l1 (fx : ((List G.index_entry) × Int × Int × Int) → Option (List G.index_entry)) (s1 : Int × Int × Int × Bool × Bool × (List G.index_entry)) : Option ((Int × Int × Int × Bool × Bool × (List G.index_entry)) ⊕ (List G.index_entry)) :=
  if (IntKind.i64.wrap (s1.2.1 - s1.1)) ≤ (12 : Int) then
    (G.slices_insertionSortCmpFunc_index_entry_v0_index_New_1 s1.2.2.2.2.2 s1.1 s1.2.1).bind fun y2 =>
    some (.inr y2)
  else
    if s1.2.2.1 = (0 : Int) then
      (G.slices_heapSortCmpFunc_index_entry_v0_index_New_1 s1.2.2.2.2.2 s1.1 s1.2.1).bind fun y3 =>
      some (.inr y3)
    else
      (
        if s1.2.2.2.1 = false then
          (G.slices_breakPatternsCmpFunc_index_entry_v0_index_New_1 s1.2.2.2.2.2 s1.1 s1.2.1).bind fun y5 =>
          some ((IntKind.i64.wrap (s1.2.2.1 - (1 : Int))), y5)
        else
          some (s1.2.2.1, s1.2.2.2.2.2)).bind fun v4 =>
      (G.slices_choosePivotCmpFunc_index_entry_v0_index_New_1 v4.2 s1.1 s1.2.1).bind fun y6 =>
      (
        if y6.2 = (2 : Int) then
          (G.slices_reverseRangeCmpFunc_index_entry_v0_index_New_1 v4.2 s1.1 s1.2.1).bind fun y8 =>
          some ((IntKind.i64.wrap ((IntKind.i64.wrap (s1.2.1 - (1 : Int))) - (IntKind.i64.wrap (y6.1 - s1.1)))), (1 : Int), y8)
        else
          some (y6.1, y6.2, v4.2)).bind fun v7 =>
      (
        if s1.2.2.2.1 = true then
          if s1.2.2.2.2.1 = true then
            some (v7.2.1 == (1 : Int))
          else
            some false
        else
          some false).bind fun v9 =>
      ((
        if v9 = true then
          (G.slices_partialInsertionSortCmpFunc_index_entry_v0_index_New_1 v7.2.2 s1.1 s1.2.1).bind fun y12 =>
          if y12.1 = true then
            some (.inr (.inr y12.2))
          else
            some (.inl y12.2)
        else
          some (.inl v7.2.2)) : Option ((List G.index_entry) ⊕ ((Int × Int × Int × Bool × Bool × (List G.index_entry)) ⊕ (List G.index_entry)))).bind fun v10 => joinK v10 fun u11 =>
      (
        if s1.1 > (0 : Int) then
          (idx u11 (IntKind.i64.wrap (s1.1 - (1 : Int)))).bind fun x14 =>
          (idx u11 v7.1).bind fun x15 =>
          (G.index_New_1 x14 x15).bind fun y16 =>
          some (!(decide (y16 < (0 : Int))))
        else
          some false).bind fun v13 =>
      if v13 = true then
        (G.slices_partitionEqualCmpFunc_index_entry_v0_index_New_1 u11 s1.1 s1.2.1 v7.1).bind fun y17 =>
        some (.inl (y17.1, s1.2.1, v4.1, s1.2.2.2.1, s1.2.2.2.2.1, y17.2))
      else
        (G.slices_partitionCmpFunc_index_entry_v0_index_New_1 u11 s1.1 s1.2.1 v7.1).bind fun y18 =>
        if (IntKind.i64.wrap (y18.1 - s1.1)) < (IntKind.i64.wrap (s1.2.1 - y18.1)) then
          (fx (y18.2.2, s1.1, y18.1, v4.1)).bind fun y19 =>
          some (.inl ((IntKind.i64.wrap (y18.1 + (1 : Int))), s1.2.1, v4.1, (decide ((IntKind.i64.wrap (y18.1 - s1.1)) ≥ (IntKind.i64.wrap (Int.tdiv (IntKind.i64.wrap (s1.2.1 - s1.1)) (8 : Int))))), y18.2.1, y19))
        else
          (fx (y18.2.2, (IntKind.i64.wrap (y18.1 + (1 : Int))), s1.2.1, v4.1)).bind fun y20 =>
          some (.inl (s1.1, y18.1, v4.1, (decide ((IntKind.i64.wrap (s1.2.1 - y18.1)) ≥ (IntKind.i64.wrap (Int.tdiv (IntKind.i64.wrap (s1.2.1 - s1.1)) (8 : Int))))), y18.2.1, y20))
noncomputable def G.slices_pdqsortCmpFunc_index_entry_v0_index_New_1_b (fx : ((List G.index_entry) × Int × Int × Int) → Option (List G.index_entry)) (a0 : List G.index_entry) (a1 : Int) (a2 : Int) (a3 : Int) : Option (List G.index_entry) :=
  Iter (G.slices_pdqsortCmpFunc_index_entry_v0_index_New_1_l1 fx) (a1, a2, a3, true, true, a0)
noncomputable def G.slices_pdqsortCmpFunc_index_entry_v0_index_New_1_F (fx : ((List G.index_entry) × Int × Int × Int) → Option (List G.index_entry)) (x : (List G.index_entry) × Int × Int × Int) : Option (List G.index_entry) := G.slices_pdqsortCmpFunc_index_entry_v0_index_New_1_b fx x.1 x.2.1 x.2.2.1 x.2.2.2
noncomputable def G.slices_pdqsortCmpFunc_index_entry_v0_index_New_1 (a0 : List G.index_entry) (a1 : Int) (a2 : Int) (a3 : Int) : Option (List G.index_entry) := Fix G.slices_pdqsortCmpFunc_index_entry_v0_index_New_1_F (a0, a1, a2, a3)
noncomputable def G.slices_SortFunc_index_entry_index_entry_v0_index_New_1_w (a0 : List G.index_entry) : Option (List G.index_entry) :=
  (G.math_bits_Len (IntKind.u64.wrap (a0.length : Int))).bind fun y1 =>
  (G.slices_pdqsortCmpFunc_index_entry_v0_index_New_1 a0 (0 : Int) (a0.length : Int) y1).bind fun y2 =>
  some y2
noncomputable def G.index_New_l1 (a0 : (List G.Extent)) (s3 : Int × (List G.index_entry)) : Option ((Int × (List G.index_entry)) ⊕ ((List G.index_entry) ⊕ (Unit ⊕ (List G.index_entry)))) :=
  if s3.1 < (a0.length : Int) then
    (idx a0 s3.1).bind fun x4 =>
    (
      (G.extent_Valid x4).bind fun y6 =>
      if y6 = false then
        some true
      else
        some (x4.len == (0 : Int))).bind fun v5 =>
    if v5 = true then
      some (.inr (.inr (.inl ())))
    else
      (app 24 s3.2 [(⟨(⟨x4.off, x4.len⟩ : G.Extent), s3.1⟩ : G.index_entry)]).bind fun y7 =>
      some (.inl ((IntKind.i64.wrap (s3.1 + (1 : Int))), y7))
  else
    some (.inr (.inl s3.2))
noncomputable def G.index_New_l2 (y8 : (List G.index_entry)) (s9 : Int) : Option (Int ⊕ (Unit ⊕ (List G.index_entry))) :=
  if s9 < (y8.length : Int) then
    (
      if s9 > (0 : Int) then
        (idx y8 s9).bind fun x11 =>
        (idx y8 (IntKind.i64.wrap (s9 - (1 : Int)))).bind fun x12 =>
        (G.extent_End x12.extent).bind fun y13 =>
        some (decide (x11.extent.off < y13))
      else
        some false).bind fun v10 =>
    if v10 = true then
      some (.inr (.inl ()))
    else
      some (.inl (IntKind.i64.wrap (s9 + (1 : Int))))
  else
    some (.inr (.inr y8))
noncomputable def G.index_New (a0 : List G.Extent) : Option (Unit ⊕ (List G.index_entry)) :=
  ((
    Iter (G.index_New_l1 a0) ((0 : Int), ([] : List G.index_entry))) : Option ((List G.index_entry) ⊕ (Unit ⊕ (List G.index_entry)))).bind fun v1 => joinK v1 fun u2 =>
  (G.slices_SortFunc_index_entry_index_entry_v0_index_New_1_w u2).bind fun y8 =>
  Iter (G.index_New_l2 y8) (0 : Int)
noncomputable def G.index_Index_overlaps_nil0 (a0 : G.Extent) : Option G.Extent :=
  some a0
noncomputable def G.index_Index_Len_nil0 : Option Int :=
  some (0 : Int)
noncomputable def G.sort_Search_index_Index_after_1_l1 (s1 : Int × Int) : Option ((Int × Int) ⊕ Int) :=
  if s1.1 < s1.2 then
    none
  else
    some (.inr s1.1)
noncomputable def G.sort_Search_index_Index_after_1 (a0 : Int) (a1 : Int) : Option Int :=
  Iter G.sort_Search_index_Index_after_1_l1 ((0 : Int), a0)
noncomputable def G.index_Index_after_nil0 (a0 : Int) : Option Int :=
  (G.index_Index_Len_nil0).bind fun y1 =>
  (G.sort_Search_index_Index_after_1 y1 a0).bind fun y2 =>
  some y2
noncomputable def G.index_Index_overlaps_1_index_Index_Meet_l1 (s2 : Int) : Option (Int ⊕ Unit) :=
  (G.index_Index_Len_nil0).bind fun y3 =>
  if s2 < y3 then
    none
  else
    some (.inr ())
noncomputable def G.index_Index_overlaps_1_index_Index_Meet (a0 : G.Extent) (a1 : List Int) : Option Unit :=
  (G.index_Index_after_nil0 a0.off).bind fun y1 =>
  Iter G.index_Index_overlaps_1_index_Index_Meet_l1 y1
noncomputable def G.index_Index_Meet_nil0 (a0 : G.Extent) : Option (List Int) :=
  (G.index_Index_overlaps_nil0 a0).bind fun y1 =>
  (G.index_Index_overlaps_1_index_Index_Meet y1 ([] : List Int)).bind fun y2 =>
  some ([] : List Int)
noncomputable def G.index_Index_overlaps (a0 : G.Extent) (a1 : List G.index_entry) : Option G.Extent :=
  some a0
noncomputable def G.index_Index_Len (a0 : List G.index_entry) : Option Int :=
  some (a0.length : Int)
noncomputable def G.index_Index_after_1x (a0 : Int) (a1 : List G.index_entry) (a2 : Int) : Option Bool :=
  (idx a1 a0).bind fun x1 =>
  (G.extent_End x1.extent).bind fun y2 =>
  some (decide (y2 > a2))
noncomputable def G.sort_Search_index_Index_after_1x_l1 (a1 : (List G.index_entry)) (a2 : Int) (s1 : Int × Int) : Option ((Int × Int) ⊕ Int) :=
  if s1.1 < s1.2 then
    (G.index_Index_after_1x (IntKind.i64.wrap (ishr .u64 (IntKind.u64.wrap (IntKind.i64.wrap (s1.1 + s1.2))) (1 : Int))) a1 a2).bind fun y2 =>
    if y2 = false then
      some (.inl ((IntKind.i64.wrap ((IntKind.i64.wrap (ishr .u64 (IntKind.u64.wrap (IntKind.i64.wrap (s1.1 + s1.2))) (1 : Int))) + (1 : Int))), s1.2))
    else
      some (.inl (s1.1, (IntKind.i64.wrap (ishr .u64 (IntKind.u64.wrap (IntKind.i64.wrap (s1.1 + s1.2))) (1 : Int)))))
  else
    some (.inr s1.1)
noncomputable def G.sort_Search_index_Index_after_1x (a0 : Int) (a1 : List G.index_entry) (a2 : Int) : Option Int :=
  Iter (G.sort_Search_index_Index_after_1x_l1 a1 a2) ((0 : Int), a0)
noncomputable def G.index_Index_after (a0 : Int) (a1 : List G.index_entry) : Option Int :=
  (G.index_Index_Len a1).bind fun y1 =>
  (G.sort_Search_index_Index_after_1x y1 a1 a0).bind fun y2 =>
  some y2
noncomputable def G.index_Index_Meet_b1 (a0 : Int) (a1 : G.Extent) (a2 : List Int) : Option (List Int) :=
  (app 8 a2 [a0]).bind fun y1 =>
  some y1
noncomputable def G.index_Index_overlaps_1_index_Index_Meetx_l1 (a0 : (List G.index_entry)) (a1 : G.Extent) (s2 : Int × (List Int)) : Option ((Int × (List Int)) ⊕ (List Int)) :=
  (G.index_Index_Len a0).bind fun y3 =>
  if s2.1 < y3 then
    (idx a0 s2.1).bind fun x4 =>
    (G.extent_Overlap x4.extent a1).bind fun y5 =>
    (
      if y5.2 = false then
        some (true, s2.2)
      else
        (idx a0 s2.1).bind fun x7 =>
        (G.index_Index_Meet_b1 x7.position y5.1 s2.2).bind fun y8 =>
        some (false, y8)).bind fun v6 =>
    if v6.1 = true then
      some (.inr v6.2)
    else
      some (.inl ((IntKind.i64.wrap (s2.1 + (1 : Int))), v6.2))
  else
    some (.inr s2.2)
noncomputable def G.index_Index_overlaps_1_index_Index_Meetx (a0 : List G.index_entry) (a1 : G.Extent) (a2 : List Int) : Option (List Int) :=
  (G.index_Index_after a1.off a0).bind fun y1 =>
  Iter (G.index_Index_overlaps_1_index_Index_Meetx_l1 a0 a1) (y1, a2)
noncomputable def G.index_Index_Meet (a0 : G.Extent) (a1 : List G.index_entry) : Option (List Int) :=
  (G.index_Index_overlaps a0 a1).bind fun y1 =>
  (G.index_Index_overlaps_1_index_Index_Meetx a1 y1 ([] : List Int)).bind fun y2 =>
  some y2
noncomputable def G.safe_Dirty_l1 (y3 : G.Extent × Bool) (y5 : Int × (List G.Extent)) (y9 : (List Int)) (s10 : Int × (List G.Extent)) : Option ((Int × (List G.Extent)) ⊕ (List G.Extent)) :=
  if s10.1 < (y9.length : Int) then
    (idx y9 s10.1).bind fun x11 =>
    (idx y5.2 x11).bind fun x12 =>
    (G.extent_Overlap y3.1 x12).bind fun y13 =>
    (
      if (s10.2.length : Int) > (0 : Int) then
        (idx s10.2 (IntKind.i64.wrap ((s10.2.length : Int) - (1 : Int)))).bind fun x15 =>
        (G.extent_End x15).bind fun y16 =>
        some (y16 == y13.1.off)
      else
        some false).bind fun v14 =>
    if v14 = true then
      (idx s10.2 (IntKind.i64.wrap ((s10.2.length : Int) - (1 : Int)))).bind fun x17 =>
      (idx s10.2 (IntKind.i64.wrap ((s10.2.length : Int) - (1 : Int)))).bind fun x18 =>
      some (.inl ((IntKind.i64.wrap (s10.1 + (1 : Int))), (s10.2.set (IntKind.i64.wrap ((s10.2.length : Int) - (1 : Int))).toNat (⟨x18.off, (IntKind.i64.wrap (x17.len + y13.1.len))⟩ : G.Extent))))
    else
      (app 16 s10.2 [y13.1]).bind fun y19 =>
      some (.inl ((IntKind.i64.wrap (s10.1 + (1 : Int))), y19))
  else
    some (.inr s10.2)
noncomputable def G.safe_Dirty_l2 (y3 : G.Extent × Bool) (y5 : Int × (List G.Extent)) (y20 : (List Int)) (s21 : Int × (List G.Extent)) : Option ((Int × (List G.Extent)) ⊕ (List G.Extent)) :=
  if s21.1 < (y20.length : Int) then
    (idx y20 s21.1).bind fun x22 =>
    (idx y5.2 x22).bind fun x23 =>
    (G.extent_Overlap y3.1 x23).bind fun y24 =>
    (
      if (s21.2.length : Int) > (0 : Int) then
        (idx s21.2 (IntKind.i64.wrap ((s21.2.length : Int) - (1 : Int)))).bind fun x26 =>
        (G.extent_End x26).bind fun y27 =>
        some (y27 == y24.1.off)
      else
        some false).bind fun v25 =>
    if v25 = true then
      (idx s21.2 (IntKind.i64.wrap ((s21.2.length : Int) - (1 : Int)))).bind fun x28 =>
      (idx s21.2 (IntKind.i64.wrap ((s21.2.length : Int) - (1 : Int)))).bind fun x29 =>
      some (.inl ((IntKind.i64.wrap (s21.1 + (1 : Int))), (s21.2.set (IntKind.i64.wrap ((s21.2.length : Int) - (1 : Int))).toNat (⟨x29.off, (IntKind.i64.wrap (x28.len + y24.1.len))⟩ : G.Extent))))
    else
      (app 16 s21.2 [y24.1]).bind fun y30 =>
      some (.inl ((IntKind.i64.wrap (s21.1 + (1 : Int))), y30))
  else
    some (.inr s21.2)
noncomputable def G.safe_Dirty (a0 : List G.Command) (a1 : Int) : Option (List G.Extent) :=
  (
    if a1 < (0 : Int) then
      some true
    else
      some (decide (a1 ≥ (a0.length : Int)))).bind fun v1 =>
  if v1 = true then
    some ([] : List G.Extent)
  else
    (idx a0 a1).bind fun x2 =>
    (G.command_Source x2).bind fun y3 =>
    if y3.2 = false then
      some ([] : List G.Extent)
    else
      (G.safe_steps a0).bind fun y4 =>
      (G.safe_steps_1_safe_Dirty y4 a1 ([] : List G.Extent)).bind fun y5 =>
      (G.index_New y5.2).bind fun y6 =>
      match y6 with
      | .inl y7 =>
        (G.index_Index_Meet_nil0 y3.1).bind fun y9 =>
        Iter (G.safe_Dirty_l1 y3 y5 y9) ((0 : Int), ([] : List G.Extent))
      | .inr y8 =>
        (G.index_Index_Meet y3.1 y8).bind fun y20 =>
        Iter (G.safe_Dirty_l2 y3 y5 y20) ((0 : Int), ([] : List G.Extent))
noncomputable def G.slices_Equal_api_Extent_api_Extent_l1 (a0 : (List G.Extent)) (a1 : (List G.Extent)) (s1 : Int) : Option (Int ⊕ Bool) :=
  if s1 < (a0.length : Int) then
    (idx a0 s1).bind fun x2 =>
    (idx a1 s1).bind fun x3 =>
    if (decide (x2.off = x3.off ∧ x2.len = x3.len)) = false then
      some (.inr false)
    else
      some (.inl (IntKind.i64.wrap (s1 + (1 : Int))))
  else
    some (.inr true)
noncomputable def G.slices_Equal_api_Extent_api_Extent (a0 : List G.Extent) (a1 : List G.Extent) : Option Bool :=
  if (a0.length : Int) ≠ (a1.length : Int) then
    some false
  else
    Iter (G.slices_Equal_api_Extent_api_Extent_l1 a0 a1) (0 : Int)
noncomputable def G.graftlaw16_alive : Option Bool :=
  (idx [(⟨(1 : Int), (0 : Int), (2 : Int), (2 : Int), ([] : List UInt8)⟩ : G.Command), (⟨(1 : Int), (2 : Int), (0 : Int), (2 : Int), ([] : List UInt8)⟩ : G.Command)] (1 : Int)).bind fun x1 =>
  (G.safe_Execute [(u8 97), (u8 98), (u8 99), (u8 100)] [x1]).bind fun y2 =>
  (G.safe_Check [(⟨(1 : Int), (0 : Int), (2 : Int), (2 : Int), ([] : List UInt8)⟩ : G.Command), (⟨(1 : Int), (2 : Int), (0 : Int), (2 : Int), ([] : List UInt8)⟩ : G.Command)]).bind fun y3 =>
  if y3.code = (16 : Int) ∧ y3.at_ = (1 : Int) then
    (G.safe_Dirty [(⟨(1 : Int), (0 : Int), (2 : Int), (2 : Int), ([] : List UInt8)⟩ : G.Command), (⟨(1 : Int), (2 : Int), (0 : Int), (2 : Int), ([] : List UInt8)⟩ : G.Command)] (1 : Int)).bind fun y4 =>
    (G.slices_Equal_api_Extent_api_Extent y4 [(⟨(0 : Int), (2 : Int)⟩ : G.Extent)]).bind fun y5 =>
    if y5 = true then
      if y2.1 = ([97, 98, 97, 98] : List UInt8) then
        if y2.2 = true then
          (G.safe_Prefix [(⟨(1 : Int), (0 : Int), (2 : Int), (2 : Int), ([] : List UInt8)⟩ : G.Command), (⟨(1 : Int), (2 : Int), (0 : Int), (2 : Int), ([] : List UInt8)⟩ : G.Command)]).bind fun y6 =>
          some (y6 == (1 : Int))
        else
          some false
      else
        some false
    else
      some false
  else
    some false
noncomputable def G.graftref12_Reads (a0 : G.Command) (a1 : G.Command) : Option Int :=
  if a0.kind ≠ (1 : Int) then
    some (0 : Int)
  else
    (G.graftref04_Source a0).bind fun y1 =>
    (G.graftref04_Target a1).bind fun y2 =>
    (G.graftref01_Overlap y1 y2).bind fun y3 =>
    some y3.len
noncomputable def G.graftref12_Graph_l2 (a0 : (List G.Command)) (s1 : Int × Int × (List G.graftref11_Edge)) (s2 : Int × Int × (List G.graftref11_Edge)) : Option ((Int × Int × (List G.graftref11_Edge)) ⊕ ((Int × Int × (List G.graftref11_Edge)) ⊕ (Int × (List G.graftref11_Edge)))) :=
  if s2.1 < (a0.length : Int) then
    (
      if s1.1 ≠ s2.1 then
        (idx a0 s1.1).bind fun x4 =>
        (idx a0 s2.1).bind fun x5 =>
        (G.graftref12_Reads x4 x5).bind fun y6 =>
        some (decide (y6 > (0 : Int)))
      else
        some false).bind fun v3 =>
    if v3 = true then
      (app 16 s2.2.2 [(⟨s1.1, s2.1⟩ : G.graftref11_Edge)]).bind fun y7 =>
      some (.inl ((IntKind.i64.wrap (s2.1 + (1 : Int))), s2.2.1, y7))
    else
      some (.inl ((IntKind.i64.wrap (s2.1 + (1 : Int))), s2.2.1, s2.2.2))
  else
    some (.inr (.inl ((IntKind.i64.wrap (s1.1 + (1 : Int))), s2.2.1, s2.2.2)))
noncomputable def G.graftref12_Graph_l1 (a0 : (List G.Command)) (s1 : Int × Int × (List G.graftref11_Edge)) : Option ((Int × Int × (List G.graftref11_Edge)) ⊕ (Int × (List G.graftref11_Edge))) :=
  if s1.1 < (a0.length : Int) then
    Iter (G.graftref12_Graph_l2 a0 s1) ((0 : Int), s1.2.1, s1.2.2)
  else
    some (.inr (s1.2.1, s1.2.2))
noncomputable def G.graftref12_Graph (a0 : List G.Command) : Option (Int × (List G.graftref11_Edge)) :=
  Iter (G.graftref12_Graph_l1 a0) ((0 : Int), (a0.length : Int), ([] : List G.graftref11_Edge))
noncomputable def G.graftref12_place_l1 (a0 : (List Int)) (a1 : Int) (s1 : Int) : Option (Int ⊕ Int) :=
  if s1 < (a0.length : Int) then
    (idx a0 s1).bind fun x2 =>
    if x2 = a1 then
      some (.inr s1)
    else
      some (.inl (IntKind.i64.wrap (s1 + (1 : Int))))
  else
    some (.inr (a0.length : Int))
noncomputable def G.graftref12_place (a0 : List Int) (a1 : Int) : Option Int :=
  Iter (G.graftref12_place_l1 a0 a1) (0 : Int)
noncomputable def G.graftref12_Violations_l1 (a1 : (List Int)) (y1 : Int × (List G.graftref11_Edge)) (s2 : (List G.graftref11_Edge) × Int) : Option (((List G.graftref11_Edge) × Int) ⊕ (List G.graftref11_Edge)) :=
  if s2.2 < (y1.2.length : Int) then
    (idx y1.2 s2.2).bind fun x3 =>
    (G.graftref12_place a1 x3.to).bind fun y4 =>
    (idx y1.2 s2.2).bind fun x5 =>
    (G.graftref12_place a1 x5.from_).bind fun y6 =>
    if y4 < y6 then
      (idx y1.2 s2.2).bind fun x7 =>
      (app 16 s2.1 [x7]).bind fun y8 =>
      some (.inl (y8, (IntKind.i64.wrap (s2.2 + (1 : Int)))))
    else
      some (.inl (s2.1, (IntKind.i64.wrap (s2.2 + (1 : Int)))))
  else
    some (.inr s2.1)
noncomputable def G.graftref12_Violations (a0 : List G.Command) (a1 : List Int) : Option (List G.graftref11_Edge) :=
  (G.graftref12_Graph a0).bind fun y1 =>
  Iter (G.graftref12_Violations_l1 a1 y1) (([] : List G.graftref11_Edge), (0 : Int))
noncomputable def G.graftlaw16_SafeEdges_l1 (a0 : (List G.Command)) (s6 : (List Int) × Int) : Option (((List Int) × Int) ⊕ (List Int)) :=
  if s6.2 < (a0.length : Int) then
    (app 8 s6.1 [s6.2]).bind fun y7 =>
    some (.inl (y7, (IntKind.i64.wrap (s6.2 + (1 : Int)))))
  else
    some (.inr s6.1)
noncomputable def G.graftlaw16_SafeEdges (a0 : List G.Command) : Option Bool :=
  (
    (G.graftref12_Right a0).bind fun y2 =>
    if y2 = false then
      some true
    else
      (G.graftref16_Short a0).bind fun y3 =>
      some (!y3)).bind fun v1 =>
  if v1 = true then
    (G.graftlaw16_alive).bind fun y4 =>
    some y4
  else
    (
      Iter (G.graftlaw16_SafeEdges_l1 a0) (([] : List Int), (0 : Int))).bind fun v5 =>
    (G.graftlaw16_alive).bind fun y8 =>
    if y8 = true then
      (G.safe_Check a0).bind fun y9 =>
      (G.graftref12_Violations a0 v5).bind fun y10 =>
      some ((decide (y9.code = (0 : Int) ∧ y9.at_ = (0 : Int))) == ((y10.length : Int) == (0 : Int)))
    else
      some false
noncomputable def G.delta_inRange (a0 : Int) : Option Bool :=
  (G.extent_Valid (⟨(0 : Int), a0⟩ : G.Extent)).bind fun y1 =>
  some y1
noncomputable def G.command_Check (a0 : G.Command) : Option Int :=
  (
    if a0.kind ≠ (1 : Int) then
      some (a0.kind != (2 : Int))
    else
      some false).bind fun v1 =>
  if v1 = true then
    some (11 : Int)
  else
    (G.command_of a0).bind fun y2 =>
    if y2.extent.len = (0 : Int) then
      some (7 : Int)
    else
      (G.extent_Valid y2.extent).bind fun y3 =>
      (
        if a0.kind = (1 : Int) then
          if y3 = true then
            if (a0.data.length : Int) = (0 : Int) then
              (G.extent_Valid (⟨a0.from_, a0.len⟩ : G.Extent)).bind fun y5 =>
              some y5
            else
              some false
          else
            some false
        else
          if y3 = true then
            if a0.from_ = (0 : Int) then
              some (a0.len == (0 : Int))
            else
              some false
          else
            some false).bind fun v4 =>
      if v4 = false then
        some (2 : Int)
      else
        some (0 : Int)
noncomputable def G.delta_single (a0 : G.Delta) (a1 : G.Command) : Option Int :=
  (G.command_Check a1).bind fun y1 =>
  if y1 ≠ (0 : Int) then
    some y1
  else
    (G.command_Source a1).bind fun y2 =>
    (
      if y2.2 = true then
        (G.extent_End y2.1).bind fun y4 =>
        some (decide (y4 > a0.oldLen))
      else
        some false).bind fun v3 =>
    if v3 = true then
      some (5 : Int)
    else
      (G.command_Target a1).bind fun y5 =>
      (G.extent_End y5).bind fun y6 =>
      if y6 > a0.newLen then
        some (6 : Int)
      else
        some (0 : Int)
noncomputable def G.delta_sorted_1 (a0 : Int) (a1 : Int) (a2 : List G.Command) : Option Int :=
  (idx a2 a0).bind fun x1 =>
  (idx a2 a1).bind fun x2 =>
  (G.cmp_Compare_int x1.to x2.to).bind fun y3 =>
  some y3
noncomputable def G.slices_insertionSortCmpFunc_int_v0_delta_sorted_1_l2 (a1 : Int) (a3 : (List G.Command)) (s1 : Int × (List Int)) (s2 : Int × (List Int)) : Option ((Int × (List Int)) ⊕ ((Int × (List Int)) ⊕ (List Int))) :=
  (
    if s2.1 > a1 then
      (idx s2.2 s2.1).bind fun x4 =>
      (idx s2.2 (IntKind.i64.wrap (s2.1 - (1 : Int)))).bind fun x5 =>
      (G.delta_sorted_1 x4 x5 a3).bind fun y6 =>
      some (decide (y6 < (0 : Int)))
    else
      some false).bind fun v3 =>
  if v3 = true then
    (idx s2.2 (IntKind.i64.wrap (s2.1 - (1 : Int)))).bind fun x7 =>
    (idx s2.2 s2.1).bind fun x8 =>
    (idx s2.2 s2.1).bind fun x9 =>
    (idx (s2.2.set s2.1.toNat x7) (IntKind.i64.wrap (s2.1 - (1 : Int)))).bind fun x10 =>
    some (.inl ((IntKind.i64.wrap (s2.1 - (1 : Int))), ((s2.2.set s2.1.toNat x7).set (IntKind.i64.wrap (s2.1 - (1 : Int))).toNat x8)))
  else
    some (.inr (.inl ((IntKind.i64.wrap (s1.1 + (1 : Int))), s2.2)))
noncomputable def G.slices_insertionSortCmpFunc_int_v0_delta_sorted_1_l1 (a1 : Int) (a2 : Int) (a3 : (List G.Command)) (s1 : Int × (List Int)) : Option ((Int × (List Int)) ⊕ (List Int)) :=
  if s1.1 < a2 then
    Iter (G.slices_insertionSortCmpFunc_int_v0_delta_sorted_1_l2 a1 a3 s1) (s1.1, s1.2)
  else
    some (.inr s1.2)
noncomputable def G.slices_insertionSortCmpFunc_int_v0_delta_sorted_1 (a0 : List Int) (a1 : Int) (a2 : Int) (a3 : List G.Command) : Option (List Int) :=
  Iter (G.slices_insertionSortCmpFunc_int_v0_delta_sorted_1_l1 a1 a2 a3) ((IntKind.i64.wrap (a1 + (1 : Int))), a0)
noncomputable def G.slices_swapRangeCmpFunc_int_v0_delta_sorted_1_l1 (a1 : Int) (a2 : Int) (a3 : Int) (s1 : Int × (List Int)) : Option ((Int × (List Int)) ⊕ (List Int)) :=
  if s1.1 < a3 then
    (idx s1.2 (IntKind.i64.wrap (a2 + s1.1))).bind fun x2 =>
    (idx s1.2 (IntKind.i64.wrap (a1 + s1.1))).bind fun x3 =>
    (idx s1.2 (IntKind.i64.wrap (a1 + s1.1))).bind fun x4 =>
    (idx (s1.2.set (IntKind.i64.wrap (a1 + s1.1)).toNat x2) (IntKind.i64.wrap (a2 + s1.1))).bind fun x5 =>
    some (.inl ((IntKind.i64.wrap (s1.1 + (1 : Int))), ((s1.2.set (IntKind.i64.wrap (a1 + s1.1)).toNat x2).set (IntKind.i64.wrap (a2 + s1.1)).toNat x3)))
  else
    some (.inr s1.2)
noncomputable def G.slices_swapRangeCmpFunc_int_v0_delta_sorted_1 (a0 : List Int) (a1 : Int) (a2 : Int) (a3 : Int) (a4 : List G.Command) : Option (List Int) :=
  Iter (G.slices_swapRangeCmpFunc_int_v0_delta_sorted_1_l1 a1 a2 a3) ((0 : Int), a0)
noncomputable def G.slices_rotateCmpFunc_int_v0_delta_sorted_1_l1 (a2 : Int) (a4 : (List G.Command)) (s2 : Int × Int × (List Int)) : Option ((Int × Int × (List Int)) ⊕ (Int × (List Int))) :=
  if s2.1 ≠ s2.2.1 then
    if s2.1 > s2.2.1 then
      (G.slices_swapRangeCmpFunc_int_v0_delta_sorted_1 s2.2.2 (IntKind.i64.wrap (a2 - s2.1)) a2 s2.2.1 a4).bind fun y3 =>
      some (.inl ((IntKind.i64.wrap (s2.1 - s2.2.1)), s2.2.1, y3))
    else
      (G.slices_swapRangeCmpFunc_int_v0_delta_sorted_1 s2.2.2 (IntKind.i64.wrap (a2 - s2.1)) (IntKind.i64.wrap ((IntKind.i64.wrap (a2 + s2.2.1)) - s2.1)) s2.1 a4).bind fun y4 =>
      some (.inl (s2.1, (IntKind.i64.wrap (s2.2.1 - s2.1)), y4))
  else
    some (.inr (s2.1, s2.2.2))
noncomputable def G.slices_rotateCmpFunc_int_v0_delta_sorted_1 (a0 : List Int) (a1 : Int) (a2 : Int) (a3 : Int) (a4 : List G.Command) : Option (List Int) :=
  (
    Iter (G.slices_rotateCmpFunc_int_v0_delta_sorted_1_l1 a2 a4) ((IntKind.i64.wrap (a2 - a1)), (IntKind.i64.wrap (a3 - a2)), a0)).bind fun v1 =>
  (G.slices_swapRangeCmpFunc_int_v0_delta_sorted_1 v1.2 (IntKind.i64.wrap (a2 - v1.1)) a2 v1.1 a4).bind fun y5 =>
  some y5
noncomputable def G.slices_symMergeCmpFunc_int_v0_delta_sorted_1_l1 (a0 : (List Int)) (a1 : Int) (a4 : (List G.Command)) (s4 : Int × Int) : Option ((Int × Int) ⊕ Int) :=
  if s4.1 < s4.2 then
    (idx a0 (IntKind.i64.wrap (ishr .u64 (IntKind.u64.wrap (IntKind.i64.wrap (s4.1 + s4.2))) (1 : Int)))).bind fun x5 =>
    (idx a0 a1).bind fun x6 =>
    (G.delta_sorted_1 x5 x6 a4).bind fun y7 =>
    if y7 < (0 : Int) then
      some (.inl ((IntKind.i64.wrap ((IntKind.i64.wrap (ishr .u64 (IntKind.u64.wrap (IntKind.i64.wrap (s4.1 + s4.2))) (1 : Int))) + (1 : Int))), s4.2))
    else
      some (.inl (s4.1, (IntKind.i64.wrap (ishr .u64 (IntKind.u64.wrap (IntKind.i64.wrap (s4.1 + s4.2))) (1 : Int)))))
  else
    some (.inr s4.1)
noncomputable def G.slices_symMergeCmpFunc_int_v0_delta_sorted_1_l2 (v3 : Int) (s8 : Int × (List Int)) : Option ((Int × (List Int)) ⊕ (Unit ⊕ (List Int))) :=
  if s8.1 < (IntKind.i64.wrap (v3 - (1 : Int))) then
    (idx s8.2 (IntKind.i64.wrap (s8.1 + (1 : Int)))).bind fun x9 =>
    (idx s8.2 s8.1).bind fun x10 =>
    (idx s8.2 s8.1).bind fun x11 =>
    (idx (s8.2.set s8.1.toNat x9) (IntKind.i64.wrap (s8.1 + (1 : Int)))).bind fun x12 =>
    some (.inl ((IntKind.i64.wrap (s8.1 + (1 : Int))), ((s8.2.set s8.1.toNat x9).set (IntKind.i64.wrap (s8.1 + (1 : Int))).toNat x10)))
  else
    some (.inr (.inr s8.2))
noncomputable def G.slices_symMergeCmpFunc_int_v0_delta_sorted_1_l3 (a0 : (List Int)) (a2 : Int) (a4 : (List G.Command)) (s16 : Int × Int) : Option ((Int × Int) ⊕ Int) :=
  if s16.1 < s16.2 then
    (idx a0 a2).bind fun x17 =>
    (idx a0 (IntKind.i64.wrap (ishr .u64 (IntKind.u64.wrap (IntKind.i64.wrap (s16.1 + s16.2))) (1 : Int)))).bind fun x18 =>
    (G.delta_sorted_1 x17 x18 a4).bind fun y19 =>
    if (decide (y19 < (0 : Int))) = false then
      some (.inl ((IntKind.i64.wrap ((IntKind.i64.wrap (ishr .u64 (IntKind.u64.wrap (IntKind.i64.wrap (s16.1 + s16.2))) (1 : Int))) + (1 : Int))), s16.2))
    else
      some (.inl (s16.1, (IntKind.i64.wrap (ishr .u64 (IntKind.u64.wrap (IntKind.i64.wrap (s16.1 + s16.2))) (1 : Int)))))
  else
    some (.inr s16.1)
noncomputable def G.slices_symMergeCmpFunc_int_v0_delta_sorted_1_l4 (v15 : Int) (s20 : Int × (List Int)) : Option ((Int × (List Int)) ⊕ (Unit ⊕ (List Int))) :=
  if s20.1 > v15 then
    (idx s20.2 (IntKind.i64.wrap (s20.1 - (1 : Int)))).bind fun x21 =>
    (idx s20.2 s20.1).bind fun x22 =>
    (idx s20.2 s20.1).bind fun x23 =>
    (idx (s20.2.set s20.1.toNat x21) (IntKind.i64.wrap (s20.1 - (1 : Int)))).bind fun x24 =>
    some (.inl ((IntKind.i64.wrap (s20.1 - (1 : Int))), ((s20.2.set s20.1.toNat x21).set (IntKind.i64.wrap (s20.1 - (1 : Int))).toNat x22)))
  else
    some (.inr (.inr s20.2))
noncomputable def G.slices_symMergeCmpFunc_int_v0_delta_sorted_1_l5 (a0 : (List Int)) (a1 : Int) (a2 : Int) (a3 : Int) (a4 : (List G.Command)) (s27 : Int × Int) : Option ((Int × Int) ⊕ Int) :=
  if s27.1 < s27.2 then
    (idx a0 (IntKind.i64.wrap ((IntKind.i64.wrap ((IntKind.i64.wrap ((IntKind.i64.wrap (ishr .u64 (IntKind.u64.wrap (IntKind.i64.wrap (a1 + a3))) (1 : Int))) + a2)) - (1 : Int))) - (IntKind.i64.wrap (ishr .u64 (IntKind.u64.wrap (IntKind.i64.wrap (s27.1 + s27.2))) (1 : Int)))))).bind fun x28 =>
    (idx a0 (IntKind.i64.wrap (ishr .u64 (IntKind.u64.wrap (IntKind.i64.wrap (s27.1 + s27.2))) (1 : Int)))).bind fun x29 =>
    (G.delta_sorted_1 x28 x29 a4).bind fun y30 =>
    if (decide (y30 < (0 : Int))) = false then
      some (.inl ((IntKind.i64.wrap ((IntKind.i64.wrap (ishr .u64 (IntKind.u64.wrap (IntKind.i64.wrap (s27.1 + s27.2))) (1 : Int))) + (1 : Int))), s27.2))
    else
      some (.inl (s27.1, (IntKind.i64.wrap (ishr .u64 (IntKind.u64.wrap (IntKind.i64.wrap (s27.1 + s27.2))) (1 : Int)))))
  else
    some (.inr s27.1)
noncomputable def G.slices_symMergeCmpFunc_int_v0_delta_sorted_1_b (fx : ((List Int) × Int × Int × Int × (List G.Command)) → Option (List Int)) (a0 : List Int) (a1 : Int) (a2 : Int) (a3 : Int) (a4 : List G.Command) : Option (List Int) :=
  ((
    if (IntKind.i64.wrap (a2 - a1)) = (1 : Int) then
      (
        Iter (G.slices_symMergeCmpFunc_int_v0_delta_sorted_1_l1 a0 a1 a4) (a2, a3)).bind fun v3 =>
      Iter (G.slices_symMergeCmpFunc_int_v0_delta_sorted_1_l2 v3) (a1, a0)
    else
      some (.inl ())) : Option (Unit ⊕ (List Int))).bind fun v1 => joinK v1 fun u2 =>
  ((
    if (IntKind.i64.wrap (a3 - a2)) = (1 : Int) then
      (
        Iter (G.slices_symMergeCmpFunc_int_v0_delta_sorted_1_l3 a0 a2 a4) (a1, a2)).bind fun v15 =>
      Iter (G.slices_symMergeCmpFunc_int_v0_delta_sorted_1_l4 v15) (a2, a0)
    else
      some (.inl ())) : Option (Unit ⊕ (List Int))).bind fun v13 => joinK v13 fun u14 =>
  (
    if a2 > (IntKind.i64.wrap (ishr .u64 (IntKind.u64.wrap (IntKind.i64.wrap (a1 + a3))) (1 : Int))) then
      some ((IntKind.i64.wrap ((IntKind.i64.wrap ((IntKind.i64.wrap (ishr .u64 (IntKind.u64.wrap (IntKind.i64.wrap (a1 + a3))) (1 : Int))) + a2)) - a3)), (IntKind.i64.wrap (ishr .u64 (IntKind.u64.wrap (IntKind.i64.wrap (a1 + a3))) (1 : Int))))
    else
      some (a1, a2)).bind fun v25 =>
  (
    Iter (G.slices_symMergeCmpFunc_int_v0_delta_sorted_1_l5 a0 a1 a2 a3 a4) (v25.1, v25.2)).bind fun v26 =>
  (
    if v26 < a2 then
      some (decide (a2 < (IntKind.i64.wrap ((IntKind.i64.wrap ((IntKind.i64.wrap (ishr .u64 (IntKind.u64.wrap (IntKind.i64.wrap (a1 + a3))) (1 : Int))) + a2)) - v26))))
    else
      some false).bind fun v31 =>
  (
    if v31 = true then
      (G.slices_rotateCmpFunc_int_v0_delta_sorted_1 a0 v26 a2 (IntKind.i64.wrap ((IntKind.i64.wrap ((IntKind.i64.wrap (ishr .u64 (IntKind.u64.wrap (IntKind.i64.wrap (a1 + a3))) (1 : Int))) + a2)) - v26)) a4).bind fun y33 =>
      some y33
    else
      some a0).bind fun v32 =>
  (
    if a1 < v26 then
      some (decide (v26 < (IntKind.i64.wrap (ishr .u64 (IntKind.u64.wrap (IntKind.i64.wrap (a1 + a3))) (1 : Int)))))
    else
      some false).bind fun v34 =>
  (
    if v34 = true then
      (fx (v32, a1, v26, (IntKind.i64.wrap (ishr .u64 (IntKind.u64.wrap (IntKind.i64.wrap (a1 + a3))) (1 : Int))), a4)).bind fun y36 =>
      some y36
    else
      some v32).bind fun v35 =>
  (
    if (IntKind.i64.wrap (ishr .u64 (IntKind.u64.wrap (IntKind.i64.wrap (a1 + a3))) (1 : Int))) < (IntKind.i64.wrap ((IntKind.i64.wrap ((IntKind.i64.wrap (ishr .u64 (IntKind.u64.wrap (IntKind.i64.wrap (a1 + a3))) (1 : Int))) + a2)) - v26)) then
      some (decide ((IntKind.i64.wrap ((IntKind.i64.wrap ((IntKind.i64.wrap (ishr .u64 (IntKind.u64.wrap (IntKind.i64.wrap (a1 + a3))) (1 : Int))) + a2)) - v26)) < a3))
    else
      some false).bind fun v37 =>
  if v37 = true then
    (fx (v35, (IntKind.i64.wrap (ishr .u64 (IntKind.u64.wrap (IntKind.i64.wrap (a1 + a3))) (1 : Int))), (IntKind.i64.wrap ((IntKind.i64.wrap ((IntKind.i64.wrap (ishr .u64 (IntKind.u64.wrap (IntKind.i64.wrap (a1 + a3))) (1 : Int))) + a2)) - v26)), a3, a4)).bind fun y38 =>
    some y38
  else
    some v35
noncomputable def G.slices_symMergeCmpFunc_int_v0_delta_sorted_1_F (fx : ((List Int) × Int × Int × Int × (List G.Command)) → Option (List Int)) (x : (List Int) × Int × Int × Int × (List G.Command)) : Option (List Int) := G.slices_symMergeCmpFunc_int_v0_delta_sorted_1_b fx x.1 x.2.1 x.2.2.1 x.2.2.2.1 x.2.2.2.2
noncomputable def G.slices_symMergeCmpFunc_int_v0_delta_sorted_1 (a0 : List Int) (a1 : Int) (a2 : Int) (a3 : Int) (a4 : List G.Command) : Option (List Int) := Fix G.slices_symMergeCmpFunc_int_v0_delta_sorted_1_F (a0, a1, a2, a3, a4)
noncomputable def G.slices_stableCmpFunc_int_v0_delta_sorted_1_l1 (a1 : Int) (a2 : (List G.Command)) (s2 : Int × Int × (List Int)) : Option ((Int × Int × (List Int)) ⊕ (Int × (List Int))) :=
  if s2.2.1 ≤ a1 then
    (G.slices_insertionSortCmpFunc_int_v0_delta_sorted_1 s2.2.2 s2.1 s2.2.1 a2).bind fun y3 =>
    some (.inl (s2.2.1, (IntKind.i64.wrap (s2.2.1 + (20 : Int))), y3))
  else
    some (.inr (s2.1, s2.2.2))
noncomputable def G.slices_stableCmpFunc_int_v0_delta_sorted_1_l3 (a1 : Int) (a2 : (List G.Command)) (s5 : Int × (List Int)) (s7 : Int × Int × (List Int)) : Option ((Int × Int × (List Int)) ⊕ (Int × (List Int))) :=
  if s7.2.1 ≤ a1 then
    (G.slices_symMergeCmpFunc_int_v0_delta_sorted_1 s7.2.2 s7.1 (IntKind.i64.wrap (s7.1 + s5.1)) s7.2.1 a2).bind fun y8 =>
    some (.inl (s7.2.1, (IntKind.i64.wrap (s7.2.1 + (IntKind.i64.wrap ((2 : Int) * s5.1)))), y8))
  else
    some (.inr (s7.1, s7.2.2))
noncomputable def G.slices_stableCmpFunc_int_v0_delta_sorted_1_l2 (a1 : Int) (a2 : (List G.Command)) (s5 : Int × (List Int)) : Option ((Int × (List Int)) ⊕ (List Int)) :=
  if s5.1 < a1 then
    (
      Iter (G.slices_stableCmpFunc_int_v0_delta_sorted_1_l3 a1 a2 s5) ((0 : Int), (IntKind.i64.wrap ((2 : Int) * s5.1)), s5.2)).bind fun v6 =>
    if (IntKind.i64.wrap (v6.1 + s5.1)) < a1 then
      (G.slices_symMergeCmpFunc_int_v0_delta_sorted_1 v6.2 v6.1 (IntKind.i64.wrap (v6.1 + s5.1)) a1 a2).bind fun y9 =>
      some (.inl ((IntKind.i64.wrap (s5.1 * (2 : Int))), y9))
    else
      some (.inl ((IntKind.i64.wrap (s5.1 * (2 : Int))), v6.2))
  else
    some (.inr s5.2)
noncomputable def G.slices_stableCmpFunc_int_v0_delta_sorted_1 (a0 : List Int) (a1 : Int) (a2 : List G.Command) : Option (List Int) :=
  (
    Iter (G.slices_stableCmpFunc_int_v0_delta_sorted_1_l1 a1 a2) ((0 : Int), (20 : Int), a0)).bind fun v1 =>
  (G.slices_insertionSortCmpFunc_int_v0_delta_sorted_1 v1.2 v1.1 a1 a2).bind fun y4 =>
  Iter (G.slices_stableCmpFunc_int_v0_delta_sorted_1_l2 a1 a2) ((20 : Int), y4)
noncomputable def G.slices_SortStableFunc_int_int_v0_delta_sorted_1 (a0 : List Int) (a1 : List G.Command) : Option (List Int) :=
  (G.slices_stableCmpFunc_int_v0_delta_sorted_1 a0 (a0.length : Int) a1).bind fun y1 =>
  some y1
noncomputable def G.delta_sorted_l1 (a0 : (List G.Command)) (s3 : Int × (List Int)) : Option ((Int × (List Int)) ⊕ (List Int)) :=
  if s3.1 < ((List.replicate (a0.length : Int).toNat (0 : Int)).length : Int) then
    (idx s3.2 s3.1).bind fun x4 =>
    some (.inl ((IntKind.i64.wrap (s3.1 + (1 : Int))), (s3.2.set s3.1.toNat s3.1)))
  else
    some (.inr s3.2)
noncomputable def G.delta_sorted (a0 : List G.Command) : Option ((List G.Command) × (List Int)) :=
  (chk (0 ≤ (a0.length : Int) ∧ (a0.length : Int) * 8 ≤ 140737488355328)).bind fun y1 =>
  (
    Iter (G.delta_sorted_l1 a0) ((0 : Int), (List.replicate (a0.length : Int).toNat (0 : Int)))).bind fun v2 =>
  (G.slices_SortStableFunc_int_int_v0_delta_sorted_1 v2 a0).bind fun y5 =>
  some (a0, y5)
noncomputable def G.delta_tiles_b1 (a0 : Int) (a1 : G.Extent) (a2 : Int) (a3 : Bool) (a4 : Int) (a5 : Int) : Option ((Int × Bool) ⊕ (Int × Int)) :=
  if a1.off < a4 then
    some (.inl ((0 : Int), true))
  else
    (
      if a1.off > a4 then
        some (decide (a5 < (0 : Int)))
      else
        some false).bind fun v1 =>
    (
      if v1 = true then
        some a4
      else
        some a5).bind fun v2 =>
    (G.extent_End a1).bind fun y3 =>
    some (.inr (y3, v2))
noncomputable def G.delta_sorted_2_delta_tiles_l1 (a0 : (List Int)) (a1 : (List G.Command)) (s1 : Int × Int × Bool × Int × Int) : Option ((Int × Int × Bool × Int × Int) ⊕ ((Int × Bool × Int × Int) ⊕ (Int × Bool × Int × Int))) :=
  if s1.1 < (a0.length : Int) then
    (idx a0 s1.1).bind fun x2 =>
    (idx a1 x2).bind fun x3 =>
    (G.command_Target x3).bind fun y4 =>
    (G.delta_tiles_b1 x2 y4 s1.2.1 s1.2.2.1 s1.2.2.2.1 s1.2.2.2.2).bind fun y5 =>
    match y5 with
    | .inl y6 =>
      some (.inr (.inl (y6.1, y6.2, s1.2.2.2.1, s1.2.2.2.2)))
    | .inr y7 =>
      some (.inl ((IntKind.i64.wrap (s1.1 + (1 : Int))), s1.2.1, s1.2.2.1, y7.1, y7.2))
  else
    some (.inr (.inr (s1.2.1, s1.2.2.1, s1.2.2.2.1, s1.2.2.2.2)))
noncomputable def G.delta_sorted_2_delta_tiles (a0 : List Int) (a1 : List G.Command) (a2 : Int) (a3 : Bool) (a4 : Int) (a5 : Int) : Option ((Int × Bool × Int × Int) ⊕ (Int × Bool × Int × Int)) :=
  Iter (G.delta_sorted_2_delta_tiles_l1 a0 a1) ((0 : Int), a2, a3, a4, a5)
noncomputable def G.delta_tiles (a0 : List G.Command) : Option (Int × Bool) :=
  (G.delta_sorted a0).bind fun y1 =>
  (G.delta_sorted_2_delta_tiles y1.2 y1.1 (0 : Int) false (0 : Int) (-1 : Int)).bind fun y2 =>
  match y2 with
  | .inl y3 =>
    some (y3.1, y3.2.1)
  | .inr y4 =>
    if y4.2.2.2 ≥ (0 : Int) then
      some (y4.2.2.2, false)
    else
      some (y4.2.2.1, false)
noncomputable def G.delta_overlap_l2 (a0 : (List G.Command)) (s1 : Int) (y2 : List G.Command) (s3 : Int) : Option (Int ⊕ (Int ⊕ Int)) :=
  if s3 < (y2.length : Int) then
    (idx y2 s3).bind fun x4 =>
    (idx a0 s1).bind fun x5 =>
    (G.command_Target x5).bind fun y6 =>
    (G.command_Target x4).bind fun y7 =>
    (G.extent_Overlap y6 y7).bind fun y8 =>
    if y8.2 = true then
      some (.inr (.inr s1))
    else
      some (.inl (IntKind.i64.wrap (s3 + (1 : Int))))
  else
    some (.inr (.inl (IntKind.i64.wrap (s1 + (1 : Int)))))
noncomputable def G.delta_overlap_l1 (a0 : (List G.Command)) (s1 : Int) : Option (Int ⊕ Int) :=
  if s1 < (a0.length : Int) then
    (slcTo a0 s1).bind fun y2 =>
    Iter (G.delta_overlap_l2 a0 s1 y2) (0 : Int)
  else
    some (.inr (-1 : Int))
noncomputable def G.delta_overlap (a0 : List G.Command) : Option Int :=
  Iter (G.delta_overlap_l1 a0) (0 : Int)
noncomputable def G.delta_Check_l1 (a0 : G.Delta) (s6 : Int) : Option (Int ⊕ (Unit ⊕ G.Fault)) :=
  if s6 < (a0.commands.length : Int) then
    (idx a0.commands s6).bind fun x7 =>
    (G.delta_single a0 x7).bind fun y8 =>
    if y8 ≠ (0 : Int) then
      some (.inr (.inr (⟨y8, s6⟩ : G.Fault)))
    else
      some (.inl (IntKind.i64.wrap (s6 + (1 : Int))))
  else
    some (.inr (.inl ()))
noncomputable def G.delta_Check (a0 : G.Delta) : Option G.Fault :=
  (
    (G.delta_inRange a0.oldLen).bind fun y2 =>
    if y2 = false then
      some true
    else
      (G.delta_inRange a0.newLen).bind fun y3 =>
      some (!y3)).bind fun v1 =>
  if v1 = true then
    some (⟨(2 : Int), (-1 : Int)⟩ : G.Fault)
  else
    ((
      Iter (G.delta_Check_l1 a0) (0 : Int)) : Option (Unit ⊕ G.Fault)).bind fun v4 => joinK v4 fun u5 =>
    (G.delta_tiles a0.commands).bind fun y9 =>
    if y9.2 = true then
      (G.delta_overlap a0.commands).bind fun y10 =>
      some (⟨(4 : Int), y10⟩ : G.Fault)
    else
      if y9.1 < a0.newLen then
        some (⟨(3 : Int), y9.1⟩ : G.Fault)
      else
        some (⟨(0 : Int), (0 : Int)⟩ : G.Fault)
noncomputable def G.graftref05_single (a0 : G.Delta) (a1 : G.Command) : Option Int :=
  (G.graftref04_Check a1).bind fun y1 =>
  if y1 ≠ (0 : Int) then
    some y1
  else
    (
      if a1.kind = (1 : Int) then
        some (decide ((IntKind.i64.wrap (a1.from_ + a1.len)) > a0.oldLen))
      else
        some false).bind fun v2 =>
    if v2 = true then
      some (5 : Int)
    else
      (G.graftref04_Len a1).bind fun y3 =>
      if (IntKind.i64.wrap (a1.to + y3)) > a0.newLen then
        some (6 : Int)
      else
        some (0 : Int)
noncomputable def G.graftref01_Has (a0 : G.Extent) (a1 : Int) : Option Bool :=
  if a1 ≥ a0.off then
    some (decide (a1 < (IntKind.i64.wrap (a0.off + a0.len))))
  else
    some false
noncomputable def G.graftref05_has (a0 : G.Command) (a1 : Int) : Option Bool :=
  (G.graftref04_Target a0).bind fun y1 =>
  (G.graftref01_Has y1 a1).bind fun y2 =>
  some y2
noncomputable def G.graftref05_Find_l1 (a0 : G.Delta) (a1 : Int) (s1 : Int) : Option (Int ⊕ Int) :=
  if s1 < (a0.commands.length : Int) then
    (idx a0.commands s1).bind fun x2 =>
    (G.graftref05_has x2 a1).bind fun y3 =>
    if y3 = true then
      some (.inr s1)
    else
      some (.inl (IntKind.i64.wrap (s1 + (1 : Int))))
  else
    some (.inr (-1 : Int))
noncomputable def G.graftref05_Find (a0 : G.Delta) (a1 : Int) : Option Int :=
  Iter (G.graftref05_Find_l1 a0 a1) (0 : Int)
noncomputable def G.graftref05_gap_l1 (a0 : G.Delta) (s1 : Int × Int) : Option ((Int × Int) ⊕ Int) :=
  if s1.2 < (a0.commands.length : Int) then
    (
      if s1.2 ≥ (0 : Int) then
        (idx a0.commands s1.2).bind fun x3 =>
        (idx a0.commands s1.2).bind fun x4 =>
        (G.graftref04_Len x4).bind fun y5 =>
        some (IntKind.i64.wrap (x3.to + y5))
      else
        some (0 : Int)).bind fun v2 =>
    (
      if v2 < a0.newLen then
        (G.graftref05_Find a0 v2).bind fun y7 =>
        if y7 < (0 : Int) then
          if s1.1 < (0 : Int) then
            some true
          else
            some (decide (v2 < s1.1))
        else
          some false
      else
        some false).bind fun v6 =>
    if v6 = true then
      some (.inl (v2, (IntKind.i64.wrap (s1.2 + (1 : Int)))))
    else
      some (.inl (s1.1, (IntKind.i64.wrap (s1.2 + (1 : Int)))))
  else
    some (.inr s1.1)
noncomputable def G.graftref05_gap (a0 : G.Delta) : Option Int :=
  Iter (G.graftref05_gap_l1 a0) ((-1 : Int), (-1 : Int))
noncomputable def G.graftref05_Check_l1 (a0 : G.Delta) (s6 : Int) : Option (Int ⊕ (Unit ⊕ (Int × Int))) :=
  if s6 < (a0.commands.length : Int) then
    (idx a0.commands s6).bind fun x7 =>
    (G.graftref05_single a0 x7).bind fun y8 =>
    if y8 ≠ (0 : Int) then
      some (.inr (.inr (y8, s6)))
    else
      some (.inl (IntKind.i64.wrap (s6 + (1 : Int))))
  else
    some (.inr (.inl ()))
noncomputable def G.graftref05_Check_l3 (a0 : G.Delta) (s11 : Int) (s12 : Int) : Option (Int ⊕ (Int ⊕ (Unit ⊕ (Int × Int)))) :=
  if s12 < s11 then
    (idx a0.commands s11).bind fun x13 =>
    (G.graftref04_Target x13).bind fun y14 =>
    (idx a0.commands s12).bind fun x15 =>
    (G.graftref04_Target x15).bind fun y16 =>
    (G.graftref01_Overlap y14 y16).bind fun y17 =>
    if y17.len > (0 : Int) then
      some (.inr (.inr (.inr ((4 : Int), s11))))
    else
      some (.inl (IntKind.i64.wrap (s12 + (1 : Int))))
  else
    some (.inr (.inl (IntKind.i64.wrap (s11 + (1 : Int)))))
noncomputable def G.graftref05_Check_l2 (a0 : G.Delta) (s11 : Int) : Option (Int ⊕ (Unit ⊕ (Int × Int))) :=
  if s11 < (a0.commands.length : Int) then
    Iter (G.graftref05_Check_l3 a0 s11) (0 : Int)
  else
    some (.inr (.inl ()))
noncomputable def G.graftref05_Check (a0 : G.Delta) : Option (Int × Int) :=
  (
    if a0.oldLen < (0 : Int) then
      some true
    else
      if a0.newLen < (0 : Int) then
        some true
      else
        (G.graftref01_Max).bind fun y2 =>
        if a0.oldLen > y2 then
          some true
        else
          (G.graftref01_Max).bind fun y3 =>
          some (decide (a0.newLen > y3))).bind fun v1 =>
  if v1 = true then
    some ((2 : Int), (-1 : Int))
  else
    ((
      Iter (G.graftref05_Check_l1 a0) (0 : Int)) : Option (Unit ⊕ (Int × Int))).bind fun v4 => joinK v4 fun u5 =>
    ((
      Iter (G.graftref05_Check_l2 a0) (0 : Int)) : Option (Unit ⊕ (Int × Int))).bind fun v9 => joinK v9 fun u10 =>
    (G.graftref05_gap a0).bind fun y18 =>
    if y18 ≥ (0 : Int) then
      some ((3 : Int), y18)
    else
      some ((0 : Int), (0 : Int))
end Go.Proofs.Ythnhjibbkleneaa
