/- Functions of the program, plain: extent_Valid, format_within, format_check, format_length, slices_Clone_byte_byte, wire_Field_fits, wire_Append, format_Encode, wire_New, bytes_Equal, bytes_HasPrefix, wire_position_fail, wire_position_take, wire_Reader_Expect, wire_number, wire_number_1, wire_Reader_Uint, wire_Reader_Fail, wire_Reader_Length, wire_Reader_Bytes, format_decoder_hash, wire_Reader_Fault, format_decoder_ok, wire_Reader_At, format_decoder_copying, format_decoder_literal, format_decoder_command, wire_Reader_Rest, format_Decode, graftref04_Same, graftref04_All, graftref05_Same, format_Size, graftlaw07_alive, graftref06_Fail, graftref06_Expect, graftref06_Uint, graftref06_Length, graftref06_Bytes, graftref07_command, graftref07_Decode, graftlaw07_FormatDecodes, graftref05_Few, graftref01_Max, graftref07_in, graftref07_Wrong, graftlaw07_FormatInverse, graftref06_Append, graftref07_Encode, graftlaw07_FormatCuts, slices_Equal_byte_byte, graftlaw07_FormatEncodes, graftlaw07_FormatOnce. Printed by a program. -/
import Derived.Test.YtkalbidbhaalmaaTy
namespace Go.Proofs.Ytkalbidbhaalmaa
open G
def G.extent_Valid (a0 : G.Extent) : Option Bool :=
  if (imin a0.off a0.len) ≥ 0 then
    if a0.off ≤ 4611686018427387903 then
      some (decide (a0.len ≤ (IntKind.i64.wrap (4611686018427387903 - a0.off))))
    else
      some false
  else
    some false
def G.format_within_l1 (a0 : List Int) (s1 : Int) : Option (Int ⊕ Bool) :=
  if s1 < (a0.length : Int) then
    (idx a0 s1).bind fun x2 =>
    (G.extent_Valid (⟨0, x2⟩ : G.Extent)).bind fun y1 =>
    if y1 = false then
      some (.inr false)
    else
      some (.inl (IntKind.i64.wrap (s1 + 1)))
  else
    some (.inr true)
noncomputable def G.format_within (a0 : List Int) : Option Bool :=
  Iter (G.format_within_l1 a0) 0
noncomputable def G.format_check_l1 (a0 : G.Delta) (s1 : Bool × Int) : Option ((Bool × Int) ⊕ (Bool ⊕ Int)) :=
  if s1.2 < (a0.commands.length : Int) then
    (idx a0.commands s1.2).bind fun x2 =>
    if x2.kind = 1 then
      if s1.1 = true then
        (G.format_within ([x2.to, x2.from_, x2.len] : List Int)).bind fun y2 =>
        if y2 = true then
          some (.inl (((x2.data.length : Int) == 0), (IntKind.i64.wrap (s1.2 + 1))))
        else
          some (.inl (false, (IntKind.i64.wrap (s1.2 + 1))))
      else
        some (.inl (false, (IntKind.i64.wrap (s1.2 + 1))))
    else
      if x2.kind = 2 then
        if s1.1 = true then
          (G.format_within ([x2.to] : List Int)).bind fun y3 =>
          if y3 = true then
            if x2.from_ = 0 then
              some (.inl ((x2.len == 0), (IntKind.i64.wrap (s1.2 + 1))))
            else
              some (.inl (false, (IntKind.i64.wrap (s1.2 + 1))))
          else
            some (.inl (false, (IntKind.i64.wrap (s1.2 + 1))))
        else
          some (.inl (false, (IntKind.i64.wrap (s1.2 + 1))))
      else
        some (.inr (.inr 11))
  else
    some (.inr (.inl s1.1))
noncomputable def G.format_check (a0 : G.Delta) : Option Int :=
  (G.format_within ([a0.oldLen, a0.newLen] : List Int)).bind fun y1 =>
  (
    Iter (G.format_check_l1 a0) (y1, 0)).bind fun v1 => joinK v1 fun u1 =>
  if u1 = false then
    some 2
  else
    some 0
def G.format_length (a0 : Int) : Option G.wire_Field :=
  some (⟨(IntKind.u64.wrap a0), 8⟩ : G.wire_Field)
def G.slices_Clone_byte_byte (a0 : List UInt8) : Option (List UInt8) :=
  (app 1 ([] : List UInt8) a0).bind fun x1 =>
  some x1
def G.wire_Field_fits (a0 : G.wire_Field) : Option Bool :=
  if a0.size ≥ 1 then
    if a0.size ≤ 8 then
      (chk (0 ≤ (IntKind.i64.wrap ((IntKind.i64.wrap (8 * a0.size)) - 1)))).bind fun y1 =>
      some ((ishr .u64 (ishr .u64 a0.value (IntKind.i64.wrap ((IntKind.i64.wrap (8 * a0.size)) - 1))) 1) == 0)
    else
      some false
  else
    some false
def G.wire_Append_l2 (s1 : (List UInt8) × Int) (x2 : G.wire_Field) (s2 : (List UInt8) × Int) : Option (((List UInt8) × Int) ⊕ (((List UInt8) × Int) ⊕ ((List UInt8) × Bool))) :=
  if s2.2 ≥ 0 then
    (chk (0 ≤ (IntKind.i64.wrap (8 * s2.2)))).bind fun y3 =>
    (app 1 s2.1 ([(u8 (ishr .u64 x2.value (IntKind.i64.wrap (8 * s2.2))))] : List UInt8)).bind fun x4 =>
    some (.inl (x4, (IntKind.i64.wrap (s2.2 - 1))))
  else
    some (.inr (.inl (s2.1, (IntKind.i64.wrap (s1.2 + 1)))))
noncomputable def G.wire_Append_l1 (a1 : List G.wire_Field) (s1 : (List UInt8) × Int) : Option (((List UInt8) × Int) ⊕ ((List UInt8) × Bool)) :=
  if s1.2 < (a1.length : Int) then
    (idx a1 s1.2).bind fun x2 =>
    (G.wire_Field_fits x2).bind fun y2 =>
    if y2 = false then
      some (.inr (([] : List UInt8), false))
    else
      Iter (G.wire_Append_l2 s1 x2) (s1.1, (IntKind.i64.wrap (x2.size - 1)))
  else
    some (.inr (s1.1, true))
noncomputable def G.wire_Append (a0 : List UInt8) (a1 : List G.wire_Field) : Option ((List UInt8) × Bool) :=
  (G.slices_Clone_byte_byte a0).bind fun y1 =>
  Iter (G.wire_Append_l1 a1) (y1, 0)
noncomputable def G.format_Encode_l1 (a0 : G.Delta) (s1 : (List UInt8) × Int) : Option (((List UInt8) × Int) ⊕ (List UInt8)) :=
  if s1.2 < (a0.commands.length : Int) then
    (idx a0.commands s1.2).bind fun x4 =>
    (G.format_length x4.to).bind fun y6 =>
    if x4.kind = 1 then
      (G.format_length x4.from_).bind fun y7 =>
      (G.format_length x4.len).bind fun y8 =>
      (app 16 ([(⟨(IntKind.u64.wrap x4.kind), 1⟩ : G.wire_Field), y6] : List G.wire_Field) ([y7, y8] : List G.wire_Field)).bind fun x5 =>
      (G.wire_Append s1.1 x5).bind fun y9 =>
      some (.inl (y9.1, (IntKind.i64.wrap (s1.2 + 1))))
    else
      (G.format_length (x4.data.length : Int)).bind fun y10 =>
      (app 16 ([(⟨(IntKind.u64.wrap x4.kind), 1⟩ : G.wire_Field), y6] : List G.wire_Field) ([y10] : List G.wire_Field)).bind fun x6 =>
      (G.wire_Append s1.1 x6).bind fun y11 =>
      (app 1 y11.1 x4.data).bind fun x7 =>
      some (.inl (x7, (IntKind.i64.wrap (s1.2 + 1))))
  else
    some (.inr s1.1)
noncomputable def G.format_Encode (a0 : G.Delta) : Option ((List UInt8) × Int) :=
  (G.format_check a0).bind fun y1 =>
  if y1 ≠ 0 then
    some (([] : List UInt8), y1)
  else
    (G.format_length a0.oldLen).bind fun y2 =>
    (G.format_length a0.newLen).bind fun y3 =>
    (G.wire_Append ([(71 : UInt8), (82 : UInt8), (70 : UInt8), (84 : UInt8)] : List UInt8) ([(⟨1, 1⟩ : G.wire_Field), y2, y3] : List G.wire_Field)).bind fun y4 =>
    (app 1 y4.1 (arrL 32 a0.oldHash)).bind fun x1 =>
    (app 1 x1 (arrL 32 a0.newHash)).bind fun x2 =>
    (G.wire_Append x2 ([(⟨(IntKind.u64.wrap (a0.commands.length : Int)), 4⟩ : G.wire_Field)] : List G.wire_Field)).bind fun y5 =>
    (
      Iter (G.format_Encode_l1 a0) (y5.1, 0)).bind fun v1 =>
    if y5.2 = false then
      some (([] : List UInt8), 2)
    else
      some (v1, 0)
def G.wire_New (a0 : List UInt8) : Option G.wire_Reader :=
  (G.slices_Clone_byte_byte a0).bind fun y1 =>
  some (⟨(⟨y1, 0, (⟨0, 0⟩ : G.Fault)⟩ : G.wire_position)⟩ : G.wire_Reader)
def G.bytes_Equal (a0 : List UInt8) (a1 : List UInt8) : Option Bool :=
  some (decide (a0 = a1))
def G.bytes_HasPrefix (a0 : List UInt8) (a1 : List UInt8) : Option Bool :=
  if (a0.length : Int) ≥ (a1.length : Int) then
    (slcTo a0 (a1.length : Int)).bind fun x1 =>
    (G.bytes_Equal x1 a1).bind fun y1 =>
    some y1
  else
    some false
def G.wire_position_fail (a0 : G.wire_position) (a1 : Int) (a2 : Int) : Option G.wire_position :=
  (
    if a0.fault.code = 0 then
      some (a1 != 0)
    else
      some false).bind fun v1 =>
  if v1 = true then
    some (⟨a0.b, a0.at_, (⟨a1, a2⟩ : G.Fault)⟩ : G.wire_position)
  else
    some a0
def G.wire_position_take (a0 : G.wire_position) (a1 : Int) : Option ((List UInt8) × Bool × G.wire_position) :=
  if a0.fault.code ≠ 0 then
    some (([] : List UInt8), false, a0)
  else
    if a1 < 0 then
      (G.wire_position_fail a0 2 a0.at_).bind fun y1 =>
      some (([] : List UInt8), false, y1)
    else
      if a1 > (IntKind.i64.wrap ((a0.b.length : Int) - a0.at_)) then
        (G.wire_position_fail a0 8 (a0.b.length : Int)).bind fun y2 =>
        some (([] : List UInt8), false, y2)
      else
        (slcMid a0.b (IntKind.i64.wrap ((IntKind.i64.wrap (a0.at_ + a1)) - a1)) (IntKind.i64.wrap (a0.at_ + a1))).bind fun x1 =>
        some (x1, true, (⟨a0.b, (IntKind.i64.wrap (a0.at_ + a1)), a0.fault⟩ : G.wire_position))
def G.wire_Reader_Expect (a0 : G.wire_Reader) (a1 : List UInt8) (a2 : Int) : Option (Bool × G.wire_Reader) :=
  if a0.position.fault.code ≠ 0 then
    some (false, a0)
  else
    (slcFrom a0.position.b a0.position.at_).bind fun x1 =>
    (slcTo x1 (imin (a1.length : Int) (x1.length : Int))).bind fun x2 =>
    (G.bytes_HasPrefix a1 x2).bind fun y1 =>
    if y1 = false then
      (G.wire_position_fail a0.position a2 a0.position.at_).bind fun y2 =>
      some (false, (⟨y2⟩ : G.wire_Reader))
    else
      (G.wire_position_take a0.position (a1.length : Int)).bind fun y3 =>
      some (y3.2.1, (⟨y3.2.2⟩ : G.wire_Reader))
def G.wire_number : Option Int :=
  some 0
def G.wire_number_1 (a0 : UInt8) (a1 : Int) : Option (Int × Int) :=
  some ((bor .u64 (ishl .u64 a1 8) (a0.toNat : Int)), (bor .u64 (ishl .u64 a1 8) (a0.toNat : Int)))
def G.wire_Reader_Uint_l1 (y1 : (List UInt8) × Bool × G.wire_position) (s1 : Int × Int × Int) : Option ((Int × Int × Int) ⊕ (Int × G.wire_Reader)) :=
  if s1.2.2 < (y1.1.length : Int) then
    (idx y1.1 s1.2.2).bind fun x2 =>
    (G.wire_number_1 x2 s1.1).bind fun y3 =>
    some (.inl (y3.2, y3.1, (IntKind.i64.wrap (s1.2.2 + 1))))
  else
    some (.inr (s1.2.1, (⟨y1.2.2⟩ : G.wire_Reader)))
noncomputable def G.wire_Reader_Uint (a0 : G.wire_Reader) (a1 : Int) : Option (Int × G.wire_Reader) :=
  (
    if a1 < 1 then
      some true
    else
      some (decide (a1 > 8))).bind fun v1 =>
  (
    if v1 = true then
      some (-1)
    else
      some a1).bind fun v2 =>
  (G.wire_position_take a0.position v2).bind fun y1 =>
  if y1.2.1 = false then
    some (0, (⟨y1.2.2⟩ : G.wire_Reader))
  else
    (G.wire_number).bind fun y2 =>
    Iter (G.wire_Reader_Uint_l1 y1) (y2, 0, 0)
def G.wire_Reader_Fail (a0 : G.wire_Reader) (a1 : Int) (a2 : Int) : Option G.wire_Reader :=
  (G.wire_position_fail a0.position a1 a2).bind fun y1 =>
  some (⟨y1⟩ : G.wire_Reader)
noncomputable def G.wire_Reader_Length (a0 : G.wire_Reader) : Option (Int × G.wire_Reader) :=
  (G.wire_Reader_Uint a0 8).bind fun y1 =>
  if y1.1 > 4611686018427387903 then
    (G.wire_position_fail y1.2.position 2 a0.position.at_).bind fun y2 =>
    some (0, (⟨y2⟩ : G.wire_Reader))
  else
    some ((IntKind.i64.wrap y1.1), y1.2)
def G.wire_Reader_Bytes (a0 : G.wire_Reader) (a1 : Int) : Option ((List UInt8) × G.wire_Reader) :=
  (G.wire_position_take a0.position a1).bind fun y1 =>
  (G.slices_Clone_byte_byte y1.1).bind fun y2 =>
  some (y2, (⟨y1.2.2⟩ : G.wire_Reader))
def G.format_decoder_hash (a0 : G.format_decoder) : Option ((Nat → UInt8) × G.wire_Reader) :=
  (G.wire_Reader_Bytes a0.reader 32).bind fun y1 =>
  some ((cpArr 32 (fun _ => (0 : UInt8)) y1.1), y1.2)
def G.wire_Reader_Fault (a0 : G.wire_Reader) : Option G.Fault :=
  some a0.position.fault
def G.format_decoder_ok (a0 : G.format_decoder) : Option Bool :=
  (G.wire_Reader_Fault a0.reader).bind fun y1 =>
  some (decide (y1.code = 0 ∧ y1.at_ = 0))
def G.wire_Reader_At (a0 : G.wire_Reader) : Option Int :=
  some a0.position.at_
noncomputable def G.format_decoder_copying (a0 : G.format_decoder) : Option (G.Command × G.wire_Reader) :=
  (G.wire_Reader_Length a0.reader).bind fun y1 =>
  (G.wire_Reader_Length y1.2).bind fun y2 =>
  (G.wire_Reader_Length y2.2).bind fun y3 =>
  some ((⟨1, y1.1, y2.1, y3.1, ([] : List UInt8)⟩ : G.Command), y3.2)
noncomputable def G.format_decoder_literal (a0 : G.format_decoder) : Option (G.Command × G.wire_Reader) :=
  (G.wire_Reader_Length a0.reader).bind fun y1 =>
  (G.wire_Reader_Length y1.2).bind fun y2 =>
  (G.wire_Reader_Bytes y2.2 y2.1).bind fun y3 =>
  some ((⟨2, y1.1, 0, 0, y3.1⟩ : G.Command), y3.2)
noncomputable def G.format_decoder_command (a0 : G.format_decoder) : Option (G.Command × G.wire_Reader) :=
  (G.wire_Reader_At a0.reader).bind fun y1 =>
  (G.wire_Reader_Uint a0.reader 1).bind fun y2 =>
  if (IntKind.i64.wrap y2.1) = 1 then
    (G.format_decoder_copying (⟨y2.2⟩ : G.format_decoder)).bind fun y3 =>
    some (y3.1, y3.2)
  else
    if (IntKind.i64.wrap y2.1) = 2 then
      (G.format_decoder_literal (⟨y2.2⟩ : G.format_decoder)).bind fun y4 =>
      some (y4.1, y4.2)
    else
      (G.wire_Reader_Fail y2.2 11 y1).bind fun y5 =>
      some ((⟨0, 0, 0, 0, ([] : List UInt8)⟩ : G.Command), y5)
def G.wire_Reader_Rest (a0 : G.wire_Reader) : Option Int :=
  some (IntKind.i64.wrap ((a0.position.b.length : Int) - a0.position.at_))
noncomputable def G.format_Decode_l1 (s1 : G.wire_Reader × (List G.Command) × Int) : Option ((G.wire_Reader × (List G.Command) × Int) ⊕ (G.wire_Reader × (List G.Command))) :=
  (
    if s1.2.2 > 0 then
      (G.format_decoder_ok (⟨(⟨(⟨((s1.1).position).b, ((s1.1).position).at_, (((s1.1).position).fault)⟩ : G.wire_position)⟩ : G.wire_Reader)⟩ : G.format_decoder)).bind fun y15 =>
      some y15
    else
      some false).bind fun v4 =>
  if v4 = true then
    (G.format_decoder_command (⟨(⟨(⟨((s1.1).position).b, ((s1.1).position).at_, (((s1.1).position).fault)⟩ : G.wire_position)⟩ : G.wire_Reader)⟩ : G.format_decoder)).bind fun y14 =>
    (app 56 s1.2.1 ([y14.1] : List G.Command)).bind fun x2 =>
    some (.inl (y14.2, x2, (IntKind.u64.wrap (s1.2.2 - 1))))
  else
    some (.inr ((⟨(⟨((s1.1).position).b, ((s1.1).position).at_, (((s1.1).position).fault)⟩ : G.wire_position)⟩ : G.wire_Reader), s1.2.1))
noncomputable def G.format_Decode (a0 : List UInt8) : Option (G.Delta × G.Fault) :=
  (G.wire_New a0).bind fun y1 =>
  (G.wire_Reader_Expect y1 ([(71 : UInt8), (82 : UInt8), (70 : UInt8), (84 : UInt8)] : List UInt8) 9).bind fun y2 =>
  (G.wire_Reader_Uint y2.2 1).bind fun y3 =>
  (
    if y3.1 ≠ 1 then
      (G.wire_Reader_Fail y3.2 10 4).bind fun y16 =>
      some y16
    else
      some y3.2).bind fun v1 =>
  (G.wire_Reader_Length (⟨(⟨((v1).position).b, ((v1).position).at_, (((v1).position).fault)⟩ : G.wire_position)⟩ : G.wire_Reader)).bind fun y4 =>
  (G.wire_Reader_Length y4.2).bind fun y5 =>
  (G.format_decoder_hash (⟨y5.2⟩ : G.format_decoder)).bind fun y6 =>
  (G.format_decoder_hash (⟨y6.2⟩ : G.format_decoder)).bind fun y7 =>
  (G.wire_Reader_Uint y7.2 4).bind fun y8 =>
  (
    Iter (G.format_Decode_l1) (y8.2, ([] : List G.Command), y8.1)).bind fun v2 =>
  (G.wire_Reader_Rest (⟨(⟨((v2.1).position).b, ((v2.1).position).at_, (((v2.1).position).fault)⟩ : G.wire_position)⟩ : G.wire_Reader)).bind fun y9 =>
  (
    if y9 > 0 then
      (G.wire_Reader_At (⟨(⟨((v2.1).position).b, ((v2.1).position).at_, (((v2.1).position).fault)⟩ : G.wire_position)⟩ : G.wire_Reader)).bind fun y12 =>
      (G.wire_Reader_Fail (⟨(⟨((v2.1).position).b, ((v2.1).position).at_, (((v2.1).position).fault)⟩ : G.wire_position)⟩ : G.wire_Reader) 12 y12).bind fun y13 =>
      some y13
    else
      some (⟨(⟨((v2.1).position).b, ((v2.1).position).at_, (((v2.1).position).fault)⟩ : G.wire_position)⟩ : G.wire_Reader)).bind fun v3 =>
  (G.format_decoder_ok (⟨(⟨(⟨((v3).position).b, ((v3).position).at_, (((v3).position).fault)⟩ : G.wire_position)⟩ : G.wire_Reader)⟩ : G.format_decoder)).bind fun y10 =>
  if y10 = false then
    (G.wire_Reader_Fault (⟨(⟨((v3).position).b, ((v3).position).at_, (((v3).position).fault)⟩ : G.wire_position)⟩ : G.wire_Reader)).bind fun y11 =>
    some ((⟨0, 0, (fun _ => (0 : UInt8)), (fun _ => (0 : UInt8)), ([] : List G.Command)⟩ : G.Delta), y11)
  else
    some ((⟨y4.1, y5.1, y6.1, y7.1, v2.2⟩ : G.Delta), (⟨0, 0⟩ : G.Fault))
def G.graftref04_Same (a0 : G.Command) (a1 : G.Command) : Option Bool :=
  if a0.kind = a1.kind then
    if a0.to = a1.to then
      if a0.from_ = a1.from_ then
        if a0.len = a1.len then
          some (decide (a0.data = a1.data))
        else
          some false
      else
        some false
    else
      some false
  else
    some false
def G.graftref04_All_l1 (a0 : List G.Command) (a1 : List G.Command) (s1 : Int) : Option (Int ⊕ Bool) :=
  if s1 < (a0.length : Int) then
    (idx a0 s1).bind fun x2 =>
    (idx a1 s1).bind fun x3 =>
    (G.graftref04_Same x2 x3).bind fun y1 =>
    if y1 = false then
      some (.inr false)
    else
      some (.inl (IntKind.i64.wrap (s1 + 1)))
  else
    some (.inr true)
noncomputable def G.graftref04_All (a0 : List G.Command) (a1 : List G.Command) : Option Bool :=
  if (a0.length : Int) ≠ (a1.length : Int) then
    some false
  else
    Iter (G.graftref04_All_l1 a0 a1) 0
noncomputable def G.graftref05_Same (a0 : G.Delta) (a1 : G.Delta) : Option Bool :=
  if a0.oldLen = a1.oldLen then
    if a0.newLen = a1.newLen then
      if (hashEq a0.oldHash a1.oldHash) = true then
        if (hashEq a0.newHash a1.newHash) = true then
          (G.graftref04_All a0.commands a1.commands).bind fun y1 =>
          some y1
        else
          some false
      else
        some false
    else
      some false
  else
    some false
def G.format_Size_l1 (a0 : G.Delta) (s1 : Int × Int) : Option ((Int × Int) ⊕ Int) :=
  if s1.2 < (a0.commands.length : Int) then
    (idx a0.commands s1.2).bind fun x2 =>
    if x2.kind = 1 then
      some (.inl ((IntKind.i64.wrap ((IntKind.i64.wrap (s1.1 + (IntKind.i64.wrap (17 + (x2.data.length : Int))))) + 8)), (IntKind.i64.wrap (s1.2 + 1))))
    else
      some (.inl ((IntKind.i64.wrap (s1.1 + (IntKind.i64.wrap (17 + (x2.data.length : Int))))), (IntKind.i64.wrap (s1.2 + 1))))
  else
    some (.inr s1.1)
noncomputable def G.format_Size (a0 : G.Delta) : Option Int :=
  (G.format_check a0).bind fun y1 =>
  if y1 ≠ 0 then
    some 0
  else
    Iter (G.format_Size_l1 a0) (89, 0)
noncomputable def G.graftlaw07_alive : Option Bool :=
  (G.format_Encode (⟨0, 0, (fun _ => (0 : UInt8)), (fun _ => (0 : UInt8)), ([] : List G.Command)⟩ : G.Delta)).bind fun y1 =>
  (G.format_Decode y1.1).bind fun y2 =>
  (G.format_Decode ([(71 : UInt8), (82 : UInt8), (70 : UInt8)] : List UInt8)).bind fun y3 =>
  if (y1.1.length : Int) = 89 then
    if y1.2 = 0 then
      (G.graftref05_Same y2.1 (⟨0, 0, (fun _ => (0 : UInt8)), (fun _ => (0 : UInt8)), ([] : List G.Command)⟩ : G.Delta)).bind fun y4 =>
      if y4 = true then
        if y2.2.code = 0 ∧ y2.2.at_ = 0 then
          if y3.2.code = 8 ∧ y3.2.at_ = 3 then
            (G.format_Size (⟨0, 0, (fun _ => (0 : UInt8)), (fun _ => (0 : UInt8)), ([] : List G.Command)⟩ : G.Delta)).bind fun y5 =>
            some (y5 == 89)
          else
            some false
        else
          some false
      else
        some false
    else
      some false
  else
    some false
def G.graftref06_Fail (a0 : G.graftref06_Reader) (a1 : Int) (a2 : Int) : Option G.graftref06_Reader :=
  (
    if a0.code = 0 then
      some (a1 != 0)
    else
      some false).bind fun v1 =>
  if v1 = true then
    some (⟨a0.b, a0.at_, a1, a2⟩ : G.graftref06_Reader)
  else
    some a0
def G.graftref06_Expect (a0 : G.graftref06_Reader) (a1 : List UInt8) (a2 : Int) : Option (Bool × G.graftref06_Reader) :=
  if a0.code ≠ 0 then
    some (false, a0)
  else
    (slcMid a0.b a0.at_ (IntKind.i64.wrap (a0.at_ + (imin (a1.length : Int) (IntKind.i64.wrap ((a0.b.length : Int) - a0.at_)))))).bind fun x1 =>
    (slcTo a1 (imin (a1.length : Int) (IntKind.i64.wrap ((a0.b.length : Int) - a0.at_)))).bind fun x2 =>
    if decide (x1 = x2) = false then
      (G.graftref06_Fail a0 a2 a0.at_).bind fun y1 =>
      some (false, y1)
    else
      if (imin (a1.length : Int) (IntKind.i64.wrap ((a0.b.length : Int) - a0.at_))) < (a1.length : Int) then
        (G.graftref06_Fail a0 8 (a0.b.length : Int)).bind fun y2 =>
        some (false, y2)
      else
        some (true, (⟨a0.b, (IntKind.i64.wrap (a0.at_ + (imin (a1.length : Int) (IntKind.i64.wrap ((a0.b.length : Int) - a0.at_))))), a0.code, a0.pos⟩ : G.graftref06_Reader))
def G.graftref06_Uint_l1 (a0 : G.graftref06_Reader) (a1 : Int) (s1 : Int × Int × Int) : Option ((Int × Int × Int) ⊕ (Int × G.graftref06_Reader)) :=
  if s1.2.2 < a1 then
    (idx a0.b s1.1).bind fun x2 =>
    some (.inl ((IntKind.i64.wrap (s1.1 + 1)), (IntKind.u64.wrap ((IntKind.u64.wrap (256 * s1.2.1)) + (x2.toNat : Int))), (IntKind.i64.wrap (s1.2.2 + 1))))
  else
    some (.inr (s1.2.1, (⟨a0.b, s1.1, a0.code, a0.pos⟩ : G.graftref06_Reader)))
noncomputable def G.graftref06_Uint (a0 : G.graftref06_Reader) (a1 : Int) : Option (Int × G.graftref06_Reader) :=
  if a0.code ≠ 0 then
    some (0, a0)
  else
    (
      if a1 < 1 then
        some true
      else
        some (decide (a1 > 8))).bind fun v1 =>
    if v1 = true then
      (G.graftref06_Fail a0 2 a0.at_).bind fun y1 =>
      some (0, y1)
    else
      if (IntKind.i64.wrap ((a0.b.length : Int) - a0.at_)) < a1 then
        (G.graftref06_Fail a0 8 (a0.b.length : Int)).bind fun y2 =>
        some (0, y2)
      else
        Iter (G.graftref06_Uint_l1 a0 a1) (a0.at_, 0, 0)
noncomputable def G.graftref06_Length (a0 : G.graftref06_Reader) : Option (Int × G.graftref06_Reader) :=
  (G.graftref06_Uint a0 8).bind fun y1 =>
  if y1.1 > 4611686018427387903 then
    (G.graftref06_Fail y1.2 2 a0.at_).bind fun y2 =>
    some (0, y2)
  else
    some ((IntKind.i64.wrap y1.1), y1.2)
def G.graftref06_Bytes (a0 : G.graftref06_Reader) (a1 : Int) : Option ((List UInt8) × G.graftref06_Reader) :=
  if a0.code ≠ 0 then
    some (([] : List UInt8), a0)
  else
    if a1 < 0 then
      (G.graftref06_Fail a0 2 a0.at_).bind fun y1 =>
      some (([] : List UInt8), y1)
    else
      if (IntKind.i64.wrap ((a0.b.length : Int) - a0.at_)) < a1 then
        (G.graftref06_Fail a0 8 (a0.b.length : Int)).bind fun y2 =>
        some (([] : List UInt8), y2)
      else
        (slcMid a0.b a0.at_ (IntKind.i64.wrap (a0.at_ + a1))).bind fun x1 =>
        some (x1, (⟨a0.b, (IntKind.i64.wrap (a0.at_ + a1)), a0.code, a0.pos⟩ : G.graftref06_Reader))
noncomputable def G.graftref07_command (a0 : G.graftref06_Reader) : Option (G.Command × G.graftref06_Reader) :=
  (G.graftref06_Uint a0 1).bind fun y1 =>
  (
    if y1.2.code = 0 then
      if (IntKind.i64.wrap y1.1) ≠ 1 then
        some ((IntKind.i64.wrap y1.1) != 2)
      else
        some false
    else
      some false).bind fun v1 =>
  (
    if v1 = true then
      (G.graftref06_Fail y1.2 11 a0.at_).bind fun y7 =>
      some y7
    else
      some y1.2).bind fun v2 =>
  (G.graftref06_Length (v2)).bind fun y2 =>
  if (IntKind.i64.wrap y1.1) = 1 then
    (G.graftref06_Length y2.2).bind fun y3 =>
    (G.graftref06_Length y3.2).bind fun y4 =>
    some ((⟨(IntKind.i64.wrap y1.1), y2.1, y3.1, y4.1, ([] : List UInt8)⟩ : G.Command), y4.2)
  else
    (G.graftref06_Length y2.2).bind fun y5 =>
    (G.graftref06_Bytes y5.2 y5.1).bind fun y6 =>
    some ((⟨(IntKind.i64.wrap y1.1), y2.1, 0, 0, y6.1⟩ : G.Command), y6.2)
def G.graftref07_Decode_l1 (y5 : (List UInt8) × G.graftref06_Reader) (y6 : (List UInt8) × G.graftref06_Reader) (s1 : G.Delta × Int) : Option ((G.Delta × Int) ⊕ G.Delta) :=
  if s1.2 < 32 then
    (idx y5.1 s1.2).bind fun x2 =>
    (chk (0 ≤ s1.2 ∧ s1.2 < 32)).bind fun y8 =>
    (idx y6.1 s1.2).bind fun x3 =>
    (chk (0 ≤ s1.2 ∧ s1.2 < 32)).bind fun y9 =>
    some (.inl ((⟨(s1.1).oldLen, (s1.1).newLen, (setArr ((s1.1).oldHash) s1.2 x2), (setArr ((s1.1).newHash) s1.2 x3), (s1.1).commands⟩ : G.Delta), (IntKind.i64.wrap (s1.2 + 1))))
  else
    some (.inr (⟨(s1.1).oldLen, (s1.1).newLen, ((s1.1).oldHash), ((s1.1).newHash), (s1.1).commands⟩ : G.Delta))
noncomputable def G.graftref07_Decode_l2 (y7 : Int × G.graftref06_Reader) (s2 : G.graftref06_Reader × (List G.Command) × Int) : Option ((G.graftref06_Reader × (List G.Command) × Int) ⊕ (G.graftref06_Reader × (List G.Command))) :=
  (
    if s2.2.2 < (IntKind.i64.wrap y7.1) then
      some ((s2.1).code == 0)
    else
      some false).bind fun v7 =>
  if v7 = true then
    (G.graftref07_command (s2.1)).bind fun y11 =>
    (app 56 s2.2.1 ([y11.1] : List G.Command)).bind fun x5 =>
    some (.inl (y11.2, x5, (IntKind.i64.wrap (s2.2.2 + 1))))
  else
    some (.inr ((s2.1), s2.2.1))
noncomputable def G.graftref07_Decode (a0 : List UInt8) : Option (G.Delta × Int × Int) :=
  (G.graftref06_Expect (⟨a0, 0, 0, 0⟩ : G.graftref06_Reader) ([(71 : UInt8), (82 : UInt8), (70 : UInt8), (84 : UInt8)] : List UInt8) 9).bind fun y1 =>
  (G.graftref06_Uint y1.2 1).bind fun y2 =>
  (
    if y2.2.code = 0 then
      some (y2.1 != 1)
    else
      some false).bind fun v1 =>
  (
    if v1 = true then
      (G.graftref06_Fail y2.2 10 4).bind fun y12 =>
      some y12
    else
      some y2.2).bind fun v2 =>
  (G.graftref06_Length (v2)).bind fun y3 =>
  (G.graftref06_Length y3.2).bind fun y4 =>
  (G.graftref06_Bytes y4.2 32).bind fun y5 =>
  (G.graftref06_Bytes y5.2 32).bind fun y6 =>
  (G.graftref06_Uint y6.2 4).bind fun y7 =>
  (
    Iter (G.graftref07_Decode_l2 y7) (y7.2, ([] : List G.Command), 0)).bind fun v3 =>
  (
    if (v3.1).code = 0 then
      some (decide ((v3.1).at_ < (a0.length : Int)))
    else
      some false).bind fun v4 =>
  (
    if v4 = true then
      (G.graftref06_Fail (v3.1) 12 ((v3.1).at_)).bind fun y10 =>
      some y10
    else
      some (v3.1)).bind fun v5 =>
  if (v5).code ≠ 0 then
    some ((⟨0, 0, (fun _ => (0 : UInt8)), (fun _ => (0 : UInt8)), ([] : List G.Command)⟩ : G.Delta), (v5).code, (v5).pos)
  else
    (
      Iter (G.graftref07_Decode_l1 y5 y6) ((⟨y3.1, y4.1, (fun _ => (0 : UInt8)), (fun _ => (0 : UInt8)), v3.2⟩ : G.Delta), 0)).bind fun v6 =>
    some ((⟨(v6).oldLen, (v6).newLen, ((v6).oldHash), ((v6).newHash), (v6).commands⟩ : G.Delta), 0, 0)
noncomputable def G.graftlaw07_FormatDecodes (a0 : List UInt8) : Option Bool :=
  if (a0.length : Int) > 2000 then
    (G.graftlaw07_alive).bind fun y1 =>
    some y1
  else
    (G.format_Decode a0).bind fun y2 =>
    (G.graftref07_Decode a0).bind fun y3 =>
    (G.graftlaw07_alive).bind fun y4 =>
    if y4 = true then
      (G.graftref05_Same y2.1 y3.1).bind fun y5 =>
      if y5 = true then
        if y2.2.code = y3.2.1 then
          some (y2.2.at_ == y3.2.2)
        else
          some false
      else
        some false
    else
      some false
def G.graftref05_Few_l1 (a0 : G.Delta) (s1 : Int) : Option (Int ⊕ (Unit ⊕ Bool)) :=
  if s1 < (a0.commands.length : Int) then
    (idx a0.commands s1).bind fun x2 =>
    if (x2.data.length : Int) > 300 then
      some (.inr (.inr false))
    else
      some (.inl (IntKind.i64.wrap (s1 + 1)))
  else
    some (.inr (.inl ()))
noncomputable def G.graftref05_Few (a0 : G.Delta) : Option Bool :=
  (
    Iter (G.graftref05_Few_l1 a0) 0).bind fun v1 => joinK v1 fun u1 =>
  some (decide ((a0.commands.length : Int) ≤ 40))
def G.graftref01_Max : Option Int :=
  some 4611686018427387903
def G.graftref07_in (a0 : Int) : Option Bool :=
  if a0 ≥ 0 then
    (G.graftref01_Max).bind fun y1 =>
    some (decide (a0 ≤ y1))
  else
    some false
def G.graftref07_Wrong_l1 (a0 : G.Delta) (s1 : Int) : Option (Int ⊕ Int) :=
  if s1 < (a0.commands.length : Int) then
    (idx a0.commands s1).bind fun x2 =>
    (
      (G.graftref07_in x2.to).bind fun y1 =>
      if y1 = false then
        some true
      else
        (G.graftref07_in x2.from_).bind fun y2 =>
        if y2 = false then
          some true
        else
          (G.graftref07_in x2.len).bind fun y3 =>
          if y3 = false then
            some true
          else
            if x2.kind = 1 then
              if (x2.data.length : Int) > 0 then
                some true
              else
                if x2.kind = 2 then
                  if x2.from_ ≠ 0 then
                    some true
                  else
                    some (x2.len != 0)
                else
                  some false
            else
              if x2.kind = 2 then
                if x2.from_ ≠ 0 then
                  some true
                else
                  some (x2.len != 0)
              else
                some false).bind fun v3 =>
    if v3 = true then
      some (.inr 2)
    else
      some (.inl (IntKind.i64.wrap (s1 + 1)))
  else
    some (.inr 0)
def G.graftref07_Wrong_l2 (a0 : G.Delta) (s2 : Int) : Option (Int ⊕ (Unit ⊕ Int)) :=
  if s2 < (a0.commands.length : Int) then
    (
      (idx a0.commands s2).bind fun x4 =>
      if x4.kind ≠ 1 then
        (idx a0.commands s2).bind fun x5 =>
        some (x5.kind != 2)
      else
        some false).bind fun v4 =>
    if v4 = true then
      some (.inr (.inr 11))
    else
      some (.inl (IntKind.i64.wrap (s2 + 1)))
  else
    some (.inr (.inl ()))
noncomputable def G.graftref07_Wrong (a0 : G.Delta) : Option Int :=
  (
    Iter (G.graftref07_Wrong_l2 a0) 0).bind fun v1 => joinK v1 fun u1 =>
  (
    (G.graftref07_in a0.oldLen).bind fun y4 =>
    if y4 = false then
      some true
    else
      (G.graftref07_in a0.newLen).bind fun y5 =>
      some (!y5)).bind fun v2 =>
  if v2 = true then
    some 2
  else
    Iter (G.graftref07_Wrong_l1 a0) 0
noncomputable def G.graftlaw07_FormatInverse (a0 : G.Delta) (a1 : List UInt8) : Option Bool :=
  (
    (G.graftref05_Few a0).bind fun y7 =>
    if y7 = false then
      some true
    else
      (G.graftref07_Wrong a0).bind fun y8 =>
      if y8 ≠ 0 then
        some true
      else
        some (decide ((a1.length : Int) > 100))).bind fun v1 =>
  if v1 = true then
    (G.graftlaw07_alive).bind fun y1 =>
    some y1
  else
    (G.format_Encode a0).bind fun y2 =>
    (G.format_Decode y2.1).bind fun y3 =>
    (
      if y2.2 ≠ 0 then
        some true
      else
        if decide (y3.2.code = 0 ∧ y3.2.at_ = 0) = false then
          some true
        else
          (G.graftref05_Same y3.1 a0).bind fun y6 =>
          some (!y6)).bind fun v2 =>
    if v2 = true then
      some false
    else
      (app 1 ([] : List UInt8) y2.1).bind fun x1 =>
      (app 1 x1 a1).bind fun x2 =>
      (G.format_Decode x2).bind fun y4 =>
      (G.graftlaw07_alive).bind fun y5 =>
      if y5 = true then
        if (a1.length : Int) = 0 then
          some true
        else
          some (decide (y4.2.code = 12 ∧ y4.2.at_ = (y2.1.length : Int)))
      else
        some false
def G.graftref06_Append_l1 (a1 : Int) (s1 : (List UInt8) × Int) : Option (((List UInt8) × Int) ⊕ (List UInt8)) :=
  if s1.2 ≥ 0 then
    (chk (0 ≤ (IntKind.i64.wrap (8 * s1.2)))).bind fun y1 =>
    (app 1 s1.1 ([(u8 (ishr .u64 a1 (IntKind.i64.wrap (8 * s1.2))))] : List UInt8)).bind fun x3 =>
    some (.inl (x3, (IntKind.i64.wrap (s1.2 - 1))))
  else
    some (.inr s1.1)
noncomputable def G.graftref06_Append (a0 : List UInt8) (a1 : Int) (a2 : Int) : Option (List UInt8) :=
  (app 1 ([] : List UInt8) a0).bind fun x1 =>
  Iter (G.graftref06_Append_l1 a1) (x1, (IntKind.i64.wrap (a2 - 1)))
noncomputable def G.graftref07_Encode_l1 (a0 : G.Delta) (s1 : (List UInt8) × Int) : Option (((List UInt8) × Int) ⊕ (List UInt8)) :=
  if s1.2 < (a0.commands.length : Int) then
    (idx a0.commands s1.2).bind fun x5 =>
    (app 1 s1.1 ([(u8 x5.kind)] : List UInt8)).bind fun x6 =>
    (G.graftref06_Append x6 (IntKind.u64.wrap x5.to) 8).bind fun y4 =>
    if x5.kind = 1 then
      (G.graftref06_Append y4 (IntKind.u64.wrap x5.from_) 8).bind fun y5 =>
      (G.graftref06_Append y5 (IntKind.u64.wrap x5.len) 8).bind fun y6 =>
      some (.inl (y6, (IntKind.i64.wrap (s1.2 + 1))))
    else
      (G.graftref06_Append y4 (IntKind.u64.wrap (x5.data.length : Int)) 8).bind fun y7 =>
      (app 1 y7 x5.data).bind fun x7 =>
      some (.inl (x7, (IntKind.i64.wrap (s1.2 + 1))))
  else
    some (.inr s1.1)
noncomputable def G.graftref07_Encode (a0 : G.Delta) : Option (List UInt8) :=
  (app 1 ([(71 : UInt8), (82 : UInt8), (70 : UInt8), (84 : UInt8)] : List UInt8) ([(1 : UInt8)] : List UInt8)).bind fun x1 =>
  (G.graftref06_Append x1 (IntKind.u64.wrap a0.oldLen) 8).bind fun y1 =>
  (G.graftref06_Append y1 (IntKind.u64.wrap a0.newLen) 8).bind fun y2 =>
  (app 1 y2 (arrL 32 a0.oldHash)).bind fun x2 =>
  (app 1 x2 (arrL 32 a0.newHash)).bind fun x3 =>
  (G.graftref06_Append x3 (IntKind.u64.wrap (a0.commands.length : Int)) 4).bind fun y3 =>
  Iter (G.graftref07_Encode_l1 a0) (y3, 0)
noncomputable def G.graftlaw07_FormatCuts (a0 : G.Delta) (a1 : Int) : Option Bool :=
  (
    (G.graftref05_Few a0).bind fun y7 =>
    if y7 = false then
      some true
    else
      (G.graftref07_Wrong a0).bind fun y8 =>
      some (y8 != 0)).bind fun v1 =>
  if v1 = true then
    (G.graftlaw07_alive).bind fun y1 =>
    some y1
  else
    (G.graftref07_Encode a0).bind fun y2 =>
    (chk ((y2.length : Int) ≠ 0)).bind fun y3 =>
    (slcTo y2 (Int.tmod (IntKind.i64.wrap a1) (y2.length : Int))).bind fun x1 =>
    (G.format_Decode x1).bind fun y4 =>
    (G.graftlaw07_alive).bind fun y5 =>
    if y5 = true then
      (G.graftref05_Same y4.1 (⟨0, 0, (fun _ => (0 : UInt8)), (fun _ => (0 : UInt8)), ([] : List G.Command)⟩ : G.Delta)).bind fun y6 =>
      if y6 = true then
        some (decide (y4.2.code = 8 ∧ y4.2.at_ = (Int.tmod (IntKind.i64.wrap a1) (y2.length : Int))))
      else
        some false
    else
      some false
def G.slices_Equal_byte_byte_l1 (a0 : List UInt8) (a1 : List UInt8) (s1 : Int) : Option (Int ⊕ Bool) :=
  if s1 < (a0.length : Int) then
    (idx a0 s1).bind fun x2 =>
    (idx a1 s1).bind fun x3 =>
    if (x2.toNat : Int) ≠ (x3.toNat : Int) then
      some (.inr false)
    else
      some (.inl (IntKind.i64.wrap (s1 + 1)))
  else
    some (.inr true)
noncomputable def G.slices_Equal_byte_byte (a0 : List UInt8) (a1 : List UInt8) : Option Bool :=
  if (a0.length : Int) ≠ (a1.length : Int) then
    some false
  else
    Iter (G.slices_Equal_byte_byte_l1 a0 a1) 0
noncomputable def G.graftlaw07_FormatEncodes (a0 : G.Delta) : Option Bool :=
  (G.graftref05_Few a0).bind fun y1 =>
  if y1 = false then
    (G.graftlaw07_alive).bind fun y2 =>
    some y2
  else
    (G.format_Encode a0).bind fun y3 =>
    (G.graftref07_Wrong a0).bind fun y4 =>
    if y4 ≠ 0 then
      (G.graftlaw07_alive).bind fun y5 =>
      if y5 = true then
        if (y3.1.length : Int) = 0 then
          if y3.2 = y4 then
            (G.format_Size a0).bind fun y6 =>
            some (y6 == 0)
          else
            some false
        else
          some false
      else
        some false
    else
      (G.graftlaw07_alive).bind fun y7 =>
      if y7 = true then
        if y3.2 = 0 then
          (G.graftref07_Encode a0).bind fun y8 =>
          (G.slices_Equal_byte_byte y3.1 y8).bind fun y9 =>
          if y9 = true then
            (G.format_Size a0).bind fun y10 =>
            some (y10 == (y3.1.length : Int))
          else
            some false
        else
          some false
      else
        some false
noncomputable def G.graftlaw07_FormatOnce (a0 : List UInt8) : Option Bool :=
  if (a0.length : Int) > 2000 then
    (G.graftlaw07_alive).bind fun y1 =>
    some y1
  else
    (G.format_Decode a0).bind fun y2 =>
    if decide (y2.2.code = 0 ∧ y2.2.at_ = 0) = false then
      (G.graftlaw07_alive).bind fun y3 =>
      if y3 = true then
        (G.graftref05_Same y2.1 (⟨0, 0, (fun _ => (0 : UInt8)), (fun _ => (0 : UInt8)), ([] : List G.Command)⟩ : G.Delta)).bind fun y4 =>
        if y4 = true then
          if y2.2.code ≠ 0 then
            if y2.2.at_ ≥ 0 then
              some (decide (y2.2.at_ ≤ (a0.length : Int)))
            else
              some false
          else
            some false
        else
          some false
      else
        some false
    else
      (G.format_Encode y2.1).bind fun y5 =>
      (G.graftlaw07_alive).bind fun y6 =>
      if y6 = true then
        if y5.2 = 0 then
          (G.slices_Equal_byte_byte y5.1 a0).bind fun y7 =>
          some y7
        else
          some false
      else
        some false
end Go.Proofs.Ytkalbidbhaalmaa
