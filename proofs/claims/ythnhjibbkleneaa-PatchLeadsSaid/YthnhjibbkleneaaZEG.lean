/- Part of what the laws need: plain words, the walker and its laws, the program's functions. -/
import Derived.Test.YthnhjibbkleneaaZTy
namespace Go.Proofs.Ythnhjibbkleneaa
open G
noncomputable def G.graftref05_Few_l1 (a0 : G.Delta) (s3 : Int) : Option (Int ⊕ (Unit ⊕ Bool)) :=
  if s3 < (a0.commands.length : Int) then
    (idx a0.commands s3).bind fun x4 =>
    if (x4.data.length : Int) > (300 : Int) then
      some (.inr (.inr false))
    else
      some (.inl (IntKind.i64.wrap (s3 + (1 : Int))))
  else
    some (.inr (.inl ()))
noncomputable def G.graftref05_Few (a0 : G.Delta) : Option Bool :=
  ((
    Iter (G.graftref05_Few_l1 a0) (0 : Int)) : Option (Unit ⊕ Bool)).bind fun v1 => joinK v1 fun u2 =>
  some (decide ((a0.commands.length : Int) ≤ (40 : Int)))
noncomputable def G.patch_matcher (a0 : List UInt8) (a1 : Int) : Option (Int × (List UInt8)) :=
  some (a1, a0)
noncomputable def G.bytes_Index (a0 : List UInt8) (a1 : List UInt8) : Option Int :=
    bytesIndex a0 a1
noncomputable def G.patch_matcher_1_l1 (a0 : (List UInt8)) (a2 : (List UInt8)) (y3 : Int) (s5 : Int) : Option (Int ⊕ Int) :=
  (
    if s5 < (a0.length : Int) then
      if (IntKind.i64.wrap (y3 + s5)) < (a2.length : Int) then
        (idx a0 s5).bind fun x7 =>
        (idx a2 (IntKind.i64.wrap (y3 + s5))).bind fun x8 =>
        some ((x7.toNat : Int) == (x8.toNat : Int))
      else
        some false
    else
      some false).bind fun v6 =>
  if v6 = true then
    some (.inl (IntKind.i64.wrap (s5 + (1 : Int))))
  else
    some (.inr s5)
noncomputable def G.patch_matcher_1 (a0 : List UInt8) (a1 : Int) (a2 : List UInt8) : Option (Int × Int) :=
  (
    if a1 < (1 : Int) then
      some true
    else
      some (decide (a1 > (a0.length : Int)))).bind fun v1 =>
  if v1 = true then
    some ((-1 : Int), (0 : Int))
  else
    (slcTo a0 a1).bind fun y2 =>
    (G.bytes_Index a2 y2).bind fun y3 =>
    if y3 < (0 : Int) then
      some ((-1 : Int), (0 : Int))
    else
      (
        Iter (G.patch_matcher_1_l1 a0 a2 y3) a1).bind fun v4 =>
      some (y3, v4)
noncomputable def G.slices_Grow_byte_byte_nil0 (a0 : Int) : Option (List UInt8) :=
  if a0 < (0 : Int) then
    none
  else
    if (IntKind.i64.wrap (a0 - (IntKind.i64.wrap ((0 : Int) - (0 : Int))))) > (0 : Int) then
      (chk (0 < (IntKind.i64.wrap (a0 - (IntKind.i64.wrap ((0 : Int) - (0 : Int))))) ∧ (IntKind.i64.wrap (a0 - (IntKind.i64.wrap ((0 : Int) - (0 : Int))))) * 1 ≤ 140737488355328)).bind fun y1 =>
      some ([] : List UInt8)
    else
      some ([] : List UInt8)
noncomputable def G.slices_Concat_byte_byte_l1 (a0 : (List (List UInt8))) (s2 : Int × Int) : Option ((Int × Int) ⊕ Int) :=
  if s2.2 < (a0.length : Int) then
    (idx a0 s2.2).bind fun x3 =>
    if (IntKind.i64.wrap (s2.1 + (x3.length : Int))) < (0 : Int) then
      none
    else
      some (.inl ((IntKind.i64.wrap (s2.1 + (x3.length : Int))), (IntKind.i64.wrap (s2.2 + (1 : Int)))))
  else
    some (.inr s2.1)
noncomputable def G.slices_Concat_byte_byte_l2 (a0 : (List (List UInt8))) (s5 : (List UInt8) × Int) : Option (((List UInt8) × Int) ⊕ (List UInt8)) :=
  if s5.2 < (a0.length : Int) then
    (idx a0 s5.2).bind fun x6 =>
    (app 1 s5.1 x6).bind fun y7 =>
    some (.inl (y7, (IntKind.i64.wrap (s5.2 + (1 : Int)))))
  else
    some (.inr s5.1)
noncomputable def G.slices_Concat_byte_byte (a0 : List (List UInt8)) : Option (List UInt8) :=
  (
    Iter (G.slices_Concat_byte_byte_l1 a0) ((0 : Int), (0 : Int))).bind fun v1 =>
  (G.slices_Grow_byte_byte_nil0 v1).bind fun y4 =>
  Iter (G.slices_Concat_byte_byte_l2 a0) (y4, (0 : Int))
noncomputable def G.command_Literal (a0 : Int) (a1 : List (List UInt8)) : Option G.Command :=
  (G.slices_Concat_byte_byte a1).bind fun y1 =>
  some (⟨(2 : Int), a0, (0 : Int), (0 : Int), y1⟩ : G.Command)
noncomputable def G.patch_Make_1 (a0 : Int) (a1 : Int) (a2 : List UInt8) : Option (List G.Command) :=
  if a0 > a1 then
    (slcMid a2 a1 a0).bind fun y1 =>
    (G.command_Literal a1 [y1]).bind fun y2 =>
    (app 56 ([] : List G.Command) [y2]).bind fun y3 =>
    some y3
  else
    some ([] : List G.Command)
noncomputable def G.command_Copy (a0 : Int) (a1 : Int) (a2 : Int) : Option G.Command :=
  some (⟨(1 : Int), a0, a1, a2, ([] : List UInt8)⟩ : G.Command)
noncomputable def G.patch_Make_1x (a0 : Int) (a1 : Int) (a2 : List G.Command) (a3 : List UInt8) : Option (List G.Command) :=
  (
    if a0 > a1 then
      (slcMid a3 a1 a0).bind fun y2 =>
      (G.command_Literal a1 [y2]).bind fun y3 =>
      (app 56 a2 [y3]).bind fun y4 =>
      some y4
    else
      some a2).bind fun v1 =>
  some v1
noncomputable def G.sha_initial : Option ((Nat → Int) × Int) :=
  some ((setArr (setArr (setArr (setArr (setArr (setArr (setArr (setArr (fun _ => 0) 0 (1779033703 : Int)) 1 (3144134277 : Int)) 2 (1013904242 : Int)) 3 (2773480762 : Int)) 4 (1359893119 : Int)) 5 (2600822924 : Int)) 6 (528734635 : Int)) 7 (1541459225 : Int)), (0 : Int))
noncomputable def G.sha_New : Option ((Nat → Int) × (List UInt8) × Int) :=
  (G.sha_initial).bind fun y1 =>
  some (y1.1, ([] : List UInt8), y1.2)
noncomputable def G.sha_keys : Option (Nat → Int) :=
  some (setArr (setArr (setArr (setArr (setArr (setArr (setArr (setArr (setArr (setArr (setArr (setArr (setArr (setArr (setArr (setArr (setArr (setArr (setArr (setArr (setArr (setArr (setArr (setArr (setArr (setArr (setArr (setArr (setArr (setArr (setArr (setArr (setArr (setArr (setArr (setArr (setArr (setArr (setArr (setArr (setArr (setArr (setArr (setArr (setArr (setArr (setArr (setArr (setArr (setArr (setArr (setArr (setArr (setArr (setArr (setArr (setArr (setArr (setArr (setArr (setArr (setArr (setArr (setArr (fun _ => 0) 0 (1116352408 : Int)) 1 (1899447441 : Int)) 2 (3049323471 : Int)) 3 (3921009573 : Int)) 4 (961987163 : Int)) 5 (1508970993 : Int)) 6 (2453635748 : Int)) 7 (2870763221 : Int)) 8 (3624381080 : Int)) 9 (310598401 : Int)) 10 (607225278 : Int)) 11 (1426881987 : Int)) 12 (1925078388 : Int)) 13 (2162078206 : Int)) 14 (2614888103 : Int)) 15 (3248222580 : Int)) 16 (3835390401 : Int)) 17 (4022224774 : Int)) 18 (264347078 : Int)) 19 (604807628 : Int)) 20 (770255983 : Int)) 21 (1249150122 : Int)) 22 (1555081692 : Int)) 23 (1996064986 : Int)) 24 (2554220882 : Int)) 25 (2821834349 : Int)) 26 (2952996808 : Int)) 27 (3210313671 : Int)) 28 (3336571891 : Int)) 29 (3584528711 : Int)) 30 (113926993 : Int)) 31 (338241895 : Int)) 32 (666307205 : Int)) 33 (773529912 : Int)) 34 (1294757372 : Int)) 35 (1396182291 : Int)) 36 (1695183700 : Int)) 37 (1986661051 : Int)) 38 (2177026350 : Int)) 39 (2456956037 : Int)) 40 (2730485921 : Int)) 41 (2820302411 : Int)) 42 (3259730800 : Int)) 43 (3345764771 : Int)) 44 (3516065817 : Int)) 45 (3600352804 : Int)) 46 (4094571909 : Int)) 47 (275423344 : Int)) 48 (430227734 : Int)) 49 (506948616 : Int)) 50 (659060556 : Int)) 51 (883997877 : Int)) 52 (958139571 : Int)) 53 (1322822218 : Int)) 54 (1537002063 : Int)) 55 (1747873779 : Int)) 56 (1955562222 : Int)) 57 (2024104815 : Int)) 58 (2227730452 : Int)) 59 (2361852424 : Int)) 60 (2428436474 : Int)) 61 (2756734187 : Int)) 62 (3204031479 : Int)) 63 (3329325298 : Int))
noncomputable def G.math_bits_RotateLeft32 (a0 : Int) (a1 : Int) : Option Int :=
  (chk (0 ≤ (band .u64 (IntKind.u64.wrap a1) (31 : Int)))).bind fun y1 =>
  (chk (0 ≤ (IntKind.u64.wrap ((32 : Int) - (band .u64 (IntKind.u64.wrap a1) (31 : Int)))))).bind fun y2 =>
  some (bor .u32 (ishl .u32 a0 (band .u64 (IntKind.u64.wrap a1) (31 : Int))) (ishr .u32 a0 (IntKind.u64.wrap ((32 : Int) - (band .u64 (IntKind.u64.wrap a1) (31 : Int))))))
noncomputable def G.sha_state_block_l1 (a0 : (List UInt8)) (s2 : Int × (Nat → Int)) : Option ((Int × (Nat → Int)) ⊕ (Nat → Int)) :=
  if s2.1 < (16 : Int) then
    (idx a0 (IntKind.i64.wrap ((4 : Int) * s2.1))).bind fun x3 =>
    (idx a0 (IntKind.i64.wrap ((IntKind.i64.wrap ((4 : Int) * s2.1)) + (1 : Int)))).bind fun x4 =>
    (idx a0 (IntKind.i64.wrap ((IntKind.i64.wrap ((4 : Int) * s2.1)) + (2 : Int)))).bind fun x5 =>
    (idx a0 (IntKind.i64.wrap ((IntKind.i64.wrap ((4 : Int) * s2.1)) + (3 : Int)))).bind fun x6 =>
    (chk (0 ≤ s2.1 ∧ s2.1 < 16)).bind fun y7 =>
    some (.inl ((IntKind.i64.wrap (s2.1 + (1 : Int))), (setArr s2.2 s2.1 (bor .u32 (bor .u32 (bor .u32 (ishl .u32 (x3.toNat : Int) (24 : Int)) (ishl .u32 (x4.toNat : Int) (16 : Int))) (ishl .u32 (x5.toNat : Int) (8 : Int))) (x6.toNat : Int)))))
  else
    some (.inr s2.2)
noncomputable def G.sha_state_block_l2 (y8 : (Nat → Int)) (s10 : Int × (Nat → Int) × (Nat → Int)) : Option ((Int × (Nat → Int) × (Nat → Int)) ⊕ (Nat → Int)) :=
  if s10.1 < (64 : Int) then
    (chk (0 ≤ s10.1 ∧ s10.1 < 64)).bind fun y11 =>
    (
      if s10.1 ≥ (16 : Int) then
        (chk (0 ≤ (band .i64 (IntKind.i64.wrap (s10.1 + (1 : Int))) (15 : Int)) ∧ (band .i64 (IntKind.i64.wrap (s10.1 + (1 : Int))) (15 : Int)) < 16)).bind fun y13 =>
        (chk (0 ≤ (band .i64 (IntKind.i64.wrap (s10.1 + (14 : Int))) (15 : Int)) ∧ (band .i64 (IntKind.i64.wrap (s10.1 + (14 : Int))) (15 : Int)) < 16)).bind fun y14 =>
        (G.math_bits_RotateLeft32 (getArr s10.2.1 (band .i64 (IntKind.i64.wrap (s10.1 + (1 : Int))) (15 : Int))) (-7 : Int)).bind fun y15 =>
        (G.math_bits_RotateLeft32 (getArr s10.2.1 (band .i64 (IntKind.i64.wrap (s10.1 + (1 : Int))) (15 : Int))) (-18 : Int)).bind fun y16 =>
        (G.math_bits_RotateLeft32 (getArr s10.2.1 (band .i64 (IntKind.i64.wrap (s10.1 + (14 : Int))) (15 : Int))) (-17 : Int)).bind fun y17 =>
        (G.math_bits_RotateLeft32 (getArr s10.2.1 (band .i64 (IntKind.i64.wrap (s10.1 + (14 : Int))) (15 : Int))) (-19 : Int)).bind fun y18 =>
        (chk (0 ≤ (band .i64 s10.1 (15 : Int)) ∧ (band .i64 s10.1 (15 : Int)) < 16)).bind fun y19 =>
        (chk (0 ≤ (band .i64 (IntKind.i64.wrap (s10.1 + (9 : Int))) (15 : Int)) ∧ (band .i64 (IntKind.i64.wrap (s10.1 + (9 : Int))) (15 : Int)) < 16)).bind fun y20 =>
        (chk (0 ≤ (band .i64 s10.1 (15 : Int)) ∧ (band .i64 s10.1 (15 : Int)) < 16)).bind fun y21 =>
        some (setArr s10.2.1 (band .i64 s10.1 (15 : Int)) (IntKind.u32.wrap ((getArr s10.2.1 (band .i64 s10.1 (15 : Int))) + (IntKind.u32.wrap ((IntKind.u32.wrap ((bxor .u32 (bxor .u32 y15 y16) (ishr .u32 (getArr s10.2.1 (band .i64 (IntKind.i64.wrap (s10.1 + (1 : Int))) (15 : Int))) (3 : Int))) + (getArr s10.2.1 (band .i64 (IntKind.i64.wrap (s10.1 + (9 : Int))) (15 : Int))))) + (bxor .u32 (bxor .u32 y17 y18) (ishr .u32 (getArr s10.2.1 (band .i64 (IntKind.i64.wrap (s10.1 + (14 : Int))) (15 : Int))) (10 : Int))))))))
      else
        some s10.2.1).bind fun v12 =>
    (G.math_bits_RotateLeft32 (s10.2.2 4) (-6 : Int)).bind fun y22 =>
    (G.math_bits_RotateLeft32 (s10.2.2 4) (-11 : Int)).bind fun y23 =>
    (G.math_bits_RotateLeft32 (s10.2.2 4) (-25 : Int)).bind fun y24 =>
    (chk (0 ≤ (band .i64 s10.1 (15 : Int)) ∧ (band .i64 s10.1 (15 : Int)) < 16)).bind fun y25 =>
    (G.math_bits_RotateLeft32 (s10.2.2 0) (-2 : Int)).bind fun y26 =>
    (G.math_bits_RotateLeft32 (s10.2.2 0) (-13 : Int)).bind fun y27 =>
    (G.math_bits_RotateLeft32 (s10.2.2 0) (-22 : Int)).bind fun y28 =>
    (chk (0 ≤ (1 : Int) ∧ (1 : Int) < 8 ∧ (1 : Int) ≤ (8 : Int) ∧ (8 : Int) ≤ 8)).bind fun y29 =>
    (chk (0 ≤ (0 : Int) ∧ (0 : Int) < 8 ∧ (0 : Int) ≤ (7 : Int) ∧ (7 : Int) ≤ 8)).bind fun y30 =>
    some (.inl ((IntKind.i64.wrap (s10.1 + (1 : Int))), v12, (setArr (setArr (mvArr s10.2.2 (1 : Int).toNat (0 : Int).toNat (imin ((8 : Int) - (1 : Int)) ((7 : Int) - (0 : Int))).toNat) 4 (IntKind.u32.wrap (((mvArr s10.2.2 (1 : Int).toNat (0 : Int).toNat (imin ((8 : Int) - (1 : Int)) ((7 : Int) - (0 : Int))).toNat) 4) + (IntKind.u32.wrap ((IntKind.u32.wrap ((IntKind.u32.wrap ((IntKind.u32.wrap ((s10.2.2 7) + (bxor .u32 (bxor .u32 y22 y23) y24))) + (bxor .u32 (s10.2.2 6) (band .u32 (s10.2.2 4) (bxor .u32 (s10.2.2 5) (s10.2.2 6)))))) + (getArr y8 s10.1))) + (getArr v12 (band .i64 s10.1 (15 : Int)))))))) 0 (IntKind.u32.wrap ((IntKind.u32.wrap ((IntKind.u32.wrap ((IntKind.u32.wrap ((IntKind.u32.wrap ((s10.2.2 7) + (bxor .u32 (bxor .u32 y22 y23) y24))) + (bxor .u32 (s10.2.2 6) (band .u32 (s10.2.2 4) (bxor .u32 (s10.2.2 5) (s10.2.2 6)))))) + (getArr y8 s10.1))) + (getArr v12 (band .i64 s10.1 (15 : Int))))) + (IntKind.u32.wrap ((bxor .u32 (bxor .u32 y26 y27) y28) + (bor .u32 (band .u32 (s10.2.2 0) (s10.2.2 1)) (band .u32 (s10.2.2 2) (bor .u32 (s10.2.2 0) (s10.2.2 1)))))))))))
  else
    some (.inr s10.2.2)
noncomputable def G.sha_state_block_l3 (v9 : (Nat → Int)) (s31 : Int × (Nat → Int) × (List UInt8) × Int) : Option ((Int × (Nat → Int) × (List UInt8) × Int) ⊕ ((Nat → Int) × (List UInt8) × Int)) :=
  if s31.1 < (8 : Int) then
    (chk (0 ≤ s31.1 ∧ s31.1 < 8)).bind fun y32 =>
    (chk (0 ≤ s31.1 ∧ s31.1 < 8)).bind fun y33 =>
    (chk (0 ≤ s31.1 ∧ s31.1 < 8)).bind fun y34 =>
    some (.inl ((IntKind.i64.wrap (s31.1 + (1 : Int))), (setArr s31.2.1 s31.1 (IntKind.u32.wrap ((getArr s31.2.1 s31.1) + (getArr v9 s31.1)))), s31.2.2.1, s31.2.2.2))
  else
    some (.inr (s31.2.1, s31.2.2.1, s31.2.2.2))
noncomputable def G.sha_state_block (a0 : List UInt8) (a1 : Nat → Int) (a2 : List UInt8) (a3 : Int) : Option ((Nat → Int) × (List UInt8) × Int) :=
  (
    Iter (G.sha_state_block_l1 a0) ((0 : Int), (fun _ => 0))).bind fun v1 =>
  (G.sha_keys).bind fun y8 =>
  (
    Iter (G.sha_state_block_l2 y8) ((0 : Int), v1, a1)).bind fun v9 =>
  Iter (G.sha_state_block_l3 v9) ((0 : Int), a1, a2, a3)
noncomputable def G.sha_state_take_l1 (s2 : (Nat → Int) × (List UInt8) × Int) : Option (((Nat → Int) × (List UInt8) × Int) ⊕ ((Nat → Int) × (List UInt8) × Int)) :=
  if (s2.2.1.length : Int) ≥ (64 : Int) then
    (slcTo s2.2.1 (64 : Int)).bind fun y3 =>
    (G.sha_state_block y3 s2.1 s2.2.1 s2.2.2).bind fun y4 =>
    (slcFrom y4.2.1 (64 : Int)).bind fun y5 =>
    some (.inl (y4.1, y5, y4.2.2))
  else
    some (.inr (s2.1, s2.2.1, s2.2.2))
noncomputable def G.sha_state_take (a0 : List UInt8) (a1 : Nat → Int) (a2 : List UInt8) (a3 : Int) : Option ((Nat → Int) × (List UInt8) × Int) :=
  (app 1 a2 a0).bind fun y1 =>
  Iter G.sha_state_take_l1 (a1, y1, (IntKind.i64.wrap (a3 + (a0.length : Int))))
noncomputable def G.sha_Hash_Write_l1 (a0 : (List (List UInt8))) (s2 : Int × (Nat → Int) × (List UInt8) × Int) : Option ((Int × (Nat → Int) × (List UInt8) × Int) ⊕ ((Nat → Int) × (List UInt8) × Int)) :=
  if s2.1 < (a0.length : Int) then
    (idx a0 s2.1).bind fun x3 =>
    (G.sha_state_take x3 s2.2.1 s2.2.2.1 s2.2.2.2).bind fun y4 =>
    some (.inl ((IntKind.i64.wrap (s2.1 + (1 : Int))), y4.1, y4.2.1, y4.2.2))
  else
    some (.inr (s2.2.1, s2.2.2.1, s2.2.2.2))
noncomputable def G.sha_Hash_Write (a0 : List (List UInt8)) (a1 : Nat → Int) (a2 : List UInt8) (a3 : Int) : Option (Int × (Nat → Int) × (List UInt8) × Int) :=
  (
    Iter (G.sha_Hash_Write_l1 a0) ((0 : Int), a1, a2, a3)).bind fun v1 =>
  some ((IntKind.i64.wrap (v1.2.2 - a3)), v1.1, v1.2.1, v1.2.2)
noncomputable def G.slices_Clone_byte_byte (a0 : List UInt8) : Option (List UInt8) :=
  match a0.isEmpty with
  | true =>
    agree (
      some ([] : List UInt8)) (
      (app 1 ([] : List UInt8) a0).bind fun y1 =>
      some y1)
  | false =>
    (app 1 ([] : List UInt8) a0).bind fun y1 =>
    some y1
noncomputable def G.sha_state_copied (a0 : Nat → Int) (a1 : List UInt8) (a2 : Int) : Option ((Nat → Int) × (List UInt8) × Int) :=
  (G.slices_Clone_byte_byte a1).bind fun y1 =>
  some (a0, y1, a2)
noncomputable def G.sha_state_blockx_l1 (a0 : (List UInt8)) (s2 : Int × (Nat → Int)) : Option ((Int × (Nat → Int)) ⊕ (Nat → Int)) :=
  if s2.1 < (16 : Int) then
    (idx a0 (IntKind.i64.wrap ((4 : Int) * s2.1))).bind fun x3 =>
    (idx a0 (IntKind.i64.wrap ((IntKind.i64.wrap ((4 : Int) * s2.1)) + (1 : Int)))).bind fun x4 =>
    (idx a0 (IntKind.i64.wrap ((IntKind.i64.wrap ((4 : Int) * s2.1)) + (2 : Int)))).bind fun x5 =>
    (idx a0 (IntKind.i64.wrap ((IntKind.i64.wrap ((4 : Int) * s2.1)) + (3 : Int)))).bind fun x6 =>
    (chk (0 ≤ s2.1 ∧ s2.1 < 16)).bind fun y7 =>
    some (.inl ((IntKind.i64.wrap (s2.1 + (1 : Int))), (setArr s2.2 s2.1 (bor .u32 (bor .u32 (bor .u32 (ishl .u32 (x3.toNat : Int) (24 : Int)) (ishl .u32 (x4.toNat : Int) (16 : Int))) (ishl .u32 (x5.toNat : Int) (8 : Int))) (x6.toNat : Int)))))
  else
    some (.inr s2.2)
noncomputable def G.sha_state_blockx_l2 (y8 : (Nat → Int)) (s10 : Int × (Nat → Int) × (Nat → Int)) : Option ((Int × (Nat → Int) × (Nat → Int)) ⊕ (Nat → Int)) :=
  if s10.1 < (64 : Int) then
    (chk (0 ≤ s10.1 ∧ s10.1 < 64)).bind fun y11 =>
    (
      if s10.1 ≥ (16 : Int) then
        (chk (0 ≤ (band .i64 (IntKind.i64.wrap (s10.1 + (1 : Int))) (15 : Int)) ∧ (band .i64 (IntKind.i64.wrap (s10.1 + (1 : Int))) (15 : Int)) < 16)).bind fun y13 =>
        (chk (0 ≤ (band .i64 (IntKind.i64.wrap (s10.1 + (14 : Int))) (15 : Int)) ∧ (band .i64 (IntKind.i64.wrap (s10.1 + (14 : Int))) (15 : Int)) < 16)).bind fun y14 =>
        (G.math_bits_RotateLeft32 (getArr s10.2.1 (band .i64 (IntKind.i64.wrap (s10.1 + (1 : Int))) (15 : Int))) (-7 : Int)).bind fun y15 =>
        (G.math_bits_RotateLeft32 (getArr s10.2.1 (band .i64 (IntKind.i64.wrap (s10.1 + (1 : Int))) (15 : Int))) (-18 : Int)).bind fun y16 =>
        (G.math_bits_RotateLeft32 (getArr s10.2.1 (band .i64 (IntKind.i64.wrap (s10.1 + (14 : Int))) (15 : Int))) (-17 : Int)).bind fun y17 =>
        (G.math_bits_RotateLeft32 (getArr s10.2.1 (band .i64 (IntKind.i64.wrap (s10.1 + (14 : Int))) (15 : Int))) (-19 : Int)).bind fun y18 =>
        (chk (0 ≤ (band .i64 s10.1 (15 : Int)) ∧ (band .i64 s10.1 (15 : Int)) < 16)).bind fun y19 =>
        (chk (0 ≤ (band .i64 (IntKind.i64.wrap (s10.1 + (9 : Int))) (15 : Int)) ∧ (band .i64 (IntKind.i64.wrap (s10.1 + (9 : Int))) (15 : Int)) < 16)).bind fun y20 =>
        (chk (0 ≤ (band .i64 s10.1 (15 : Int)) ∧ (band .i64 s10.1 (15 : Int)) < 16)).bind fun y21 =>
        some (setArr s10.2.1 (band .i64 s10.1 (15 : Int)) (IntKind.u32.wrap ((getArr s10.2.1 (band .i64 s10.1 (15 : Int))) + (IntKind.u32.wrap ((IntKind.u32.wrap ((bxor .u32 (bxor .u32 y15 y16) (ishr .u32 (getArr s10.2.1 (band .i64 (IntKind.i64.wrap (s10.1 + (1 : Int))) (15 : Int))) (3 : Int))) + (getArr s10.2.1 (band .i64 (IntKind.i64.wrap (s10.1 + (9 : Int))) (15 : Int))))) + (bxor .u32 (bxor .u32 y17 y18) (ishr .u32 (getArr s10.2.1 (band .i64 (IntKind.i64.wrap (s10.1 + (14 : Int))) (15 : Int))) (10 : Int))))))))
      else
        some s10.2.1).bind fun v12 =>
    (G.math_bits_RotateLeft32 (s10.2.2 4) (-6 : Int)).bind fun y22 =>
    (G.math_bits_RotateLeft32 (s10.2.2 4) (-11 : Int)).bind fun y23 =>
    (G.math_bits_RotateLeft32 (s10.2.2 4) (-25 : Int)).bind fun y24 =>
    (chk (0 ≤ (band .i64 s10.1 (15 : Int)) ∧ (band .i64 s10.1 (15 : Int)) < 16)).bind fun y25 =>
    (G.math_bits_RotateLeft32 (s10.2.2 0) (-2 : Int)).bind fun y26 =>
    (G.math_bits_RotateLeft32 (s10.2.2 0) (-13 : Int)).bind fun y27 =>
    (G.math_bits_RotateLeft32 (s10.2.2 0) (-22 : Int)).bind fun y28 =>
    (chk (0 ≤ (1 : Int) ∧ (1 : Int) < 8 ∧ (1 : Int) ≤ (8 : Int) ∧ (8 : Int) ≤ 8)).bind fun y29 =>
    (chk (0 ≤ (0 : Int) ∧ (0 : Int) < 8 ∧ (0 : Int) ≤ (7 : Int) ∧ (7 : Int) ≤ 8)).bind fun y30 =>
    some (.inl ((IntKind.i64.wrap (s10.1 + (1 : Int))), v12, (setArr (setArr (mvArr s10.2.2 (1 : Int).toNat (0 : Int).toNat (imin ((8 : Int) - (1 : Int)) ((7 : Int) - (0 : Int))).toNat) 4 (IntKind.u32.wrap (((mvArr s10.2.2 (1 : Int).toNat (0 : Int).toNat (imin ((8 : Int) - (1 : Int)) ((7 : Int) - (0 : Int))).toNat) 4) + (IntKind.u32.wrap ((IntKind.u32.wrap ((IntKind.u32.wrap ((IntKind.u32.wrap ((s10.2.2 7) + (bxor .u32 (bxor .u32 y22 y23) y24))) + (bxor .u32 (s10.2.2 6) (band .u32 (s10.2.2 4) (bxor .u32 (s10.2.2 5) (s10.2.2 6)))))) + (getArr y8 s10.1))) + (getArr v12 (band .i64 s10.1 (15 : Int)))))))) 0 (IntKind.u32.wrap ((IntKind.u32.wrap ((IntKind.u32.wrap ((IntKind.u32.wrap ((IntKind.u32.wrap ((s10.2.2 7) + (bxor .u32 (bxor .u32 y22 y23) y24))) + (bxor .u32 (s10.2.2 6) (band .u32 (s10.2.2 4) (bxor .u32 (s10.2.2 5) (s10.2.2 6)))))) + (getArr y8 s10.1))) + (getArr v12 (band .i64 s10.1 (15 : Int))))) + (IntKind.u32.wrap ((bxor .u32 (bxor .u32 y26 y27) y28) + (bor .u32 (band .u32 (s10.2.2 0) (s10.2.2 1)) (band .u32 (s10.2.2 2) (bor .u32 (s10.2.2 0) (s10.2.2 1)))))))))))
  else
    some (.inr s10.2.2)
noncomputable def G.sha_state_blockx_l3 (v9 : (Nat → Int)) (s31 : Int × (Nat → Int) × (List UInt8) × Int) : Option ((Int × (Nat → Int) × (List UInt8) × Int) ⊕ ((Nat → Int) × (List UInt8) × Int)) :=
  if s31.1 < (8 : Int) then
    (chk (0 ≤ s31.1 ∧ s31.1 < 8)).bind fun y32 =>
    (chk (0 ≤ s31.1 ∧ s31.1 < 8)).bind fun y33 =>
    (chk (0 ≤ s31.1 ∧ s31.1 < 8)).bind fun y34 =>
    some (.inl ((IntKind.i64.wrap (s31.1 + (1 : Int))), (setArr s31.2.1 s31.1 (IntKind.u32.wrap ((getArr s31.2.1 s31.1) + (getArr v9 s31.1)))), s31.2.2.1, s31.2.2.2))
  else
    some (.inr (s31.2.1, s31.2.2.1, s31.2.2.2))
noncomputable def G.sha_state_blockx (a0 : List UInt8) (a1 : Nat → Int) (a2 : List UInt8) (a3 : Int) : Option ((Nat → Int) × (List UInt8) × Int) :=
  (
    Iter (G.sha_state_blockx_l1 a0) ((0 : Int), (fun _ => 0))).bind fun v1 =>
  (G.sha_keys).bind fun y8 =>
  (
    Iter (G.sha_state_blockx_l2 y8) ((0 : Int), v1, a1)).bind fun v9 =>
  Iter (G.sha_state_blockx_l3 v9) ((0 : Int), a1, a2, a3)
noncomputable def G.sha_state_takex_l1 (s2 : (Nat → Int) × (List UInt8) × Int) : Option (((Nat → Int) × (List UInt8) × Int) ⊕ ((Nat → Int) × (List UInt8) × Int)) :=
  if (s2.2.1.length : Int) ≥ (64 : Int) then
    (slcTo s2.2.1 (64 : Int)).bind fun y3 =>
    (G.sha_state_blockx y3 s2.1 s2.2.1 s2.2.2).bind fun y4 =>
    (slcFrom y4.2.1 (64 : Int)).bind fun y5 =>
    some (.inl (y4.1, y5, y4.2.2))
  else
    some (.inr (s2.1, s2.2.1, s2.2.2))
noncomputable def G.sha_state_takex (a0 : List UInt8) (a1 : Nat → Int) (a2 : List UInt8) (a3 : Int) : Option ((Nat → Int) × (List UInt8) × Int) :=
  (app 1 a2 a0).bind fun y1 =>
  Iter G.sha_state_takex_l1 (a1, y1, (IntKind.i64.wrap (a3 + (a0.length : Int))))
noncomputable def G.sha_state_finish_l1 (a2 : Int) (s4 : (List UInt8) × Int) : Option (((List UInt8) × Int) ⊕ (List UInt8)) :=
  if s4.2 ≥ (0 : Int) then
    (chk (0 ≤ (IntKind.i64.wrap ((8 : Int) * s4.2)))).bind fun y5 =>
    (app 1 s4.1 [(u8 (ishr .u64 (IntKind.u64.wrap ((IntKind.u64.wrap a2) * (8 : Int))) (IntKind.i64.wrap ((8 : Int) * s4.2))))]).bind fun y6 =>
    some (.inl (y6, (IntKind.i64.wrap (s4.2 - (1 : Int)))))
  else
    some (.inr s4.1)
noncomputable def G.sha_state_finish_l2 (y7 : (Nat → Int) × (List UInt8) × Int) (s8 : Int × (Nat → UInt8)) : Option ((Int × (Nat → UInt8)) ⊕ ((Nat → UInt8) × (Nat → Int) × (List UInt8) × Int)) :=
  if s8.1 < (32 : Int) then
    (chk (0 ≤ (IntKind.i64.wrap (Int.tdiv s8.1 (4 : Int))) ∧ (IntKind.i64.wrap (Int.tdiv s8.1 (4 : Int))) < 8)).bind fun y9 =>
    (chk (0 ≤ (IntKind.i64.wrap ((24 : Int) - (IntKind.i64.wrap ((Int.tmod s8.1 (4 : Int)) * (8 : Int))))))).bind fun y10 =>
    (chk (0 ≤ s8.1 ∧ s8.1 < 32)).bind fun y11 =>
    some (.inl ((IntKind.i64.wrap (s8.1 + (1 : Int))), (setArr s8.2 s8.1 (u8 (ishr .u32 (getArr y7.1 (IntKind.i64.wrap (Int.tdiv s8.1 (4 : Int)))) (IntKind.i64.wrap ((24 : Int) - (IntKind.i64.wrap ((Int.tmod s8.1 (4 : Int)) * (8 : Int))))))))))
  else
    some (.inr (s8.2, y7.1, y7.2.1, y7.2.2))
noncomputable def G.sha_state_finish (a0 : Nat → Int) (a1 : List UInt8) (a2 : Int) : Option ((Nat → UInt8) × (Nat → Int) × (List UInt8) × Int) :=
  (chk (0 ≤ (Int.tmod (IntKind.i64.wrap ((119 : Int) - (a1.length : Int))) (64 : Int)) ∧ (Int.tmod (IntKind.i64.wrap ((119 : Int) - (a1.length : Int))) (64 : Int)) * 1 ≤ 140737488355328)).bind fun y1 =>
  (app 1 [(u8 128)] (List.replicate (Int.tmod (IntKind.i64.wrap ((119 : Int) - (a1.length : Int))) (64 : Int)).toNat (0 : UInt8))).bind fun y2 =>
  (
    Iter (G.sha_state_finish_l1 a2) (y2, (7 : Int))).bind fun v3 =>
  (G.sha_state_takex v3 a0 a1 a2).bind fun y7 =>
  Iter (G.sha_state_finish_l2 y7) ((0 : Int), (fun _ => 0))
noncomputable def G.sha_Hash_Sum (a0 : Nat → Int) (a1 : List UInt8) (a2 : Int) : Option (Nat → UInt8) :=
  (G.sha_state_copied a0 a1 a2).bind fun y1 =>
  (G.sha_state_finish y1.1 y1.2.1 y1.2.2).bind fun y2 =>
  some y2.1
noncomputable def G.sha_Of (a0 : List (List UInt8)) : Option (Nat → UInt8) :=
  (G.sha_New).bind fun y1 =>
  (G.sha_Hash_Write a0 y1.1 y1.2.1 y1.2.2).bind fun y2 =>
  (G.sha_Hash_Sum y2.2.1 y2.2.2.1 y2.2.2.2).bind fun y3 =>
  some y3
noncomputable def G.command_Clone (a0 : G.Command) : Option G.Command :=
  (G.slices_Clone_byte_byte a0.data).bind fun y1 =>
  some (⟨a0.kind, a0.to, a0.from_, a0.len, y1⟩ : G.Command)
noncomputable def G.delta_With_l1 (a1 : (List G.Command)) (s1 : Int × Int × Int × (Nat → UInt8) × (Nat → UInt8) × (List G.Command) × Int × Int × (Nat → UInt8) × (Nat → UInt8) × (List G.Command)) : Option ((Int × Int × Int × (Nat → UInt8) × (Nat → UInt8) × (List G.Command) × Int × Int × (Nat → UInt8) × (Nat → UInt8) × (List G.Command)) ⊕ G.Delta) :=
  if s1.1 < (a1.length : Int) then
    (idx a1 s1.1).bind fun x2 =>
    (G.command_Clone x2).bind fun y3 =>
    (app 56 s1.2.2.2.2.2.1 [y3]).bind fun y4 =>
    some (.inl ((IntKind.i64.wrap (s1.1 + (1 : Int))), s1.2.1, s1.2.2.1, s1.2.2.2.1, s1.2.2.2.2.1, y4, s1.2.2.2.2.2.2.1, s1.2.2.2.2.2.2.2.1, s1.2.2.2.2.2.2.2.2.1, s1.2.2.2.2.2.2.2.2.2.1, s1.2.2.2.2.2.2.2.2.2.2))
  else
    some (.inr (⟨s1.2.1, s1.2.2.1, s1.2.2.2.1, s1.2.2.2.2.1, s1.2.2.2.2.2.1⟩ : G.Delta))
noncomputable def G.delta_With (a0 : G.Delta) (a1 : List G.Command) : Option G.Delta :=
  Iter (G.delta_With_l1 a1) ((0 : Int), a0.oldLen, a0.newLen, a0.oldHash, a0.newHash, ([] : List G.Command), (0 : Int), (0 : Int), (fun _ => 0), (fun _ => 0), ([] : List G.Command))
noncomputable def G.patch_Describe (a0 : List UInt8) (a1 : List UInt8) (a2 : List G.Command) : Option G.Delta :=
  (G.sha_Of [a0]).bind fun y1 =>
  (G.sha_Of [a1]).bind fun y2 =>
  (G.delta_With (⟨(a0.length : Int), (a1.length : Int), y1, y2, ([] : List G.Command)⟩ : G.Delta) a2).bind fun y3 =>
  some y3
noncomputable def G.patch_Make_l1 (a1 : (List UInt8)) (y1 : Int × (List UInt8)) (s3 : Int × Int × Int × (Nat → UInt8) × (Nat → UInt8) × (List G.Command) × (List G.Command) × Int) : Option ((Int × Int × Int × (Nat → UInt8) × (Nat → UInt8) × (List G.Command) × (List G.Command) × Int) ⊕ (Int × Int × Int × (Nat → UInt8) × (Nat → UInt8) × (List G.Command) × (List G.Command) × Int)) :=
  if s3.1 < (a1.length : Int) then
    (slcFrom a1 s3.1).bind fun y4 =>
    (G.patch_matcher_1 y4 y1.1 y1.2).bind fun y5 =>
    if y5.1 < (0 : Int) then
      some (.inl ((IntKind.i64.wrap (s3.1 + (1 : Int))), s3.2.1, s3.2.2.1, s3.2.2.2.1, s3.2.2.2.2.1, s3.2.2.2.2.2.1, s3.2.2.2.2.2.2.1, s3.2.2.2.2.2.2.2))
    else
      (G.patch_Make_1x s3.1 s3.2.2.2.2.2.2.2 s3.2.2.2.2.2.2.1 a1).bind fun y6 =>
      (G.command_Copy s3.1 y5.1 y5.2).bind fun y7 =>
      (app 56 y6 [y7]).bind fun y8 =>
      some (.inl ((IntKind.i64.wrap (s3.1 + y5.2)), s3.2.1, s3.2.2.1, s3.2.2.2.1, s3.2.2.2.2.1, s3.2.2.2.2.2.1, y8, (IntKind.i64.wrap (s3.1 + y5.2))))
  else
    some (.inr (s3.1, s3.2.1, s3.2.2.1, s3.2.2.2.1, s3.2.2.2.2.1, s3.2.2.2.2.2.1, s3.2.2.2.2.2.2.1, s3.2.2.2.2.2.2.2))
noncomputable def G.patch_Make (a0 : List UInt8) (a1 : List UInt8) (a2 : Int) : Option G.Delta :=
  (G.patch_matcher a0 a2).bind fun y1 =>
  (
    Iter (G.patch_Make_l1 a1 y1) ((0 : Int), (0 : Int), (0 : Int), (fun _ => 0), (fun _ => 0), ([] : List G.Command), ([] : List G.Command), (0 : Int))).bind fun v2 =>
  (G.patch_Make_1x v2.1 v2.2.2.2.2.2.2.2 v2.2.2.2.2.2.2.1 a1).bind fun y9 =>
  (G.patch_Describe a0 a1 y9).bind fun y10 =>
  some y10
noncomputable def G.graftref04_Same (a0 : G.Command) (a1 : G.Command) : Option Bool :=
  if a0.kind = a1.kind then
    if a0.to = a1.to then
      if a0.from_ = a1.from_ then
        if a0.len = a1.len then
          some (decide (a0.data = a1.data))
        else
          some false
      else
        some false
    else
      some false
  else
    some false
noncomputable def G.graftref04_All_l1 (a0 : (List G.Command)) (a1 : (List G.Command)) (s1 : Int) : Option (Int ⊕ Bool) :=
  if s1 < (a0.length : Int) then
    (idx a0 s1).bind fun x2 =>
    (idx a1 s1).bind fun x3 =>
    (G.graftref04_Same x2 x3).bind fun y4 =>
    if y4 = false then
      some (.inr false)
    else
      some (.inl (IntKind.i64.wrap (s1 + (1 : Int))))
  else
    some (.inr true)
noncomputable def G.graftref04_All (a0 : List G.Command) (a1 : List G.Command) : Option Bool :=
  if (a0.length : Int) ≠ (a1.length : Int) then
    some false
  else
    Iter (G.graftref04_All_l1 a0 a1) (0 : Int)
noncomputable def G.extent_Valid (a0 : G.Extent) : Option Bool :=
  if (imin a0.off a0.len) ≥ (0 : Int) then
    if a0.off ≤ (4611686018427387903 : Int) then
      some (decide (a0.len ≤ (IntKind.i64.wrap ((4611686018427387903 : Int) - a0.off))))
    else
      some false
  else
    some false
noncomputable def G.delta_inRange (a0 : Int) : Option Bool :=
  (G.extent_Valid (⟨(0 : Int), a0⟩ : G.Extent)).bind fun y1 =>
  some y1
noncomputable def G.command_of (a0 : G.Command) : Option G.command_target :=
  (
    if a0.kind = (1 : Int) then
      some a0.len
    else
      some (a0.data.length : Int)).bind fun v1 =>
  some (⟨(⟨a0.to, v1⟩ : G.Extent)⟩ : G.command_target)
noncomputable def G.command_Check (a0 : G.Command) : Option Int :=
  (
    if a0.kind ≠ (1 : Int) then
      some (a0.kind != (2 : Int))
    else
      some false).bind fun v1 =>
  if v1 = true then
    some (11 : Int)
  else
    (G.command_of a0).bind fun y2 =>
    if y2.extent.len = (0 : Int) then
      some (7 : Int)
    else
      (G.extent_Valid y2.extent).bind fun y3 =>
      (
        if a0.kind = (1 : Int) then
          if y3 = true then
            if (a0.data.length : Int) = (0 : Int) then
              (G.extent_Valid (⟨a0.from_, a0.len⟩ : G.Extent)).bind fun y5 =>
              some y5
            else
              some false
          else
            some false
        else
          if y3 = true then
            if a0.from_ = (0 : Int) then
              some (a0.len == (0 : Int))
            else
              some false
          else
            some false).bind fun v4 =>
      if v4 = false then
        some (2 : Int)
      else
        some (0 : Int)
noncomputable def G.command_Source (a0 : G.Command) : Option (G.Extent × Bool) :=
  if a0.kind ≠ (1 : Int) then
    some ((⟨(0 : Int), (0 : Int)⟩ : G.Extent), false)
  else
    some ((⟨a0.from_, a0.len⟩ : G.Extent), true)
noncomputable def G.extent_End (a0 : G.Extent) : Option Int :=
  some (IntKind.i64.wrap (a0.off + a0.len))
noncomputable def G.command_Target (a0 : G.Command) : Option G.Extent :=
  (G.command_of a0).bind fun y1 =>
  some y1.extent
noncomputable def G.delta_single (a0 : G.Delta) (a1 : G.Command) : Option Int :=
  (G.command_Check a1).bind fun y1 =>
  if y1 ≠ (0 : Int) then
    some y1
  else
    (G.command_Source a1).bind fun y2 =>
    (
      if y2.2 = true then
        (G.extent_End y2.1).bind fun y4 =>
        some (decide (y4 > a0.oldLen))
      else
        some false).bind fun v3 =>
    if v3 = true then
      some (5 : Int)
    else
      (G.command_Target a1).bind fun y5 =>
      (G.extent_End y5).bind fun y6 =>
      if y6 > a0.newLen then
        some (6 : Int)
      else
        some (0 : Int)
noncomputable def G.cmp_isNaN_int (a0 : Int) : Option Bool :=
  some (a0 != a0)
noncomputable def G.cmp_Compare_int (a0 : Int) (a1 : Int) : Option Int :=
  (G.cmp_isNaN_int a0).bind fun y1 =>
  (G.cmp_isNaN_int a1).bind fun y2 =>
  if y1 = true then
    if y2 = true then
      some (0 : Int)
    else
      some (-1 : Int)
  else
    if y2 = true then
      some (1 : Int)
    else
      if a0 < a1 then
        some (-1 : Int)
      else
        if a0 > a1 then
          some (1 : Int)
        else
          some (0 : Int)
noncomputable def G.delta_sorted_1 (a0 : Int) (a1 : Int) (a2 : List G.Command) : Option Int :=
  (idx a2 a0).bind fun x1 =>
  (idx a2 a1).bind fun x2 =>
  (G.cmp_Compare_int x1.to x2.to).bind fun y3 =>
  some y3
noncomputable def G.slices_insertionSortCmpFunc_int_v0_delta_sorted_1_l2 (a1 : Int) (a3 : (List G.Command)) (s1 : Int × (List Int)) (s2 : Int × (List Int)) : Option ((Int × (List Int)) ⊕ ((Int × (List Int)) ⊕ (List Int))) :=
  (
    if s2.1 > a1 then
      (idx s2.2 s2.1).bind fun x4 =>
      (idx s2.2 (IntKind.i64.wrap (s2.1 - (1 : Int)))).bind fun x5 =>
      (G.delta_sorted_1 x4 x5 a3).bind fun y6 =>
      some (decide (y6 < (0 : Int)))
    else
      some false).bind fun v3 =>
  if v3 = true then
    (idx s2.2 (IntKind.i64.wrap (s2.1 - (1 : Int)))).bind fun x7 =>
    (idx s2.2 s2.1).bind fun x8 =>
    (idx s2.2 s2.1).bind fun x9 =>
    (idx (s2.2.set s2.1.toNat x7) (IntKind.i64.wrap (s2.1 - (1 : Int)))).bind fun x10 =>
    some (.inl ((IntKind.i64.wrap (s2.1 - (1 : Int))), ((s2.2.set s2.1.toNat x7).set (IntKind.i64.wrap (s2.1 - (1 : Int))).toNat x8)))
  else
    some (.inr (.inl ((IntKind.i64.wrap (s1.1 + (1 : Int))), s2.2)))
noncomputable def G.slices_insertionSortCmpFunc_int_v0_delta_sorted_1_l1 (a1 : Int) (a2 : Int) (a3 : (List G.Command)) (s1 : Int × (List Int)) : Option ((Int × (List Int)) ⊕ (List Int)) :=
  if s1.1 < a2 then
    Iter (G.slices_insertionSortCmpFunc_int_v0_delta_sorted_1_l2 a1 a3 s1) (s1.1, s1.2)
  else
    some (.inr s1.2)
noncomputable def G.slices_insertionSortCmpFunc_int_v0_delta_sorted_1 (a0 : List Int) (a1 : Int) (a2 : Int) (a3 : List G.Command) : Option (List Int) :=
  Iter (G.slices_insertionSortCmpFunc_int_v0_delta_sorted_1_l1 a1 a2 a3) ((IntKind.i64.wrap (a1 + (1 : Int))), a0)
noncomputable def G.slices_swapRangeCmpFunc_int_v0_delta_sorted_1_l1 (a1 : Int) (a2 : Int) (a3 : Int) (s1 : Int × (List Int)) : Option ((Int × (List Int)) ⊕ (List Int)) :=
  if s1.1 < a3 then
    (idx s1.2 (IntKind.i64.wrap (a2 + s1.1))).bind fun x2 =>
    (idx s1.2 (IntKind.i64.wrap (a1 + s1.1))).bind fun x3 =>
    (idx s1.2 (IntKind.i64.wrap (a1 + s1.1))).bind fun x4 =>
    (idx (s1.2.set (IntKind.i64.wrap (a1 + s1.1)).toNat x2) (IntKind.i64.wrap (a2 + s1.1))).bind fun x5 =>
    some (.inl ((IntKind.i64.wrap (s1.1 + (1 : Int))), ((s1.2.set (IntKind.i64.wrap (a1 + s1.1)).toNat x2).set (IntKind.i64.wrap (a2 + s1.1)).toNat x3)))
  else
    some (.inr s1.2)
noncomputable def G.slices_swapRangeCmpFunc_int_v0_delta_sorted_1 (a0 : List Int) (a1 : Int) (a2 : Int) (a3 : Int) (a4 : List G.Command) : Option (List Int) :=
  Iter (G.slices_swapRangeCmpFunc_int_v0_delta_sorted_1_l1 a1 a2 a3) ((0 : Int), a0)
noncomputable def G.slices_rotateCmpFunc_int_v0_delta_sorted_1_l1 (a2 : Int) (a4 : (List G.Command)) (s2 : Int × Int × (List Int)) : Option ((Int × Int × (List Int)) ⊕ (Int × (List Int))) :=
  if s2.1 ≠ s2.2.1 then
    if s2.1 > s2.2.1 then
      (G.slices_swapRangeCmpFunc_int_v0_delta_sorted_1 s2.2.2 (IntKind.i64.wrap (a2 - s2.1)) a2 s2.2.1 a4).bind fun y3 =>
      some (.inl ((IntKind.i64.wrap (s2.1 - s2.2.1)), s2.2.1, y3))
    else
      (G.slices_swapRangeCmpFunc_int_v0_delta_sorted_1 s2.2.2 (IntKind.i64.wrap (a2 - s2.1)) (IntKind.i64.wrap ((IntKind.i64.wrap (a2 + s2.2.1)) - s2.1)) s2.1 a4).bind fun y4 =>
      some (.inl (s2.1, (IntKind.i64.wrap (s2.2.1 - s2.1)), y4))
  else
    some (.inr (s2.1, s2.2.2))
noncomputable def G.slices_rotateCmpFunc_int_v0_delta_sorted_1 (a0 : List Int) (a1 : Int) (a2 : Int) (a3 : Int) (a4 : List G.Command) : Option (List Int) :=
  (
    Iter (G.slices_rotateCmpFunc_int_v0_delta_sorted_1_l1 a2 a4) ((IntKind.i64.wrap (a2 - a1)), (IntKind.i64.wrap (a3 - a2)), a0)).bind fun v1 =>
  (G.slices_swapRangeCmpFunc_int_v0_delta_sorted_1 v1.2 (IntKind.i64.wrap (a2 - v1.1)) a2 v1.1 a4).bind fun y5 =>
  some y5
noncomputable def G.slices_symMergeCmpFunc_int_v0_delta_sorted_1_l1 (a0 : (List Int)) (a1 : Int) (a4 : (List G.Command)) (s4 : Int × Int) : Option ((Int × Int) ⊕ Int) :=
  if s4.1 < s4.2 then
    (idx a0 (IntKind.i64.wrap (ishr .u64 (IntKind.u64.wrap (IntKind.i64.wrap (s4.1 + s4.2))) (1 : Int)))).bind fun x5 =>
    (idx a0 a1).bind fun x6 =>
    (G.delta_sorted_1 x5 x6 a4).bind fun y7 =>
    if y7 < (0 : Int) then
      some (.inl ((IntKind.i64.wrap ((IntKind.i64.wrap (ishr .u64 (IntKind.u64.wrap (IntKind.i64.wrap (s4.1 + s4.2))) (1 : Int))) + (1 : Int))), s4.2))
    else
      some (.inl (s4.1, (IntKind.i64.wrap (ishr .u64 (IntKind.u64.wrap (IntKind.i64.wrap (s4.1 + s4.2))) (1 : Int)))))
  else
    some (.inr s4.1)
noncomputable def G.slices_symMergeCmpFunc_int_v0_delta_sorted_1_l2 (v3 : Int) (s8 : Int × (List Int)) : Option ((Int × (List Int)) ⊕ (Unit ⊕ (List Int))) :=
  if s8.1 < (IntKind.i64.wrap (v3 - (1 : Int))) then
    (idx s8.2 (IntKind.i64.wrap (s8.1 + (1 : Int)))).bind fun x9 =>
    (idx s8.2 s8.1).bind fun x10 =>
    (idx s8.2 s8.1).bind fun x11 =>
    (idx (s8.2.set s8.1.toNat x9) (IntKind.i64.wrap (s8.1 + (1 : Int)))).bind fun x12 =>
    some (.inl ((IntKind.i64.wrap (s8.1 + (1 : Int))), ((s8.2.set s8.1.toNat x9).set (IntKind.i64.wrap (s8.1 + (1 : Int))).toNat x10)))
  else
    some (.inr (.inr s8.2))
noncomputable def G.slices_symMergeCmpFunc_int_v0_delta_sorted_1_l3 (a0 : (List Int)) (a2 : Int) (a4 : (List G.Command)) (s16 : Int × Int) : Option ((Int × Int) ⊕ Int) :=
  if s16.1 < s16.2 then
    (idx a0 a2).bind fun x17 =>
    (idx a0 (IntKind.i64.wrap (ishr .u64 (IntKind.u64.wrap (IntKind.i64.wrap (s16.1 + s16.2))) (1 : Int)))).bind fun x18 =>
    (G.delta_sorted_1 x17 x18 a4).bind fun y19 =>
    if (decide (y19 < (0 : Int))) = false then
      some (.inl ((IntKind.i64.wrap ((IntKind.i64.wrap (ishr .u64 (IntKind.u64.wrap (IntKind.i64.wrap (s16.1 + s16.2))) (1 : Int))) + (1 : Int))), s16.2))
    else
      some (.inl (s16.1, (IntKind.i64.wrap (ishr .u64 (IntKind.u64.wrap (IntKind.i64.wrap (s16.1 + s16.2))) (1 : Int)))))
  else
    some (.inr s16.1)
noncomputable def G.slices_symMergeCmpFunc_int_v0_delta_sorted_1_l4 (v15 : Int) (s20 : Int × (List Int)) : Option ((Int × (List Int)) ⊕ (Unit ⊕ (List Int))) :=
  if s20.1 > v15 then
    (idx s20.2 (IntKind.i64.wrap (s20.1 - (1 : Int)))).bind fun x21 =>
    (idx s20.2 s20.1).bind fun x22 =>
    (idx s20.2 s20.1).bind fun x23 =>
    (idx (s20.2.set s20.1.toNat x21) (IntKind.i64.wrap (s20.1 - (1 : Int)))).bind fun x24 =>
    some (.inl ((IntKind.i64.wrap (s20.1 - (1 : Int))), ((s20.2.set s20.1.toNat x21).set (IntKind.i64.wrap (s20.1 - (1 : Int))).toNat x22)))
  else
    some (.inr (.inr s20.2))
noncomputable def G.slices_symMergeCmpFunc_int_v0_delta_sorted_1_l5 (a0 : (List Int)) (a1 : Int) (a2 : Int) (a3 : Int) (a4 : (List G.Command)) (s27 : Int × Int) : Option ((Int × Int) ⊕ Int) :=
  if s27.1 < s27.2 then
    (idx a0 (IntKind.i64.wrap ((IntKind.i64.wrap ((IntKind.i64.wrap ((IntKind.i64.wrap (ishr .u64 (IntKind.u64.wrap (IntKind.i64.wrap (a1 + a3))) (1 : Int))) + a2)) - (1 : Int))) - (IntKind.i64.wrap (ishr .u64 (IntKind.u64.wrap (IntKind.i64.wrap (s27.1 + s27.2))) (1 : Int)))))).bind fun x28 =>
    (idx a0 (IntKind.i64.wrap (ishr .u64 (IntKind.u64.wrap (IntKind.i64.wrap (s27.1 + s27.2))) (1 : Int)))).bind fun x29 =>
    (G.delta_sorted_1 x28 x29 a4).bind fun y30 =>
    if (decide (y30 < (0 : Int))) = false then
      some (.inl ((IntKind.i64.wrap ((IntKind.i64.wrap (ishr .u64 (IntKind.u64.wrap (IntKind.i64.wrap (s27.1 + s27.2))) (1 : Int))) + (1 : Int))), s27.2))
    else
      some (.inl (s27.1, (IntKind.i64.wrap (ishr .u64 (IntKind.u64.wrap (IntKind.i64.wrap (s27.1 + s27.2))) (1 : Int)))))
  else
    some (.inr s27.1)
noncomputable def G.slices_symMergeCmpFunc_int_v0_delta_sorted_1_b (fx : ((List Int) × Int × Int × Int × (List G.Command)) → Option (List Int)) (a0 : List Int) (a1 : Int) (a2 : Int) (a3 : Int) (a4 : List G.Command) : Option (List Int) :=
  ((
    if (IntKind.i64.wrap (a2 - a1)) = (1 : Int) then
      (
        Iter (G.slices_symMergeCmpFunc_int_v0_delta_sorted_1_l1 a0 a1 a4) (a2, a3)).bind fun v3 =>
      Iter (G.slices_symMergeCmpFunc_int_v0_delta_sorted_1_l2 v3) (a1, a0)
    else
      some (.inl ())) : Option (Unit ⊕ (List Int))).bind fun v1 => joinK v1 fun u2 =>
  ((
    if (IntKind.i64.wrap (a3 - a2)) = (1 : Int) then
      (
        Iter (G.slices_symMergeCmpFunc_int_v0_delta_sorted_1_l3 a0 a2 a4) (a1, a2)).bind fun v15 =>
      Iter (G.slices_symMergeCmpFunc_int_v0_delta_sorted_1_l4 v15) (a2, a0)
    else
      some (.inl ())) : Option (Unit ⊕ (List Int))).bind fun v13 => joinK v13 fun u14 =>
  (
    if a2 > (IntKind.i64.wrap (ishr .u64 (IntKind.u64.wrap (IntKind.i64.wrap (a1 + a3))) (1 : Int))) then
      some ((IntKind.i64.wrap ((IntKind.i64.wrap ((IntKind.i64.wrap (ishr .u64 (IntKind.u64.wrap (IntKind.i64.wrap (a1 + a3))) (1 : Int))) + a2)) - a3)), (IntKind.i64.wrap (ishr .u64 (IntKind.u64.wrap (IntKind.i64.wrap (a1 + a3))) (1 : Int))))
    else
      some (a1, a2)).bind fun v25 =>
  (
    Iter (G.slices_symMergeCmpFunc_int_v0_delta_sorted_1_l5 a0 a1 a2 a3 a4) (v25.1, v25.2)).bind fun v26 =>
  (
    if v26 < a2 then
      some (decide (a2 < (IntKind.i64.wrap ((IntKind.i64.wrap ((IntKind.i64.wrap (ishr .u64 (IntKind.u64.wrap (IntKind.i64.wrap (a1 + a3))) (1 : Int))) + a2)) - v26))))
    else
      some false).bind fun v31 =>
  (
    if v31 = true then
      (G.slices_rotateCmpFunc_int_v0_delta_sorted_1 a0 v26 a2 (IntKind.i64.wrap ((IntKind.i64.wrap ((IntKind.i64.wrap (ishr .u64 (IntKind.u64.wrap (IntKind.i64.wrap (a1 + a3))) (1 : Int))) + a2)) - v26)) a4).bind fun y33 =>
      some y33
    else
      some a0).bind fun v32 =>
  (
    if a1 < v26 then
      some (decide (v26 < (IntKind.i64.wrap (ishr .u64 (IntKind.u64.wrap (IntKind.i64.wrap (a1 + a3))) (1 : Int)))))
    else
      some false).bind fun v34 =>
  (
    if v34 = true then
      (fx (v32, a1, v26, (IntKind.i64.wrap (ishr .u64 (IntKind.u64.wrap (IntKind.i64.wrap (a1 + a3))) (1 : Int))), a4)).bind fun y36 =>
      some y36
    else
      some v32).bind fun v35 =>
  (
    if (IntKind.i64.wrap (ishr .u64 (IntKind.u64.wrap (IntKind.i64.wrap (a1 + a3))) (1 : Int))) < (IntKind.i64.wrap ((IntKind.i64.wrap ((IntKind.i64.wrap (ishr .u64 (IntKind.u64.wrap (IntKind.i64.wrap (a1 + a3))) (1 : Int))) + a2)) - v26)) then
      some (decide ((IntKind.i64.wrap ((IntKind.i64.wrap ((IntKind.i64.wrap (ishr .u64 (IntKind.u64.wrap (IntKind.i64.wrap (a1 + a3))) (1 : Int))) + a2)) - v26)) < a3))
    else
      some false).bind fun v37 =>
  if v37 = true then
    (fx (v35, (IntKind.i64.wrap (ishr .u64 (IntKind.u64.wrap (IntKind.i64.wrap (a1 + a3))) (1 : Int))), (IntKind.i64.wrap ((IntKind.i64.wrap ((IntKind.i64.wrap (ishr .u64 (IntKind.u64.wrap (IntKind.i64.wrap (a1 + a3))) (1 : Int))) + a2)) - v26)), a3, a4)).bind fun y38 =>
    some y38
  else
    some v35
noncomputable def G.slices_symMergeCmpFunc_int_v0_delta_sorted_1_F (fx : ((List Int) × Int × Int × Int × (List G.Command)) → Option (List Int)) (x : (List Int) × Int × Int × Int × (List G.Command)) : Option (List Int) := G.slices_symMergeCmpFunc_int_v0_delta_sorted_1_b fx x.1 x.2.1 x.2.2.1 x.2.2.2.1 x.2.2.2.2
noncomputable def G.slices_symMergeCmpFunc_int_v0_delta_sorted_1 (a0 : List Int) (a1 : Int) (a2 : Int) (a3 : Int) (a4 : List G.Command) : Option (List Int) := Fix G.slices_symMergeCmpFunc_int_v0_delta_sorted_1_F (a0, a1, a2, a3, a4)
noncomputable def G.slices_stableCmpFunc_int_v0_delta_sorted_1_l1 (a1 : Int) (a2 : (List G.Command)) (s2 : Int × Int × (List Int)) : Option ((Int × Int × (List Int)) ⊕ (Int × (List Int))) :=
  if s2.2.1 ≤ a1 then
    (G.slices_insertionSortCmpFunc_int_v0_delta_sorted_1 s2.2.2 s2.1 s2.2.1 a2).bind fun y3 =>
    some (.inl (s2.2.1, (IntKind.i64.wrap (s2.2.1 + (20 : Int))), y3))
  else
    some (.inr (s2.1, s2.2.2))
noncomputable def G.slices_stableCmpFunc_int_v0_delta_sorted_1_l3 (a1 : Int) (a2 : (List G.Command)) (s5 : Int × (List Int)) (s7 : Int × Int × (List Int)) : Option ((Int × Int × (List Int)) ⊕ (Int × (List Int))) :=
  if s7.2.1 ≤ a1 then
    (G.slices_symMergeCmpFunc_int_v0_delta_sorted_1 s7.2.2 s7.1 (IntKind.i64.wrap (s7.1 + s5.1)) s7.2.1 a2).bind fun y8 =>
    some (.inl (s7.2.1, (IntKind.i64.wrap (s7.2.1 + (IntKind.i64.wrap ((2 : Int) * s5.1)))), y8))
  else
    some (.inr (s7.1, s7.2.2))
noncomputable def G.slices_stableCmpFunc_int_v0_delta_sorted_1_l2 (a1 : Int) (a2 : (List G.Command)) (s5 : Int × (List Int)) : Option ((Int × (List Int)) ⊕ (List Int)) :=
  if s5.1 < a1 then
    (
      Iter (G.slices_stableCmpFunc_int_v0_delta_sorted_1_l3 a1 a2 s5) ((0 : Int), (IntKind.i64.wrap ((2 : Int) * s5.1)), s5.2)).bind fun v6 =>
    if (IntKind.i64.wrap (v6.1 + s5.1)) < a1 then
      (G.slices_symMergeCmpFunc_int_v0_delta_sorted_1 v6.2 v6.1 (IntKind.i64.wrap (v6.1 + s5.1)) a1 a2).bind fun y9 =>
      some (.inl ((IntKind.i64.wrap (s5.1 * (2 : Int))), y9))
    else
      some (.inl ((IntKind.i64.wrap (s5.1 * (2 : Int))), v6.2))
  else
    some (.inr s5.2)
noncomputable def G.slices_stableCmpFunc_int_v0_delta_sorted_1 (a0 : List Int) (a1 : Int) (a2 : List G.Command) : Option (List Int) :=
  (
    Iter (G.slices_stableCmpFunc_int_v0_delta_sorted_1_l1 a1 a2) ((0 : Int), (20 : Int), a0)).bind fun v1 =>
  (G.slices_insertionSortCmpFunc_int_v0_delta_sorted_1 v1.2 v1.1 a1 a2).bind fun y4 =>
  Iter (G.slices_stableCmpFunc_int_v0_delta_sorted_1_l2 a1 a2) ((20 : Int), y4)
noncomputable def G.slices_SortStableFunc_int_int_v0_delta_sorted_1 (a0 : List Int) (a1 : List G.Command) : Option (List Int) :=
  (G.slices_stableCmpFunc_int_v0_delta_sorted_1 a0 (a0.length : Int) a1).bind fun y1 =>
  some y1
noncomputable def G.delta_sorted_l1 (a0 : (List G.Command)) (s3 : Int × (List Int)) : Option ((Int × (List Int)) ⊕ (List Int)) :=
  if s3.1 < ((List.replicate (a0.length : Int).toNat (0 : Int)).length : Int) then
    (idx s3.2 s3.1).bind fun x4 =>
    some (.inl ((IntKind.i64.wrap (s3.1 + (1 : Int))), (s3.2.set s3.1.toNat s3.1)))
  else
    some (.inr s3.2)
noncomputable def G.delta_sorted (a0 : List G.Command) : Option ((List G.Command) × (List Int)) :=
  (chk (0 ≤ (a0.length : Int) ∧ (a0.length : Int) * 8 ≤ 140737488355328)).bind fun y1 =>
  (
    Iter (G.delta_sorted_l1 a0) ((0 : Int), (List.replicate (a0.length : Int).toNat (0 : Int)))).bind fun v2 =>
  (G.slices_SortStableFunc_int_int_v0_delta_sorted_1 v2 a0).bind fun y5 =>
  some (a0, y5)
noncomputable def G.delta_tiles_b1 (a0 : Int) (a1 : G.Extent) (a2 : Int) (a3 : Bool) (a4 : Int) (a5 : Int) : Option ((Int × Bool) ⊕ (Int × Int)) :=
  if a1.off < a4 then
    some (.inl ((0 : Int), true))
  else
    (
      if a1.off > a4 then
        some (decide (a5 < (0 : Int)))
      else
        some false).bind fun v1 =>
    (
      if v1 = true then
        some a4
      else
        some a5).bind fun v2 =>
    (G.extent_End a1).bind fun y3 =>
    some (.inr (y3, v2))
noncomputable def G.delta_sorted_2_delta_tiles_l1 (a0 : (List Int)) (a1 : (List G.Command)) (s1 : Int × Int × Bool × Int × Int) : Option ((Int × Int × Bool × Int × Int) ⊕ ((Int × Bool × Int × Int) ⊕ (Int × Bool × Int × Int))) :=
  if s1.1 < (a0.length : Int) then
    (idx a0 s1.1).bind fun x2 =>
    (idx a1 x2).bind fun x3 =>
    (G.command_Target x3).bind fun y4 =>
    (G.delta_tiles_b1 x2 y4 s1.2.1 s1.2.2.1 s1.2.2.2.1 s1.2.2.2.2).bind fun y5 =>
    match y5 with
    | .inl y6 =>
      some (.inr (.inl (y6.1, y6.2, s1.2.2.2.1, s1.2.2.2.2)))
    | .inr y7 =>
      some (.inl ((IntKind.i64.wrap (s1.1 + (1 : Int))), s1.2.1, s1.2.2.1, y7.1, y7.2))
  else
    some (.inr (.inr (s1.2.1, s1.2.2.1, s1.2.2.2.1, s1.2.2.2.2)))
noncomputable def G.delta_sorted_2_delta_tiles (a0 : List Int) (a1 : List G.Command) (a2 : Int) (a3 : Bool) (a4 : Int) (a5 : Int) : Option ((Int × Bool × Int × Int) ⊕ (Int × Bool × Int × Int)) :=
  Iter (G.delta_sorted_2_delta_tiles_l1 a0 a1) ((0 : Int), a2, a3, a4, a5)
noncomputable def G.delta_tiles (a0 : List G.Command) : Option (Int × Bool) :=
  (G.delta_sorted a0).bind fun y1 =>
  (G.delta_sorted_2_delta_tiles y1.2 y1.1 (0 : Int) false (0 : Int) (-1 : Int)).bind fun y2 =>
  match y2 with
  | .inl y3 =>
    some (y3.1, y3.2.1)
  | .inr y4 =>
    if y4.2.2.2 ≥ (0 : Int) then
      some (y4.2.2.2, false)
    else
      some (y4.2.2.1, false)
noncomputable def G.extent_between (a0 : Int) (a1 : Int) (a2 : Int) : Option (G.Extent × Bool) :=
  if (IntKind.i64.wrap (a1 - a0)) < a2 then
    some ((⟨(0 : Int), (0 : Int)⟩ : G.Extent), false)
  else
    some ((⟨a0, (IntKind.i64.wrap (a1 - a0))⟩ : G.Extent), true)
noncomputable def G.extent_Overlap (a0 : G.Extent) (a1 : G.Extent) : Option (G.Extent × Bool) :=
  (G.extent_End a0).bind fun y1 =>
  (G.extent_End a1).bind fun y2 =>
  (G.extent_between (imax a0.off a1.off) (imin y1 y2) (1 : Int)).bind fun y3 =>
  some (y3.1, y3.2)
noncomputable def G.delta_overlap_l2 (a0 : (List G.Command)) (s1 : Int) (y2 : List G.Command) (s3 : Int) : Option (Int ⊕ (Int ⊕ Int)) :=
  if s3 < (y2.length : Int) then
    (idx y2 s3).bind fun x4 =>
    (idx a0 s1).bind fun x5 =>
    (G.command_Target x5).bind fun y6 =>
    (G.command_Target x4).bind fun y7 =>
    (G.extent_Overlap y6 y7).bind fun y8 =>
    if y8.2 = true then
      some (.inr (.inr s1))
    else
      some (.inl (IntKind.i64.wrap (s3 + (1 : Int))))
  else
    some (.inr (.inl (IntKind.i64.wrap (s1 + (1 : Int)))))
noncomputable def G.delta_overlap_l1 (a0 : (List G.Command)) (s1 : Int) : Option (Int ⊕ Int) :=
  if s1 < (a0.length : Int) then
    (slcTo a0 s1).bind fun y2 =>
    Iter (G.delta_overlap_l2 a0 s1 y2) (0 : Int)
  else
    some (.inr (-1 : Int))
noncomputable def G.delta_overlap (a0 : List G.Command) : Option Int :=
  Iter (G.delta_overlap_l1 a0) (0 : Int)
noncomputable def G.delta_Check_l1 (a0 : G.Delta) (s6 : Int) : Option (Int ⊕ (Unit ⊕ G.Fault)) :=
  if s6 < (a0.commands.length : Int) then
    (idx a0.commands s6).bind fun x7 =>
    (G.delta_single a0 x7).bind fun y8 =>
    if y8 ≠ (0 : Int) then
      some (.inr (.inr (⟨y8, s6⟩ : G.Fault)))
    else
      some (.inl (IntKind.i64.wrap (s6 + (1 : Int))))
  else
    some (.inr (.inl ()))
noncomputable def G.delta_Check (a0 : G.Delta) : Option G.Fault :=
  (
    (G.delta_inRange a0.oldLen).bind fun y2 =>
    if y2 = false then
      some true
    else
      (G.delta_inRange a0.newLen).bind fun y3 =>
      some (!y3)).bind fun v1 =>
  if v1 = true then
    some (⟨(2 : Int), (-1 : Int)⟩ : G.Fault)
  else
    ((
      Iter (G.delta_Check_l1 a0) (0 : Int)) : Option (Unit ⊕ G.Fault)).bind fun v4 => joinK v4 fun u5 =>
    (G.delta_tiles a0.commands).bind fun y9 =>
    if y9.2 = true then
      (G.delta_overlap a0.commands).bind fun y10 =>
      some (⟨(4 : Int), y10⟩ : G.Fault)
    else
      if y9.1 < a0.newLen then
        some (⟨(3 : Int), y9.1⟩ : G.Fault)
      else
        some (⟨(0 : Int), (0 : Int)⟩ : G.Fault)
noncomputable def G.delta_Valid (a0 : G.Delta) : Option Bool :=
  (G.delta_Check a0).bind fun y1 =>
  some (decide (y1.code = (0 : Int) ∧ y1.at_ = (0 : Int)))
noncomputable def G.patch_fits (a0 : List UInt8) (a1 : G.Delta) : Option Bool :=
  (G.delta_Valid a1).bind fun y1 =>
  if y1 = true then
    some (a1.oldLen == (a0.length : Int))
  else
    some false
noncomputable def G.patch_bytesOf (a0 : List UInt8) (a1 : G.Command) : Option (List UInt8) :=
  (G.command_Source a1).bind fun y1 =>
  if y1.2 = true then
    (slcMid a0 y1.1.off (IntKind.i64.wrap (y1.1.off + y1.1.len))).bind fun y2 =>
    some y2
  else
    some a1.data
noncomputable def G.patch_Apply_l1 (a0 : (List UInt8)) (a1 : G.Delta) (s3 : Int × (List UInt8)) : Option ((Int × (List UInt8)) ⊕ (List UInt8)) :=
  if s3.1 < (a1.commands.length : Int) then
    (idx a1.commands s3.1).bind fun x4 =>
    (chk (0 ≤ x4.to ∧ x4.to ≤ (s3.2.length : Int))).bind fun y5 =>
    (G.patch_bytesOf a0 x4).bind fun y6 =>
    some (.inl ((IntKind.i64.wrap (s3.1 + (1 : Int))), (cpy s3.2 x4.to.toNat (y6.take ((s3.2.length : Int) - x4.to).toNat))))
  else
    some (.inr s3.2)
noncomputable def G.patch_Apply (a0 : List UInt8) (a1 : G.Delta) : Option (List UInt8) :=
  (G.patch_fits a0 a1).bind fun y1 =>
  if y1 = false then
    some ([] : List UInt8)
  else
    (chk (0 ≤ a1.newLen ∧ a1.newLen * 1 ≤ 140737488355328)).bind fun y2 =>
    Iter (G.patch_Apply_l1 a0 a1) ((0 : Int), (List.replicate a1.newLen.toNat (0 : UInt8)))
noncomputable def G.graftlaw08_alive : Option Bool :=
  (G.patch_Make [(u8 97), (u8 98), (u8 99), (u8 100), (u8 101), (u8 102)] [(u8 120), (u8 99), (u8 100), (u8 101), (u8 102), (u8 97), (u8 98)] (2 : Int)).bind fun y1 =>
  (G.graftref04_All y1.commands [(⟨(2 : Int), (0 : Int), (0 : Int), (0 : Int), [(u8 120)]⟩ : G.Command), (⟨(1 : Int), (1 : Int), (2 : Int), (4 : Int), ([] : List UInt8)⟩ : G.Command), (⟨(1 : Int), (5 : Int), (0 : Int), (2 : Int), ([] : List UInt8)⟩ : G.Command)]).bind fun y2 =>
  if y2 = true then
    if y1.oldLen = (6 : Int) then
      if y1.newLen = (7 : Int) then
        (G.patch_Apply [(u8 97), (u8 98), (u8 99), (u8 100), (u8 101), (u8 102)] y1).bind fun y3 =>
        some (decide (y3 = ([120, 99, 100, 101, 102, 97, 98] : List UInt8)))
      else
        some false
    else
      some false
  else
    some false
noncomputable def G.graftref02_primes_l2 (s1 : (List Int) × Int) (s3 : Bool × Int) : Option ((Bool × Int) ⊕ Bool) :=
  if s3.2 < (s1.1.length : Int) then
    (idx s1.1 s3.2).bind fun x4 =>
    (chk (x4 ≠ 0)).bind fun y5 =>
    if (Int.tmod s1.2 x4) = (0 : Int) then
      some (.inl (false, (IntKind.i64.wrap (s3.2 + (1 : Int)))))
    else
      some (.inl (s3.1, (IntKind.i64.wrap (s3.2 + (1 : Int)))))
  else
    some (.inr s3.1)
noncomputable def G.graftref02_primes_l1 (a0 : Int) (s1 : (List Int) × Int) : Option (((List Int) × Int) ⊕ (List Int)) :=
  if (s1.1.length : Int) < a0 then
    (
      Iter (G.graftref02_primes_l2 s1) (true, (0 : Int))).bind fun v2 =>
    if v2 = true then
      (app 8 s1.1 [s1.2]).bind fun y6 =>
      some (.inl (y6, (IntKind.u64.wrap (s1.2 + (1 : Int)))))
    else
      some (.inl (s1.1, (IntKind.u64.wrap (s1.2 + (1 : Int)))))
  else
    some (.inr s1.1)
noncomputable def G.graftref02_primes (a0 : Int) : Option (List Int) :=
  Iter (G.graftref02_primes_l1 a0) (([] : List Int), (2 : Int))
noncomputable def G.graftref02_scale_l1 (a0 : (Nat → Int)) (a1 : Int) (s1 : Int × Int × (Nat → Int)) : Option ((Int × Int × (Nat → Int)) ⊕ (Nat → Int)) :=
  if s1.2.1 < (4 : Int) then
    (chk (0 ≤ s1.2.1 ∧ s1.2.1 < 4)).bind fun y2 =>
    (chk (0 ≤ s1.2.1 ∧ s1.2.1 < 4)).bind fun y3 =>
    some (.inl ((ishr .u64 (IntKind.u64.wrap ((IntKind.u64.wrap ((getArr a0 s1.2.1) * a1)) + s1.1)) (32 : Int)), (IntKind.i64.wrap (s1.2.1 + (1 : Int))), (setArr s1.2.2 s1.2.1 (band .u64 (IntKind.u64.wrap ((IntKind.u64.wrap ((getArr a0 s1.2.1) * a1)) + s1.1)) (4294967295 : Int)))))
  else
    some (.inr s1.2.2)
noncomputable def G.graftref02_scale (a0 : Nat → Int) (a1 : Int) : Option (Nat → Int) :=
  Iter (G.graftref02_scale_l1 a0 a1) ((0 : Int), (0 : Int), (fun _ => 0))
noncomputable def G.graftref02_shift_l1 (a0 : (Nat → Int)) (s1 : Int × Int × (Nat → Int)) : Option ((Int × Int × (Nat → Int)) ⊕ (Nat → Int)) :=
  if s1.2.1 < (4 : Int) then
    (chk (0 ≤ s1.2.1 ∧ s1.2.1 < 4)).bind fun y2 =>
    (chk (0 ≤ s1.2.1 ∧ s1.2.1 < 4)).bind fun y3 =>
    some (.inl ((ishr .u64 (IntKind.u64.wrap ((ishl .u64 (getArr a0 s1.2.1) (16 : Int)) + s1.1)) (32 : Int)), (IntKind.i64.wrap (s1.2.1 + (1 : Int))), (setArr s1.2.2 s1.2.1 (band .u64 (IntKind.u64.wrap ((ishl .u64 (getArr a0 s1.2.1) (16 : Int)) + s1.1)) (4294967295 : Int)))))
  else
    some (.inr s1.2.2)
noncomputable def G.graftref02_shift (a0 : Nat → Int) : Option (Nat → Int) :=
  Iter (G.graftref02_shift_l1 a0) ((0 : Int), (0 : Int), (fun _ => 0))
noncomputable def G.graftref02_plus_l1 (a0 : (Nat → Int)) (a1 : (Nat → Int)) (s1 : Int × Int × (Nat → Int)) : Option ((Int × Int × (Nat → Int)) ⊕ (Nat → Int)) :=
  if s1.2.1 < (4 : Int) then
    (chk (0 ≤ s1.2.1 ∧ s1.2.1 < 4)).bind fun y2 =>
    (chk (0 ≤ s1.2.1 ∧ s1.2.1 < 4)).bind fun y3 =>
    (chk (0 ≤ s1.2.1 ∧ s1.2.1 < 4)).bind fun y4 =>
    some (.inl ((ishr .u64 (IntKind.u64.wrap ((IntKind.u64.wrap ((getArr a0 s1.2.1) + (getArr a1 s1.2.1))) + s1.1)) (32 : Int)), (IntKind.i64.wrap (s1.2.1 + (1 : Int))), (setArr s1.2.2 s1.2.1 (band .u64 (IntKind.u64.wrap ((IntKind.u64.wrap ((getArr a0 s1.2.1) + (getArr a1 s1.2.1))) + s1.1)) (4294967295 : Int)))))
  else
    some (.inr s1.2.2)
noncomputable def G.graftref02_plus (a0 : Nat → Int) (a1 : Nat → Int) : Option (Nat → Int) :=
  Iter (G.graftref02_plus_l1 a0 a1) ((0 : Int), (0 : Int), (fun _ => 0))
noncomputable def G.graftref02_times (a0 : Nat → Int) (a1 : Int) : Option (Nat → Int) :=
  (G.graftref02_scale a0 (band .u64 a1 (65535 : Int))).bind fun y1 =>
  (G.graftref02_scale a0 (ishr .u64 a1 (16 : Int))).bind fun y2 =>
  (G.graftref02_shift y2).bind fun y3 =>
  (G.graftref02_plus y1 y3).bind fun y4 =>
  some y4
noncomputable def G.graftref02_least_l1 (v2 : (Nat → Int) × (Nat → Int)) (s4 : Int) : Option (Int ⊕ Bool) :=
  if s4 ≥ (0 : Int) then
    (chk (0 ≤ s4 ∧ s4 < 4)).bind fun y5 =>
    (chk (0 ≤ s4 ∧ s4 < 4)).bind fun y6 =>
    if (getArr v2.1 s4) ≠ (getArr v2.2 s4) then
      (chk (0 ≤ s4 ∧ s4 < 4)).bind fun y7 =>
      (chk (0 ≤ s4 ∧ s4 < 4)).bind fun y8 =>
      some (.inr (decide ((getArr v2.1 s4) < (getArr v2.2 s4))))
    else
      some (.inl (IntKind.i64.wrap (s4 - (1 : Int))))
  else
    some (.inr true)
noncomputable def G.graftref02_least (a0 : Int) (a1 : Int) (a2 : Bool) : Option Bool :=
  (G.graftref02_times (setArr (setArr (setArr (setArr (fun _ => 0) 0 (band .u64 a0 (4294967295 : Int))) 1 (ishr .u64 a0 (32 : Int))) 2 (0 : Int)) 3 (0 : Int)) a0).bind fun y1 =>
  (
    if a2 = true then
      (G.graftref02_times y1 a0).bind fun y3 =>
      some (y3, (setArr (setArr (setArr (setArr (fun _ => 0) 0 (0 : Int)) 1 (0 : Int)) 2 (0 : Int)) 3 a1))
    else
      some (y1, (setArr (setArr (setArr (setArr (fun _ => 0) 0 (0 : Int)) 1 (0 : Int)) 2 a1) 3 (0 : Int)))).bind fun v2 =>
  Iter (G.graftref02_least_l1 v2) (3 : Int)
noncomputable def G.graftref02_root_l1 (a0 : Int) (a1 : Bool) (s2 : Int × Int) : Option ((Int × Int) ⊕ Int) :=
  if (IntKind.u64.wrap (s2.2 - s2.1)) > (1 : Int) then
    (G.graftref02_least (IntKind.u64.wrap (Int.tdiv (IntKind.u64.wrap (s2.1 + s2.2)) (2 : Int))) a0 a1).bind fun y3 =>
    if y3 = true then
      some (.inl ((IntKind.u64.wrap (Int.tdiv (IntKind.u64.wrap (s2.1 + s2.2)) (2 : Int))), s2.2))
    else
      some (.inl (s2.1, (IntKind.u64.wrap (Int.tdiv (IntKind.u64.wrap (s2.1 + s2.2)) (2 : Int)))))
  else
    some (.inr (IntKind.u32.wrap s2.1))
noncomputable def G.graftref02_root (a0 : Int) (a1 : Bool) : Option Int :=
  (
    if a1 = true then
      some (34359738368 : Int)
    else
      some (68719476736 : Int)).bind fun v1 =>
  Iter (G.graftref02_root_l1 a0 a1) ((0 : Int), v1)
noncomputable def G.graftref02_Constants_l1 (a1 : Bool) (y1 : (List Int)) (s2 : (List Int) × Int) : Option (((List Int) × Int) ⊕ (List Int)) :=
  if s2.2 < (y1.length : Int) then
    (idx y1 s2.2).bind fun x3 =>
    (G.graftref02_root x3 a1).bind fun y4 =>
    (app 4 s2.1 [y4]).bind fun y5 =>
    some (.inl (y5, (IntKind.i64.wrap (s2.2 + (1 : Int)))))
  else
    some (.inr s2.1)
noncomputable def G.graftref02_Constants (a0 : Int) (a1 : Bool) : Option (List Int) :=
  (G.graftref02_primes a0).bind fun y1 =>
  Iter (G.graftref02_Constants_l1 a1 y1) (([] : List Int), (0 : Int))
noncomputable def G.graftref02_Table : Option G.graftref02_Keys :=
  (G.graftref02_Constants (8 : Int) false).bind fun y1 =>
  (G.graftref02_Constants (64 : Int) true).bind fun y2 =>
  some (⟨y1, y2⟩ : G.graftref02_Keys)
noncomputable def G.graftref01_Max : Option Int :=
  some (4611686018427387903 : Int)
noncomputable def G.graftref04_Len (a0 : G.Command) : Option Int :=
  if a0.kind = (1 : Int) then
    some a0.len
  else
    some (a0.data.length : Int)
noncomputable def G.graftref04_Target (a0 : G.Command) : Option G.Extent :=
  (G.graftref04_Len a0).bind fun y1 =>
  some (⟨a0.to, y1⟩ : G.Extent)
noncomputable def G.graftref01_Valid (a0 : G.Extent) : Option Bool :=
  if a0.off ≥ (0 : Int) then
    if a0.len ≥ (0 : Int) then
      (G.graftref01_Max).bind fun y1 =>
      if a0.off ≤ y1 then
        (G.graftref01_Max).bind fun y2 =>
        some (decide (a0.len ≤ (IntKind.i64.wrap (y2 - a0.off))))
      else
        some false
    else
      some false
  else
    some false
noncomputable def G.graftref04_Source (a0 : G.Command) : Option G.Extent :=
  some (⟨a0.from_, a0.len⟩ : G.Extent)
noncomputable def G.graftref04_Check (a0 : G.Command) : Option Int :=
  (
    if a0.kind ≠ (1 : Int) then
      some (a0.kind != (2 : Int))
    else
      some false).bind fun v1 =>
  if v1 = true then
    some (11 : Int)
  else
    (G.graftref04_Len a0).bind fun y2 =>
    if y2 = (0 : Int) then
      some (7 : Int)
    else
      (G.graftref04_Target a0).bind fun y3 =>
      (G.graftref01_Valid y3).bind fun y4 =>
      if y4 = false then
        some (2 : Int)
      else
        (
          if a0.kind = (1 : Int) then
            if (a0.data.length : Int) > (0 : Int) then
              some true
            else
              (G.graftref04_Source a0).bind fun y6 =>
              (G.graftref01_Valid y6).bind fun y7 =>
              some (!y7)
          else
            some false).bind fun v5 =>
        if v5 = true then
          some (2 : Int)
        else
          (
            if a0.kind = (2 : Int) then
              if a0.from_ ≠ (0 : Int) then
                some true
              else
                some (a0.len != (0 : Int))
            else
              some false).bind fun v8 =>
          if v8 = true then
            some (2 : Int)
          else
            some (0 : Int)
noncomputable def G.graftref05_single (a0 : G.Delta) (a1 : G.Command) : Option Int :=
  (G.graftref04_Check a1).bind fun y1 =>
  if y1 ≠ (0 : Int) then
    some y1
  else
    (
      if a1.kind = (1 : Int) then
        some (decide ((IntKind.i64.wrap (a1.from_ + a1.len)) > a0.oldLen))
      else
        some false).bind fun v2 =>
    if v2 = true then
      some (5 : Int)
    else
      (G.graftref04_Len a1).bind fun y3 =>
      if (IntKind.i64.wrap (a1.to + y3)) > a0.newLen then
        some (6 : Int)
      else
        some (0 : Int)
noncomputable def G.graftref01_Overlap (a0 : G.Extent) (a1 : G.Extent) : Option G.Extent :=
  if (imax a0.off a1.off) ≥ (imin (IntKind.i64.wrap (a0.off + a0.len)) (IntKind.i64.wrap (a1.off + a1.len))) then
    some (⟨(0 : Int), (0 : Int)⟩ : G.Extent)
  else
    some (⟨(imax a0.off a1.off), (IntKind.i64.wrap ((imin (IntKind.i64.wrap (a0.off + a0.len)) (IntKind.i64.wrap (a1.off + a1.len))) - (imax a0.off a1.off)))⟩ : G.Extent)
noncomputable def G.graftref01_Has (a0 : G.Extent) (a1 : Int) : Option Bool :=
  if a1 ≥ a0.off then
    some (decide (a1 < (IntKind.i64.wrap (a0.off + a0.len))))
  else
    some false
noncomputable def G.graftref05_has (a0 : G.Command) (a1 : Int) : Option Bool :=
  (G.graftref04_Target a0).bind fun y1 =>
  (G.graftref01_Has y1 a1).bind fun y2 =>
  some y2
noncomputable def G.graftref05_Find_l1 (a0 : G.Delta) (a1 : Int) (s1 : Int) : Option (Int ⊕ Int) :=
  if s1 < (a0.commands.length : Int) then
    (idx a0.commands s1).bind fun x2 =>
    (G.graftref05_has x2 a1).bind fun y3 =>
    if y3 = true then
      some (.inr s1)
    else
      some (.inl (IntKind.i64.wrap (s1 + (1 : Int))))
  else
    some (.inr (-1 : Int))
noncomputable def G.graftref05_Find (a0 : G.Delta) (a1 : Int) : Option Int :=
  Iter (G.graftref05_Find_l1 a0 a1) (0 : Int)
noncomputable def G.graftref05_gap_l1 (a0 : G.Delta) (s1 : Int × Int) : Option ((Int × Int) ⊕ Int) :=
  if s1.2 < (a0.commands.length : Int) then
    (
      if s1.2 ≥ (0 : Int) then
        (idx a0.commands s1.2).bind fun x3 =>
        (idx a0.commands s1.2).bind fun x4 =>
        (G.graftref04_Len x4).bind fun y5 =>
        some (IntKind.i64.wrap (x3.to + y5))
      else
        some (0 : Int)).bind fun v2 =>
    (
      if v2 < a0.newLen then
        (G.graftref05_Find a0 v2).bind fun y7 =>
        if y7 < (0 : Int) then
          if s1.1 < (0 : Int) then
            some true
          else
            some (decide (v2 < s1.1))
        else
          some false
      else
        some false).bind fun v6 =>
    if v6 = true then
      some (.inl (v2, (IntKind.i64.wrap (s1.2 + (1 : Int)))))
    else
      some (.inl (s1.1, (IntKind.i64.wrap (s1.2 + (1 : Int)))))
  else
    some (.inr s1.1)
noncomputable def G.graftref05_gap (a0 : G.Delta) : Option Int :=
  Iter (G.graftref05_gap_l1 a0) ((-1 : Int), (-1 : Int))
noncomputable def G.graftref05_Check_l1 (a0 : G.Delta) (s6 : Int) : Option (Int ⊕ (Unit ⊕ (Int × Int))) :=
  if s6 < (a0.commands.length : Int) then
    (idx a0.commands s6).bind fun x7 =>
    (G.graftref05_single a0 x7).bind fun y8 =>
    if y8 ≠ (0 : Int) then
      some (.inr (.inr (y8, s6)))
    else
      some (.inl (IntKind.i64.wrap (s6 + (1 : Int))))
  else
    some (.inr (.inl ()))
noncomputable def G.graftref05_Check_l3 (a0 : G.Delta) (s11 : Int) (s12 : Int) : Option (Int ⊕ (Int ⊕ (Unit ⊕ (Int × Int)))) :=
  if s12 < s11 then
    (idx a0.commands s11).bind fun x13 =>
    (G.graftref04_Target x13).bind fun y14 =>
    (idx a0.commands s12).bind fun x15 =>
    (G.graftref04_Target x15).bind fun y16 =>
    (G.graftref01_Overlap y14 y16).bind fun y17 =>
    if y17.len > (0 : Int) then
      some (.inr (.inr (.inr ((4 : Int), s11))))
    else
      some (.inl (IntKind.i64.wrap (s12 + (1 : Int))))
  else
    some (.inr (.inl (IntKind.i64.wrap (s11 + (1 : Int)))))
noncomputable def G.graftref05_Check_l2 (a0 : G.Delta) (s11 : Int) : Option (Int ⊕ (Unit ⊕ (Int × Int))) :=
  if s11 < (a0.commands.length : Int) then
    Iter (G.graftref05_Check_l3 a0 s11) (0 : Int)
  else
    some (.inr (.inl ()))
noncomputable def G.graftref05_Check (a0 : G.Delta) : Option (Int × Int) :=
  (
    if a0.oldLen < (0 : Int) then
      some true
    else
      if a0.newLen < (0 : Int) then
        some true
      else
        (G.graftref01_Max).bind fun y2 =>
        if a0.oldLen > y2 then
          some true
        else
          (G.graftref01_Max).bind fun y3 =>
          some (decide (a0.newLen > y3))).bind fun v1 =>
  if v1 = true then
    some ((2 : Int), (-1 : Int))
  else
    ((
      Iter (G.graftref05_Check_l1 a0) (0 : Int)) : Option (Unit ⊕ (Int × Int))).bind fun v4 => joinK v4 fun u5 =>
    ((
      Iter (G.graftref05_Check_l2 a0) (0 : Int)) : Option (Unit ⊕ (Int × Int))).bind fun v9 => joinK v9 fun u10 =>
    (G.graftref05_gap a0).bind fun y18 =>
    if y18 ≥ (0 : Int) then
      some ((3 : Int), y18)
    else
      some ((0 : Int), (0 : Int))
noncomputable def G.graftref02_pad_l1 (s4 : (List UInt8)) : Option ((List UInt8) ⊕ (List UInt8)) :=
  if (Int.tmod (s4.length : Int) (64 : Int)) ≠ (56 : Int) then
    (app 1 s4 [(u8 0)]).bind fun y5 =>
    some (.inl y5)
  else
    some (.inr s4)
noncomputable def G.graftref02_pad_l2 (a0 : (List UInt8)) (s6 : (List UInt8) × Int) : Option (((List UInt8) × Int) ⊕ (List UInt8)) :=
  if s6.2 ≥ (0 : Int) then
    (chk (0 ≤ (IntKind.i64.wrap ((8 : Int) * s6.2)))).bind fun y7 =>
    (app 1 s6.1 [(u8 (ishr .u64 (IntKind.u64.wrap ((IntKind.u64.wrap (a0.length : Int)) * (8 : Int))) (IntKind.i64.wrap ((8 : Int) * s6.2))))]).bind fun y8 =>
    some (.inl (y8, (IntKind.i64.wrap (s6.2 - (1 : Int)))))
  else
    some (.inr s6.1)
noncomputable def G.graftref02_pad (a0 : List UInt8) : Option (List UInt8) :=
  (app 1 ([] : List UInt8) a0).bind fun y1 =>
  (app 1 y1 [(u8 128)]).bind fun y2 =>
  (
    Iter G.graftref02_pad_l1 y2).bind fun v3 =>
  Iter (G.graftref02_pad_l2 a0) (v3, (7 : Int))
noncomputable def G.graftref02_rotate (a0 : Int) (a1 : Int) : Option Int :=
  (chk (0 ≤ a1)).bind fun y1 =>
  (chk (0 ≤ (IntKind.i64.wrap ((32 : Int) - a1)))).bind fun y2 =>
  some (bor .u32 (ishr .u32 a0 a1) (ishl .u32 a0 (IntKind.i64.wrap ((32 : Int) - a1))))
noncomputable def G.graftref02_schedule_l1 (a0 : (List UInt8)) (s2 : (List Int) × Int) : Option (((List Int) × Int) ⊕ (List Int)) :=
  if s2.2 < (16 : Int) then
    (idx a0 (IntKind.i64.wrap ((4 : Int) * s2.2))).bind fun x3 =>
    (idx a0 (IntKind.i64.wrap ((IntKind.i64.wrap ((4 : Int) * s2.2)) + (1 : Int)))).bind fun x4 =>
    (idx a0 (IntKind.i64.wrap ((IntKind.i64.wrap ((4 : Int) * s2.2)) + (2 : Int)))).bind fun x5 =>
    (idx a0 (IntKind.i64.wrap ((IntKind.i64.wrap ((4 : Int) * s2.2)) + (3 : Int)))).bind fun x6 =>
    (app 4 s2.1 [(bor .u32 (bor .u32 (bor .u32 (ishl .u32 (x3.toNat : Int) (24 : Int)) (ishl .u32 (x4.toNat : Int) (16 : Int))) (ishl .u32 (x5.toNat : Int) (8 : Int))) (x6.toNat : Int))]).bind fun y7 =>
    some (.inl (y7, (IntKind.i64.wrap (s2.2 + (1 : Int)))))
  else
    some (.inr s2.1)
noncomputable def G.graftref02_schedule_l2 (s8 : (List Int) × Int) : Option (((List Int) × Int) ⊕ (List Int)) :=
  if s8.2 < (64 : Int) then
    (idx s8.1 (IntKind.i64.wrap (s8.2 - (15 : Int)))).bind fun x9 =>
    (idx s8.1 (IntKind.i64.wrap (s8.2 - (2 : Int)))).bind fun x10 =>
    (G.graftref02_rotate x9 (7 : Int)).bind fun y11 =>
    (G.graftref02_rotate x9 (18 : Int)).bind fun y12 =>
    (G.graftref02_rotate x10 (17 : Int)).bind fun y13 =>
    (G.graftref02_rotate x10 (19 : Int)).bind fun y14 =>
    (idx s8.1 (IntKind.i64.wrap (s8.2 - (7 : Int)))).bind fun x15 =>
    (idx s8.1 (IntKind.i64.wrap (s8.2 - (16 : Int)))).bind fun x16 =>
    (app 4 s8.1 [(IntKind.u32.wrap ((IntKind.u32.wrap ((IntKind.u32.wrap ((bxor .u32 (bxor .u32 y13 y14) (ishr .u32 x10 (10 : Int))) + x15)) + (bxor .u32 (bxor .u32 y11 y12) (ishr .u32 x9 (3 : Int))))) + x16))]).bind fun y17 =>
    some (.inl (y17, (IntKind.i64.wrap (s8.2 + (1 : Int)))))
  else
    some (.inr s8.1)
noncomputable def G.graftref02_schedule (a0 : List UInt8) : Option (List Int) :=
  (
    Iter (G.graftref02_schedule_l1 a0) (([] : List Int), (0 : Int))).bind fun v1 =>
  Iter G.graftref02_schedule_l2 (v1, (16 : Int))
noncomputable def G.graftref02_block_l1 (a1 : (List Int)) (a2 : (List Int)) (s3 : (List Int) × Int) : Option (((List Int) × Int) ⊕ (List Int)) :=
  if s3.2 < (64 : Int) then
    (idx s3.1 (4 : Int)).bind fun x4 =>
    (idx s3.1 (0 : Int)).bind fun x5 =>
    (idx s3.1 (7 : Int)).bind fun x6 =>
    (G.graftref02_rotate x4 (6 : Int)).bind fun y7 =>
    (G.graftref02_rotate x4 (11 : Int)).bind fun y8 =>
    (G.graftref02_rotate x4 (25 : Int)).bind fun y9 =>
    (idx s3.1 (5 : Int)).bind fun x10 =>
    (idx s3.1 (6 : Int)).bind fun x11 =>
    (idx a2 s3.2).bind fun x12 =>
    (idx a1 s3.2).bind fun x13 =>
    (G.graftref02_rotate x5 (2 : Int)).bind fun y14 =>
    (G.graftref02_rotate x5 (13 : Int)).bind fun y15 =>
    (G.graftref02_rotate x5 (22 : Int)).bind fun y16 =>
    (idx s3.1 (1 : Int)).bind fun x17 =>
    (idx s3.1 (2 : Int)).bind fun x18 =>
    (idx s3.1 (1 : Int)).bind fun x19 =>
    (idx s3.1 (2 : Int)).bind fun x20 =>
    (idx s3.1 (0 : Int)).bind fun x21 =>
    (idx s3.1 (1 : Int)).bind fun x22 =>
    (idx s3.1 (2 : Int)).bind fun x23 =>
    (idx s3.1 (3 : Int)).bind fun x24 =>
    (idx s3.1 (4 : Int)).bind fun x25 =>
    (idx s3.1 (5 : Int)).bind fun x26 =>
    (idx s3.1 (6 : Int)).bind fun x27 =>
    some (.inl ([(IntKind.u32.wrap ((IntKind.u32.wrap ((IntKind.u32.wrap ((IntKind.u32.wrap ((IntKind.u32.wrap (x6 + (bxor .u32 (bxor .u32 y7 y8) y9))) + (bxor .u32 (band .u32 x4 x10) (band .u32 (bxor .u32 (4294967295 : Int) x4) x11)))) + x12)) + x13)) + (IntKind.u32.wrap ((bxor .u32 (bxor .u32 y14 y15) y16) + (bxor .u32 (bxor .u32 (band .u32 x5 x17) (band .u32 x5 x18)) (band .u32 x19 x20)))))), x21, x22, x23, (IntKind.u32.wrap (x24 + (IntKind.u32.wrap ((IntKind.u32.wrap ((IntKind.u32.wrap ((IntKind.u32.wrap (x6 + (bxor .u32 (bxor .u32 y7 y8) y9))) + (bxor .u32 (band .u32 x4 x10) (band .u32 (bxor .u32 (4294967295 : Int) x4) x11)))) + x12)) + x13)))), x25, x26, x27], (IntKind.i64.wrap (s3.2 + (1 : Int)))))
  else
    some (.inr s3.1)
noncomputable def G.graftref02_block_l2 (a0 : (List Int)) (v2 : (List Int)) (s28 : (List Int) × Int) : Option (((List Int) × Int) ⊕ (List Int)) :=
  if s28.2 < (8 : Int) then
    (idx a0 s28.2).bind fun x29 =>
    (idx v2 s28.2).bind fun x30 =>
    (app 4 s28.1 [(IntKind.u32.wrap (x29 + x30))]).bind fun y31 =>
    some (.inl (y31, (IntKind.i64.wrap (s28.2 + (1 : Int)))))
  else
    some (.inr s28.1)
noncomputable def G.graftref02_block (a0 : List Int) (a1 : List Int) (a2 : List Int) : Option (List Int) :=
  (app 4 ([] : List Int) a0).bind fun y1 =>
  (
    Iter (G.graftref02_block_l1 a1 a2) (y1, (0 : Int))).bind fun v2 =>
  Iter (G.graftref02_block_l2 a0 v2) (([] : List Int), (0 : Int))
noncomputable def G.graftref02_With_l1 (a1 : G.graftref02_Keys) (y1 : (List UInt8)) (s3 : (List Int) × Int) : Option (((List Int) × Int) ⊕ (List Int)) :=
  if s3.2 < (y1.length : Int) then
    (slcMid y1 s3.2 (IntKind.i64.wrap (s3.2 + (64 : Int)))).bind fun y4 =>
    (G.graftref02_schedule y4).bind fun y5 =>
    (G.graftref02_block s3.1 y5 a1.k).bind fun y6 =>
    some (.inl (y6, (IntKind.i64.wrap (s3.2 + (64 : Int)))))
  else
    some (.inr s3.1)
noncomputable def G.graftref02_With_l2 (v2 : (List Int)) (s7 : Int × (Nat → UInt8)) : Option ((Int × (Nat → UInt8)) ⊕ (Nat → UInt8)) :=
  if s7.1 < (32 : Int) then
    (idx v2 (IntKind.i64.wrap (Int.tdiv s7.1 (4 : Int)))).bind fun x8 =>
    (chk (0 ≤ (IntKind.i64.wrap ((24 : Int) - (IntKind.i64.wrap ((8 : Int) * (Int.tmod s7.1 (4 : Int)))))))).bind fun y9 =>
    (chk (0 ≤ s7.1 ∧ s7.1 < 32)).bind fun y10 =>
    some (.inl ((IntKind.i64.wrap (s7.1 + (1 : Int))), (setArr s7.2 s7.1 (u8 (ishr .u32 x8 (IntKind.i64.wrap ((24 : Int) - (IntKind.i64.wrap ((8 : Int) * (Int.tmod s7.1 (4 : Int)))))))))))
  else
    some (.inr s7.2)
noncomputable def G.graftref02_With (a0 : List UInt8) (a1 : G.graftref02_Keys) : Option (Nat → UInt8) :=
  (G.graftref02_pad a0).bind fun y1 =>
  (
    Iter (G.graftref02_With_l1 a1 y1) (a1.s, (0 : Int))).bind fun v2 =>
  Iter (G.graftref02_With_l2 v2) ((0 : Int), (fun _ => 0))
noncomputable def G.graftref08_Apply_l1 (a0 : (List UInt8)) (a1 : G.Delta) (s1 : (List UInt8) × Int) : Option (((List UInt8) × Int) ⊕ (List UInt8)) :=
  if s1.2 < a1.newLen then
    (G.graftref05_Find a1 s1.2).bind fun y2 =>
    (idx a1.commands y2).bind fun x3 =>
    if x3.kind = (1 : Int) then
      (idx a0 (IntKind.i64.wrap ((IntKind.i64.wrap (x3.from_ + s1.2)) - x3.to))).bind fun x4 =>
      (app 1 s1.1 [x4]).bind fun y5 =>
      some (.inl (y5, (IntKind.i64.wrap (s1.2 + (1 : Int)))))
    else
      (idx x3.data (IntKind.i64.wrap (s1.2 - x3.to))).bind fun x6 =>
      (app 1 s1.1 [x6]).bind fun y7 =>
      some (.inl (y7, (IntKind.i64.wrap (s1.2 + (1 : Int)))))
  else
    some (.inr s1.1)
noncomputable def G.graftref08_Apply (a0 : List UInt8) (a1 : G.Delta) : Option (List UInt8) :=
  Iter (G.graftref08_Apply_l1 a0 a1) (([] : List UInt8), (0 : Int))
noncomputable def G.graftref08_Verify (a0 : List UInt8) (a1 : G.Delta) (a2 : G.graftref02_Keys) : Option (Int × Int) :=
  (G.graftref05_Check a1).bind fun y1 =>
  if y1.1 ≠ (0 : Int) then
    some (y1.1, y1.2)
  else
    if a1.oldLen ≠ (a0.length : Int) then
      some ((13 : Int), (a0.length : Int))
    else
      (G.graftref02_With a0 a2).bind fun y2 =>
      if (hashEq y2 a1.oldHash) = false then
        some ((14 : Int), (0 : Int))
      else
        (G.graftref08_Apply a0 a1).bind fun y3 =>
        (G.graftref02_With y3 a2).bind fun y4 =>
        if (hashEq y4 a1.newHash) = false then
          some ((15 : Int), (0 : Int))
        else
          some ((0 : Int), (0 : Int))
noncomputable def G.delta_Sort_b1 (a0 : Int) (a1 : G.Extent) (a2 : G.Delta) (a3 : List G.Command) : Option (List G.Command) :=
  (idx a2.commands a0).bind fun x1 =>
  (app 56 a3 [x1]).bind fun y2 =>
  some y2
noncomputable def G.delta_sorted_2_delta_Sort_l1 (a0 : (List Int)) (a1 : (List G.Command)) (s1 : Int × G.Delta × (List G.Command)) : Option ((Int × G.Delta × (List G.Command)) ⊕ (G.Delta × (List G.Command))) :=
  if s1.1 < (a0.length : Int) then
    (idx a0 s1.1).bind fun x2 =>
    (idx a1 x2).bind fun x3 =>
    (G.command_Target x3).bind fun y4 =>
    (G.delta_Sort_b1 x2 y4 s1.2.1 s1.2.2).bind fun y5 =>
    some (.inl ((IntKind.i64.wrap (s1.1 + (1 : Int))), s1.2.1, y5))
  else
    some (.inr (s1.2.1, s1.2.2))
noncomputable def G.delta_sorted_2_delta_Sort (a0 : List Int) (a1 : List G.Command) (a2 : G.Delta) (a3 : List G.Command) : Option (G.Delta × (List G.Command)) :=
  Iter (G.delta_sorted_2_delta_Sort_l1 a0 a1) ((0 : Int), a2, a3)
noncomputable def G.delta_Sort (a0 : G.Delta) : Option G.Delta :=
  (G.delta_sorted a0.commands).bind fun y1 =>
  (G.delta_sorted_2_delta_Sort y1.2 y1.1 a0 ([] : List G.Command)).bind fun y2 =>
  (G.delta_With y2.1 y2.2).bind fun y3 =>
  some y3
noncomputable def G.patch_Verify_l1 (a0 : (List UInt8)) (y4 : G.Delta) (s6 : Int × (Nat → Int) × (List UInt8) × Int) : Option ((Int × (Nat → Int) × (List UInt8) × Int) ⊕ ((Nat → Int) × (List UInt8) × Int)) :=
  if s6.1 < (y4.commands.length : Int) then
    (idx y4.commands s6.1).bind fun x7 =>
    (G.patch_bytesOf a0 x7).bind fun y8 =>
    (G.sha_Hash_Write [y8] s6.2.1 s6.2.2.1 s6.2.2.2).bind fun y9 =>
    some (.inl ((IntKind.i64.wrap (s6.1 + (1 : Int))), y9.2.1, y9.2.2.1, y9.2.2.2))
  else
    some (.inr (s6.2.1, s6.2.2.1, s6.2.2.2))
noncomputable def G.patch_Verify (a0 : List UInt8) (a1 : G.Delta) : Option G.Fault :=
  (G.delta_Check a1).bind fun y1 =>
  if (decide (y1.code = (0 : Int) ∧ y1.at_ = (0 : Int))) = false then
    some y1
  else
    if a1.oldLen ≠ (a0.length : Int) then
      some (⟨(13 : Int), (a0.length : Int)⟩ : G.Fault)
    else
      (G.sha_Of [a0]).bind fun y2 =>
      if (hashEq y2 a1.oldHash) = false then
        some (⟨(14 : Int), (0 : Int)⟩ : G.Fault)
      else
        (G.sha_New).bind fun y3 =>
        (G.delta_Sort a1).bind fun y4 =>
        (
          Iter (G.patch_Verify_l1 a0 y4) ((0 : Int), y3.1, y3.2.1, y3.2.2)).bind fun v5 =>
        (G.sha_Hash_Sum v5.1 v5.2.1 v5.2.2).bind fun y10 =>
        if (hashEq y10 a1.newHash) = false then
          some (⟨(15 : Int), (0 : Int)⟩ : G.Fault)
        else
          some (⟨(0 : Int), (0 : Int)⟩ : G.Fault)
noncomputable def G.graftlaw08_PatchVerifies (a0 : List UInt8) (a1 : G.Delta) : Option Bool :=
  (
    if (a0.length : Int) > (300 : Int) then
      some true
    else
      (G.graftref05_Few a1).bind fun y2 =>
      if y2 = false then
        some true
      else
        some (decide (a1.newLen > (3000 : Int)))).bind fun v1 =>
  if v1 = true then
    (G.graftlaw08_alive).bind fun y3 =>
    some y3
  else
    (G.graftref02_Table).bind fun y4 =>
    (G.graftref08_Verify a0 a1 y4).bind fun y5 =>
    (G.patch_Verify a0 a1).bind fun y6 =>
    (G.graftlaw08_alive).bind fun y7 =>
    if y7 = true then
      if y6.code = y5.1 then
        some (y6.at_ == y5.2)
      else
        some false
    else
      some false
noncomputable def G.graftref08_equal_l1 (a0 : (List UInt8)) (a1 : (List UInt8)) (s1 : Int) : Option (Int ⊕ Int) :=
  (
    if s1 < (a0.length : Int) then
      if s1 < (a1.length : Int) then
        (idx a0 s1).bind fun x3 =>
        (idx a1 s1).bind fun x4 =>
        some ((x3.toNat : Int) == (x4.toNat : Int))
      else
        some false
    else
      some false).bind fun v2 =>
  if v2 = true then
    some (.inl (IntKind.i64.wrap (s1 + (1 : Int))))
  else
    some (.inr s1)
noncomputable def G.graftref08_equal (a0 : List UInt8) (a1 : List UInt8) : Option Int :=
  Iter (G.graftref08_equal_l1 a0 a1) (0 : Int)
noncomputable def G.graftref08_match_l1 (a0 : (List UInt8)) (a1 : (List UInt8)) (a2 : Int) (s2 : Int) : Option (Int ⊕ (Int × Int)) :=
  if (IntKind.i64.wrap (s2 + a2)) ≤ (a0.length : Int) then
    (slcFrom a0 s2).bind fun y3 =>
    (G.graftref08_equal y3 a1).bind fun y4 =>
    if y4 ≥ a2 then
      some (.inr (s2, y4))
    else
      some (.inl (IntKind.i64.wrap (s2 + (1 : Int))))
  else
    some (.inr ((-1 : Int), (0 : Int)))
noncomputable def G.graftref08_match (a0 : List UInt8) (a1 : List UInt8) (a2 : Int) : Option (Int × Int) :=
  (
    if a2 < (1 : Int) then
      some true
    else
      some (decide ((a1.length : Int) < a2))).bind fun v1 =>
  if v1 = true then
    some ((-1 : Int), (0 : Int))
  else
    Iter (G.graftref08_match_l1 a0 a1 a2) (0 : Int)
noncomputable def G.graftref08_Commands_l1 (a0 : (List UInt8)) (a1 : (List UInt8)) (a2 : Int) (s1 : Int × (List G.Command)) : Option ((Int × (List G.Command)) ⊕ (List G.Command)) :=
  if s1.1 < (a1.length : Int) then
    (slcFrom a1 s1.1).bind fun y2 =>
    (G.graftref08_match a0 y2 a2).bind fun y3 =>
    if y3.1 ≥ (0 : Int) then
      (app 56 s1.2 [(⟨(1 : Int), s1.1, y3.1, y3.2, ([] : List UInt8)⟩ : G.Command)]).bind fun y4 =>
      some (.inl ((IntKind.i64.wrap (s1.1 + y3.2)), y4))
    else
      (
        if (IntKind.i64.wrap ((s1.2.length : Int) - (1 : Int))) ≥ (0 : Int) then
          (idx s1.2 (IntKind.i64.wrap ((s1.2.length : Int) - (1 : Int)))).bind fun x6 =>
          some (x6.kind == (2 : Int))
        else
          some false).bind fun v5 =>
      if v5 = true then
        (idx s1.2 (IntKind.i64.wrap ((s1.2.length : Int) - (1 : Int)))).bind fun x7 =>
        (app 1 ([] : List UInt8) x7.data).bind fun y8 =>
        (idx a1 s1.1).bind fun x9 =>
        (app 1 y8 [x9]).bind fun y10 =>
        (idx s1.2 (IntKind.i64.wrap ((s1.2.length : Int) - (1 : Int)))).bind fun x11 =>
        some (.inl ((IntKind.i64.wrap (s1.1 + (1 : Int))), (s1.2.set (IntKind.i64.wrap ((s1.2.length : Int) - (1 : Int))).toNat (⟨x11.kind, x11.to, x11.from_, x11.len, y10⟩ : G.Command))))
      else
        (idx a1 s1.1).bind fun x12 =>
        (app 56 s1.2 [(⟨(2 : Int), s1.1, (0 : Int), (0 : Int), [x12]⟩ : G.Command)]).bind fun y13 =>
        some (.inl ((IntKind.i64.wrap (s1.1 + (1 : Int))), y13))
  else
    some (.inr s1.2)
noncomputable def G.graftref08_Commands (a0 : List UInt8) (a1 : List UInt8) (a2 : Int) : Option (List G.Command) :=
  Iter (G.graftref08_Commands_l1 a0 a1 a2) ((0 : Int), ([] : List G.Command))
noncomputable def G.graftref08_Describe (a0 : List UInt8) (a1 : List UInt8) (a2 : List G.Command) : Option G.Delta :=
  (G.graftref02_Table).bind fun y1 =>
  (G.graftref02_With a0 y1).bind fun y2 =>
  (G.graftref02_With a1 y1).bind fun y3 =>
  some (⟨(a0.length : Int), (a1.length : Int), y2, y3, a2⟩ : G.Delta)
noncomputable def G.graftref05_Same (a0 : G.Delta) (a1 : G.Delta) : Option Bool :=
  if a0.oldLen = a1.oldLen then
    if a0.newLen = a1.newLen then
      if (hashEq a0.oldHash a1.oldHash) = true then
        if (hashEq a0.newHash a1.newHash) = true then
          (G.graftref04_All a0.commands a1.commands).bind fun y1 =>
          some y1
        else
          some false
      else
        some false
    else
      some false
  else
    some false
noncomputable def G.graftlaw08_PatchMakes (a0 : List UInt8) (a1 : List UInt8) (a2 : Int) : Option Bool :=
  (
    if (a0.length : Int) > (200 : Int) then
      some true
    else
      some (decide ((a1.length : Int) > (200 : Int)))).bind fun v1 =>
  if v1 = true then
    (G.graftlaw08_alive).bind fun y2 =>
    some y2
  else
    (G.patch_Make a0 a1 a2).bind fun y3 =>
    (G.graftlaw08_alive).bind fun y4 =>
    if y4 = true then
      (G.graftref08_Commands a0 a1 a2).bind fun y5 =>
      (G.graftref08_Describe a0 a1 y5).bind fun y6 =>
      (G.graftref05_Same y3 y6).bind fun y7 =>
      some y7
    else
      some false
noncomputable def G.slices_Equal_byte_byte_l1 (a0 : (List UInt8)) (a1 : (List UInt8)) (s1 : Int) : Option (Int ⊕ Bool) :=
  if s1 < (a0.length : Int) then
    (idx a0 s1).bind fun x2 =>
    (idx a1 s1).bind fun x3 =>
    if (x2.toNat : Int) ≠ (x3.toNat : Int) then
      some (.inr false)
    else
      some (.inl (IntKind.i64.wrap (s1 + (1 : Int))))
  else
    some (.inr true)
noncomputable def G.slices_Equal_byte_byte (a0 : List UInt8) (a1 : List UInt8) : Option Bool :=
  if (a0.length : Int) ≠ (a1.length : Int) then
    some false
  else
    Iter (G.slices_Equal_byte_byte_l1 a0 a1) (0 : Int)
noncomputable def G.graftlaw08_PatchLeads (a0 : List UInt8) (a1 : List UInt8) (a2 : Int) : Option Bool :=
  (
    if (a0.length : Int) > (200 : Int) then
      some true
    else
      some (decide ((a1.length : Int) > (200 : Int)))).bind fun v1 =>
  if v1 = true then
    (G.graftlaw08_alive).bind fun y2 =>
    some y2
  else
    (G.patch_Make a0 a1 a2).bind fun y3 =>
    (G.graftlaw08_alive).bind fun y4 =>
    if y4 = true then
      (G.delta_Valid y3).bind fun y5 =>
      if y5 = true then
        (G.patch_Verify a0 y3).bind fun y6 =>
        if y6.code = (0 : Int) ∧ y6.at_ = (0 : Int) then
          (G.patch_Apply a0 y3).bind fun y7 =>
          (G.slices_Equal_byte_byte y7 a1).bind fun y8 =>
          some y8
        else
          some false
      else
        some false
    else
      some false
noncomputable def G.graftref05_Valid (a0 : G.Delta) : Option Bool :=
  (G.graftref05_Check a0).bind fun y1 =>
  some (y1.1 == (0 : Int))
end Go.Proofs.Ythnhjibbkleneaa
