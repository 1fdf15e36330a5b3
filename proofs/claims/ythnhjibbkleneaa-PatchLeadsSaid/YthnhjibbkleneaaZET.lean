/- Part of what the laws need: plain words, the walker and its laws, the program's functions. -/
import Derived.Test.YthnhjibbkleneaaZEvG
import Derived.Test.YthnhjibbkleneaaProg
import Derived.Test.YthnhjibbkleneaaZTy
namespace Go.Proofs.Ythnhjibbkleneaa
open Go.RowKit G
def Bx : Mem → Prop := E.GB 0
theorem Bxm {m m2 : Mem} (h : Bx m) (k : Le m m2) : Bx m2 := E.GB.mono h k
namespace E
def Sx : Nat → Type
  | 0 => G.struct_x_int64_y_int_signed_bool_code_abi_BoundsErrorCode
  | 1 => G.runtime_boundsError
  | 2 => G.struct_msg_string_addr_uintptr
  | 3 => G.runtime_errorAddressString
  | 4 => G.Command
  | 5 => G.struct_OldLen_int_NewLen_int_OldHash_32_uint8_NewHash_32_uint8_Commands_api_Command
  | 6 => G.Delta
  | 7 => G.struct_Kind_int_To_int_From_int_Len_int_Data_uint8
  | 8 => G.struct_Code_api_Errno_At_int
  | 9 => G.Fault
  | 10 => G.graftref11_Edge
  | 11 => G.struct_S_uint32_K_uint32
  | 12 => G.graftref02_Keys
  | 13 => G.struct_Off_int_Len_int
  | 14 => G.Extent
  | 15 => G.sha_state
  | 16 => G.sha_Hash
  | 17 => G.command_target
  | _ => Bool
def tb : Tb Sx
  | 0 => { fs := [(.int .i64), (.int .i64), .bo, .u8], to := fun (x : G.struct_x_int64_y_int_signed_bool_code_abi_BoundsErrorCode) => (x.x, x.y, x.signed, x.code, ()), of := fun h => (⟨h.1, h.2.1, h.2.2.1, h.2.2.2.1⟩ : G.struct_x_int64_y_int_signed_bool_code_abi_BoundsErrorCode) }
  | 1 => { fs := [(.int .i64), (.int .i64), .bo, .u8], to := fun (x : G.runtime_boundsError) => (x.x, x.y, x.signed, x.code, ()), of := fun h => (⟨h.1, h.2.1, h.2.2.1, h.2.2.2.1⟩ : G.runtime_boundsError) }
  | 2 => { fs := [.str, (.int .u64)], to := fun (x : G.struct_msg_string_addr_uintptr) => (x.msg, x.addr, ()), of := fun h => (⟨h.1, h.2.1⟩ : G.struct_msg_string_addr_uintptr) }
  | 3 => { fs := [.str, (.int .u64)], to := fun (x : G.runtime_errorAddressString) => (x.msg, x.addr, ()), of := fun h => (⟨h.1, h.2.1⟩ : G.runtime_errorAddressString) }
  | 4 => { fs := [(.int .i64), (.int .i64), (.int .i64), (.int .i64), (.sl .u8)], to := fun (x : G.Command) => (x.kind, x.to, x.from_, x.len, x.data, ()), of := fun h => (⟨h.1, h.2.1, h.2.2.1, h.2.2.2.1, h.2.2.2.2.1⟩ : G.Command) }
  | 5 => { fs := [(.int .i64), (.int .i64), (.a8 32), (.a8 32), (.sl (.st 4))], to := fun (x : G.struct_OldLen_int_NewLen_int_OldHash_32_uint8_NewHash_32_uint8_Commands_api_Command) => (x.oldLen, x.newLen, x.oldHash, x.newHash, x.commands, ()), of := fun h => (⟨h.1, h.2.1, h.2.2.1, h.2.2.2.1, h.2.2.2.2.1⟩ : G.struct_OldLen_int_NewLen_int_OldHash_32_uint8_NewHash_32_uint8_Commands_api_Command) }
  | 6 => { fs := [(.int .i64), (.int .i64), (.a8 32), (.a8 32), (.sl (.st 4))], to := fun (x : G.Delta) => (x.oldLen, x.newLen, x.oldHash, x.newHash, x.commands, ()), of := fun h => (⟨h.1, h.2.1, h.2.2.1, h.2.2.2.1, h.2.2.2.2.1⟩ : G.Delta) }
  | 7 => { fs := [(.int .i64), (.int .i64), (.int .i64), (.int .i64), (.sl .u8)], to := fun (x : G.struct_Kind_int_To_int_From_int_Len_int_Data_uint8) => (x.kind, x.to, x.from_, x.len, x.data, ()), of := fun h => (⟨h.1, h.2.1, h.2.2.1, h.2.2.2.1, h.2.2.2.2.1⟩ : G.struct_Kind_int_To_int_From_int_Len_int_Data_uint8) }
  | 8 => { fs := [(.int .i64), (.int .i64)], to := fun (x : G.struct_Code_api_Errno_At_int) => (x.code, x.at_, ()), of := fun h => (⟨h.1, h.2.1⟩ : G.struct_Code_api_Errno_At_int) }
  | 9 => { fs := [(.int .i64), (.int .i64)], to := fun (x : G.Fault) => (x.code, x.at_, ()), of := fun h => (⟨h.1, h.2.1⟩ : G.Fault) }
  | 10 => { fs := [(.int .i64), (.int .i64)], to := fun (x : G.graftref11_Edge) => (x.from_, x.to, ()), of := fun h => (⟨h.1, h.2.1⟩ : G.graftref11_Edge) }
  | 11 => { fs := [(.sl (.int .u32)), (.sl (.int .u32))], to := fun (x : G.struct_S_uint32_K_uint32) => (x.s, x.k, ()), of := fun h => (⟨h.1, h.2.1⟩ : G.struct_S_uint32_K_uint32) }
  | 12 => { fs := [(.sl (.int .u32)), (.sl (.int .u32))], to := fun (x : G.graftref02_Keys) => (x.s, x.k, ()), of := fun h => (⟨h.1, h.2.1⟩ : G.graftref02_Keys) }
  | 13 => { fs := [(.int .i64), (.int .i64)], to := fun (x : G.struct_Off_int_Len_int) => (x.off, x.len, ()), of := fun h => (⟨h.1, h.2.1⟩ : G.struct_Off_int_Len_int) }
  | 14 => { fs := [(.int .i64), (.int .i64)], to := fun (x : G.Extent) => (x.off, x.len, ()), of := fun h => (⟨h.1, h.2.1⟩ : G.Extent) }
  | 15 => { fs := [(.ai 8 .u32), (.sl .u8), (.int .i64)], to := fun (x : G.sha_state) => (x.words, x.rest, x.n, ()), of := fun h => (⟨h.1, h.2.1, h.2.2.1⟩ : G.sha_state) }
  | 16 => { fs := [(.ai 8 .u32), (.sl .u8), (.int .i64)], to := fun (x : G.sha_Hash) => (x.state.words, x.state.rest, x.state.n, ()), of := fun h => (⟨(⟨h.1, h.2.1, h.2.2.1⟩ : G.sha_state)⟩ : G.sha_Hash) }
  | 17 => { fs := [(.int .i64), (.int .i64)], to := fun (x : G.command_target) => (x.extent.off, x.extent.len, ()), of := fun h => (⟨(⟨h.1, h.2.1⟩ : G.Extent)⟩ : G.command_target) }
  | _ + 18 => { fs := [.bo], to := fun (x : Bool) => (x, ()), of := fun h => h.1 }
def tyL : List (Nat × TI Sx) := [(1, ⟨.func, 1, 8, [.nilF], .bo, false⟩),
  (2, ⟨.int .i64, 1, 8, [.int .i64 0], (.int .i64), false⟩),
  (3, ⟨.int .i64, 1, 8, [.int .i64 0], (.int .i64), false⟩),
  (4, ⟨.bool, 1, 1, [.tt false], .bo, false⟩),
  (5, ⟨.int .u8, 1, 1, [.u8 0], .u8, false⟩),
  (6, ⟨.int .u8, 1, 1, [.u8 0], .u8, false⟩),
  (7, ⟨.struct [(2, 0, 1), (3, 1, 1), (4, 2, 1), (6, 3, 1)], 4, 24, [.int .i64 0, .int .i64 0, .tt false, .u8 0], (.st 0), true⟩),
  (8, ⟨.struct [(2, 0, 1), (3, 1, 1), (4, 2, 1), (6, 3, 1)], 4, 24, [.int .i64 0, .int .i64 0, .tt false, .u8 0], (.st 1), true⟩),
  (9, ⟨.str, 1, 16, [.str []], .str, false⟩),
  (10, ⟨.str, 1, 16, [.str []], .str, false⟩),
  (11, ⟨.str, 1, 16, [.str []], .str, false⟩),
  (12, ⟨.int .u64, 1, 8, [.int .u64 0], (.int .u64), false⟩),
  (13, ⟨.struct [(9, 0, 1), (12, 1, 1)], 2, 24, [.str [], .int .u64 0], (.st 2), false⟩),
  (14, ⟨.struct [(9, 0, 1), (12, 1, 1)], 2, 24, [.str [], .int .u64 0], (.st 3), false⟩),
  (15, ⟨.ptr 209, 1, 8, [.nilP], .bo, false⟩),
  (16, ⟨.ptr 212, 1, 8, [.nilP], .bo, false⟩),
  (17, ⟨.ptr 220, 1, 8, [.nilP], .bo, false⟩),
  (18, ⟨.struct [(17, 0, 1)], 1, 8, [.nilP], .bo, false⟩),
  (19, ⟨.struct [(17, 0, 1)], 1, 8, [.nilP], .bo, false⟩),
  (20, ⟨.iface, 1, 16, [.nilI], .bo, false⟩),
  (21, ⟨.int .i32, 1, 4, [.int .i32 0], (.int .i32), false⟩),
  (22, ⟨.slice 5, 1, 24, [.nilS], (.sl .u8), false⟩),
  (23, ⟨.array 32 5, 32, 32, [.a8 32 (fun _ => 0)], (.a8 32), true⟩),
  (24, ⟨.slice 34, 1, 24, [.nilS], (.sl (.st 4)), false⟩),
  (25, ⟨.struct [(3, 0, 1), (3, 1, 1), (23, 2, 32), (23, 34, 32), (24, 66, 1)], 67, 104, [.int .i64 0, .int .i64 0, .a8 32 (fun _ => 0), .a8 32 (fun _ => 0), .nilS], (.st 5), false⟩),
  (26, ⟨.struct [(3, 0, 1), (3, 1, 1), (23, 2, 32), (23, 34, 32), (24, 66, 1)], 67, 104, [.int .i64 0, .int .i64 0, .a8 32 (fun _ => 0), .a8 32 (fun _ => 0), .nilS], (.st 6), false⟩),
  (27, ⟨.func, 1, 8, [.nilF], .bo, false⟩),
  (28, ⟨.func, 1, 8, [.nilF], .bo, false⟩),
  (29, ⟨.func, 1, 8, [.nilF], .bo, false⟩),
  (30, ⟨.func, 1, 8, [.nilF], .bo, false⟩),
  (31, ⟨.func, 1, 8, [.nilF], .bo, false⟩),
  (32, ⟨.func, 1, 8, [.nilF], .bo, false⟩),
  (33, ⟨.struct [(3, 0, 1), (3, 1, 1), (3, 2, 1), (3, 3, 1), (22, 4, 1)], 5, 56, [.int .i64 0, .int .i64 0, .int .i64 0, .int .i64 0, .nilS], (.st 7), false⟩),
  (34, ⟨.struct [(3, 0, 1), (3, 1, 1), (3, 2, 1), (3, 3, 1), (22, 4, 1)], 5, 56, [.int .i64 0, .int .i64 0, .int .i64 0, .int .i64 0, .nilS], (.st 4), false⟩),
  (35, ⟨.func, 1, 8, [.nilF], .bo, false⟩),
  (36, ⟨.func, 1, 8, [.nilF], .bo, false⟩),
  (38, ⟨.func, 1, 8, [.nilF], .bo, false⟩),
  (39, ⟨.func, 1, 8, [.nilF], .bo, false⟩),
  (40, ⟨.func, 1, 8, [.nilF], .bo, false⟩),
  (41, ⟨.slice 3, 1, 24, [.nilS], (.sl (.int .i64)), false⟩),
  (42, ⟨.int .i64, 1, 8, [.int .i64 0], (.int .i64), false⟩),
  (43, ⟨.struct [(42, 0, 1), (3, 1, 1)], 2, 16, [.int .i64 0, .int .i64 0], (.st 8), true⟩),
  (44, ⟨.struct [(42, 0, 1), (3, 1, 1)], 2, 16, [.int .i64 0, .int .i64 0], (.st 9), true⟩),
  (45, ⟨.func, 1, 8, [.nilF], .bo, false⟩),
  (46, ⟨.slice 86, 1, 24, [.nilS], (.sl (.st 10)), false⟩),
  (47, ⟨.func, 1, 8, [.nilF], .bo, false⟩),
  (48, ⟨.func, 1, 8, [.nilF], .bo, false⟩),
  (49, ⟨.func, 1, 8, [.nilF], .bo, false⟩),
  (50, ⟨.func, 1, 8, [.nilF], .bo, false⟩),
  (51, ⟨.func, 1, 8, [.nilF], .bo, false⟩),
  (52, ⟨.func, 1, 8, [.nilF], .bo, false⟩),
  (53, ⟨.func, 1, 8, [.nilF], .bo, false⟩),
  (55, ⟨.func, 1, 8, [.nilF], .bo, false⟩),
  (56, ⟨.slice 133, 1, 24, [.nilS], (.sl (.int .u32)), false⟩),
  (57, ⟨.struct [(56, 0, 1), (56, 1, 1)], 2, 48, [.nilS, .nilS], (.st 11), false⟩),
  (58, ⟨.struct [(56, 0, 1), (56, 1, 1)], 2, 48, [.nilS, .nilS], (.st 12), false⟩),
  (59, ⟨.func, 1, 8, [.nilF], .bo, false⟩),
  (60, ⟨.func, 1, 8, [.nilF], .bo, false⟩),
  (61, ⟨.func, 1, 8, [.nilF], .bo, false⟩),
  (62, ⟨.func, 1, 8, [.nilF], .bo, false⟩),
  (63, ⟨.func, 1, 8, [.nilF], .bo, false⟩),
  (64, ⟨.func, 1, 8, [.nilF], .bo, false⟩),
  (65, ⟨.func, 1, 8, [.nilF], .bo, false⟩),
  (66, ⟨.func, 1, 8, [.nilF], .bo, false⟩),
  (70, ⟨.struct [(3, 0, 1), (3, 1, 1)], 2, 16, [.int .i64 0, .int .i64 0], (.st 13), true⟩),
  (71, ⟨.struct [(3, 0, 1), (3, 1, 1)], 2, 16, [.int .i64 0, .int .i64 0], (.st 14), true⟩),
  (72, ⟨.func, 1, 8, [.nilF], .bo, false⟩),
  (86, ⟨.struct [(3, 0, 1), (3, 1, 1)], 2, 16, [.int .i64 0, .int .i64 0], (.st 10), true⟩),
  (87, ⟨.func, 1, 8, [.nilF], .bo, false⟩),
  (88, ⟨.func, 1, 8, [.nilF], .bo, false⟩),
  (90, ⟨.func, 1, 8, [.nilF], .bo, false⟩),
  (94, ⟨.ptr 139, 1, 8, [.nilP], .bo, false⟩),
  (97, ⟨.func, 1, 8, [.nilF], .bo, false⟩),
  (98, ⟨.func, 1, 8, [.nilF], .bo, false⟩),
  (99, ⟨.func, 1, 8, [.nilF], .bo, false⟩),
  (100, ⟨.func, 1, 8, [.nilF], .bo, false⟩),
  (101, ⟨.func, 1, 8, [.nilF], .bo, false⟩),
  (102, ⟨.func, 1, 8, [.nilF], .bo, false⟩),
  (105, ⟨.func, 1, 8, [.nilF], .bo, false⟩),
  (107, ⟨.func, 1, 8, [.nilF], .bo, false⟩),
  (108, ⟨.func, 1, 8, [.nilF], .bo, false⟩),
  (110, ⟨.func, 1, 8, [.nilF], .bo, false⟩),
  (111, ⟨.func, 1, 8, [.nilF], .bo, false⟩),
  (114, ⟨.func, 1, 8, [.nilF], .bo, false⟩),
  (116, ⟨.func, 1, 8, [.nilF], .bo, false⟩),
  (117, ⟨.func, 1, 8, [.nilF], .bo, false⟩),
  (118, ⟨.func, 1, 8, [.nilF], .bo, false⟩),
  (119, ⟨.ptr 159, 1, 8, [.nilP], .bo, false⟩),
  (120, ⟨.func, 1, 8, [.nilF], .bo, false⟩),
  (126, ⟨.slice 22, 1, 24, [.nilS], (.sl (.sl .u8)), false⟩),
  (128, ⟨.func, 1, 8, [.nilF], .bo, false⟩),
  (133, ⟨.int .u32, 1, 4, [.int .u32 0], (.int .u32), false⟩),
  (134, ⟨.array 8 133, 8, 32, [.ai 8 .u32 (fun _ => 0)], (.ai 8 .u32), false⟩),
  (136, ⟨.struct [(134, 0, 8), (22, 8, 1), (3, 9, 1)], 10, 64, [.ai 8 .u32 (fun _ => 0), .nilS, .int .i64 0], (.st 15), false⟩),
  (139, ⟨.struct [(136, 0, 10)], 10, 64, [.ai 8 .u32 (fun _ => 0), .nilS, .int .i64 0], (.st 16), false⟩),
  (146, ⟨.slice 149, 1, 24, [.nilS], (.sl (.int .u64)), false⟩),
  (149, ⟨.int .u64, 1, 8, [.int .u64 0], (.int .u64), false⟩),
  (153, ⟨.struct [(71, 0, 2)], 2, 16, [.int .i64 0, .int .i64 0], (.st 17), true⟩),
  (168, ⟨.int .u64, 1, 8, [.int .u64 0], (.int .u64), false⟩),
  (171, ⟨.ptr 136, 1, 8, [.nilP], .bo, false⟩),
  (181, ⟨.array 16 133, 16, 64, [.ai 16 .u32 (fun _ => 0)], (.ai 16 .u32), false⟩),
  (182, ⟨.array 64 133, 64, 256, [.ai 64 .u32 (fun _ => 0)], (.ai 64 .u32), false⟩),
  (185, ⟨.array 4 149, 4, 32, [.ai 4 .u64 (fun _ => 0)], (.ai 4 .u64), false⟩),
  (200, ⟨.func, 1, 8, [.nilF], .bo, false⟩)]
def tt (t : TypeId) : Option (TI Sx) := look t tyL
end E
namespace E
theorem flat_ : ∀ i, (tb i).fs.all noSt = true
  | 0 => rfl
  | 1 => rfl
  | 2 => rfl
  | 3 => rfl
  | 4 => rfl
  | 5 => rfl
  | 6 => rfl
  | 7 => rfl
  | 8 => rfl
  | 9 => rfl
  | 10 => rfl
  | 11 => rfl
  | 12 => rfl
  | 13 => rfl
  | 14 => rfl
  | 15 => rfl
  | 16 => rfl
  | 17 => rfl
  | _ + 18 => rfl
theorem max_ : ∀ i, (tb i).fs.all (fun c => Nat.ble (maxSt c) i) = true
  | 0 => rfl
  | 1 => rfl
  | 2 => rfl
  | 3 => rfl
  | 4 => rfl
  | 5 => rfl
  | 6 => rfl
  | 7 => rfl
  | 8 => rfl
  | 9 => rfl
  | 10 => rfl
  | 11 => rfl
  | 12 => rfl
  | 13 => rfl
  | 14 => rfl
  | 15 => rfl
  | 16 => rfl
  | 17 => rfl
  | _ + 18 => by simp [tb, maxSt]
theorem ne_ : ∀ i, (tb i).fs ≠ []
  | 0 => (fun h => by cases h)
  | 1 => (fun h => by cases h)
  | 2 => (fun h => by cases h)
  | 3 => (fun h => by cases h)
  | 4 => (fun h => by cases h)
  | 5 => (fun h => by cases h)
  | 6 => (fun h => by cases h)
  | 7 => (fun h => by cases h)
  | 8 => (fun h => by cases h)
  | 9 => (fun h => by cases h)
  | 10 => (fun h => by cases h)
  | 11 => (fun h => by cases h)
  | 12 => (fun h => by cases h)
  | 13 => (fun h => by cases h)
  | 14 => (fun h => by cases h)
  | 15 => (fun h => by cases h)
  | 16 => (fun h => by cases h)
  | 17 => (fun h => by cases h)
  | _ + 18 => (fun h => by cases h)
theorem to_of_ : ∀ i (h : HL Sx (tb i).fs), (tb i).to ((tb i).of h) = h
  | 0, _ => rfl
  | 1, _ => rfl
  | 2, _ => rfl
  | 3, _ => rfl
  | 4, _ => rfl
  | 5, _ => rfl
  | 6, _ => rfl
  | 7, _ => rfl
  | 8, _ => rfl
  | 9, _ => rfl
  | 10, _ => rfl
  | 11, _ => rfl
  | 12, _ => rfl
  | 13, _ => rfl
  | 14, _ => rfl
  | 15, _ => rfl
  | 16, _ => rfl
  | 17, _ => rfl
  | _ + 18, _ => rfl
noncomputable def KT : TbOK tb := tbOK (rgP Try.prog) Bx Bxm flat_ (fun i c hc => Nat.le_of_ble_eq_true (List.all_eq_true.1 (max_ i) c hc)) ne_ to_of_
theorem ty_1 : TyOK Try.prog 1 (⟨.func, 1, 8, [.nilF], .bo, false⟩ : TI Sx) := ⟨(show (Try.prog.underlying 1).map isFuncD = some true by kernel_rfl), by kernel_rfl, by kernel_rfl, by kernel_rfl, fun _ => rfl⟩
theorem ty_2 : TyOK Try.prog 2 (⟨.int .i64, 1, 8, [.int .i64 0], (.int .i64), false⟩ : TI Sx) := ⟨(show Try.prog.underlying 2 = some (.int .i64) by kernel_rfl), by kernel_rfl, by kernel_rfl, by kernel_rfl, fun _ => rfl⟩
theorem ty_3 : TyOK Try.prog 3 (⟨.int .i64, 1, 8, [.int .i64 0], (.int .i64), false⟩ : TI Sx) := ⟨(show Try.prog.underlying 3 = some (.int .i64) by kernel_rfl), by kernel_rfl, by kernel_rfl, by kernel_rfl, fun _ => rfl⟩
theorem ty_4 : TyOK Try.prog 4 (⟨.bool, 1, 1, [.tt false], .bo, false⟩ : TI Sx) := ⟨(show Try.prog.underlying 4 = some (.bool) by kernel_rfl), by kernel_rfl, by kernel_rfl, by kernel_rfl, fun _ => rfl⟩
theorem ty_5 : TyOK Try.prog 5 (⟨.int .u8, 1, 1, [.u8 0], .u8, false⟩ : TI Sx) := ⟨(show Try.prog.underlying 5 = some (.int .u8) by kernel_rfl), by kernel_rfl, by kernel_rfl, by kernel_rfl, fun _ => rfl⟩
theorem ty_6 : TyOK Try.prog 6 (⟨.int .u8, 1, 1, [.u8 0], .u8, false⟩ : TI Sx) := ⟨(show Try.prog.underlying 6 = some (.int .u8) by kernel_rfl), by kernel_rfl, by kernel_rfl, by kernel_rfl, fun _ => rfl⟩
theorem ty_7 : TyOK Try.prog 7 (⟨.struct [(2, 0, 1), (3, 1, 1), (4, 2, 1), (6, 3, 1)], 4, 24, [.int .i64 0, .int .i64 0, .tt false, .u8 0], (.st 0), true⟩ : TI Sx) := ⟨(show undS Try.prog 7 = some [(2, 0, 1), (3, 1, 1), (4, 2, 1), (6, 3, 1)] by kernel_rfl), by kernel_rfl, by kernel_rfl, by kernel_rfl, fun h => by cases h⟩
theorem ty_8 : TyOK Try.prog 8 (⟨.struct [(2, 0, 1), (3, 1, 1), (4, 2, 1), (6, 3, 1)], 4, 24, [.int .i64 0, .int .i64 0, .tt false, .u8 0], (.st 1), true⟩ : TI Sx) := ⟨(show undS Try.prog 8 = some [(2, 0, 1), (3, 1, 1), (4, 2, 1), (6, 3, 1)] by kernel_rfl), by kernel_rfl, by kernel_rfl, by kernel_rfl, fun h => by cases h⟩
theorem ty_9 : TyOK Try.prog 9 (⟨.str, 1, 16, [.str []], .str, false⟩ : TI Sx) := ⟨(show Try.prog.underlying 9 = some (.string) by kernel_rfl), by kernel_rfl, by kernel_rfl, by kernel_rfl, fun _ => rfl⟩
theorem ty_10 : TyOK Try.prog 10 (⟨.str, 1, 16, [.str []], .str, false⟩ : TI Sx) := ⟨(show Try.prog.underlying 10 = some (.string) by kernel_rfl), by kernel_rfl, by kernel_rfl, by kernel_rfl, fun _ => rfl⟩
theorem ty_11 : TyOK Try.prog 11 (⟨.str, 1, 16, [.str []], .str, false⟩ : TI Sx) := ⟨(show Try.prog.underlying 11 = some (.string) by kernel_rfl), by kernel_rfl, by kernel_rfl, by kernel_rfl, fun _ => rfl⟩
theorem ty_12 : TyOK Try.prog 12 (⟨.int .u64, 1, 8, [.int .u64 0], (.int .u64), false⟩ : TI Sx) := ⟨(show Try.prog.underlying 12 = some (.int .u64) by kernel_rfl), by kernel_rfl, by kernel_rfl, by kernel_rfl, fun _ => rfl⟩
theorem ty_13 : TyOK Try.prog 13 (⟨.struct [(9, 0, 1), (12, 1, 1)], 2, 24, [.str [], .int .u64 0], (.st 2), false⟩ : TI Sx) := ⟨(show undS Try.prog 13 = some [(9, 0, 1), (12, 1, 1)] by kernel_rfl), by kernel_rfl, by kernel_rfl, by kernel_rfl, fun h => by cases h⟩
theorem ty_14 : TyOK Try.prog 14 (⟨.struct [(9, 0, 1), (12, 1, 1)], 2, 24, [.str [], .int .u64 0], (.st 3), false⟩ : TI Sx) := ⟨(show undS Try.prog 14 = some [(9, 0, 1), (12, 1, 1)] by kernel_rfl), by kernel_rfl, by kernel_rfl, by kernel_rfl, fun h => by cases h⟩
theorem ty_15 : TyOK Try.prog 15 (⟨.ptr 209, 1, 8, [.nilP], .bo, false⟩ : TI Sx) := ⟨(show Try.prog.underlying 15 = some (.pointer 209) by kernel_rfl), by kernel_rfl, by kernel_rfl, by kernel_rfl, fun _ => rfl⟩
theorem ty_16 : TyOK Try.prog 16 (⟨.ptr 212, 1, 8, [.nilP], .bo, false⟩ : TI Sx) := ⟨(show Try.prog.underlying 16 = some (.pointer 212) by kernel_rfl), by kernel_rfl, by kernel_rfl, by kernel_rfl, fun _ => rfl⟩
theorem ty_17 : TyOK Try.prog 17 (⟨.ptr 220, 1, 8, [.nilP], .bo, false⟩ : TI Sx) := ⟨(show Try.prog.underlying 17 = some (.pointer 220) by kernel_rfl), by kernel_rfl, by kernel_rfl, by kernel_rfl, fun _ => rfl⟩
theorem ty_18 : TyOK Try.prog 18 (⟨.struct [(17, 0, 1)], 1, 8, [.nilP], .bo, false⟩ : TI Sx) := ⟨(show undS Try.prog 18 = some [(17, 0, 1)] by kernel_rfl), by kernel_rfl, by kernel_rfl, by kernel_rfl, fun h => by cases h⟩
theorem ty_19 : TyOK Try.prog 19 (⟨.struct [(17, 0, 1)], 1, 8, [.nilP], .bo, false⟩ : TI Sx) := ⟨(show undS Try.prog 19 = some [(17, 0, 1)] by kernel_rfl), by kernel_rfl, by kernel_rfl, by kernel_rfl, fun h => by cases h⟩
theorem ty_20 : TyOK Try.prog 20 (⟨.iface, 1, 16, [.nilI], .bo, false⟩ : TI Sx) := ⟨(show (Try.prog.underlying 20).map isAggD = some false by kernel_rfl), by kernel_rfl, by kernel_rfl, by kernel_rfl, fun _ => rfl⟩
theorem ty_21 : TyOK Try.prog 21 (⟨.int .i32, 1, 4, [.int .i32 0], (.int .i32), false⟩ : TI Sx) := ⟨(show Try.prog.underlying 21 = some (.int .i32) by kernel_rfl), by kernel_rfl, by kernel_rfl, by kernel_rfl, fun _ => rfl⟩
theorem ty_22 : TyOK Try.prog 22 (⟨.slice 5, 1, 24, [.nilS], (.sl .u8), false⟩ : TI Sx) := ⟨(show Try.prog.underlying 22 = some (.slice 5) by kernel_rfl), by kernel_rfl, by kernel_rfl, by kernel_rfl, fun _ => rfl⟩
theorem ty_23 : TyOK Try.prog 23 (⟨.array 32 5, 32, 32, [.a8 32 (fun _ => 0)], (.a8 32), true⟩ : TI Sx) := ⟨(show Try.prog.underlying 23 = some (.array 32 5) by kernel_rfl), by kernel_rfl, by kernel_rfl, by kernel_rfl, fun h => by cases h⟩
theorem ty_24 : TyOK Try.prog 24 (⟨.slice 34, 1, 24, [.nilS], (.sl (.st 4)), false⟩ : TI Sx) := ⟨(show Try.prog.underlying 24 = some (.slice 34) by kernel_rfl), by kernel_rfl, by kernel_rfl, by kernel_rfl, fun _ => rfl⟩
theorem ty_25 : TyOK Try.prog 25 (⟨.struct [(3, 0, 1), (3, 1, 1), (23, 2, 32), (23, 34, 32), (24, 66, 1)], 67, 104, [.int .i64 0, .int .i64 0, .a8 32 (fun _ => 0), .a8 32 (fun _ => 0), .nilS], (.st 5), false⟩ : TI Sx) := ⟨(show undS Try.prog 25 = some [(3, 0, 1), (3, 1, 1), (23, 2, 32), (23, 34, 32), (24, 66, 1)] by kernel_rfl), by kernel_rfl, by kernel_rfl, by kernel_rfl, fun h => by cases h⟩
theorem ty_26 : TyOK Try.prog 26 (⟨.struct [(3, 0, 1), (3, 1, 1), (23, 2, 32), (23, 34, 32), (24, 66, 1)], 67, 104, [.int .i64 0, .int .i64 0, .a8 32 (fun _ => 0), .a8 32 (fun _ => 0), .nilS], (.st 6), false⟩ : TI Sx) := ⟨(show undS Try.prog 26 = some [(3, 0, 1), (3, 1, 1), (23, 2, 32), (23, 34, 32), (24, 66, 1)] by kernel_rfl), by kernel_rfl, by kernel_rfl, by kernel_rfl, fun h => by cases h⟩
theorem ty_27 : TyOK Try.prog 27 (⟨.func, 1, 8, [.nilF], .bo, false⟩ : TI Sx) := ⟨(show (Try.prog.underlying 27).map isFuncD = some true by kernel_rfl), by kernel_rfl, by kernel_rfl, by kernel_rfl, fun _ => rfl⟩
theorem ty_28 : TyOK Try.prog 28 (⟨.func, 1, 8, [.nilF], .bo, false⟩ : TI Sx) := ⟨(show (Try.prog.underlying 28).map isFuncD = some true by kernel_rfl), by kernel_rfl, by kernel_rfl, by kernel_rfl, fun _ => rfl⟩
theorem ty_29 : TyOK Try.prog 29 (⟨.func, 1, 8, [.nilF], .bo, false⟩ : TI Sx) := ⟨(show (Try.prog.underlying 29).map isFuncD = some true by kernel_rfl), by kernel_rfl, by kernel_rfl, by kernel_rfl, fun _ => rfl⟩
theorem ty_30 : TyOK Try.prog 30 (⟨.func, 1, 8, [.nilF], .bo, false⟩ : TI Sx) := ⟨(show (Try.prog.underlying 30).map isFuncD = some true by kernel_rfl), by kernel_rfl, by kernel_rfl, by kernel_rfl, fun _ => rfl⟩
theorem ty_31 : TyOK Try.prog 31 (⟨.func, 1, 8, [.nilF], .bo, false⟩ : TI Sx) := ⟨(show (Try.prog.underlying 31).map isFuncD = some true by kernel_rfl), by kernel_rfl, by kernel_rfl, by kernel_rfl, fun _ => rfl⟩
theorem ty_32 : TyOK Try.prog 32 (⟨.func, 1, 8, [.nilF], .bo, false⟩ : TI Sx) := ⟨(show (Try.prog.underlying 32).map isFuncD = some true by kernel_rfl), by kernel_rfl, by kernel_rfl, by kernel_rfl, fun _ => rfl⟩
theorem ty_33 : TyOK Try.prog 33 (⟨.struct [(3, 0, 1), (3, 1, 1), (3, 2, 1), (3, 3, 1), (22, 4, 1)], 5, 56, [.int .i64 0, .int .i64 0, .int .i64 0, .int .i64 0, .nilS], (.st 7), false⟩ : TI Sx) := ⟨(show undS Try.prog 33 = some [(3, 0, 1), (3, 1, 1), (3, 2, 1), (3, 3, 1), (22, 4, 1)] by kernel_rfl), by kernel_rfl, by kernel_rfl, by kernel_rfl, fun h => by cases h⟩
theorem ty_34 : TyOK Try.prog 34 (⟨.struct [(3, 0, 1), (3, 1, 1), (3, 2, 1), (3, 3, 1), (22, 4, 1)], 5, 56, [.int .i64 0, .int .i64 0, .int .i64 0, .int .i64 0, .nilS], (.st 4), false⟩ : TI Sx) := ⟨(show undS Try.prog 34 = some [(3, 0, 1), (3, 1, 1), (3, 2, 1), (3, 3, 1), (22, 4, 1)] by kernel_rfl), by kernel_rfl, by kernel_rfl, by kernel_rfl, fun h => by cases h⟩
theorem ty_35 : TyOK Try.prog 35 (⟨.func, 1, 8, [.nilF], .bo, false⟩ : TI Sx) := ⟨(show (Try.prog.underlying 35).map isFuncD = some true by kernel_rfl), by kernel_rfl, by kernel_rfl, by kernel_rfl, fun _ => rfl⟩
theorem ty_36 : TyOK Try.prog 36 (⟨.func, 1, 8, [.nilF], .bo, false⟩ : TI Sx) := ⟨(show (Try.prog.underlying 36).map isFuncD = some true by kernel_rfl), by kernel_rfl, by kernel_rfl, by kernel_rfl, fun _ => rfl⟩
theorem ty_38 : TyOK Try.prog 38 (⟨.func, 1, 8, [.nilF], .bo, false⟩ : TI Sx) := ⟨(show (Try.prog.underlying 38).map isFuncD = some true by kernel_rfl), by kernel_rfl, by kernel_rfl, by kernel_rfl, fun _ => rfl⟩
theorem ty_39 : TyOK Try.prog 39 (⟨.func, 1, 8, [.nilF], .bo, false⟩ : TI Sx) := ⟨(show (Try.prog.underlying 39).map isFuncD = some true by kernel_rfl), by kernel_rfl, by kernel_rfl, by kernel_rfl, fun _ => rfl⟩
theorem ty_40 : TyOK Try.prog 40 (⟨.func, 1, 8, [.nilF], .bo, false⟩ : TI Sx) := ⟨(show (Try.prog.underlying 40).map isFuncD = some true by kernel_rfl), by kernel_rfl, by kernel_rfl, by kernel_rfl, fun _ => rfl⟩
theorem ty_41 : TyOK Try.prog 41 (⟨.slice 3, 1, 24, [.nilS], (.sl (.int .i64)), false⟩ : TI Sx) := ⟨(show Try.prog.underlying 41 = some (.slice 3) by kernel_rfl), by kernel_rfl, by kernel_rfl, by kernel_rfl, fun _ => rfl⟩
theorem ty_42 : TyOK Try.prog 42 (⟨.int .i64, 1, 8, [.int .i64 0], (.int .i64), false⟩ : TI Sx) := ⟨(show Try.prog.underlying 42 = some (.int .i64) by kernel_rfl), by kernel_rfl, by kernel_rfl, by kernel_rfl, fun _ => rfl⟩
theorem ty_43 : TyOK Try.prog 43 (⟨.struct [(42, 0, 1), (3, 1, 1)], 2, 16, [.int .i64 0, .int .i64 0], (.st 8), true⟩ : TI Sx) := ⟨(show undS Try.prog 43 = some [(42, 0, 1), (3, 1, 1)] by kernel_rfl), by kernel_rfl, by kernel_rfl, by kernel_rfl, fun h => by cases h⟩
theorem ty_44 : TyOK Try.prog 44 (⟨.struct [(42, 0, 1), (3, 1, 1)], 2, 16, [.int .i64 0, .int .i64 0], (.st 9), true⟩ : TI Sx) := ⟨(show undS Try.prog 44 = some [(42, 0, 1), (3, 1, 1)] by kernel_rfl), by kernel_rfl, by kernel_rfl, by kernel_rfl, fun h => by cases h⟩
theorem ty_45 : TyOK Try.prog 45 (⟨.func, 1, 8, [.nilF], .bo, false⟩ : TI Sx) := ⟨(show (Try.prog.underlying 45).map isFuncD = some true by kernel_rfl), by kernel_rfl, by kernel_rfl, by kernel_rfl, fun _ => rfl⟩
theorem ty_46 : TyOK Try.prog 46 (⟨.slice 86, 1, 24, [.nilS], (.sl (.st 10)), false⟩ : TI Sx) := ⟨(show Try.prog.underlying 46 = some (.slice 86) by kernel_rfl), by kernel_rfl, by kernel_rfl, by kernel_rfl, fun _ => rfl⟩
theorem ty_47 : TyOK Try.prog 47 (⟨.func, 1, 8, [.nilF], .bo, false⟩ : TI Sx) := ⟨(show (Try.prog.underlying 47).map isFuncD = some true by kernel_rfl), by kernel_rfl, by kernel_rfl, by kernel_rfl, fun _ => rfl⟩
theorem ty_48 : TyOK Try.prog 48 (⟨.func, 1, 8, [.nilF], .bo, false⟩ : TI Sx) := ⟨(show (Try.prog.underlying 48).map isFuncD = some true by kernel_rfl), by kernel_rfl, by kernel_rfl, by kernel_rfl, fun _ => rfl⟩
theorem ty_49 : TyOK Try.prog 49 (⟨.func, 1, 8, [.nilF], .bo, false⟩ : TI Sx) := ⟨(show (Try.prog.underlying 49).map isFuncD = some true by kernel_rfl), by kernel_rfl, by kernel_rfl, by kernel_rfl, fun _ => rfl⟩
theorem ty_50 : TyOK Try.prog 50 (⟨.func, 1, 8, [.nilF], .bo, false⟩ : TI Sx) := ⟨(show (Try.prog.underlying 50).map isFuncD = some true by kernel_rfl), by kernel_rfl, by kernel_rfl, by kernel_rfl, fun _ => rfl⟩
theorem ty_51 : TyOK Try.prog 51 (⟨.func, 1, 8, [.nilF], .bo, false⟩ : TI Sx) := ⟨(show (Try.prog.underlying 51).map isFuncD = some true by kernel_rfl), by kernel_rfl, by kernel_rfl, by kernel_rfl, fun _ => rfl⟩
theorem ty_52 : TyOK Try.prog 52 (⟨.func, 1, 8, [.nilF], .bo, false⟩ : TI Sx) := ⟨(show (Try.prog.underlying 52).map isFuncD = some true by kernel_rfl), by kernel_rfl, by kernel_rfl, by kernel_rfl, fun _ => rfl⟩
theorem ty_53 : TyOK Try.prog 53 (⟨.func, 1, 8, [.nilF], .bo, false⟩ : TI Sx) := ⟨(show (Try.prog.underlying 53).map isFuncD = some true by kernel_rfl), by kernel_rfl, by kernel_rfl, by kernel_rfl, fun _ => rfl⟩
theorem ty_55 : TyOK Try.prog 55 (⟨.func, 1, 8, [.nilF], .bo, false⟩ : TI Sx) := ⟨(show (Try.prog.underlying 55).map isFuncD = some true by kernel_rfl), by kernel_rfl, by kernel_rfl, by kernel_rfl, fun _ => rfl⟩
theorem ty_56 : TyOK Try.prog 56 (⟨.slice 133, 1, 24, [.nilS], (.sl (.int .u32)), false⟩ : TI Sx) := ⟨(show Try.prog.underlying 56 = some (.slice 133) by kernel_rfl), by kernel_rfl, by kernel_rfl, by kernel_rfl, fun _ => rfl⟩
theorem ty_57 : TyOK Try.prog 57 (⟨.struct [(56, 0, 1), (56, 1, 1)], 2, 48, [.nilS, .nilS], (.st 11), false⟩ : TI Sx) := ⟨(show undS Try.prog 57 = some [(56, 0, 1), (56, 1, 1)] by kernel_rfl), by kernel_rfl, by kernel_rfl, by kernel_rfl, fun h => by cases h⟩
theorem ty_58 : TyOK Try.prog 58 (⟨.struct [(56, 0, 1), (56, 1, 1)], 2, 48, [.nilS, .nilS], (.st 12), false⟩ : TI Sx) := ⟨(show undS Try.prog 58 = some [(56, 0, 1), (56, 1, 1)] by kernel_rfl), by kernel_rfl, by kernel_rfl, by kernel_rfl, fun h => by cases h⟩
theorem ty_59 : TyOK Try.prog 59 (⟨.func, 1, 8, [.nilF], .bo, false⟩ : TI Sx) := ⟨(show (Try.prog.underlying 59).map isFuncD = some true by kernel_rfl), by kernel_rfl, by kernel_rfl, by kernel_rfl, fun _ => rfl⟩
theorem ty_60 : TyOK Try.prog 60 (⟨.func, 1, 8, [.nilF], .bo, false⟩ : TI Sx) := ⟨(show (Try.prog.underlying 60).map isFuncD = some true by kernel_rfl), by kernel_rfl, by kernel_rfl, by kernel_rfl, fun _ => rfl⟩
theorem ty_61 : TyOK Try.prog 61 (⟨.func, 1, 8, [.nilF], .bo, false⟩ : TI Sx) := ⟨(show (Try.prog.underlying 61).map isFuncD = some true by kernel_rfl), by kernel_rfl, by kernel_rfl, by kernel_rfl, fun _ => rfl⟩
theorem ty_62 : TyOK Try.prog 62 (⟨.func, 1, 8, [.nilF], .bo, false⟩ : TI Sx) := ⟨(show (Try.prog.underlying 62).map isFuncD = some true by kernel_rfl), by kernel_rfl, by kernel_rfl, by kernel_rfl, fun _ => rfl⟩
theorem ty_63 : TyOK Try.prog 63 (⟨.func, 1, 8, [.nilF], .bo, false⟩ : TI Sx) := ⟨(show (Try.prog.underlying 63).map isFuncD = some true by kernel_rfl), by kernel_rfl, by kernel_rfl, by kernel_rfl, fun _ => rfl⟩
theorem ty_64 : TyOK Try.prog 64 (⟨.func, 1, 8, [.nilF], .bo, false⟩ : TI Sx) := ⟨(show (Try.prog.underlying 64).map isFuncD = some true by kernel_rfl), by kernel_rfl, by kernel_rfl, by kernel_rfl, fun _ => rfl⟩
theorem ty_65 : TyOK Try.prog 65 (⟨.func, 1, 8, [.nilF], .bo, false⟩ : TI Sx) := ⟨(show (Try.prog.underlying 65).map isFuncD = some true by kernel_rfl), by kernel_rfl, by kernel_rfl, by kernel_rfl, fun _ => rfl⟩
theorem ty_66 : TyOK Try.prog 66 (⟨.func, 1, 8, [.nilF], .bo, false⟩ : TI Sx) := ⟨(show (Try.prog.underlying 66).map isFuncD = some true by kernel_rfl), by kernel_rfl, by kernel_rfl, by kernel_rfl, fun _ => rfl⟩
theorem ty_70 : TyOK Try.prog 70 (⟨.struct [(3, 0, 1), (3, 1, 1)], 2, 16, [.int .i64 0, .int .i64 0], (.st 13), true⟩ : TI Sx) := ⟨(show undS Try.prog 70 = some [(3, 0, 1), (3, 1, 1)] by kernel_rfl), by kernel_rfl, by kernel_rfl, by kernel_rfl, fun h => by cases h⟩
theorem ty_71 : TyOK Try.prog 71 (⟨.struct [(3, 0, 1), (3, 1, 1)], 2, 16, [.int .i64 0, .int .i64 0], (.st 14), true⟩ : TI Sx) := ⟨(show undS Try.prog 71 = some [(3, 0, 1), (3, 1, 1)] by kernel_rfl), by kernel_rfl, by kernel_rfl, by kernel_rfl, fun h => by cases h⟩
theorem ty_72 : TyOK Try.prog 72 (⟨.func, 1, 8, [.nilF], .bo, false⟩ : TI Sx) := ⟨(show (Try.prog.underlying 72).map isFuncD = some true by kernel_rfl), by kernel_rfl, by kernel_rfl, by kernel_rfl, fun _ => rfl⟩
theorem ty_86 : TyOK Try.prog 86 (⟨.struct [(3, 0, 1), (3, 1, 1)], 2, 16, [.int .i64 0, .int .i64 0], (.st 10), true⟩ : TI Sx) := ⟨(show undS Try.prog 86 = some [(3, 0, 1), (3, 1, 1)] by kernel_rfl), by kernel_rfl, by kernel_rfl, by kernel_rfl, fun h => by cases h⟩
theorem ty_87 : TyOK Try.prog 87 (⟨.func, 1, 8, [.nilF], .bo, false⟩ : TI Sx) := ⟨(show (Try.prog.underlying 87).map isFuncD = some true by kernel_rfl), by kernel_rfl, by kernel_rfl, by kernel_rfl, fun _ => rfl⟩
theorem ty_88 : TyOK Try.prog 88 (⟨.func, 1, 8, [.nilF], .bo, false⟩ : TI Sx) := ⟨(show (Try.prog.underlying 88).map isFuncD = some true by kernel_rfl), by kernel_rfl, by kernel_rfl, by kernel_rfl, fun _ => rfl⟩
theorem ty_90 : TyOK Try.prog 90 (⟨.func, 1, 8, [.nilF], .bo, false⟩ : TI Sx) := ⟨(show (Try.prog.underlying 90).map isFuncD = some true by kernel_rfl), by kernel_rfl, by kernel_rfl, by kernel_rfl, fun _ => rfl⟩
theorem ty_94 : TyOK Try.prog 94 (⟨.ptr 139, 1, 8, [.nilP], .bo, false⟩ : TI Sx) := ⟨(show Try.prog.underlying 94 = some (.pointer 139) by kernel_rfl), by kernel_rfl, by kernel_rfl, by kernel_rfl, fun _ => rfl⟩
theorem ty_97 : TyOK Try.prog 97 (⟨.func, 1, 8, [.nilF], .bo, false⟩ : TI Sx) := ⟨(show (Try.prog.underlying 97).map isFuncD = some true by kernel_rfl), by kernel_rfl, by kernel_rfl, by kernel_rfl, fun _ => rfl⟩
theorem ty_98 : TyOK Try.prog 98 (⟨.func, 1, 8, [.nilF], .bo, false⟩ : TI Sx) := ⟨(show (Try.prog.underlying 98).map isFuncD = some true by kernel_rfl), by kernel_rfl, by kernel_rfl, by kernel_rfl, fun _ => rfl⟩
theorem ty_99 : TyOK Try.prog 99 (⟨.func, 1, 8, [.nilF], .bo, false⟩ : TI Sx) := ⟨(show (Try.prog.underlying 99).map isFuncD = some true by kernel_rfl), by kernel_rfl, by kernel_rfl, by kernel_rfl, fun _ => rfl⟩
theorem ty_100 : TyOK Try.prog 100 (⟨.func, 1, 8, [.nilF], .bo, false⟩ : TI Sx) := ⟨(show (Try.prog.underlying 100).map isFuncD = some true by kernel_rfl), by kernel_rfl, by kernel_rfl, by kernel_rfl, fun _ => rfl⟩
theorem ty_101 : TyOK Try.prog 101 (⟨.func, 1, 8, [.nilF], .bo, false⟩ : TI Sx) := ⟨(show (Try.prog.underlying 101).map isFuncD = some true by kernel_rfl), by kernel_rfl, by kernel_rfl, by kernel_rfl, fun _ => rfl⟩
theorem ty_102 : TyOK Try.prog 102 (⟨.func, 1, 8, [.nilF], .bo, false⟩ : TI Sx) := ⟨(show (Try.prog.underlying 102).map isFuncD = some true by kernel_rfl), by kernel_rfl, by kernel_rfl, by kernel_rfl, fun _ => rfl⟩
theorem ty_105 : TyOK Try.prog 105 (⟨.func, 1, 8, [.nilF], .bo, false⟩ : TI Sx) := ⟨(show (Try.prog.underlying 105).map isFuncD = some true by kernel_rfl), by kernel_rfl, by kernel_rfl, by kernel_rfl, fun _ => rfl⟩
theorem ty_107 : TyOK Try.prog 107 (⟨.func, 1, 8, [.nilF], .bo, false⟩ : TI Sx) := ⟨(show (Try.prog.underlying 107).map isFuncD = some true by kernel_rfl), by kernel_rfl, by kernel_rfl, by kernel_rfl, fun _ => rfl⟩
theorem ty_108 : TyOK Try.prog 108 (⟨.func, 1, 8, [.nilF], .bo, false⟩ : TI Sx) := ⟨(show (Try.prog.underlying 108).map isFuncD = some true by kernel_rfl), by kernel_rfl, by kernel_rfl, by kernel_rfl, fun _ => rfl⟩
theorem ty_110 : TyOK Try.prog 110 (⟨.func, 1, 8, [.nilF], .bo, false⟩ : TI Sx) := ⟨(show (Try.prog.underlying 110).map isFuncD = some true by kernel_rfl), by kernel_rfl, by kernel_rfl, by kernel_rfl, fun _ => rfl⟩
theorem ty_111 : TyOK Try.prog 111 (⟨.func, 1, 8, [.nilF], .bo, false⟩ : TI Sx) := ⟨(show (Try.prog.underlying 111).map isFuncD = some true by kernel_rfl), by kernel_rfl, by kernel_rfl, by kernel_rfl, fun _ => rfl⟩
theorem ty_114 : TyOK Try.prog 114 (⟨.func, 1, 8, [.nilF], .bo, false⟩ : TI Sx) := ⟨(show (Try.prog.underlying 114).map isFuncD = some true by kernel_rfl), by kernel_rfl, by kernel_rfl, by kernel_rfl, fun _ => rfl⟩
theorem ty_116 : TyOK Try.prog 116 (⟨.func, 1, 8, [.nilF], .bo, false⟩ : TI Sx) := ⟨(show (Try.prog.underlying 116).map isFuncD = some true by kernel_rfl), by kernel_rfl, by kernel_rfl, by kernel_rfl, fun _ => rfl⟩
theorem ty_117 : TyOK Try.prog 117 (⟨.func, 1, 8, [.nilF], .bo, false⟩ : TI Sx) := ⟨(show (Try.prog.underlying 117).map isFuncD = some true by kernel_rfl), by kernel_rfl, by kernel_rfl, by kernel_rfl, fun _ => rfl⟩
theorem ty_118 : TyOK Try.prog 118 (⟨.func, 1, 8, [.nilF], .bo, false⟩ : TI Sx) := ⟨(show (Try.prog.underlying 118).map isFuncD = some true by kernel_rfl), by kernel_rfl, by kernel_rfl, by kernel_rfl, fun _ => rfl⟩
theorem ty_119 : TyOK Try.prog 119 (⟨.ptr 159, 1, 8, [.nilP], .bo, false⟩ : TI Sx) := ⟨(show Try.prog.underlying 119 = some (.pointer 159) by kernel_rfl), by kernel_rfl, by kernel_rfl, by kernel_rfl, fun _ => rfl⟩
theorem ty_120 : TyOK Try.prog 120 (⟨.func, 1, 8, [.nilF], .bo, false⟩ : TI Sx) := ⟨(show (Try.prog.underlying 120).map isFuncD = some true by kernel_rfl), by kernel_rfl, by kernel_rfl, by kernel_rfl, fun _ => rfl⟩
theorem ty_126 : TyOK Try.prog 126 (⟨.slice 22, 1, 24, [.nilS], (.sl (.sl .u8)), false⟩ : TI Sx) := ⟨(show Try.prog.underlying 126 = some (.slice 22) by kernel_rfl), by kernel_rfl, by kernel_rfl, by kernel_rfl, fun _ => rfl⟩
theorem ty_128 : TyOK Try.prog 128 (⟨.func, 1, 8, [.nilF], .bo, false⟩ : TI Sx) := ⟨(show (Try.prog.underlying 128).map isFuncD = some true by kernel_rfl), by kernel_rfl, by kernel_rfl, by kernel_rfl, fun _ => rfl⟩
theorem ty_133 : TyOK Try.prog 133 (⟨.int .u32, 1, 4, [.int .u32 0], (.int .u32), false⟩ : TI Sx) := ⟨(show Try.prog.underlying 133 = some (.int .u32) by kernel_rfl), by kernel_rfl, by kernel_rfl, by kernel_rfl, fun _ => rfl⟩
theorem ty_134 : TyOK Try.prog 134 (⟨.array 8 133, 8, 32, [.ai 8 .u32 (fun _ => 0)], (.ai 8 .u32), false⟩ : TI Sx) := ⟨(show Try.prog.underlying 134 = some (.array 8 133) by kernel_rfl), by kernel_rfl, by kernel_rfl, by kernel_rfl, fun h => by cases h⟩
theorem ty_136 : TyOK Try.prog 136 (⟨.struct [(134, 0, 8), (22, 8, 1), (3, 9, 1)], 10, 64, [.ai 8 .u32 (fun _ => 0), .nilS, .int .i64 0], (.st 15), false⟩ : TI Sx) := ⟨(show undS Try.prog 136 = some [(134, 0, 8), (22, 8, 1), (3, 9, 1)] by kernel_rfl), by kernel_rfl, by kernel_rfl, by kernel_rfl, fun h => by cases h⟩
theorem ty_139 : TyOK Try.prog 139 (⟨.struct [(136, 0, 10)], 10, 64, [.ai 8 .u32 (fun _ => 0), .nilS, .int .i64 0], (.st 16), false⟩ : TI Sx) := ⟨(show undS Try.prog 139 = some [(136, 0, 10)] by kernel_rfl), by kernel_rfl, by kernel_rfl, by kernel_rfl, fun h => by cases h⟩
theorem ty_146 : TyOK Try.prog 146 (⟨.slice 149, 1, 24, [.nilS], (.sl (.int .u64)), false⟩ : TI Sx) := ⟨(show Try.prog.underlying 146 = some (.slice 149) by kernel_rfl), by kernel_rfl, by kernel_rfl, by kernel_rfl, fun _ => rfl⟩
theorem ty_149 : TyOK Try.prog 149 (⟨.int .u64, 1, 8, [.int .u64 0], (.int .u64), false⟩ : TI Sx) := ⟨(show Try.prog.underlying 149 = some (.int .u64) by kernel_rfl), by kernel_rfl, by kernel_rfl, by kernel_rfl, fun _ => rfl⟩
theorem ty_153 : TyOK Try.prog 153 (⟨.struct [(71, 0, 2)], 2, 16, [.int .i64 0, .int .i64 0], (.st 17), true⟩ : TI Sx) := ⟨(show undS Try.prog 153 = some [(71, 0, 2)] by kernel_rfl), by kernel_rfl, by kernel_rfl, by kernel_rfl, fun h => by cases h⟩
theorem ty_168 : TyOK Try.prog 168 (⟨.int .u64, 1, 8, [.int .u64 0], (.int .u64), false⟩ : TI Sx) := ⟨(show Try.prog.underlying 168 = some (.int .u64) by kernel_rfl), by kernel_rfl, by kernel_rfl, by kernel_rfl, fun _ => rfl⟩
theorem ty_171 : TyOK Try.prog 171 (⟨.ptr 136, 1, 8, [.nilP], .bo, false⟩ : TI Sx) := ⟨(show Try.prog.underlying 171 = some (.pointer 136) by kernel_rfl), by kernel_rfl, by kernel_rfl, by kernel_rfl, fun _ => rfl⟩
theorem ty_181 : TyOK Try.prog 181 (⟨.array 16 133, 16, 64, [.ai 16 .u32 (fun _ => 0)], (.ai 16 .u32), false⟩ : TI Sx) := ⟨(show Try.prog.underlying 181 = some (.array 16 133) by kernel_rfl), by kernel_rfl, by kernel_rfl, by kernel_rfl, fun h => by cases h⟩
theorem ty_182 : TyOK Try.prog 182 (⟨.array 64 133, 64, 256, [.ai 64 .u32 (fun _ => 0)], (.ai 64 .u32), false⟩ : TI Sx) := ⟨(show Try.prog.underlying 182 = some (.array 64 133) by kernel_rfl), by kernel_rfl, by kernel_rfl, by kernel_rfl, fun h => by cases h⟩
theorem ty_185 : TyOK Try.prog 185 (⟨.array 4 149, 4, 32, [.ai 4 .u64 (fun _ => 0)], (.ai 4 .u64), false⟩ : TI Sx) := ⟨(show Try.prog.underlying 185 = some (.array 4 149) by kernel_rfl), by kernel_rfl, by kernel_rfl, by kernel_rfl, fun h => by cases h⟩
theorem ty_200 : TyOK Try.prog 200 (⟨.func, 1, 8, [.nilF], .bo, false⟩ : TI Sx) := ⟨(show (Try.prog.underlying 200).map isFuncD = some true by kernel_rfl), by kernel_rfl, by kernel_rfl, by kernel_rfl, fun _ => rfl⟩
set_option maxRecDepth 100000 in
theorem eqS_7 (x0 : Int) (x1 : Int) (x2 : Bool) (x3 : UInt8) (y0 : Int) (y1 : Int) (y2 : Bool) (y3 : UInt8) (w : World) : (binOp .eql 7 (.agg #[.int .i64 x0, .int .i64 x1, .bool x2, .int .u8 (x3.toNat : Int)]) (.agg #[.int .i64 y0, .int .i64 y1, .bool y2, .int .u8 (y3.toNat : Int)])).run Try.prog w = .ok (.bool (decide (x0 = y0 ∧ x1 = y1 ∧ x2 = y2 ∧ (x3.toNat : Int) = (y3.toNat : Int)))) w := by
  simp [go_sem]; repeat' split
  all_goals simp_all
theorem eq_7 : EqT KT Try.prog 7 ([.int .i64 0, .int .i64 0, .tt false, .u8 0] : List (CV Sx)) := ⟨by kernel_rfl, fun g m vs ws p xs ys w hv hw hp h1 h2 => by
  obtain ⟨x0, _, rfl, hv1⟩ := kind_int hv
  obtain ⟨x1, _, rfl, hv2⟩ := kind_int hv1
  rcases kind_bo hv2 with ⟨x2, _, _, _, _, rfl, hv3⟩ | ⟨x2, _, rfl, hv3⟩
  all_goals
    obtain ⟨x3, _, rfl, hv4⟩ := kind_u8 hv3
    obtain rfl := kind_nil hv4
    obtain ⟨y0, _, rfl, hw1⟩ := kind_int hw
    obtain ⟨y1, _, rfl, hw2⟩ := kind_int hw1
    rcases kind_bo hw2 with ⟨y2, _, _, _, _, rfl, hw3⟩ | ⟨y2, _, rfl, hw3⟩
    all_goals
      obtain ⟨y3, _, rfl, hw4⟩ := kind_u8 hw3
      obtain rfl := kind_nil hw4
      obtain ⟨_, rfl, h1_1⟩ := cvs_int h1
      obtain ⟨_, rfl, h1_2⟩ := cvs_int h1_1
      first | obtain ⟨_, rfl, h1_3⟩ := cvs_tt h1_2 | obtain ⟨_, rfl, h1_3⟩ := cvs_bo h1_2
      obtain ⟨_, rfl, h1_4⟩ := cvs_u8 h1_3
      simp only [cvsR] at h1_4; subst h1_4
      obtain ⟨_, rfl, h2_1⟩ := cvs_int h2
      obtain ⟨_, rfl, h2_2⟩ := cvs_int h2_1
      first | obtain ⟨_, rfl, h2_3⟩ := cvs_tt h2_2 | obtain ⟨_, rfl, h2_3⟩ := cvs_bo h2_2
      obtain ⟨_, rfl, h2_4⟩ := cvs_u8 h2_3
      simp only [cvsR] at h2_4; subst h2_4
      simp only [eqCs, bit, Option.bind_some, Option.map_some, Option.some.injEq] at hp
      subst hp
      exact eqS_7 x0 x1 x2 x3 y0 y1 y2 y3 w⟩
set_option maxRecDepth 100000 in
theorem eqS_8 (x0 : Int) (x1 : Int) (x2 : Bool) (x3 : UInt8) (y0 : Int) (y1 : Int) (y2 : Bool) (y3 : UInt8) (w : World) : (binOp .eql 8 (.agg #[.int .i64 x0, .int .i64 x1, .bool x2, .int .u8 (x3.toNat : Int)]) (.agg #[.int .i64 y0, .int .i64 y1, .bool y2, .int .u8 (y3.toNat : Int)])).run Try.prog w = .ok (.bool (decide (x0 = y0 ∧ x1 = y1 ∧ x2 = y2 ∧ (x3.toNat : Int) = (y3.toNat : Int)))) w := by
  simp [go_sem]; repeat' split
  all_goals simp_all
theorem eq_8 : EqT KT Try.prog 8 ([.int .i64 0, .int .i64 0, .tt false, .u8 0] : List (CV Sx)) := ⟨by kernel_rfl, fun g m vs ws p xs ys w hv hw hp h1 h2 => by
  obtain ⟨x0, _, rfl, hv1⟩ := kind_int hv
  obtain ⟨x1, _, rfl, hv2⟩ := kind_int hv1
  rcases kind_bo hv2 with ⟨x2, _, _, _, _, rfl, hv3⟩ | ⟨x2, _, rfl, hv3⟩
  all_goals
    obtain ⟨x3, _, rfl, hv4⟩ := kind_u8 hv3
    obtain rfl := kind_nil hv4
    obtain ⟨y0, _, rfl, hw1⟩ := kind_int hw
    obtain ⟨y1, _, rfl, hw2⟩ := kind_int hw1
    rcases kind_bo hw2 with ⟨y2, _, _, _, _, rfl, hw3⟩ | ⟨y2, _, rfl, hw3⟩
    all_goals
      obtain ⟨y3, _, rfl, hw4⟩ := kind_u8 hw3
      obtain rfl := kind_nil hw4
      obtain ⟨_, rfl, h1_1⟩ := cvs_int h1
      obtain ⟨_, rfl, h1_2⟩ := cvs_int h1_1
      first | obtain ⟨_, rfl, h1_3⟩ := cvs_tt h1_2 | obtain ⟨_, rfl, h1_3⟩ := cvs_bo h1_2
      obtain ⟨_, rfl, h1_4⟩ := cvs_u8 h1_3
      simp only [cvsR] at h1_4; subst h1_4
      obtain ⟨_, rfl, h2_1⟩ := cvs_int h2
      obtain ⟨_, rfl, h2_2⟩ := cvs_int h2_1
      first | obtain ⟨_, rfl, h2_3⟩ := cvs_tt h2_2 | obtain ⟨_, rfl, h2_3⟩ := cvs_bo h2_2
      obtain ⟨_, rfl, h2_4⟩ := cvs_u8 h2_3
      simp only [cvsR] at h2_4; subst h2_4
      simp only [eqCs, bit, Option.bind_some, Option.map_some, Option.some.injEq] at hp
      subst hp
      exact eqS_8 x0 x1 x2 x3 y0 y1 y2 y3 w⟩
theorem eq_23 : EqT KT Try.prog 23 ([.a8 32 (fun _ => 0)] : List (CV Sx)) := ⟨by kernel_rfl, fun g m vs ws p xs ys w hv hw hp h1 h2 => by cases vs <;> simp [kindOk] at hv⟩
set_option maxRecDepth 100000 in
theorem eqS_43 (x0 : Int) (x1 : Int) (y0 : Int) (y1 : Int) (w : World) : (binOp .eql 43 (.agg #[.int .i64 x0, .int .i64 x1]) (.agg #[.int .i64 y0, .int .i64 y1])).run Try.prog w = .ok (.bool (decide (x0 = y0 ∧ x1 = y1))) w := by
  simp [go_sem]; repeat' split
  all_goals simp_all
theorem eq_43 : EqT KT Try.prog 43 ([.int .i64 0, .int .i64 0] : List (CV Sx)) := ⟨by kernel_rfl, fun g m vs ws p xs ys w hv hw hp h1 h2 => by
  obtain ⟨x0, _, rfl, hv1⟩ := kind_int hv
  obtain ⟨x1, _, rfl, hv2⟩ := kind_int hv1
  obtain rfl := kind_nil hv2
  obtain ⟨y0, _, rfl, hw1⟩ := kind_int hw
  obtain ⟨y1, _, rfl, hw2⟩ := kind_int hw1
  obtain rfl := kind_nil hw2
  obtain ⟨_, rfl, h1_1⟩ := cvs_int h1
  obtain ⟨_, rfl, h1_2⟩ := cvs_int h1_1
  simp only [cvsR] at h1_2; subst h1_2
  obtain ⟨_, rfl, h2_1⟩ := cvs_int h2
  obtain ⟨_, rfl, h2_2⟩ := cvs_int h2_1
  simp only [cvsR] at h2_2; subst h2_2
  simp only [eqCs, bit, Option.bind_some, Option.map_some, Option.some.injEq] at hp
  subst hp
  exact eqS_43 x0 x1 y0 y1 w⟩
set_option maxRecDepth 100000 in
theorem eqS_44 (x0 : Int) (x1 : Int) (y0 : Int) (y1 : Int) (w : World) : (binOp .eql 44 (.agg #[.int .i64 x0, .int .i64 x1]) (.agg #[.int .i64 y0, .int .i64 y1])).run Try.prog w = .ok (.bool (decide (x0 = y0 ∧ x1 = y1))) w := by
  simp [go_sem]; repeat' split
  all_goals simp_all
theorem eq_44 : EqT KT Try.prog 44 ([.int .i64 0, .int .i64 0] : List (CV Sx)) := ⟨by kernel_rfl, fun g m vs ws p xs ys w hv hw hp h1 h2 => by
  obtain ⟨x0, _, rfl, hv1⟩ := kind_int hv
  obtain ⟨x1, _, rfl, hv2⟩ := kind_int hv1
  obtain rfl := kind_nil hv2
  obtain ⟨y0, _, rfl, hw1⟩ := kind_int hw
  obtain ⟨y1, _, rfl, hw2⟩ := kind_int hw1
  obtain rfl := kind_nil hw2
  obtain ⟨_, rfl, h1_1⟩ := cvs_int h1
  obtain ⟨_, rfl, h1_2⟩ := cvs_int h1_1
  simp only [cvsR] at h1_2; subst h1_2
  obtain ⟨_, rfl, h2_1⟩ := cvs_int h2
  obtain ⟨_, rfl, h2_2⟩ := cvs_int h2_1
  simp only [cvsR] at h2_2; subst h2_2
  simp only [eqCs, bit, Option.bind_some, Option.map_some, Option.some.injEq] at hp
  subst hp
  exact eqS_44 x0 x1 y0 y1 w⟩
set_option maxRecDepth 100000 in
theorem eqS_70 (x0 : Int) (x1 : Int) (y0 : Int) (y1 : Int) (w : World) : (binOp .eql 70 (.agg #[.int .i64 x0, .int .i64 x1]) (.agg #[.int .i64 y0, .int .i64 y1])).run Try.prog w = .ok (.bool (decide (x0 = y0 ∧ x1 = y1))) w := by
  simp [go_sem]; repeat' split
  all_goals simp_all
theorem eq_70 : EqT KT Try.prog 70 ([.int .i64 0, .int .i64 0] : List (CV Sx)) := ⟨by kernel_rfl, fun g m vs ws p xs ys w hv hw hp h1 h2 => by
  obtain ⟨x0, _, rfl, hv1⟩ := kind_int hv
  obtain ⟨x1, _, rfl, hv2⟩ := kind_int hv1
  obtain rfl := kind_nil hv2
  obtain ⟨y0, _, rfl, hw1⟩ := kind_int hw
  obtain ⟨y1, _, rfl, hw2⟩ := kind_int hw1
  obtain rfl := kind_nil hw2
  obtain ⟨_, rfl, h1_1⟩ := cvs_int h1
  obtain ⟨_, rfl, h1_2⟩ := cvs_int h1_1
  simp only [cvsR] at h1_2; subst h1_2
  obtain ⟨_, rfl, h2_1⟩ := cvs_int h2
  obtain ⟨_, rfl, h2_2⟩ := cvs_int h2_1
  simp only [cvsR] at h2_2; subst h2_2
  simp only [eqCs, bit, Option.bind_some, Option.map_some, Option.some.injEq] at hp
  subst hp
  exact eqS_70 x0 x1 y0 y1 w⟩
set_option maxRecDepth 100000 in
theorem eqS_71 (x0 : Int) (x1 : Int) (y0 : Int) (y1 : Int) (w : World) : (binOp .eql 71 (.agg #[.int .i64 x0, .int .i64 x1]) (.agg #[.int .i64 y0, .int .i64 y1])).run Try.prog w = .ok (.bool (decide (x0 = y0 ∧ x1 = y1))) w := by
  simp [go_sem]; repeat' split
  all_goals simp_all
theorem eq_71 : EqT KT Try.prog 71 ([.int .i64 0, .int .i64 0] : List (CV Sx)) := ⟨by kernel_rfl, fun g m vs ws p xs ys w hv hw hp h1 h2 => by
  obtain ⟨x0, _, rfl, hv1⟩ := kind_int hv
  obtain ⟨x1, _, rfl, hv2⟩ := kind_int hv1
  obtain rfl := kind_nil hv2
  obtain ⟨y0, _, rfl, hw1⟩ := kind_int hw
  obtain ⟨y1, _, rfl, hw2⟩ := kind_int hw1
  obtain rfl := kind_nil hw2
  obtain ⟨_, rfl, h1_1⟩ := cvs_int h1
  obtain ⟨_, rfl, h1_2⟩ := cvs_int h1_1
  simp only [cvsR] at h1_2; subst h1_2
  obtain ⟨_, rfl, h2_1⟩ := cvs_int h2
  obtain ⟨_, rfl, h2_2⟩ := cvs_int h2_1
  simp only [cvsR] at h2_2; subst h2_2
  simp only [eqCs, bit, Option.bind_some, Option.map_some, Option.some.injEq] at hp
  subst hp
  exact eqS_71 x0 x1 y0 y1 w⟩
set_option maxRecDepth 100000 in
theorem eqS_86 (x0 : Int) (x1 : Int) (y0 : Int) (y1 : Int) (w : World) : (binOp .eql 86 (.agg #[.int .i64 x0, .int .i64 x1]) (.agg #[.int .i64 y0, .int .i64 y1])).run Try.prog w = .ok (.bool (decide (x0 = y0 ∧ x1 = y1))) w := by
  simp [go_sem]; repeat' split
  all_goals simp_all
theorem eq_86 : EqT KT Try.prog 86 ([.int .i64 0, .int .i64 0] : List (CV Sx)) := ⟨by kernel_rfl, fun g m vs ws p xs ys w hv hw hp h1 h2 => by
  obtain ⟨x0, _, rfl, hv1⟩ := kind_int hv
  obtain ⟨x1, _, rfl, hv2⟩ := kind_int hv1
  obtain rfl := kind_nil hv2
  obtain ⟨y0, _, rfl, hw1⟩ := kind_int hw
  obtain ⟨y1, _, rfl, hw2⟩ := kind_int hw1
  obtain rfl := kind_nil hw2
  obtain ⟨_, rfl, h1_1⟩ := cvs_int h1
  obtain ⟨_, rfl, h1_2⟩ := cvs_int h1_1
  simp only [cvsR] at h1_2; subst h1_2
  obtain ⟨_, rfl, h2_1⟩ := cvs_int h2
  obtain ⟨_, rfl, h2_2⟩ := cvs_int h2_1
  simp only [cvsR] at h2_2; subst h2_2
  simp only [eqCs, bit, Option.bind_some, Option.map_some, Option.some.injEq] at hp
  subst hp
  exact eqS_86 x0 x1 y0 y1 w⟩
set_option maxRecDepth 100000 in
theorem eqS_153 (x0 : Int) (x1 : Int) (y0 : Int) (y1 : Int) (w : World) : (binOp .eql 153 (.agg #[.int .i64 x0, .int .i64 x1]) (.agg #[.int .i64 y0, .int .i64 y1])).run Try.prog w = .ok (.bool (decide (x0 = y0 ∧ x1 = y1))) w := by
  simp [go_sem]; repeat' split
  all_goals simp_all
theorem eq_153 : EqT KT Try.prog 153 ([.int .i64 0, .int .i64 0] : List (CV Sx)) := ⟨by kernel_rfl, fun g m vs ws p xs ys w hv hw hp h1 h2 => by
  obtain ⟨x0, _, rfl, hv1⟩ := kind_int hv
  obtain ⟨x1, _, rfl, hv2⟩ := kind_int hv1
  obtain rfl := kind_nil hv2
  obtain ⟨y0, _, rfl, hw1⟩ := kind_int hw
  obtain ⟨y1, _, rfl, hw2⟩ := kind_int hw1
  obtain rfl := kind_nil hw2
  obtain ⟨_, rfl, h1_1⟩ := cvs_int h1
  obtain ⟨_, rfl, h1_2⟩ := cvs_int h1_1
  simp only [cvsR] at h1_2; subst h1_2
  obtain ⟨_, rfl, h2_1⟩ := cvs_int h2
  obtain ⟨_, rfl, h2_2⟩ := cvs_int h2_1
  simp only [cvsR] at h2_2; subst h2_2
  simp only [eqCs, bit, Option.bind_some, Option.map_some, Option.some.injEq] at hp
  subst hp
  exact eqS_153 x0 x1 y0 y1 w⟩
set_option maxRecDepth 100000 in
theorem ty_all : ∀ p ∈ tyL, TyOK Try.prog p.1 p.2 := all_cons ty_1 <| all_cons ty_2 <| all_cons ty_3 <| all_cons ty_4 <| all_cons ty_5 <| all_cons ty_6 <| all_cons ty_7 <| all_cons ty_8 <| all_cons ty_9 <| all_cons ty_10 <| all_cons ty_11 <| all_cons ty_12 <| all_cons ty_13 <| all_cons ty_14 <| all_cons ty_15 <| all_cons ty_16 <| all_cons ty_17 <| all_cons ty_18 <| all_cons ty_19 <| all_cons ty_20 <| all_cons ty_21 <| all_cons ty_22 <| all_cons ty_23 <| all_cons ty_24 <| all_cons ty_25 <| all_cons ty_26 <| all_cons ty_27 <| all_cons ty_28 <| all_cons ty_29 <| all_cons ty_30 <| all_cons ty_31 <| all_cons ty_32 <| all_cons ty_33 <| all_cons ty_34 <| all_cons ty_35 <| all_cons ty_36 <| all_cons ty_38 <| all_cons ty_39 <| all_cons ty_40 <| all_cons ty_41 <| all_cons ty_42 <| all_cons ty_43 <| all_cons ty_44 <| all_cons ty_45 <| all_cons ty_46 <| all_cons ty_47 <| all_cons ty_48 <| all_cons ty_49 <| all_cons ty_50 <| all_cons ty_51 <| all_cons ty_52 <| all_cons ty_53 <| all_cons ty_55 <| all_cons ty_56 <| all_cons ty_57 <| all_cons ty_58 <| all_cons ty_59 <| all_cons ty_60 <| all_cons ty_61 <| all_cons ty_62 <| all_cons ty_63 <| all_cons ty_64 <| all_cons ty_65 <| all_cons ty_66 <| all_cons ty_70 <| all_cons ty_71 <| all_cons ty_72 <| all_cons ty_86 <| all_cons ty_87 <| all_cons ty_88 <| all_cons ty_90 <| all_cons ty_94 <| all_cons ty_97 <| all_cons ty_98 <| all_cons ty_99 <| all_cons ty_100 <| all_cons ty_101 <| all_cons ty_102 <| all_cons ty_105 <| all_cons ty_107 <| all_cons ty_108 <| all_cons ty_110 <| all_cons ty_111 <| all_cons ty_114 <| all_cons ty_116 <| all_cons ty_117 <| all_cons ty_118 <| all_cons ty_119 <| all_cons ty_120 <| all_cons ty_126 <| all_cons ty_128 <| all_cons ty_133 <| all_cons ty_134 <| all_cons ty_136 <| all_cons ty_139 <| all_cons ty_146 <| all_cons ty_149 <| all_cons ty_153 <| all_cons ty_168 <| all_cons ty_171 <| all_cons ty_181 <| all_cons ty_182 <| all_cons ty_185 <| all_cons ty_200 <| all_nil
theorem tyT : TTOK Try.prog KT tt := ttOK rfl ty_all (by kernel_rfl) (by
  rw [show (tyL.filter fun p => p.2.eq).map (fun p => (p.1, p.2.zero)) = [(7, [.int .i64 0, .int .i64 0, .tt false, .u8 0]), (8, [.int .i64 0, .int .i64 0, .tt false, .u8 0]), (23, [.a8 32 (fun _ => 0)]), (43, [.int .i64 0, .int .i64 0]), (44, [.int .i64 0, .int .i64 0]), (70, [.int .i64 0, .int .i64 0]), (71, [.int .i64 0, .int .i64 0]), (86, [.int .i64 0, .int .i64 0]), (153, [.int .i64 0, .int .i64 0])] by kernel_rfl]
  exact all_cons eq_7 <| all_cons eq_8 <| all_cons eq_23 <| all_cons eq_43 <| all_cons eq_44 <| all_cons eq_70 <| all_cons eq_71 <| all_cons eq_86 <| all_cons eq_153 <| all_nil)
theorem hmix : Try.prog.follows .mixedOrders = true := by kernel_rfl
end E
end Go.Proofs.Ythnhjibbkleneaa
