/- Tables: the types of the program. Printed by a program. -/
import Derived.Test.YtnbipipegmoigaaEvG
import Derived.Test.YtnbipipegmoigaaProg
import Derived.Test.YtnbipipegmoigaaTy
namespace Go.Proofs.Ytnbipipegmoigaa
open Go.RowKit G
namespace E
def Sx : Nat → Type
  | 0 => G.struct_x_int64_y_int_signed_bool_code_abi_BoundsErrorCode
  | 1 => G.runtime_boundsError
  | 2 => G.struct_msg_string_addr_uintptr
  | 3 => G.runtime_errorAddressString
  | 4 => G.Command
  | 5 => G.struct_Kind_int_To_int_From_int_Len_int_Data_uint8
  | 6 => G.struct_OldLen_int_NewLen_int_OldHash_32_uint8_NewHash_32_uint8_Commands_api_Command
  | 7 => G.Delta
  | 8 => G.graftref11_Edge
  | 9 => G.struct_N_int_Edges_graftref11_Edge
  | 10 => G.graftref11_Graph
  | 11 => G.struct_From_int_To_int
  | 12 => G.digraph_Edge
  | 13 => G.Extent
  | 14 => G.struct_Off_int_Len_int
  | 15 => G.struct_Code_api_Errno_At_int
  | 16 => G.Fault
  | 17 => G.struct_Copied_bool_From_int_Value_uint8
  | 18 => G.tidy_Origin
  | 19 => G.graftref09_Origin
  | 20 => G.struct_api_Extent
  | 21 => G.command_target
  | 22 => G.index_entry
  | 23 => G.struct_sorted_index_entry
  | 24 => G.index_Index
  | 25 => G.struct_api_Extent_position_int
  | 26 => G.struct_command_target_api_Command
  | 27 => G.command_known
  | _ => Bool
def tb : Tb Sx
  | 0 => { fs := [(.int .i64), (.int .i64), .bo, .u8], to := fun (x : G.struct_x_int64_y_int_signed_bool_code_abi_BoundsErrorCode) => (x.x, x.y, x.signed, x.code, ()), of := fun h => (⟨h.1, h.2.1, h.2.2.1, h.2.2.2.1⟩ : G.struct_x_int64_y_int_signed_bool_code_abi_BoundsErrorCode) }
  | 1 => { fs := [(.int .i64), (.int .i64), .bo, .u8], to := fun (x : G.runtime_boundsError) => (x.x, x.y, x.signed, x.code, ()), of := fun h => (⟨h.1, h.2.1, h.2.2.1, h.2.2.2.1⟩ : G.runtime_boundsError) }
  | 2 => { fs := [.str, (.int .u64)], to := fun (x : G.struct_msg_string_addr_uintptr) => (x.msg, x.addr, ()), of := fun h => (⟨h.1, h.2.1⟩ : G.struct_msg_string_addr_uintptr) }
  | 3 => { fs := [.str, (.int .u64)], to := fun (x : G.runtime_errorAddressString) => (x.msg, x.addr, ()), of := fun h => (⟨h.1, h.2.1⟩ : G.runtime_errorAddressString) }
  | 4 => { fs := [(.int .i64), (.int .i64), (.int .i64), (.int .i64), (.sl .u8)], to := fun (x : G.Command) => (x.kind, x.to, x.from_, x.len, x.data, ()), of := fun h => (⟨h.1, h.2.1, h.2.2.1, h.2.2.2.1, h.2.2.2.2.1⟩ : G.Command) }
  | 5 => { fs := [(.int .i64), (.int .i64), (.int .i64), (.int .i64), (.sl .u8)], to := fun (x : G.struct_Kind_int_To_int_From_int_Len_int_Data_uint8) => (x.kind, x.to, x.from_, x.len, x.data, ()), of := fun h => (⟨h.1, h.2.1, h.2.2.1, h.2.2.2.1, h.2.2.2.2.1⟩ : G.struct_Kind_int_To_int_From_int_Len_int_Data_uint8) }
  | 6 => { fs := [(.int .i64), (.int .i64), (.a8 32), (.a8 32), (.sl (.st 4))], to := fun (x : G.struct_OldLen_int_NewLen_int_OldHash_32_uint8_NewHash_32_uint8_Commands_api_Command) => (x.oldLen, x.newLen, x.oldHash, x.newHash, x.commands, ()), of := fun h => (⟨h.1, h.2.1, h.2.2.1, h.2.2.2.1, h.2.2.2.2.1⟩ : G.struct_OldLen_int_NewLen_int_OldHash_32_uint8_NewHash_32_uint8_Commands_api_Command) }
  | 7 => { fs := [(.int .i64), (.int .i64), (.a8 32), (.a8 32), (.sl (.st 4))], to := fun (x : G.Delta) => (x.oldLen, x.newLen, x.oldHash, x.newHash, x.commands, ()), of := fun h => (⟨h.1, h.2.1, h.2.2.1, h.2.2.2.1, h.2.2.2.2.1⟩ : G.Delta) }
  | 8 => { fs := [(.int .i64), (.int .i64)], to := fun (x : G.graftref11_Edge) => (x.from_, x.to, ()), of := fun h => (⟨h.1, h.2.1⟩ : G.graftref11_Edge) }
  | 9 => { fs := [(.int .i64), (.sl (.st 8))], to := fun (x : G.struct_N_int_Edges_graftref11_Edge) => (x.n, x.edges, ()), of := fun h => (⟨h.1, h.2.1⟩ : G.struct_N_int_Edges_graftref11_Edge) }
  | 10 => { fs := [(.int .i64), (.sl (.st 8))], to := fun (x : G.graftref11_Graph) => (x.n, x.edges, ()), of := fun h => (⟨h.1, h.2.1⟩ : G.graftref11_Graph) }
  | 11 => { fs := [(.int .i64), (.int .i64)], to := fun (x : G.struct_From_int_To_int) => (x.from_, x.to, ()), of := fun h => (⟨h.1, h.2.1⟩ : G.struct_From_int_To_int) }
  | 12 => { fs := [(.int .i64), (.int .i64)], to := fun (x : G.digraph_Edge) => (x.from_, x.to, ()), of := fun h => (⟨h.1, h.2.1⟩ : G.digraph_Edge) }
  | 13 => { fs := [(.int .i64), (.int .i64)], to := fun (x : G.Extent) => (x.off, x.len, ()), of := fun h => (⟨h.1, h.2.1⟩ : G.Extent) }
  | 14 => { fs := [(.int .i64), (.int .i64)], to := fun (x : G.struct_Off_int_Len_int) => (x.off, x.len, ()), of := fun h => (⟨h.1, h.2.1⟩ : G.struct_Off_int_Len_int) }
  | 15 => { fs := [(.int .i64), (.int .i64)], to := fun (x : G.struct_Code_api_Errno_At_int) => (x.code, x.at_, ()), of := fun h => (⟨h.1, h.2.1⟩ : G.struct_Code_api_Errno_At_int) }
  | 16 => { fs := [(.int .i64), (.int .i64)], to := fun (x : G.Fault) => (x.code, x.at_, ()), of := fun h => (⟨h.1, h.2.1⟩ : G.Fault) }
  | 17 => { fs := [.bo, (.int .i64), .u8], to := fun (x : G.struct_Copied_bool_From_int_Value_uint8) => (x.copied, x.from_, x.value, ()), of := fun h => (⟨h.1, h.2.1, h.2.2.1⟩ : G.struct_Copied_bool_From_int_Value_uint8) }
  | 18 => { fs := [.bo, (.int .i64), .u8], to := fun (x : G.tidy_Origin) => (x.copied, x.from_, x.value, ()), of := fun h => (⟨h.1, h.2.1, h.2.2.1⟩ : G.tidy_Origin) }
  | 19 => { fs := [.bo, (.int .i64), .u8], to := fun (x : G.graftref09_Origin) => (x.copied, x.from_, x.value, ()), of := fun h => (⟨h.1, h.2.1, h.2.2.1⟩ : G.graftref09_Origin) }
  | 20 => { fs := [(.int .i64), (.int .i64)], to := fun (x : G.struct_api_Extent) => (x.extent.off, x.extent.len, ()), of := fun h => (⟨(⟨h.1, h.2.1⟩ : G.Extent)⟩ : G.struct_api_Extent) }
  | 21 => { fs := [(.int .i64), (.int .i64)], to := fun (x : G.command_target) => (x.extent.off, x.extent.len, ()), of := fun h => (⟨(⟨h.1, h.2.1⟩ : G.Extent)⟩ : G.command_target) }
  | 22 => { fs := [(.int .i64), (.int .i64), (.int .i64)], to := fun (x : G.index_entry) => (x.extent.off, x.extent.len, x.position, ()), of := fun h => (⟨(⟨h.1, h.2.1⟩ : G.Extent), h.2.2.1⟩ : G.index_entry) }
  | 23 => { fs := [(.sl (.st 22))], to := fun (x : G.struct_sorted_index_entry) => (x.sorted, ()), of := fun h => (⟨h.1⟩ : G.struct_sorted_index_entry) }
  | 24 => { fs := [(.sl (.st 22))], to := fun (x : G.index_Index) => (x.sorted, ()), of := fun h => (⟨h.1⟩ : G.index_Index) }
  | 25 => { fs := [(.int .i64), (.int .i64), (.int .i64)], to := fun (x : G.struct_api_Extent_position_int) => (x.extent.off, x.extent.len, x.position, ()), of := fun h => (⟨(⟨h.1, h.2.1⟩ : G.Extent), h.2.2.1⟩ : G.struct_api_Extent_position_int) }
  | 26 => { fs := [(.int .i64), (.int .i64), (.int .i64), (.int .i64), (.int .i64), (.int .i64), (.sl .u8)], to := fun (x : G.struct_command_target_api_Command) => (x.target.extent.off, x.target.extent.len, x.command.kind, x.command.to, x.command.from_, x.command.len, x.command.data, ()), of := fun h => (⟨(⟨(⟨h.1, h.2.1⟩ : G.Extent)⟩ : G.command_target), (⟨h.2.2.1, h.2.2.2.1, h.2.2.2.2.1, h.2.2.2.2.2.1, h.2.2.2.2.2.2.1⟩ : G.Command)⟩ : G.struct_command_target_api_Command) }
  | 27 => { fs := [(.int .i64), (.int .i64), (.int .i64), (.int .i64), (.int .i64), (.int .i64), (.sl .u8)], to := fun (x : G.command_known) => (x.target.extent.off, x.target.extent.len, x.command.kind, x.command.to, x.command.from_, x.command.len, x.command.data, ()), of := fun h => (⟨(⟨(⟨h.1, h.2.1⟩ : G.Extent)⟩ : G.command_target), (⟨h.2.2.1, h.2.2.2.1, h.2.2.2.2.1, h.2.2.2.2.2.1, h.2.2.2.2.2.2.1⟩ : G.Command)⟩ : G.command_known) }
  | _ + 28 => { fs := [.bo], to := fun (x : Bool) => (x, ()), of := fun h => h.1 }
def tyL : List (Nat × TI Sx) := [(1, ⟨.func, 1, 8, [.nilF], .bo, false⟩),
  (2, ⟨.int .i64, 1, 8, [.int .i64 0], (.int .i64), false⟩),
  (3, ⟨.int .i64, 1, 8, [.int .i64 0], (.int .i64), false⟩),
  (4, ⟨.bool, 1, 1, [.tt false], .bo, false⟩),
  (5, ⟨.int .u8, 1, 1, [.u8 0], .u8, false⟩),
  (6, ⟨.int .u8, 1, 1, [.u8 0], .u8, false⟩),
  (7, ⟨.struct [(2, 0, 1), (3, 1, 1), (4, 2, 1), (6, 3, 1)], 4, 24, [.int .i64 0, .int .i64 0, .tt false, .u8 0], (.st 0), true⟩),
  (8, ⟨.struct [(2, 0, 1), (3, 1, 1), (4, 2, 1), (6, 3, 1)], 4, 24, [.int .i64 0, .int .i64 0, .tt false, .u8 0], (.st 1), true⟩),
  (9, ⟨.str, 1, 16, [.str []], .str, false⟩),
  (10, ⟨.str, 1, 16, [.str []], .str, false⟩),
  (11, ⟨.str, 1, 16, [.str []], .str, false⟩),
  (12, ⟨.int .u64, 1, 8, [.int .u64 0], (.int .u64), false⟩),
  (13, ⟨.struct [(9, 0, 1), (12, 1, 1)], 2, 24, [.str [], .int .u64 0], (.st 2), false⟩),
  (14, ⟨.struct [(9, 0, 1), (12, 1, 1)], 2, 24, [.str [], .int .u64 0], (.st 3), false⟩),
  (15, ⟨.ptr 199, 1, 8, [.nilP], .bo, false⟩),
  (16, ⟨.ptr 202, 1, 8, [.nilP], .bo, false⟩),
  (17, ⟨.ptr 210, 1, 8, [.nilP], .bo, false⟩),
  (18, ⟨.struct [(17, 0, 1)], 1, 8, [.nilP], .bo, false⟩),
  (19, ⟨.struct [(17, 0, 1)], 1, 8, [.nilP], .bo, false⟩),
  (20, ⟨.iface, 1, 16, [.nilI], .bo, false⟩),
  (21, ⟨.int .i32, 1, 4, [.int .i32 0], (.int .i32), false⟩),
  (22, ⟨.slice 26, 1, 24, [.nilS], (.sl (.st 4)), false⟩),
  (23, ⟨.func, 1, 8, [.nilF], .bo, false⟩),
  (24, ⟨.slice 5, 1, 24, [.nilS], (.sl .u8), false⟩),
  (25, ⟨.struct [(3, 0, 1), (3, 1, 1), (3, 2, 1), (3, 3, 1), (24, 4, 1)], 5, 56, [.int .i64 0, .int .i64 0, .int .i64 0, .int .i64 0, .nilS], (.st 5), false⟩),
  (26, ⟨.struct [(3, 0, 1), (3, 1, 1), (3, 2, 1), (3, 3, 1), (24, 4, 1)], 5, 56, [.int .i64 0, .int .i64 0, .int .i64 0, .int .i64 0, .nilS], (.st 4), false⟩),
  (27, ⟨.func, 1, 8, [.nilF], .bo, false⟩),
  (28, ⟨.func, 1, 8, [.nilF], .bo, false⟩),
  (29, ⟨.func, 1, 8, [.nilF], .bo, false⟩),
  (30, ⟨.func, 1, 8, [.nilF], .bo, false⟩),
  (31, ⟨.func, 1, 8, [.nilF], .bo, false⟩),
  (32, ⟨.array 32 5, 32, 32, [.a8 32 (fun _ => 0)], (.a8 32), true⟩),
  (33, ⟨.struct [(3, 0, 1), (3, 1, 1), (32, 2, 32), (32, 34, 32), (22, 66, 1)], 67, 104, [.int .i64 0, .int .i64 0, .a8 32 (fun _ => 0), .a8 32 (fun _ => 0), .nilS], (.st 6), false⟩),
  (34, ⟨.struct [(3, 0, 1), (3, 1, 1), (32, 2, 32), (32, 34, 32), (22, 66, 1)], 67, 104, [.int .i64 0, .int .i64 0, .a8 32 (fun _ => 0), .a8 32 (fun _ => 0), .nilS], (.st 7), false⟩),
  (35, ⟨.func, 1, 8, [.nilF], .bo, false⟩),
  (36, ⟨.func, 1, 8, [.nilF], .bo, false⟩),
  (37, ⟨.func, 1, 8, [.nilF], .bo, false⟩),
  (38, ⟨.func, 1, 8, [.nilF], .bo, false⟩),
  (39, ⟨.func, 1, 8, [.nilF], .bo, false⟩),
  (40, ⟨.func, 1, 8, [.nilF], .bo, false⟩),
  (41, ⟨.slice 3, 1, 24, [.nilS], (.sl (.int .i64)), false⟩),
  (43, ⟨.func, 1, 8, [.nilF], .bo, false⟩),
  (44, ⟨.func, 1, 8, [.nilF], .bo, false⟩),
  (45, ⟨.func, 1, 8, [.nilF], .bo, false⟩),
  (46, ⟨.ptr 118, 1, 8, [.nilP], .bo, false⟩),
  (47, ⟨.func, 1, 8, [.nilF], .bo, false⟩),
  (48, ⟨.ptr 53, 1, 8, [.nilP], .bo, false⟩),
  (49, ⟨.func, 1, 8, [.nilF], .bo, false⟩),
  (50, ⟨.func, 1, 8, [.nilF], .bo, false⟩),
  (51, ⟨.slice 55, 1, 24, [.nilS], (.sl (.st 8)), false⟩),
  (52, ⟨.struct [(3, 0, 1), (51, 1, 1)], 2, 32, [.int .i64 0, .nilS], (.st 9), false⟩),
  (53, ⟨.struct [(3, 0, 1), (51, 1, 1)], 2, 32, [.int .i64 0, .nilS], (.st 10), false⟩),
  (54, ⟨.struct [(3, 0, 1), (3, 1, 1)], 2, 16, [.int .i64 0, .int .i64 0], (.st 11), true⟩),
  (55, ⟨.struct [(3, 0, 1), (3, 1, 1)], 2, 16, [.int .i64 0, .int .i64 0], (.st 8), true⟩),
  (56, ⟨.func, 1, 8, [.nilF], .bo, false⟩),
  (57, ⟨.struct [(3, 0, 1), (3, 1, 1)], 2, 16, [.int .i64 0, .int .i64 0], (.st 12), true⟩),
  (58, ⟨.array 2 3, 2, 16, [.ai 2 .i64 (fun _ => 0)], (.ai 2 .i64), false⟩),
  (59, ⟨.slice 61, 1, 24, [.nilS], (.sl (.st 13)), false⟩),
  (60, ⟨.struct [(3, 0, 1), (3, 1, 1)], 2, 16, [.int .i64 0, .int .i64 0], (.st 14), true⟩),
  (61, ⟨.struct [(3, 0, 1), (3, 1, 1)], 2, 16, [.int .i64 0, .int .i64 0], (.st 13), true⟩),
  (62, ⟨.func, 1, 8, [.nilF], .bo, false⟩),
  (63, ⟨.func, 1, 8, [.nilF], .bo, false⟩),
  (64, ⟨.func, 1, 8, [.nilF], .bo, false⟩),
  (65, ⟨.func, 1, 8, [.nilF], .bo, false⟩),
  (66, ⟨.func, 1, 8, [.nilF], .bo, false⟩),
  (67, ⟨.func, 1, 8, [.nilF], .bo, false⟩),
  (68, ⟨.func, 1, 8, [.nilF], .bo, false⟩),
  (69, ⟨.func, 1, 8, [.nilF], .bo, false⟩),
  (70, ⟨.func, 1, 8, [.nilF], .bo, false⟩),
  (71, ⟨.int .i64, 1, 8, [.int .i64 0], (.int .i64), false⟩),
  (72, ⟨.struct [(71, 0, 1), (3, 1, 1)], 2, 16, [.int .i64 0, .int .i64 0], (.st 15), true⟩),
  (73, ⟨.struct [(71, 0, 1), (3, 1, 1)], 2, 16, [.int .i64 0, .int .i64 0], (.st 16), true⟩),
  (74, ⟨.func, 1, 8, [.nilF], .bo, false⟩),
  (75, ⟨.func, 1, 8, [.nilF], .bo, false⟩),
  (76, ⟨.func, 1, 8, [.nilF], .bo, false⟩),
  (77, ⟨.func, 1, 8, [.nilF], .bo, false⟩),
  (78, ⟨.func, 1, 8, [.nilF], .bo, false⟩),
  (80, ⟨.func, 1, 8, [.nilF], .bo, false⟩),
  (81, ⟨.func, 1, 8, [.nilF], .bo, false⟩),
  (82, ⟨.func, 1, 8, [.nilF], .bo, false⟩),
  (83, ⟨.func, 1, 8, [.nilF], .bo, false⟩),
  (84, ⟨.func, 1, 8, [.nilF], .bo, false⟩),
  (85, ⟨.struct [(4, 0, 1), (3, 1, 1), (5, 2, 1)], 3, 24, [.tt false, .int .i64 0, .u8 0], (.st 17), true⟩),
  (86, ⟨.struct [(4, 0, 1), (3, 1, 1), (5, 2, 1)], 3, 24, [.tt false, .int .i64 0, .u8 0], (.st 18), true⟩),
  (88, ⟨.func, 1, 8, [.nilF], .bo, false⟩),
  (89, ⟨.func, 1, 8, [.nilF], .bo, false⟩),
  (90, ⟨.func, 1, 8, [.nilF], .bo, false⟩),
  (92, ⟨.func, 1, 8, [.nilF], .bo, false⟩),
  (93, ⟨.func, 1, 8, [.nilF], .bo, false⟩),
  (94, ⟨.func, 1, 8, [.nilF], .bo, false⟩),
  (95, ⟨.func, 1, 8, [.nilF], .bo, false⟩),
  (96, ⟨.ptr 22, 1, 8, [.nilP], .bo, false⟩),
  (97, ⟨.func, 1, 8, [.nilF], .bo, false⟩),
  (98, ⟨.struct [(4, 0, 1), (3, 1, 1), (5, 2, 1)], 3, 24, [.tt false, .int .i64 0, .u8 0], (.st 19), true⟩),
  (99, ⟨.func, 1, 8, [.nilF], .bo, false⟩),
  (100, ⟨.func, 1, 8, [.nilF], .bo, false⟩),
  (101, ⟨.func, 1, 8, [.nilF], .bo, false⟩),
  (102, ⟨.func, 1, 8, [.nilF], .bo, false⟩),
  (103, ⟨.func, 1, 8, [.nilF], .bo, false⟩),
  (105, ⟨.func, 1, 8, [.nilF], .bo, false⟩),
  (106, ⟨.func, 1, 8, [.nilF], .bo, false⟩),
  (107, ⟨.func, 1, 8, [.nilF], .bo, false⟩),
  (108, ⟨.func, 1, 8, [.nilF], .bo, false⟩),
  (109, ⟨.func, 1, 8, [.nilF], .bo, false⟩),
  (110, ⟨.func, 1, 8, [.nilF], .bo, false⟩),
  (111, ⟨.ptr 154, 1, 8, [.nilP], .bo, false⟩),
  (112, ⟨.func, 1, 8, [.nilF], .bo, false⟩),
  (113, ⟨.func, 1, 8, [.nilF], .bo, false⟩),
  (114, ⟨.func, 1, 8, [.nilF], .bo, false⟩),
  (115, ⟨.map 57 4, 1, 8, [.nilM], .bo, false⟩),
  (116, ⟨.map 3 41, 1, 8, [.nilM], .bo, false⟩),
  (117, ⟨.struct [(3, 0, 1), (115, 1, 1), (116, 2, 1), (116, 3, 1)], 4, 32, [.int .i64 0, .nilM, .nilM, .nilM], .bo, false⟩),
  (118, ⟨.struct [(3, 0, 1), (115, 1, 1), (116, 2, 1), (116, 3, 1)], 4, 32, [.int .i64 0, .nilM, .nilM, .nilM], .bo, false⟩),
  (119, ⟨.func, 1, 8, [.nilF], .bo, false⟩),
  (120, ⟨.func, 1, 8, [.nilF], .bo, false⟩),
  (121, ⟨.func, 1, 8, [.nilF], .bo, false⟩),
  (122, ⟨.func, 1, 8, [.nilF], .bo, false⟩),
  (123, ⟨.func, 1, 8, [.nilF], .bo, false⟩),
  (124, ⟨.func, 1, 8, [.nilF], .bo, false⟩),
  (125, ⟨.func, 1, 8, [.nilF], .bo, false⟩),
  (126, ⟨.func, 1, 8, [.nilF], .bo, false⟩),
  (127, ⟨.func, 1, 8, [.nilF], .bo, false⟩),
  (128, ⟨.func, 1, 8, [.nilF], .bo, false⟩),
  (129, ⟨.func, 1, 8, [.nilF], .bo, false⟩),
  (130, ⟨.func, 1, 8, [.nilF], .bo, false⟩),
  (132, ⟨.func, 1, 8, [.nilF], .bo, false⟩),
  (133, ⟨.func, 1, 8, [.nilF], .bo, false⟩),
  (134, ⟨.func, 1, 8, [.nilF], .bo, false⟩),
  (135, ⟨.func, 1, 8, [.nilF], .bo, false⟩),
  (136, ⟨.struct [(61, 0, 2)], 2, 16, [.int .i64 0, .int .i64 0], (.st 20), true⟩),
  (137, ⟨.struct [(61, 0, 2)], 2, 16, [.int .i64 0, .int .i64 0], (.st 21), true⟩),
  (138, ⟨.func, 1, 8, [.nilF], .bo, false⟩),
  (139, ⟨.func, 1, 8, [.nilF], .bo, false⟩),
  (140, ⟨.func, 1, 8, [.nilF], .bo, false⟩),
  (142, ⟨.func, 1, 8, [.nilF], .bo, false⟩),
  (143, ⟨.func, 1, 8, [.nilF], .bo, false⟩),
  (144, ⟨.func, 1, 8, [.nilF], .bo, false⟩),
  (145, ⟨.slice 24, 1, 24, [.nilS], (.sl (.sl .u8)), false⟩),
  (146, ⟨.func, 1, 8, [.nilF], .bo, false⟩),
  (147, ⟨.func, 1, 8, [.nilF], .bo, false⟩),
  (148, ⟨.slice 57, 1, 24, [.nilS], (.sl (.st 12)), false⟩),
  (149, ⟨.func, 1, 8, [.nilF], .bo, false⟩),
  (150, ⟨.func, 1, 8, [.nilF], .bo, false⟩),
  (151, ⟨.func, 1, 8, [.nilF], .bo, false⟩),
  (152, ⟨.slice 156, 1, 24, [.nilS], (.sl (.st 22)), false⟩),
  (153, ⟨.struct [(152, 0, 1)], 1, 24, [.nilS], (.st 23), false⟩),
  (154, ⟨.struct [(152, 0, 1)], 1, 24, [.nilS], (.st 24), false⟩),
  (155, ⟨.struct [(61, 0, 2), (3, 2, 1)], 3, 24, [.int .i64 0, .int .i64 0, .int .i64 0], (.st 25), true⟩),
  (156, ⟨.struct [(61, 0, 2), (3, 2, 1)], 3, 24, [.int .i64 0, .int .i64 0, .int .i64 0], (.st 22), true⟩),
  (157, ⟨.func, 1, 8, [.nilF], .bo, false⟩),
  (158, ⟨.func, 1, 8, [.nilF], .bo, false⟩),
  (159, ⟨.func, 1, 8, [.nilF], .bo, false⟩),
  (160, ⟨.func, 1, 8, [.nilF], .bo, false⟩),
  (161, ⟨.func, 1, 8, [.nilF], .bo, false⟩),
  (162, ⟨.struct [(137, 0, 2), (26, 2, 5)], 7, 72, [.int .i64 0, .int .i64 0, .int .i64 0, .int .i64 0, .int .i64 0, .int .i64 0, .nilS], (.st 26), false⟩),
  (163, ⟨.struct [(137, 0, 2), (26, 2, 5)], 7, 72, [.int .i64 0, .int .i64 0, .int .i64 0, .int .i64 0, .int .i64 0, .int .i64 0, .nilS], (.st 27), false⟩),
  (164, ⟨.func, 1, 8, [.nilF], .bo, false⟩),
  (165, ⟨.func, 1, 8, [.nilF], .bo, false⟩),
  (166, ⟨.func, 1, 8, [.nilF], .bo, false⟩),
  (167, ⟨.func, 1, 8, [.nilF], .bo, false⟩),
  (168, ⟨.func, 1, 8, [.nilF], .bo, false⟩),
  (169, ⟨.func, 1, 8, [.nilF], .bo, false⟩),
  (170, ⟨.func, 1, 8, [.nilF], .bo, false⟩),
  (171, ⟨.func, 1, 8, [.nilF], .bo, false⟩),
  (172, ⟨.func, 1, 8, [.nilF], .bo, false⟩),
  (173, ⟨.int .u64, 1, 8, [.int .u64 0], (.int .u64), false⟩),
  (174, ⟨.func, 1, 8, [.nilF], .bo, false⟩),
  (175, ⟨.func, 1, 8, [.nilF], .bo, false⟩),
  (176, ⟨.func, 1, 8, [.nilF], .bo, false⟩),
  (177, ⟨.int .i64, 1, 8, [.int .i64 0], (.int .i64), false⟩),
  (179, ⟨.func, 1, 8, [.nilF], .bo, false⟩),
  (180, ⟨.func, 1, 8, [.nilF], .bo, false⟩),
  (181, ⟨.func, 1, 8, [.nilF], .bo, false⟩),
  (182, ⟨.func, 1, 8, [.nilF], .bo, false⟩),
  (183, ⟨.func, 1, 8, [.nilF], .bo, false⟩),
  (184, ⟨.int .u32, 1, 4, [.int .u32 0], (.int .u32), false⟩),
  (185, ⟨.func, 1, 8, [.nilF], .bo, false⟩),
  (186, ⟨.int .u64, 1, 8, [.int .u64 0], (.int .u64), false⟩),
  (187, ⟨.func, 1, 8, [.nilF], .bo, false⟩),
  (188, ⟨.func, 1, 8, [.nilF], .bo, false⟩),
  (189, ⟨.int .u64, 1, 8, [.int .u64 0], (.int .u64), false⟩),
  (190, ⟨.func, 1, 8, [.nilF], .bo, false⟩),
  (191, ⟨.func, 1, 8, [.nilF], .bo, false⟩),
  (192, ⟨.func, 1, 8, [.nilF], .bo, false⟩),
  (193, ⟨.ptr 3, 1, 8, [.nilP], .bo, false⟩),
  (194, ⟨.func, 1, 8, [.nilF], .bo, false⟩),
  (195, ⟨.ptr 189, 1, 8, [.nilP], .bo, false⟩),
  (196, ⟨.func, 1, 8, [.nilF], .bo, false⟩),
  (197, ⟨.func, 1, 8, [.nilF], .bo, false⟩),
  (198, ⟨.struct [(17, 0, 1), (17, 1, 1), (17, 2, 1), (9, 3, 1)], 4, 40, [.nilP, .nilP, .nilP, .str []], .bo, false⟩),
  (199, ⟨.struct [(17, 0, 1), (17, 1, 1), (17, 2, 1), (9, 3, 1)], 4, 40, [.nilP, .nilP, .nilP, .str []], .bo, false⟩),
  (200, ⟨.array 0 16, 0, 0, [], .bo, false⟩),
  (201, ⟨.struct [(200, 0, 0)], 0, 0, [], .bo, false⟩),
  (202, ⟨.struct [(200, 0, 0)], 0, 0, [], .bo, false⟩),
  (203, ⟨.int .u8, 1, 1, [.u8 0], .u8, false⟩),
  (204, ⟨.int .u8, 1, 1, [.u8 0], .u8, false⟩),
  (205, ⟨.func, 1, 8, [.nilF], .bo, false⟩),
  (206, ⟨.ptr 5, 1, 8, [.nilP], .bo, false⟩),
  (207, ⟨.int .i32, 1, 4, [.int .i32 0], (.int .i32), false⟩),
  (208, ⟨.int .i32, 1, 4, [.int .i32 0], (.int .i32), false⟩),
  (209, ⟨.struct [(12, 0, 1), (12, 1, 1), (184, 2, 1), (203, 3, 1), (5, 4, 1), (5, 5, 1), (204, 6, 1), (205, 7, 1), (206, 8, 1), (207, 9, 1), (208, 10, 1)], 11, 48, [.int .u64 0, .int .u64 0, .int .u32 0, .u8 0, .u8 0, .u8 0, .u8 0, .nilF, .nilP, .int .i32 0, .int .i32 0], .bo, false⟩),
  (210, ⟨.struct [(12, 0, 1), (12, 1, 1), (184, 2, 1), (203, 3, 1), (5, 4, 1), (5, 5, 1), (204, 6, 1), (205, 7, 1), (206, 8, 1), (207, 9, 1), (208, 10, 1)], 11, 48, [.int .u64 0, .int .u64 0, .int .u32 0, .u8 0, .u8 0, .u8 0, .u8 0, .nilF, .nilP, .int .i32 0, .int .i32 0], .bo, false⟩)]
def tt (t : TypeId) : Option (TI Sx) := look t tyL
end E
namespace E
theorem flat_ : ∀ i, (tb i).fs.all noSt = true
  | 0 => rfl
  | 1 => rfl
  | 2 => rfl
  | 3 => rfl
  | 4 => rfl
  | 5 => rfl
  | 6 => rfl
  | 7 => rfl
  | 8 => rfl
  | 9 => rfl
  | 10 => rfl
  | 11 => rfl
  | 12 => rfl
  | 13 => rfl
  | 14 => rfl
  | 15 => rfl
  | 16 => rfl
  | 17 => rfl
  | 18 => rfl
  | 19 => rfl
  | 20 => rfl
  | 21 => rfl
  | 22 => rfl
  | 23 => rfl
  | 24 => rfl
  | 25 => rfl
  | 26 => rfl
  | 27 => rfl
  | _ + 28 => rfl
theorem max_ : ∀ i, (tb i).fs.all (fun c => Nat.ble (maxSt c) i) = true
  | 0 => rfl
  | 1 => rfl
  | 2 => rfl
  | 3 => rfl
  | 4 => rfl
  | 5 => rfl
  | 6 => rfl
  | 7 => rfl
  | 8 => rfl
  | 9 => rfl
  | 10 => rfl
  | 11 => rfl
  | 12 => rfl
  | 13 => rfl
  | 14 => rfl
  | 15 => rfl
  | 16 => rfl
  | 17 => rfl
  | 18 => rfl
  | 19 => rfl
  | 20 => rfl
  | 21 => rfl
  | 22 => rfl
  | 23 => rfl
  | 24 => rfl
  | 25 => rfl
  | 26 => rfl
  | 27 => rfl
  | _ + 28 => by simp [tb, maxSt]
theorem ne_ : ∀ i, (tb i).fs ≠ []
  | 0 => (fun h => by cases h)
  | 1 => (fun h => by cases h)
  | 2 => (fun h => by cases h)
  | 3 => (fun h => by cases h)
  | 4 => (fun h => by cases h)
  | 5 => (fun h => by cases h)
  | 6 => (fun h => by cases h)
  | 7 => (fun h => by cases h)
  | 8 => (fun h => by cases h)
  | 9 => (fun h => by cases h)
  | 10 => (fun h => by cases h)
  | 11 => (fun h => by cases h)
  | 12 => (fun h => by cases h)
  | 13 => (fun h => by cases h)
  | 14 => (fun h => by cases h)
  | 15 => (fun h => by cases h)
  | 16 => (fun h => by cases h)
  | 17 => (fun h => by cases h)
  | 18 => (fun h => by cases h)
  | 19 => (fun h => by cases h)
  | 20 => (fun h => by cases h)
  | 21 => (fun h => by cases h)
  | 22 => (fun h => by cases h)
  | 23 => (fun h => by cases h)
  | 24 => (fun h => by cases h)
  | 25 => (fun h => by cases h)
  | 26 => (fun h => by cases h)
  | 27 => (fun h => by cases h)
  | _ + 28 => (fun h => by cases h)
theorem to_of_ : ∀ i (h : HL Sx (tb i).fs), (tb i).to ((tb i).of h) = h
  | 0, _ => rfl
  | 1, _ => rfl
  | 2, _ => rfl
  | 3, _ => rfl
  | 4, _ => rfl
  | 5, _ => rfl
  | 6, _ => rfl
  | 7, _ => rfl
  | 8, _ => rfl
  | 9, _ => rfl
  | 10, _ => rfl
  | 11, _ => rfl
  | 12, _ => rfl
  | 13, _ => rfl
  | 14, _ => rfl
  | 15, _ => rfl
  | 16, _ => rfl
  | 17, _ => rfl
  | 18, _ => rfl
  | 19, _ => rfl
  | 20, _ => rfl
  | 21, _ => rfl
  | 22, _ => rfl
  | 23, _ => rfl
  | 24, _ => rfl
  | 25, _ => rfl
  | 26, _ => rfl
  | 27, _ => rfl
  | _ + 28, _ => rfl
noncomputable def KT : TbOK tb := tbOK (rgP Try.prog) flat_ (fun i c hc => Nat.le_of_ble_eq_true (List.all_eq_true.1 (max_ i) c hc)) ne_ to_of_
theorem ty_1 : TyOK Try.prog 1 (⟨.func, 1, 8, [.nilF], .bo, false⟩ : TI Sx) := ⟨(show (Try.prog.underlying 1).map isFuncD = some true by kernel_rfl), by kernel_rfl, by kernel_rfl, by kernel_rfl, fun _ => rfl⟩
theorem ty_2 : TyOK Try.prog 2 (⟨.int .i64, 1, 8, [.int .i64 0], (.int .i64), false⟩ : TI Sx) := ⟨(show Try.prog.underlying 2 = some (.int .i64) by kernel_rfl), by kernel_rfl, by kernel_rfl, by kernel_rfl, fun _ => rfl⟩
theorem ty_3 : TyOK Try.prog 3 (⟨.int .i64, 1, 8, [.int .i64 0], (.int .i64), false⟩ : TI Sx) := ⟨(show Try.prog.underlying 3 = some (.int .i64) by kernel_rfl), by kernel_rfl, by kernel_rfl, by kernel_rfl, fun _ => rfl⟩
theorem ty_4 : TyOK Try.prog 4 (⟨.bool, 1, 1, [.tt false], .bo, false⟩ : TI Sx) := ⟨(show Try.prog.underlying 4 = some (.bool) by kernel_rfl), by kernel_rfl, by kernel_rfl, by kernel_rfl, fun _ => rfl⟩
theorem ty_5 : TyOK Try.prog 5 (⟨.int .u8, 1, 1, [.u8 0], .u8, false⟩ : TI Sx) := ⟨(show Try.prog.underlying 5 = some (.int .u8) by kernel_rfl), by kernel_rfl, by kernel_rfl, by kernel_rfl, fun _ => rfl⟩
theorem ty_6 : TyOK Try.prog 6 (⟨.int .u8, 1, 1, [.u8 0], .u8, false⟩ : TI Sx) := ⟨(show Try.prog.underlying 6 = some (.int .u8) by kernel_rfl), by kernel_rfl, by kernel_rfl, by kernel_rfl, fun _ => rfl⟩
theorem ty_7 : TyOK Try.prog 7 (⟨.struct [(2, 0, 1), (3, 1, 1), (4, 2, 1), (6, 3, 1)], 4, 24, [.int .i64 0, .int .i64 0, .tt false, .u8 0], (.st 0), true⟩ : TI Sx) := ⟨(show undS Try.prog 7 = some [(2, 0, 1), (3, 1, 1), (4, 2, 1), (6, 3, 1)] by kernel_rfl), by kernel_rfl, by kernel_rfl, by kernel_rfl, fun h => by cases h⟩
theorem ty_8 : TyOK Try.prog 8 (⟨.struct [(2, 0, 1), (3, 1, 1), (4, 2, 1), (6, 3, 1)], 4, 24, [.int .i64 0, .int .i64 0, .tt false, .u8 0], (.st 1), true⟩ : TI Sx) := ⟨(show undS Try.prog 8 = some [(2, 0, 1), (3, 1, 1), (4, 2, 1), (6, 3, 1)] by kernel_rfl), by kernel_rfl, by kernel_rfl, by kernel_rfl, fun h => by cases h⟩
theorem ty_9 : TyOK Try.prog 9 (⟨.str, 1, 16, [.str []], .str, false⟩ : TI Sx) := ⟨(show Try.prog.underlying 9 = some (.string) by kernel_rfl), by kernel_rfl, by kernel_rfl, by kernel_rfl, fun _ => rfl⟩
theorem ty_10 : TyOK Try.prog 10 (⟨.str, 1, 16, [.str []], .str, false⟩ : TI Sx) := ⟨(show Try.prog.underlying 10 = some (.string) by kernel_rfl), by kernel_rfl, by kernel_rfl, by kernel_rfl, fun _ => rfl⟩
theorem ty_11 : TyOK Try.prog 11 (⟨.str, 1, 16, [.str []], .str, false⟩ : TI Sx) := ⟨(show Try.prog.underlying 11 = some (.string) by kernel_rfl), by kernel_rfl, by kernel_rfl, by kernel_rfl, fun _ => rfl⟩
theorem ty_12 : TyOK Try.prog 12 (⟨.int .u64, 1, 8, [.int .u64 0], (.int .u64), false⟩ : TI Sx) := ⟨(show Try.prog.underlying 12 = some (.int .u64) by kernel_rfl), by kernel_rfl, by kernel_rfl, by kernel_rfl, fun _ => rfl⟩
theorem ty_13 : TyOK Try.prog 13 (⟨.struct [(9, 0, 1), (12, 1, 1)], 2, 24, [.str [], .int .u64 0], (.st 2), false⟩ : TI Sx) := ⟨(show undS Try.prog 13 = some [(9, 0, 1), (12, 1, 1)] by kernel_rfl), by kernel_rfl, by kernel_rfl, by kernel_rfl, fun h => by cases h⟩
theorem ty_14 : TyOK Try.prog 14 (⟨.struct [(9, 0, 1), (12, 1, 1)], 2, 24, [.str [], .int .u64 0], (.st 3), false⟩ : TI Sx) := ⟨(show undS Try.prog 14 = some [(9, 0, 1), (12, 1, 1)] by kernel_rfl), by kernel_rfl, by kernel_rfl, by kernel_rfl, fun h => by cases h⟩
theorem ty_15 : TyOK Try.prog 15 (⟨.ptr 199, 1, 8, [.nilP], .bo, false⟩ : TI Sx) := ⟨(show Try.prog.underlying 15 = some (.pointer 199) by kernel_rfl), by kernel_rfl, by kernel_rfl, by kernel_rfl, fun _ => rfl⟩
theorem ty_16 : TyOK Try.prog 16 (⟨.ptr 202, 1, 8, [.nilP], .bo, false⟩ : TI Sx) := ⟨(show Try.prog.underlying 16 = some (.pointer 202) by kernel_rfl), by kernel_rfl, by kernel_rfl, by kernel_rfl, fun _ => rfl⟩
theorem ty_17 : TyOK Try.prog 17 (⟨.ptr 210, 1, 8, [.nilP], .bo, false⟩ : TI Sx) := ⟨(show Try.prog.underlying 17 = some (.pointer 210) by kernel_rfl), by kernel_rfl, by kernel_rfl, by kernel_rfl, fun _ => rfl⟩
theorem ty_18 : TyOK Try.prog 18 (⟨.struct [(17, 0, 1)], 1, 8, [.nilP], .bo, false⟩ : TI Sx) := ⟨(show undS Try.prog 18 = some [(17, 0, 1)] by kernel_rfl), by kernel_rfl, by kernel_rfl, by kernel_rfl, fun h => by cases h⟩
theorem ty_19 : TyOK Try.prog 19 (⟨.struct [(17, 0, 1)], 1, 8, [.nilP], .bo, false⟩ : TI Sx) := ⟨(show undS Try.prog 19 = some [(17, 0, 1)] by kernel_rfl), by kernel_rfl, by kernel_rfl, by kernel_rfl, fun h => by cases h⟩
theorem ty_20 : TyOK Try.prog 20 (⟨.iface, 1, 16, [.nilI], .bo, false⟩ : TI Sx) := ⟨(show (Try.prog.underlying 20).map isAggD = some false by kernel_rfl), by kernel_rfl, by kernel_rfl, by kernel_rfl, fun _ => rfl⟩
theorem ty_21 : TyOK Try.prog 21 (⟨.int .i32, 1, 4, [.int .i32 0], (.int .i32), false⟩ : TI Sx) := ⟨(show Try.prog.underlying 21 = some (.int .i32) by kernel_rfl), by kernel_rfl, by kernel_rfl, by kernel_rfl, fun _ => rfl⟩
theorem ty_22 : TyOK Try.prog 22 (⟨.slice 26, 1, 24, [.nilS], (.sl (.st 4)), false⟩ : TI Sx) := ⟨(show Try.prog.underlying 22 = some (.slice 26) by kernel_rfl), by kernel_rfl, by kernel_rfl, by kernel_rfl, fun _ => rfl⟩
theorem ty_23 : TyOK Try.prog 23 (⟨.func, 1, 8, [.nilF], .bo, false⟩ : TI Sx) := ⟨(show (Try.prog.underlying 23).map isFuncD = some true by kernel_rfl), by kernel_rfl, by kernel_rfl, by kernel_rfl, fun _ => rfl⟩
theorem ty_24 : TyOK Try.prog 24 (⟨.slice 5, 1, 24, [.nilS], (.sl .u8), false⟩ : TI Sx) := ⟨(show Try.prog.underlying 24 = some (.slice 5) by kernel_rfl), by kernel_rfl, by kernel_rfl, by kernel_rfl, fun _ => rfl⟩
theorem ty_25 : TyOK Try.prog 25 (⟨.struct [(3, 0, 1), (3, 1, 1), (3, 2, 1), (3, 3, 1), (24, 4, 1)], 5, 56, [.int .i64 0, .int .i64 0, .int .i64 0, .int .i64 0, .nilS], (.st 5), false⟩ : TI Sx) := ⟨(show undS Try.prog 25 = some [(3, 0, 1), (3, 1, 1), (3, 2, 1), (3, 3, 1), (24, 4, 1)] by kernel_rfl), by kernel_rfl, by kernel_rfl, by kernel_rfl, fun h => by cases h⟩
theorem ty_26 : TyOK Try.prog 26 (⟨.struct [(3, 0, 1), (3, 1, 1), (3, 2, 1), (3, 3, 1), (24, 4, 1)], 5, 56, [.int .i64 0, .int .i64 0, .int .i64 0, .int .i64 0, .nilS], (.st 4), false⟩ : TI Sx) := ⟨(show undS Try.prog 26 = some [(3, 0, 1), (3, 1, 1), (3, 2, 1), (3, 3, 1), (24, 4, 1)] by kernel_rfl), by kernel_rfl, by kernel_rfl, by kernel_rfl, fun h => by cases h⟩
theorem ty_27 : TyOK Try.prog 27 (⟨.func, 1, 8, [.nilF], .bo, false⟩ : TI Sx) := ⟨(show (Try.prog.underlying 27).map isFuncD = some true by kernel_rfl), by kernel_rfl, by kernel_rfl, by kernel_rfl, fun _ => rfl⟩
theorem ty_28 : TyOK Try.prog 28 (⟨.func, 1, 8, [.nilF], .bo, false⟩ : TI Sx) := ⟨(show (Try.prog.underlying 28).map isFuncD = some true by kernel_rfl), by kernel_rfl, by kernel_rfl, by kernel_rfl, fun _ => rfl⟩
theorem ty_29 : TyOK Try.prog 29 (⟨.func, 1, 8, [.nilF], .bo, false⟩ : TI Sx) := ⟨(show (Try.prog.underlying 29).map isFuncD = some true by kernel_rfl), by kernel_rfl, by kernel_rfl, by kernel_rfl, fun _ => rfl⟩
theorem ty_30 : TyOK Try.prog 30 (⟨.func, 1, 8, [.nilF], .bo, false⟩ : TI Sx) := ⟨(show (Try.prog.underlying 30).map isFuncD = some true by kernel_rfl), by kernel_rfl, by kernel_rfl, by kernel_rfl, fun _ => rfl⟩
theorem ty_31 : TyOK Try.prog 31 (⟨.func, 1, 8, [.nilF], .bo, false⟩ : TI Sx) := ⟨(show (Try.prog.underlying 31).map isFuncD = some true by kernel_rfl), by kernel_rfl, by kernel_rfl, by kernel_rfl, fun _ => rfl⟩
theorem ty_32 : TyOK Try.prog 32 (⟨.array 32 5, 32, 32, [.a8 32 (fun _ => 0)], (.a8 32), true⟩ : TI Sx) := ⟨(show Try.prog.underlying 32 = some (.array 32 5) by kernel_rfl), by kernel_rfl, by kernel_rfl, by kernel_rfl, fun h => by cases h⟩
theorem ty_33 : TyOK Try.prog 33 (⟨.struct [(3, 0, 1), (3, 1, 1), (32, 2, 32), (32, 34, 32), (22, 66, 1)], 67, 104, [.int .i64 0, .int .i64 0, .a8 32 (fun _ => 0), .a8 32 (fun _ => 0), .nilS], (.st 6), false⟩ : TI Sx) := ⟨(show undS Try.prog 33 = some [(3, 0, 1), (3, 1, 1), (32, 2, 32), (32, 34, 32), (22, 66, 1)] by kernel_rfl), by kernel_rfl, by kernel_rfl, by kernel_rfl, fun h => by cases h⟩
theorem ty_34 : TyOK Try.prog 34 (⟨.struct [(3, 0, 1), (3, 1, 1), (32, 2, 32), (32, 34, 32), (22, 66, 1)], 67, 104, [.int .i64 0, .int .i64 0, .a8 32 (fun _ => 0), .a8 32 (fun _ => 0), .nilS], (.st 7), false⟩ : TI Sx) := ⟨(show undS Try.prog 34 = some [(3, 0, 1), (3, 1, 1), (32, 2, 32), (32, 34, 32), (22, 66, 1)] by kernel_rfl), by kernel_rfl, by kernel_rfl, by kernel_rfl, fun h => by cases h⟩
theorem ty_35 : TyOK Try.prog 35 (⟨.func, 1, 8, [.nilF], .bo, false⟩ : TI Sx) := ⟨(show (Try.prog.underlying 35).map isFuncD = some true by kernel_rfl), by kernel_rfl, by kernel_rfl, by kernel_rfl, fun _ => rfl⟩
theorem ty_36 : TyOK Try.prog 36 (⟨.func, 1, 8, [.nilF], .bo, false⟩ : TI Sx) := ⟨(show (Try.prog.underlying 36).map isFuncD = some true by kernel_rfl), by kernel_rfl, by kernel_rfl, by kernel_rfl, fun _ => rfl⟩
theorem ty_37 : TyOK Try.prog 37 (⟨.func, 1, 8, [.nilF], .bo, false⟩ : TI Sx) := ⟨(show (Try.prog.underlying 37).map isFuncD = some true by kernel_rfl), by kernel_rfl, by kernel_rfl, by kernel_rfl, fun _ => rfl⟩
theorem ty_38 : TyOK Try.prog 38 (⟨.func, 1, 8, [.nilF], .bo, false⟩ : TI Sx) := ⟨(show (Try.prog.underlying 38).map isFuncD = some true by kernel_rfl), by kernel_rfl, by kernel_rfl, by kernel_rfl, fun _ => rfl⟩
theorem ty_39 : TyOK Try.prog 39 (⟨.func, 1, 8, [.nilF], .bo, false⟩ : TI Sx) := ⟨(show (Try.prog.underlying 39).map isFuncD = some true by kernel_rfl), by kernel_rfl, by kernel_rfl, by kernel_rfl, fun _ => rfl⟩
theorem ty_40 : TyOK Try.prog 40 (⟨.func, 1, 8, [.nilF], .bo, false⟩ : TI Sx) := ⟨(show (Try.prog.underlying 40).map isFuncD = some true by kernel_rfl), by kernel_rfl, by kernel_rfl, by kernel_rfl, fun _ => rfl⟩
theorem ty_41 : TyOK Try.prog 41 (⟨.slice 3, 1, 24, [.nilS], (.sl (.int .i64)), false⟩ : TI Sx) := ⟨(show Try.prog.underlying 41 = some (.slice 3) by kernel_rfl), by kernel_rfl, by kernel_rfl, by kernel_rfl, fun _ => rfl⟩
theorem ty_43 : TyOK Try.prog 43 (⟨.func, 1, 8, [.nilF], .bo, false⟩ : TI Sx) := ⟨(show (Try.prog.underlying 43).map isFuncD = some true by kernel_rfl), by kernel_rfl, by kernel_rfl, by kernel_rfl, fun _ => rfl⟩
theorem ty_44 : TyOK Try.prog 44 (⟨.func, 1, 8, [.nilF], .bo, false⟩ : TI Sx) := ⟨(show (Try.prog.underlying 44).map isFuncD = some true by kernel_rfl), by kernel_rfl, by kernel_rfl, by kernel_rfl, fun _ => rfl⟩
theorem ty_45 : TyOK Try.prog 45 (⟨.func, 1, 8, [.nilF], .bo, false⟩ : TI Sx) := ⟨(show (Try.prog.underlying 45).map isFuncD = some true by kernel_rfl), by kernel_rfl, by kernel_rfl, by kernel_rfl, fun _ => rfl⟩
theorem ty_46 : TyOK Try.prog 46 (⟨.ptr 118, 1, 8, [.nilP], .bo, false⟩ : TI Sx) := ⟨(show Try.prog.underlying 46 = some (.pointer 118) by kernel_rfl), by kernel_rfl, by kernel_rfl, by kernel_rfl, fun _ => rfl⟩
theorem ty_47 : TyOK Try.prog 47 (⟨.func, 1, 8, [.nilF], .bo, false⟩ : TI Sx) := ⟨(show (Try.prog.underlying 47).map isFuncD = some true by kernel_rfl), by kernel_rfl, by kernel_rfl, by kernel_rfl, fun _ => rfl⟩
theorem ty_48 : TyOK Try.prog 48 (⟨.ptr 53, 1, 8, [.nilP], .bo, false⟩ : TI Sx) := ⟨(show Try.prog.underlying 48 = some (.pointer 53) by kernel_rfl), by kernel_rfl, by kernel_rfl, by kernel_rfl, fun _ => rfl⟩
theorem ty_49 : TyOK Try.prog 49 (⟨.func, 1, 8, [.nilF], .bo, false⟩ : TI Sx) := ⟨(show (Try.prog.underlying 49).map isFuncD = some true by kernel_rfl), by kernel_rfl, by kernel_rfl, by kernel_rfl, fun _ => rfl⟩
theorem ty_50 : TyOK Try.prog 50 (⟨.func, 1, 8, [.nilF], .bo, false⟩ : TI Sx) := ⟨(show (Try.prog.underlying 50).map isFuncD = some true by kernel_rfl), by kernel_rfl, by kernel_rfl, by kernel_rfl, fun _ => rfl⟩
theorem ty_51 : TyOK Try.prog 51 (⟨.slice 55, 1, 24, [.nilS], (.sl (.st 8)), false⟩ : TI Sx) := ⟨(show Try.prog.underlying 51 = some (.slice 55) by kernel_rfl), by kernel_rfl, by kernel_rfl, by kernel_rfl, fun _ => rfl⟩
theorem ty_52 : TyOK Try.prog 52 (⟨.struct [(3, 0, 1), (51, 1, 1)], 2, 32, [.int .i64 0, .nilS], (.st 9), false⟩ : TI Sx) := ⟨(show undS Try.prog 52 = some [(3, 0, 1), (51, 1, 1)] by kernel_rfl), by kernel_rfl, by kernel_rfl, by kernel_rfl, fun h => by cases h⟩
theorem ty_53 : TyOK Try.prog 53 (⟨.struct [(3, 0, 1), (51, 1, 1)], 2, 32, [.int .i64 0, .nilS], (.st 10), false⟩ : TI Sx) := ⟨(show undS Try.prog 53 = some [(3, 0, 1), (51, 1, 1)] by kernel_rfl), by kernel_rfl, by kernel_rfl, by kernel_rfl, fun h => by cases h⟩
theorem ty_54 : TyOK Try.prog 54 (⟨.struct [(3, 0, 1), (3, 1, 1)], 2, 16, [.int .i64 0, .int .i64 0], (.st 11), true⟩ : TI Sx) := ⟨(show undS Try.prog 54 = some [(3, 0, 1), (3, 1, 1)] by kernel_rfl), by kernel_rfl, by kernel_rfl, by kernel_rfl, fun h => by cases h⟩
theorem ty_55 : TyOK Try.prog 55 (⟨.struct [(3, 0, 1), (3, 1, 1)], 2, 16, [.int .i64 0, .int .i64 0], (.st 8), true⟩ : TI Sx) := ⟨(show undS Try.prog 55 = some [(3, 0, 1), (3, 1, 1)] by kernel_rfl), by kernel_rfl, by kernel_rfl, by kernel_rfl, fun h => by cases h⟩
theorem ty_56 : TyOK Try.prog 56 (⟨.func, 1, 8, [.nilF], .bo, false⟩ : TI Sx) := ⟨(show (Try.prog.underlying 56).map isFuncD = some true by kernel_rfl), by kernel_rfl, by kernel_rfl, by kernel_rfl, fun _ => rfl⟩
theorem ty_57 : TyOK Try.prog 57 (⟨.struct [(3, 0, 1), (3, 1, 1)], 2, 16, [.int .i64 0, .int .i64 0], (.st 12), true⟩ : TI Sx) := ⟨(show undS Try.prog 57 = some [(3, 0, 1), (3, 1, 1)] by kernel_rfl), by kernel_rfl, by kernel_rfl, by kernel_rfl, fun h => by cases h⟩
theorem ty_58 : TyOK Try.prog 58 (⟨.array 2 3, 2, 16, [.ai 2 .i64 (fun _ => 0)], (.ai 2 .i64), false⟩ : TI Sx) := ⟨(show Try.prog.underlying 58 = some (.array 2 3) by kernel_rfl), by kernel_rfl, by kernel_rfl, by kernel_rfl, fun h => by cases h⟩
theorem ty_59 : TyOK Try.prog 59 (⟨.slice 61, 1, 24, [.nilS], (.sl (.st 13)), false⟩ : TI Sx) := ⟨(show Try.prog.underlying 59 = some (.slice 61) by kernel_rfl), by kernel_rfl, by kernel_rfl, by kernel_rfl, fun _ => rfl⟩
theorem ty_60 : TyOK Try.prog 60 (⟨.struct [(3, 0, 1), (3, 1, 1)], 2, 16, [.int .i64 0, .int .i64 0], (.st 14), true⟩ : TI Sx) := ⟨(show undS Try.prog 60 = some [(3, 0, 1), (3, 1, 1)] by kernel_rfl), by kernel_rfl, by kernel_rfl, by kernel_rfl, fun h => by cases h⟩
theorem ty_61 : TyOK Try.prog 61 (⟨.struct [(3, 0, 1), (3, 1, 1)], 2, 16, [.int .i64 0, .int .i64 0], (.st 13), true⟩ : TI Sx) := ⟨(show undS Try.prog 61 = some [(3, 0, 1), (3, 1, 1)] by kernel_rfl), by kernel_rfl, by kernel_rfl, by kernel_rfl, fun h => by cases h⟩
theorem ty_62 : TyOK Try.prog 62 (⟨.func, 1, 8, [.nilF], .bo, false⟩ : TI Sx) := ⟨(show (Try.prog.underlying 62).map isFuncD = some true by kernel_rfl), by kernel_rfl, by kernel_rfl, by kernel_rfl, fun _ => rfl⟩
theorem ty_63 : TyOK Try.prog 63 (⟨.func, 1, 8, [.nilF], .bo, false⟩ : TI Sx) := ⟨(show (Try.prog.underlying 63).map isFuncD = some true by kernel_rfl), by kernel_rfl, by kernel_rfl, by kernel_rfl, fun _ => rfl⟩
theorem ty_64 : TyOK Try.prog 64 (⟨.func, 1, 8, [.nilF], .bo, false⟩ : TI Sx) := ⟨(show (Try.prog.underlying 64).map isFuncD = some true by kernel_rfl), by kernel_rfl, by kernel_rfl, by kernel_rfl, fun _ => rfl⟩
theorem ty_65 : TyOK Try.prog 65 (⟨.func, 1, 8, [.nilF], .bo, false⟩ : TI Sx) := ⟨(show (Try.prog.underlying 65).map isFuncD = some true by kernel_rfl), by kernel_rfl, by kernel_rfl, by kernel_rfl, fun _ => rfl⟩
theorem ty_66 : TyOK Try.prog 66 (⟨.func, 1, 8, [.nilF], .bo, false⟩ : TI Sx) := ⟨(show (Try.prog.underlying 66).map isFuncD = some true by kernel_rfl), by kernel_rfl, by kernel_rfl, by kernel_rfl, fun _ => rfl⟩
theorem ty_67 : TyOK Try.prog 67 (⟨.func, 1, 8, [.nilF], .bo, false⟩ : TI Sx) := ⟨(show (Try.prog.underlying 67).map isFuncD = some true by kernel_rfl), by kernel_rfl, by kernel_rfl, by kernel_rfl, fun _ => rfl⟩
theorem ty_68 : TyOK Try.prog 68 (⟨.func, 1, 8, [.nilF], .bo, false⟩ : TI Sx) := ⟨(show (Try.prog.underlying 68).map isFuncD = some true by kernel_rfl), by kernel_rfl, by kernel_rfl, by kernel_rfl, fun _ => rfl⟩
theorem ty_69 : TyOK Try.prog 69 (⟨.func, 1, 8, [.nilF], .bo, false⟩ : TI Sx) := ⟨(show (Try.prog.underlying 69).map isFuncD = some true by kernel_rfl), by kernel_rfl, by kernel_rfl, by kernel_rfl, fun _ => rfl⟩
theorem ty_70 : TyOK Try.prog 70 (⟨.func, 1, 8, [.nilF], .bo, false⟩ : TI Sx) := ⟨(show (Try.prog.underlying 70).map isFuncD = some true by kernel_rfl), by kernel_rfl, by kernel_rfl, by kernel_rfl, fun _ => rfl⟩
theorem ty_71 : TyOK Try.prog 71 (⟨.int .i64, 1, 8, [.int .i64 0], (.int .i64), false⟩ : TI Sx) := ⟨(show Try.prog.underlying 71 = some (.int .i64) by kernel_rfl), by kernel_rfl, by kernel_rfl, by kernel_rfl, fun _ => rfl⟩
theorem ty_72 : TyOK Try.prog 72 (⟨.struct [(71, 0, 1), (3, 1, 1)], 2, 16, [.int .i64 0, .int .i64 0], (.st 15), true⟩ : TI Sx) := ⟨(show undS Try.prog 72 = some [(71, 0, 1), (3, 1, 1)] by kernel_rfl), by kernel_rfl, by kernel_rfl, by kernel_rfl, fun h => by cases h⟩
theorem ty_73 : TyOK Try.prog 73 (⟨.struct [(71, 0, 1), (3, 1, 1)], 2, 16, [.int .i64 0, .int .i64 0], (.st 16), true⟩ : TI Sx) := ⟨(show undS Try.prog 73 = some [(71, 0, 1), (3, 1, 1)] by kernel_rfl), by kernel_rfl, by kernel_rfl, by kernel_rfl, fun h => by cases h⟩
theorem ty_74 : TyOK Try.prog 74 (⟨.func, 1, 8, [.nilF], .bo, false⟩ : TI Sx) := ⟨(show (Try.prog.underlying 74).map isFuncD = some true by kernel_rfl), by kernel_rfl, by kernel_rfl, by kernel_rfl, fun _ => rfl⟩
theorem ty_75 : TyOK Try.prog 75 (⟨.func, 1, 8, [.nilF], .bo, false⟩ : TI Sx) := ⟨(show (Try.prog.underlying 75).map isFuncD = some true by kernel_rfl), by kernel_rfl, by kernel_rfl, by kernel_rfl, fun _ => rfl⟩
theorem ty_76 : TyOK Try.prog 76 (⟨.func, 1, 8, [.nilF], .bo, false⟩ : TI Sx) := ⟨(show (Try.prog.underlying 76).map isFuncD = some true by kernel_rfl), by kernel_rfl, by kernel_rfl, by kernel_rfl, fun _ => rfl⟩
theorem ty_77 : TyOK Try.prog 77 (⟨.func, 1, 8, [.nilF], .bo, false⟩ : TI Sx) := ⟨(show (Try.prog.underlying 77).map isFuncD = some true by kernel_rfl), by kernel_rfl, by kernel_rfl, by kernel_rfl, fun _ => rfl⟩
theorem ty_78 : TyOK Try.prog 78 (⟨.func, 1, 8, [.nilF], .bo, false⟩ : TI Sx) := ⟨(show (Try.prog.underlying 78).map isFuncD = some true by kernel_rfl), by kernel_rfl, by kernel_rfl, by kernel_rfl, fun _ => rfl⟩
theorem ty_80 : TyOK Try.prog 80 (⟨.func, 1, 8, [.nilF], .bo, false⟩ : TI Sx) := ⟨(show (Try.prog.underlying 80).map isFuncD = some true by kernel_rfl), by kernel_rfl, by kernel_rfl, by kernel_rfl, fun _ => rfl⟩
theorem ty_81 : TyOK Try.prog 81 (⟨.func, 1, 8, [.nilF], .bo, false⟩ : TI Sx) := ⟨(show (Try.prog.underlying 81).map isFuncD = some true by kernel_rfl), by kernel_rfl, by kernel_rfl, by kernel_rfl, fun _ => rfl⟩
theorem ty_82 : TyOK Try.prog 82 (⟨.func, 1, 8, [.nilF], .bo, false⟩ : TI Sx) := ⟨(show (Try.prog.underlying 82).map isFuncD = some true by kernel_rfl), by kernel_rfl, by kernel_rfl, by kernel_rfl, fun _ => rfl⟩
theorem ty_83 : TyOK Try.prog 83 (⟨.func, 1, 8, [.nilF], .bo, false⟩ : TI Sx) := ⟨(show (Try.prog.underlying 83).map isFuncD = some true by kernel_rfl), by kernel_rfl, by kernel_rfl, by kernel_rfl, fun _ => rfl⟩
theorem ty_84 : TyOK Try.prog 84 (⟨.func, 1, 8, [.nilF], .bo, false⟩ : TI Sx) := ⟨(show (Try.prog.underlying 84).map isFuncD = some true by kernel_rfl), by kernel_rfl, by kernel_rfl, by kernel_rfl, fun _ => rfl⟩
theorem ty_85 : TyOK Try.prog 85 (⟨.struct [(4, 0, 1), (3, 1, 1), (5, 2, 1)], 3, 24, [.tt false, .int .i64 0, .u8 0], (.st 17), true⟩ : TI Sx) := ⟨(show undS Try.prog 85 = some [(4, 0, 1), (3, 1, 1), (5, 2, 1)] by kernel_rfl), by kernel_rfl, by kernel_rfl, by kernel_rfl, fun h => by cases h⟩
theorem ty_86 : TyOK Try.prog 86 (⟨.struct [(4, 0, 1), (3, 1, 1), (5, 2, 1)], 3, 24, [.tt false, .int .i64 0, .u8 0], (.st 18), true⟩ : TI Sx) := ⟨(show undS Try.prog 86 = some [(4, 0, 1), (3, 1, 1), (5, 2, 1)] by kernel_rfl), by kernel_rfl, by kernel_rfl, by kernel_rfl, fun h => by cases h⟩
theorem ty_88 : TyOK Try.prog 88 (⟨.func, 1, 8, [.nilF], .bo, false⟩ : TI Sx) := ⟨(show (Try.prog.underlying 88).map isFuncD = some true by kernel_rfl), by kernel_rfl, by kernel_rfl, by kernel_rfl, fun _ => rfl⟩
theorem ty_89 : TyOK Try.prog 89 (⟨.func, 1, 8, [.nilF], .bo, false⟩ : TI Sx) := ⟨(show (Try.prog.underlying 89).map isFuncD = some true by kernel_rfl), by kernel_rfl, by kernel_rfl, by kernel_rfl, fun _ => rfl⟩
theorem ty_90 : TyOK Try.prog 90 (⟨.func, 1, 8, [.nilF], .bo, false⟩ : TI Sx) := ⟨(show (Try.prog.underlying 90).map isFuncD = some true by kernel_rfl), by kernel_rfl, by kernel_rfl, by kernel_rfl, fun _ => rfl⟩
theorem ty_92 : TyOK Try.prog 92 (⟨.func, 1, 8, [.nilF], .bo, false⟩ : TI Sx) := ⟨(show (Try.prog.underlying 92).map isFuncD = some true by kernel_rfl), by kernel_rfl, by kernel_rfl, by kernel_rfl, fun _ => rfl⟩
theorem ty_93 : TyOK Try.prog 93 (⟨.func, 1, 8, [.nilF], .bo, false⟩ : TI Sx) := ⟨(show (Try.prog.underlying 93).map isFuncD = some true by kernel_rfl), by kernel_rfl, by kernel_rfl, by kernel_rfl, fun _ => rfl⟩
theorem ty_94 : TyOK Try.prog 94 (⟨.func, 1, 8, [.nilF], .bo, false⟩ : TI Sx) := ⟨(show (Try.prog.underlying 94).map isFuncD = some true by kernel_rfl), by kernel_rfl, by kernel_rfl, by kernel_rfl, fun _ => rfl⟩
theorem ty_95 : TyOK Try.prog 95 (⟨.func, 1, 8, [.nilF], .bo, false⟩ : TI Sx) := ⟨(show (Try.prog.underlying 95).map isFuncD = some true by kernel_rfl), by kernel_rfl, by kernel_rfl, by kernel_rfl, fun _ => rfl⟩
theorem ty_96 : TyOK Try.prog 96 (⟨.ptr 22, 1, 8, [.nilP], .bo, false⟩ : TI Sx) := ⟨(show Try.prog.underlying 96 = some (.pointer 22) by kernel_rfl), by kernel_rfl, by kernel_rfl, by kernel_rfl, fun _ => rfl⟩
theorem ty_97 : TyOK Try.prog 97 (⟨.func, 1, 8, [.nilF], .bo, false⟩ : TI Sx) := ⟨(show (Try.prog.underlying 97).map isFuncD = some true by kernel_rfl), by kernel_rfl, by kernel_rfl, by kernel_rfl, fun _ => rfl⟩
theorem ty_98 : TyOK Try.prog 98 (⟨.struct [(4, 0, 1), (3, 1, 1), (5, 2, 1)], 3, 24, [.tt false, .int .i64 0, .u8 0], (.st 19), true⟩ : TI Sx) := ⟨(show undS Try.prog 98 = some [(4, 0, 1), (3, 1, 1), (5, 2, 1)] by kernel_rfl), by kernel_rfl, by kernel_rfl, by kernel_rfl, fun h => by cases h⟩
theorem ty_99 : TyOK Try.prog 99 (⟨.func, 1, 8, [.nilF], .bo, false⟩ : TI Sx) := ⟨(show (Try.prog.underlying 99).map isFuncD = some true by kernel_rfl), by kernel_rfl, by kernel_rfl, by kernel_rfl, fun _ => rfl⟩
theorem ty_100 : TyOK Try.prog 100 (⟨.func, 1, 8, [.nilF], .bo, false⟩ : TI Sx) := ⟨(show (Try.prog.underlying 100).map isFuncD = some true by kernel_rfl), by kernel_rfl, by kernel_rfl, by kernel_rfl, fun _ => rfl⟩
theorem ty_101 : TyOK Try.prog 101 (⟨.func, 1, 8, [.nilF], .bo, false⟩ : TI Sx) := ⟨(show (Try.prog.underlying 101).map isFuncD = some true by kernel_rfl), by kernel_rfl, by kernel_rfl, by kernel_rfl, fun _ => rfl⟩
theorem ty_102 : TyOK Try.prog 102 (⟨.func, 1, 8, [.nilF], .bo, false⟩ : TI Sx) := ⟨(show (Try.prog.underlying 102).map isFuncD = some true by kernel_rfl), by kernel_rfl, by kernel_rfl, by kernel_rfl, fun _ => rfl⟩
theorem ty_103 : TyOK Try.prog 103 (⟨.func, 1, 8, [.nilF], .bo, false⟩ : TI Sx) := ⟨(show (Try.prog.underlying 103).map isFuncD = some true by kernel_rfl), by kernel_rfl, by kernel_rfl, by kernel_rfl, fun _ => rfl⟩
theorem ty_105 : TyOK Try.prog 105 (⟨.func, 1, 8, [.nilF], .bo, false⟩ : TI Sx) := ⟨(show (Try.prog.underlying 105).map isFuncD = some true by kernel_rfl), by kernel_rfl, by kernel_rfl, by kernel_rfl, fun _ => rfl⟩
theorem ty_106 : TyOK Try.prog 106 (⟨.func, 1, 8, [.nilF], .bo, false⟩ : TI Sx) := ⟨(show (Try.prog.underlying 106).map isFuncD = some true by kernel_rfl), by kernel_rfl, by kernel_rfl, by kernel_rfl, fun _ => rfl⟩
theorem ty_107 : TyOK Try.prog 107 (⟨.func, 1, 8, [.nilF], .bo, false⟩ : TI Sx) := ⟨(show (Try.prog.underlying 107).map isFuncD = some true by kernel_rfl), by kernel_rfl, by kernel_rfl, by kernel_rfl, fun _ => rfl⟩
theorem ty_108 : TyOK Try.prog 108 (⟨.func, 1, 8, [.nilF], .bo, false⟩ : TI Sx) := ⟨(show (Try.prog.underlying 108).map isFuncD = some true by kernel_rfl), by kernel_rfl, by kernel_rfl, by kernel_rfl, fun _ => rfl⟩
theorem ty_109 : TyOK Try.prog 109 (⟨.func, 1, 8, [.nilF], .bo, false⟩ : TI Sx) := ⟨(show (Try.prog.underlying 109).map isFuncD = some true by kernel_rfl), by kernel_rfl, by kernel_rfl, by kernel_rfl, fun _ => rfl⟩
theorem ty_110 : TyOK Try.prog 110 (⟨.func, 1, 8, [.nilF], .bo, false⟩ : TI Sx) := ⟨(show (Try.prog.underlying 110).map isFuncD = some true by kernel_rfl), by kernel_rfl, by kernel_rfl, by kernel_rfl, fun _ => rfl⟩
theorem ty_111 : TyOK Try.prog 111 (⟨.ptr 154, 1, 8, [.nilP], .bo, false⟩ : TI Sx) := ⟨(show Try.prog.underlying 111 = some (.pointer 154) by kernel_rfl), by kernel_rfl, by kernel_rfl, by kernel_rfl, fun _ => rfl⟩
theorem ty_112 : TyOK Try.prog 112 (⟨.func, 1, 8, [.nilF], .bo, false⟩ : TI Sx) := ⟨(show (Try.prog.underlying 112).map isFuncD = some true by kernel_rfl), by kernel_rfl, by kernel_rfl, by kernel_rfl, fun _ => rfl⟩
theorem ty_113 : TyOK Try.prog 113 (⟨.func, 1, 8, [.nilF], .bo, false⟩ : TI Sx) := ⟨(show (Try.prog.underlying 113).map isFuncD = some true by kernel_rfl), by kernel_rfl, by kernel_rfl, by kernel_rfl, fun _ => rfl⟩
theorem ty_114 : TyOK Try.prog 114 (⟨.func, 1, 8, [.nilF], .bo, false⟩ : TI Sx) := ⟨(show (Try.prog.underlying 114).map isFuncD = some true by kernel_rfl), by kernel_rfl, by kernel_rfl, by kernel_rfl, fun _ => rfl⟩
theorem ty_115 : TyOK Try.prog 115 (⟨.map 57 4, 1, 8, [.nilM], .bo, false⟩ : TI Sx) := ⟨(show Try.prog.underlying 115 = some (.map 57 4) by kernel_rfl), by kernel_rfl, by kernel_rfl, by kernel_rfl, fun _ => rfl⟩
theorem ty_116 : TyOK Try.prog 116 (⟨.map 3 41, 1, 8, [.nilM], .bo, false⟩ : TI Sx) := ⟨(show Try.prog.underlying 116 = some (.map 3 41) by kernel_rfl), by kernel_rfl, by kernel_rfl, by kernel_rfl, fun _ => rfl⟩
theorem ty_117 : TyOK Try.prog 117 (⟨.struct [(3, 0, 1), (115, 1, 1), (116, 2, 1), (116, 3, 1)], 4, 32, [.int .i64 0, .nilM, .nilM, .nilM], .bo, false⟩ : TI Sx) := ⟨(show undS Try.prog 117 = some [(3, 0, 1), (115, 1, 1), (116, 2, 1), (116, 3, 1)] by kernel_rfl), by kernel_rfl, by kernel_rfl, by kernel_rfl, fun h => by cases h⟩
theorem ty_118 : TyOK Try.prog 118 (⟨.struct [(3, 0, 1), (115, 1, 1), (116, 2, 1), (116, 3, 1)], 4, 32, [.int .i64 0, .nilM, .nilM, .nilM], .bo, false⟩ : TI Sx) := ⟨(show undS Try.prog 118 = some [(3, 0, 1), (115, 1, 1), (116, 2, 1), (116, 3, 1)] by kernel_rfl), by kernel_rfl, by kernel_rfl, by kernel_rfl, fun h => by cases h⟩
theorem ty_119 : TyOK Try.prog 119 (⟨.func, 1, 8, [.nilF], .bo, false⟩ : TI Sx) := ⟨(show (Try.prog.underlying 119).map isFuncD = some true by kernel_rfl), by kernel_rfl, by kernel_rfl, by kernel_rfl, fun _ => rfl⟩
theorem ty_120 : TyOK Try.prog 120 (⟨.func, 1, 8, [.nilF], .bo, false⟩ : TI Sx) := ⟨(show (Try.prog.underlying 120).map isFuncD = some true by kernel_rfl), by kernel_rfl, by kernel_rfl, by kernel_rfl, fun _ => rfl⟩
theorem ty_121 : TyOK Try.prog 121 (⟨.func, 1, 8, [.nilF], .bo, false⟩ : TI Sx) := ⟨(show (Try.prog.underlying 121).map isFuncD = some true by kernel_rfl), by kernel_rfl, by kernel_rfl, by kernel_rfl, fun _ => rfl⟩
theorem ty_122 : TyOK Try.prog 122 (⟨.func, 1, 8, [.nilF], .bo, false⟩ : TI Sx) := ⟨(show (Try.prog.underlying 122).map isFuncD = some true by kernel_rfl), by kernel_rfl, by kernel_rfl, by kernel_rfl, fun _ => rfl⟩
theorem ty_123 : TyOK Try.prog 123 (⟨.func, 1, 8, [.nilF], .bo, false⟩ : TI Sx) := ⟨(show (Try.prog.underlying 123).map isFuncD = some true by kernel_rfl), by kernel_rfl, by kernel_rfl, by kernel_rfl, fun _ => rfl⟩
theorem ty_124 : TyOK Try.prog 124 (⟨.func, 1, 8, [.nilF], .bo, false⟩ : TI Sx) := ⟨(show (Try.prog.underlying 124).map isFuncD = some true by kernel_rfl), by kernel_rfl, by kernel_rfl, by kernel_rfl, fun _ => rfl⟩
theorem ty_125 : TyOK Try.prog 125 (⟨.func, 1, 8, [.nilF], .bo, false⟩ : TI Sx) := ⟨(show (Try.prog.underlying 125).map isFuncD = some true by kernel_rfl), by kernel_rfl, by kernel_rfl, by kernel_rfl, fun _ => rfl⟩
theorem ty_126 : TyOK Try.prog 126 (⟨.func, 1, 8, [.nilF], .bo, false⟩ : TI Sx) := ⟨(show (Try.prog.underlying 126).map isFuncD = some true by kernel_rfl), by kernel_rfl, by kernel_rfl, by kernel_rfl, fun _ => rfl⟩
theorem ty_127 : TyOK Try.prog 127 (⟨.func, 1, 8, [.nilF], .bo, false⟩ : TI Sx) := ⟨(show (Try.prog.underlying 127).map isFuncD = some true by kernel_rfl), by kernel_rfl, by kernel_rfl, by kernel_rfl, fun _ => rfl⟩
theorem ty_128 : TyOK Try.prog 128 (⟨.func, 1, 8, [.nilF], .bo, false⟩ : TI Sx) := ⟨(show (Try.prog.underlying 128).map isFuncD = some true by kernel_rfl), by kernel_rfl, by kernel_rfl, by kernel_rfl, fun _ => rfl⟩
theorem ty_129 : TyOK Try.prog 129 (⟨.func, 1, 8, [.nilF], .bo, false⟩ : TI Sx) := ⟨(show (Try.prog.underlying 129).map isFuncD = some true by kernel_rfl), by kernel_rfl, by kernel_rfl, by kernel_rfl, fun _ => rfl⟩
theorem ty_130 : TyOK Try.prog 130 (⟨.func, 1, 8, [.nilF], .bo, false⟩ : TI Sx) := ⟨(show (Try.prog.underlying 130).map isFuncD = some true by kernel_rfl), by kernel_rfl, by kernel_rfl, by kernel_rfl, fun _ => rfl⟩
theorem ty_132 : TyOK Try.prog 132 (⟨.func, 1, 8, [.nilF], .bo, false⟩ : TI Sx) := ⟨(show (Try.prog.underlying 132).map isFuncD = some true by kernel_rfl), by kernel_rfl, by kernel_rfl, by kernel_rfl, fun _ => rfl⟩
theorem ty_133 : TyOK Try.prog 133 (⟨.func, 1, 8, [.nilF], .bo, false⟩ : TI Sx) := ⟨(show (Try.prog.underlying 133).map isFuncD = some true by kernel_rfl), by kernel_rfl, by kernel_rfl, by kernel_rfl, fun _ => rfl⟩
theorem ty_134 : TyOK Try.prog 134 (⟨.func, 1, 8, [.nilF], .bo, false⟩ : TI Sx) := ⟨(show (Try.prog.underlying 134).map isFuncD = some true by kernel_rfl), by kernel_rfl, by kernel_rfl, by kernel_rfl, fun _ => rfl⟩
theorem ty_135 : TyOK Try.prog 135 (⟨.func, 1, 8, [.nilF], .bo, false⟩ : TI Sx) := ⟨(show (Try.prog.underlying 135).map isFuncD = some true by kernel_rfl), by kernel_rfl, by kernel_rfl, by kernel_rfl, fun _ => rfl⟩
theorem ty_136 : TyOK Try.prog 136 (⟨.struct [(61, 0, 2)], 2, 16, [.int .i64 0, .int .i64 0], (.st 20), true⟩ : TI Sx) := ⟨(show undS Try.prog 136 = some [(61, 0, 2)] by kernel_rfl), by kernel_rfl, by kernel_rfl, by kernel_rfl, fun h => by cases h⟩
theorem ty_137 : TyOK Try.prog 137 (⟨.struct [(61, 0, 2)], 2, 16, [.int .i64 0, .int .i64 0], (.st 21), true⟩ : TI Sx) := ⟨(show undS Try.prog 137 = some [(61, 0, 2)] by kernel_rfl), by kernel_rfl, by kernel_rfl, by kernel_rfl, fun h => by cases h⟩
theorem ty_138 : TyOK Try.prog 138 (⟨.func, 1, 8, [.nilF], .bo, false⟩ : TI Sx) := ⟨(show (Try.prog.underlying 138).map isFuncD = some true by kernel_rfl), by kernel_rfl, by kernel_rfl, by kernel_rfl, fun _ => rfl⟩
theorem ty_139 : TyOK Try.prog 139 (⟨.func, 1, 8, [.nilF], .bo, false⟩ : TI Sx) := ⟨(show (Try.prog.underlying 139).map isFuncD = some true by kernel_rfl), by kernel_rfl, by kernel_rfl, by kernel_rfl, fun _ => rfl⟩
theorem ty_140 : TyOK Try.prog 140 (⟨.func, 1, 8, [.nilF], .bo, false⟩ : TI Sx) := ⟨(show (Try.prog.underlying 140).map isFuncD = some true by kernel_rfl), by kernel_rfl, by kernel_rfl, by kernel_rfl, fun _ => rfl⟩
theorem ty_142 : TyOK Try.prog 142 (⟨.func, 1, 8, [.nilF], .bo, false⟩ : TI Sx) := ⟨(show (Try.prog.underlying 142).map isFuncD = some true by kernel_rfl), by kernel_rfl, by kernel_rfl, by kernel_rfl, fun _ => rfl⟩
theorem ty_143 : TyOK Try.prog 143 (⟨.func, 1, 8, [.nilF], .bo, false⟩ : TI Sx) := ⟨(show (Try.prog.underlying 143).map isFuncD = some true by kernel_rfl), by kernel_rfl, by kernel_rfl, by kernel_rfl, fun _ => rfl⟩
theorem ty_144 : TyOK Try.prog 144 (⟨.func, 1, 8, [.nilF], .bo, false⟩ : TI Sx) := ⟨(show (Try.prog.underlying 144).map isFuncD = some true by kernel_rfl), by kernel_rfl, by kernel_rfl, by kernel_rfl, fun _ => rfl⟩
theorem ty_145 : TyOK Try.prog 145 (⟨.slice 24, 1, 24, [.nilS], (.sl (.sl .u8)), false⟩ : TI Sx) := ⟨(show Try.prog.underlying 145 = some (.slice 24) by kernel_rfl), by kernel_rfl, by kernel_rfl, by kernel_rfl, fun _ => rfl⟩
theorem ty_146 : TyOK Try.prog 146 (⟨.func, 1, 8, [.nilF], .bo, false⟩ : TI Sx) := ⟨(show (Try.prog.underlying 146).map isFuncD = some true by kernel_rfl), by kernel_rfl, by kernel_rfl, by kernel_rfl, fun _ => rfl⟩
theorem ty_147 : TyOK Try.prog 147 (⟨.func, 1, 8, [.nilF], .bo, false⟩ : TI Sx) := ⟨(show (Try.prog.underlying 147).map isFuncD = some true by kernel_rfl), by kernel_rfl, by kernel_rfl, by kernel_rfl, fun _ => rfl⟩
theorem ty_148 : TyOK Try.prog 148 (⟨.slice 57, 1, 24, [.nilS], (.sl (.st 12)), false⟩ : TI Sx) := ⟨(show Try.prog.underlying 148 = some (.slice 57) by kernel_rfl), by kernel_rfl, by kernel_rfl, by kernel_rfl, fun _ => rfl⟩
theorem ty_149 : TyOK Try.prog 149 (⟨.func, 1, 8, [.nilF], .bo, false⟩ : TI Sx) := ⟨(show (Try.prog.underlying 149).map isFuncD = some true by kernel_rfl), by kernel_rfl, by kernel_rfl, by kernel_rfl, fun _ => rfl⟩
theorem ty_150 : TyOK Try.prog 150 (⟨.func, 1, 8, [.nilF], .bo, false⟩ : TI Sx) := ⟨(show (Try.prog.underlying 150).map isFuncD = some true by kernel_rfl), by kernel_rfl, by kernel_rfl, by kernel_rfl, fun _ => rfl⟩
theorem ty_151 : TyOK Try.prog 151 (⟨.func, 1, 8, [.nilF], .bo, false⟩ : TI Sx) := ⟨(show (Try.prog.underlying 151).map isFuncD = some true by kernel_rfl), by kernel_rfl, by kernel_rfl, by kernel_rfl, fun _ => rfl⟩
theorem ty_152 : TyOK Try.prog 152 (⟨.slice 156, 1, 24, [.nilS], (.sl (.st 22)), false⟩ : TI Sx) := ⟨(show Try.prog.underlying 152 = some (.slice 156) by kernel_rfl), by kernel_rfl, by kernel_rfl, by kernel_rfl, fun _ => rfl⟩
theorem ty_153 : TyOK Try.prog 153 (⟨.struct [(152, 0, 1)], 1, 24, [.nilS], (.st 23), false⟩ : TI Sx) := ⟨(show undS Try.prog 153 = some [(152, 0, 1)] by kernel_rfl), by kernel_rfl, by kernel_rfl, by kernel_rfl, fun h => by cases h⟩
theorem ty_154 : TyOK Try.prog 154 (⟨.struct [(152, 0, 1)], 1, 24, [.nilS], (.st 24), false⟩ : TI Sx) := ⟨(show undS Try.prog 154 = some [(152, 0, 1)] by kernel_rfl), by kernel_rfl, by kernel_rfl, by kernel_rfl, fun h => by cases h⟩
theorem ty_155 : TyOK Try.prog 155 (⟨.struct [(61, 0, 2), (3, 2, 1)], 3, 24, [.int .i64 0, .int .i64 0, .int .i64 0], (.st 25), true⟩ : TI Sx) := ⟨(show undS Try.prog 155 = some [(61, 0, 2), (3, 2, 1)] by kernel_rfl), by kernel_rfl, by kernel_rfl, by kernel_rfl, fun h => by cases h⟩
theorem ty_156 : TyOK Try.prog 156 (⟨.struct [(61, 0, 2), (3, 2, 1)], 3, 24, [.int .i64 0, .int .i64 0, .int .i64 0], (.st 22), true⟩ : TI Sx) := ⟨(show undS Try.prog 156 = some [(61, 0, 2), (3, 2, 1)] by kernel_rfl), by kernel_rfl, by kernel_rfl, by kernel_rfl, fun h => by cases h⟩
theorem ty_157 : TyOK Try.prog 157 (⟨.func, 1, 8, [.nilF], .bo, false⟩ : TI Sx) := ⟨(show (Try.prog.underlying 157).map isFuncD = some true by kernel_rfl), by kernel_rfl, by kernel_rfl, by kernel_rfl, fun _ => rfl⟩
theorem ty_158 : TyOK Try.prog 158 (⟨.func, 1, 8, [.nilF], .bo, false⟩ : TI Sx) := ⟨(show (Try.prog.underlying 158).map isFuncD = some true by kernel_rfl), by kernel_rfl, by kernel_rfl, by kernel_rfl, fun _ => rfl⟩
theorem ty_159 : TyOK Try.prog 159 (⟨.func, 1, 8, [.nilF], .bo, false⟩ : TI Sx) := ⟨(show (Try.prog.underlying 159).map isFuncD = some true by kernel_rfl), by kernel_rfl, by kernel_rfl, by kernel_rfl, fun _ => rfl⟩
theorem ty_160 : TyOK Try.prog 160 (⟨.func, 1, 8, [.nilF], .bo, false⟩ : TI Sx) := ⟨(show (Try.prog.underlying 160).map isFuncD = some true by kernel_rfl), by kernel_rfl, by kernel_rfl, by kernel_rfl, fun _ => rfl⟩
theorem ty_161 : TyOK Try.prog 161 (⟨.func, 1, 8, [.nilF], .bo, false⟩ : TI Sx) := ⟨(show (Try.prog.underlying 161).map isFuncD = some true by kernel_rfl), by kernel_rfl, by kernel_rfl, by kernel_rfl, fun _ => rfl⟩
theorem ty_162 : TyOK Try.prog 162 (⟨.struct [(137, 0, 2), (26, 2, 5)], 7, 72, [.int .i64 0, .int .i64 0, .int .i64 0, .int .i64 0, .int .i64 0, .int .i64 0, .nilS], (.st 26), false⟩ : TI Sx) := ⟨(show undS Try.prog 162 = some [(137, 0, 2), (26, 2, 5)] by kernel_rfl), by kernel_rfl, by kernel_rfl, by kernel_rfl, fun h => by cases h⟩
theorem ty_163 : TyOK Try.prog 163 (⟨.struct [(137, 0, 2), (26, 2, 5)], 7, 72, [.int .i64 0, .int .i64 0, .int .i64 0, .int .i64 0, .int .i64 0, .int .i64 0, .nilS], (.st 27), false⟩ : TI Sx) := ⟨(show undS Try.prog 163 = some [(137, 0, 2), (26, 2, 5)] by kernel_rfl), by kernel_rfl, by kernel_rfl, by kernel_rfl, fun h => by cases h⟩
theorem ty_164 : TyOK Try.prog 164 (⟨.func, 1, 8, [.nilF], .bo, false⟩ : TI Sx) := ⟨(show (Try.prog.underlying 164).map isFuncD = some true by kernel_rfl), by kernel_rfl, by kernel_rfl, by kernel_rfl, fun _ => rfl⟩
theorem ty_165 : TyOK Try.prog 165 (⟨.func, 1, 8, [.nilF], .bo, false⟩ : TI Sx) := ⟨(show (Try.prog.underlying 165).map isFuncD = some true by kernel_rfl), by kernel_rfl, by kernel_rfl, by kernel_rfl, fun _ => rfl⟩
theorem ty_166 : TyOK Try.prog 166 (⟨.func, 1, 8, [.nilF], .bo, false⟩ : TI Sx) := ⟨(show (Try.prog.underlying 166).map isFuncD = some true by kernel_rfl), by kernel_rfl, by kernel_rfl, by kernel_rfl, fun _ => rfl⟩
theorem ty_167 : TyOK Try.prog 167 (⟨.func, 1, 8, [.nilF], .bo, false⟩ : TI Sx) := ⟨(show (Try.prog.underlying 167).map isFuncD = some true by kernel_rfl), by kernel_rfl, by kernel_rfl, by kernel_rfl, fun _ => rfl⟩
theorem ty_168 : TyOK Try.prog 168 (⟨.func, 1, 8, [.nilF], .bo, false⟩ : TI Sx) := ⟨(show (Try.prog.underlying 168).map isFuncD = some true by kernel_rfl), by kernel_rfl, by kernel_rfl, by kernel_rfl, fun _ => rfl⟩
theorem ty_169 : TyOK Try.prog 169 (⟨.func, 1, 8, [.nilF], .bo, false⟩ : TI Sx) := ⟨(show (Try.prog.underlying 169).map isFuncD = some true by kernel_rfl), by kernel_rfl, by kernel_rfl, by kernel_rfl, fun _ => rfl⟩
theorem ty_170 : TyOK Try.prog 170 (⟨.func, 1, 8, [.nilF], .bo, false⟩ : TI Sx) := ⟨(show (Try.prog.underlying 170).map isFuncD = some true by kernel_rfl), by kernel_rfl, by kernel_rfl, by kernel_rfl, fun _ => rfl⟩
theorem ty_171 : TyOK Try.prog 171 (⟨.func, 1, 8, [.nilF], .bo, false⟩ : TI Sx) := ⟨(show (Try.prog.underlying 171).map isFuncD = some true by kernel_rfl), by kernel_rfl, by kernel_rfl, by kernel_rfl, fun _ => rfl⟩
theorem ty_172 : TyOK Try.prog 172 (⟨.func, 1, 8, [.nilF], .bo, false⟩ : TI Sx) := ⟨(show (Try.prog.underlying 172).map isFuncD = some true by kernel_rfl), by kernel_rfl, by kernel_rfl, by kernel_rfl, fun _ => rfl⟩
theorem ty_173 : TyOK Try.prog 173 (⟨.int .u64, 1, 8, [.int .u64 0], (.int .u64), false⟩ : TI Sx) := ⟨(show Try.prog.underlying 173 = some (.int .u64) by kernel_rfl), by kernel_rfl, by kernel_rfl, by kernel_rfl, fun _ => rfl⟩
theorem ty_174 : TyOK Try.prog 174 (⟨.func, 1, 8, [.nilF], .bo, false⟩ : TI Sx) := ⟨(show (Try.prog.underlying 174).map isFuncD = some true by kernel_rfl), by kernel_rfl, by kernel_rfl, by kernel_rfl, fun _ => rfl⟩
theorem ty_175 : TyOK Try.prog 175 (⟨.func, 1, 8, [.nilF], .bo, false⟩ : TI Sx) := ⟨(show (Try.prog.underlying 175).map isFuncD = some true by kernel_rfl), by kernel_rfl, by kernel_rfl, by kernel_rfl, fun _ => rfl⟩
theorem ty_176 : TyOK Try.prog 176 (⟨.func, 1, 8, [.nilF], .bo, false⟩ : TI Sx) := ⟨(show (Try.prog.underlying 176).map isFuncD = some true by kernel_rfl), by kernel_rfl, by kernel_rfl, by kernel_rfl, fun _ => rfl⟩
theorem ty_177 : TyOK Try.prog 177 (⟨.int .i64, 1, 8, [.int .i64 0], (.int .i64), false⟩ : TI Sx) := ⟨(show Try.prog.underlying 177 = some (.int .i64) by kernel_rfl), by kernel_rfl, by kernel_rfl, by kernel_rfl, fun _ => rfl⟩
theorem ty_179 : TyOK Try.prog 179 (⟨.func, 1, 8, [.nilF], .bo, false⟩ : TI Sx) := ⟨(show (Try.prog.underlying 179).map isFuncD = some true by kernel_rfl), by kernel_rfl, by kernel_rfl, by kernel_rfl, fun _ => rfl⟩
theorem ty_180 : TyOK Try.prog 180 (⟨.func, 1, 8, [.nilF], .bo, false⟩ : TI Sx) := ⟨(show (Try.prog.underlying 180).map isFuncD = some true by kernel_rfl), by kernel_rfl, by kernel_rfl, by kernel_rfl, fun _ => rfl⟩
theorem ty_181 : TyOK Try.prog 181 (⟨.func, 1, 8, [.nilF], .bo, false⟩ : TI Sx) := ⟨(show (Try.prog.underlying 181).map isFuncD = some true by kernel_rfl), by kernel_rfl, by kernel_rfl, by kernel_rfl, fun _ => rfl⟩
theorem ty_182 : TyOK Try.prog 182 (⟨.func, 1, 8, [.nilF], .bo, false⟩ : TI Sx) := ⟨(show (Try.prog.underlying 182).map isFuncD = some true by kernel_rfl), by kernel_rfl, by kernel_rfl, by kernel_rfl, fun _ => rfl⟩
theorem ty_183 : TyOK Try.prog 183 (⟨.func, 1, 8, [.nilF], .bo, false⟩ : TI Sx) := ⟨(show (Try.prog.underlying 183).map isFuncD = some true by kernel_rfl), by kernel_rfl, by kernel_rfl, by kernel_rfl, fun _ => rfl⟩
theorem ty_184 : TyOK Try.prog 184 (⟨.int .u32, 1, 4, [.int .u32 0], (.int .u32), false⟩ : TI Sx) := ⟨(show Try.prog.underlying 184 = some (.int .u32) by kernel_rfl), by kernel_rfl, by kernel_rfl, by kernel_rfl, fun _ => rfl⟩
theorem ty_185 : TyOK Try.prog 185 (⟨.func, 1, 8, [.nilF], .bo, false⟩ : TI Sx) := ⟨(show (Try.prog.underlying 185).map isFuncD = some true by kernel_rfl), by kernel_rfl, by kernel_rfl, by kernel_rfl, fun _ => rfl⟩
theorem ty_186 : TyOK Try.prog 186 (⟨.int .u64, 1, 8, [.int .u64 0], (.int .u64), false⟩ : TI Sx) := ⟨(show Try.prog.underlying 186 = some (.int .u64) by kernel_rfl), by kernel_rfl, by kernel_rfl, by kernel_rfl, fun _ => rfl⟩
theorem ty_187 : TyOK Try.prog 187 (⟨.func, 1, 8, [.nilF], .bo, false⟩ : TI Sx) := ⟨(show (Try.prog.underlying 187).map isFuncD = some true by kernel_rfl), by kernel_rfl, by kernel_rfl, by kernel_rfl, fun _ => rfl⟩
theorem ty_188 : TyOK Try.prog 188 (⟨.func, 1, 8, [.nilF], .bo, false⟩ : TI Sx) := ⟨(show (Try.prog.underlying 188).map isFuncD = some true by kernel_rfl), by kernel_rfl, by kernel_rfl, by kernel_rfl, fun _ => rfl⟩
theorem ty_189 : TyOK Try.prog 189 (⟨.int .u64, 1, 8, [.int .u64 0], (.int .u64), false⟩ : TI Sx) := ⟨(show Try.prog.underlying 189 = some (.int .u64) by kernel_rfl), by kernel_rfl, by kernel_rfl, by kernel_rfl, fun _ => rfl⟩
theorem ty_190 : TyOK Try.prog 190 (⟨.func, 1, 8, [.nilF], .bo, false⟩ : TI Sx) := ⟨(show (Try.prog.underlying 190).map isFuncD = some true by kernel_rfl), by kernel_rfl, by kernel_rfl, by kernel_rfl, fun _ => rfl⟩
theorem ty_191 : TyOK Try.prog 191 (⟨.func, 1, 8, [.nilF], .bo, false⟩ : TI Sx) := ⟨(show (Try.prog.underlying 191).map isFuncD = some true by kernel_rfl), by kernel_rfl, by kernel_rfl, by kernel_rfl, fun _ => rfl⟩
theorem ty_192 : TyOK Try.prog 192 (⟨.func, 1, 8, [.nilF], .bo, false⟩ : TI Sx) := ⟨(show (Try.prog.underlying 192).map isFuncD = some true by kernel_rfl), by kernel_rfl, by kernel_rfl, by kernel_rfl, fun _ => rfl⟩
theorem ty_193 : TyOK Try.prog 193 (⟨.ptr 3, 1, 8, [.nilP], .bo, false⟩ : TI Sx) := ⟨(show Try.prog.underlying 193 = some (.pointer 3) by kernel_rfl), by kernel_rfl, by kernel_rfl, by kernel_rfl, fun _ => rfl⟩
theorem ty_194 : TyOK Try.prog 194 (⟨.func, 1, 8, [.nilF], .bo, false⟩ : TI Sx) := ⟨(show (Try.prog.underlying 194).map isFuncD = some true by kernel_rfl), by kernel_rfl, by kernel_rfl, by kernel_rfl, fun _ => rfl⟩
theorem ty_195 : TyOK Try.prog 195 (⟨.ptr 189, 1, 8, [.nilP], .bo, false⟩ : TI Sx) := ⟨(show Try.prog.underlying 195 = some (.pointer 189) by kernel_rfl), by kernel_rfl, by kernel_rfl, by kernel_rfl, fun _ => rfl⟩
theorem ty_196 : TyOK Try.prog 196 (⟨.func, 1, 8, [.nilF], .bo, false⟩ : TI Sx) := ⟨(show (Try.prog.underlying 196).map isFuncD = some true by kernel_rfl), by kernel_rfl, by kernel_rfl, by kernel_rfl, fun _ => rfl⟩
theorem ty_197 : TyOK Try.prog 197 (⟨.func, 1, 8, [.nilF], .bo, false⟩ : TI Sx) := ⟨(show (Try.prog.underlying 197).map isFuncD = some true by kernel_rfl), by kernel_rfl, by kernel_rfl, by kernel_rfl, fun _ => rfl⟩
theorem ty_198 : TyOK Try.prog 198 (⟨.struct [(17, 0, 1), (17, 1, 1), (17, 2, 1), (9, 3, 1)], 4, 40, [.nilP, .nilP, .nilP, .str []], .bo, false⟩ : TI Sx) := ⟨(show undS Try.prog 198 = some [(17, 0, 1), (17, 1, 1), (17, 2, 1), (9, 3, 1)] by kernel_rfl), by kernel_rfl, by kernel_rfl, by kernel_rfl, fun h => by cases h⟩
theorem ty_199 : TyOK Try.prog 199 (⟨.struct [(17, 0, 1), (17, 1, 1), (17, 2, 1), (9, 3, 1)], 4, 40, [.nilP, .nilP, .nilP, .str []], .bo, false⟩ : TI Sx) := ⟨(show undS Try.prog 199 = some [(17, 0, 1), (17, 1, 1), (17, 2, 1), (9, 3, 1)] by kernel_rfl), by kernel_rfl, by kernel_rfl, by kernel_rfl, fun h => by cases h⟩
theorem ty_200 : TyOK Try.prog 200 (⟨.array 0 16, 0, 0, [], .bo, false⟩ : TI Sx) := ⟨(show Try.prog.underlying 200 = some (.array 0 16) by kernel_rfl), by kernel_rfl, by kernel_rfl, by kernel_rfl, fun h => by cases h⟩
theorem ty_201 : TyOK Try.prog 201 (⟨.struct [(200, 0, 0)], 0, 0, [], .bo, false⟩ : TI Sx) := ⟨(show undS Try.prog 201 = some [(200, 0, 0)] by kernel_rfl), by kernel_rfl, by kernel_rfl, by kernel_rfl, fun h => by cases h⟩
theorem ty_202 : TyOK Try.prog 202 (⟨.struct [(200, 0, 0)], 0, 0, [], .bo, false⟩ : TI Sx) := ⟨(show undS Try.prog 202 = some [(200, 0, 0)] by kernel_rfl), by kernel_rfl, by kernel_rfl, by kernel_rfl, fun h => by cases h⟩
theorem ty_203 : TyOK Try.prog 203 (⟨.int .u8, 1, 1, [.u8 0], .u8, false⟩ : TI Sx) := ⟨(show Try.prog.underlying 203 = some (.int .u8) by kernel_rfl), by kernel_rfl, by kernel_rfl, by kernel_rfl, fun _ => rfl⟩
theorem ty_204 : TyOK Try.prog 204 (⟨.int .u8, 1, 1, [.u8 0], .u8, false⟩ : TI Sx) := ⟨(show Try.prog.underlying 204 = some (.int .u8) by kernel_rfl), by kernel_rfl, by kernel_rfl, by kernel_rfl, fun _ => rfl⟩
theorem ty_205 : TyOK Try.prog 205 (⟨.func, 1, 8, [.nilF], .bo, false⟩ : TI Sx) := ⟨(show (Try.prog.underlying 205).map isFuncD = some true by kernel_rfl), by kernel_rfl, by kernel_rfl, by kernel_rfl, fun _ => rfl⟩
theorem ty_206 : TyOK Try.prog 206 (⟨.ptr 5, 1, 8, [.nilP], .bo, false⟩ : TI Sx) := ⟨(show Try.prog.underlying 206 = some (.pointer 5) by kernel_rfl), by kernel_rfl, by kernel_rfl, by kernel_rfl, fun _ => rfl⟩
theorem ty_207 : TyOK Try.prog 207 (⟨.int .i32, 1, 4, [.int .i32 0], (.int .i32), false⟩ : TI Sx) := ⟨(show Try.prog.underlying 207 = some (.int .i32) by kernel_rfl), by kernel_rfl, by kernel_rfl, by kernel_rfl, fun _ => rfl⟩
theorem ty_208 : TyOK Try.prog 208 (⟨.int .i32, 1, 4, [.int .i32 0], (.int .i32), false⟩ : TI Sx) := ⟨(show Try.prog.underlying 208 = some (.int .i32) by kernel_rfl), by kernel_rfl, by kernel_rfl, by kernel_rfl, fun _ => rfl⟩
theorem ty_209 : TyOK Try.prog 209 (⟨.struct [(12, 0, 1), (12, 1, 1), (184, 2, 1), (203, 3, 1), (5, 4, 1), (5, 5, 1), (204, 6, 1), (205, 7, 1), (206, 8, 1), (207, 9, 1), (208, 10, 1)], 11, 48, [.int .u64 0, .int .u64 0, .int .u32 0, .u8 0, .u8 0, .u8 0, .u8 0, .nilF, .nilP, .int .i32 0, .int .i32 0], .bo, false⟩ : TI Sx) := ⟨(show undS Try.prog 209 = some [(12, 0, 1), (12, 1, 1), (184, 2, 1), (203, 3, 1), (5, 4, 1), (5, 5, 1), (204, 6, 1), (205, 7, 1), (206, 8, 1), (207, 9, 1), (208, 10, 1)] by kernel_rfl), by kernel_rfl, by kernel_rfl, by kernel_rfl, fun h => by cases h⟩
theorem ty_210 : TyOK Try.prog 210 (⟨.struct [(12, 0, 1), (12, 1, 1), (184, 2, 1), (203, 3, 1), (5, 4, 1), (5, 5, 1), (204, 6, 1), (205, 7, 1), (206, 8, 1), (207, 9, 1), (208, 10, 1)], 11, 48, [.int .u64 0, .int .u64 0, .int .u32 0, .u8 0, .u8 0, .u8 0, .u8 0, .nilF, .nilP, .int .i32 0, .int .i32 0], .bo, false⟩ : TI Sx) := ⟨(show undS Try.prog 210 = some [(12, 0, 1), (12, 1, 1), (184, 2, 1), (203, 3, 1), (5, 4, 1), (5, 5, 1), (204, 6, 1), (205, 7, 1), (206, 8, 1), (207, 9, 1), (208, 10, 1)] by kernel_rfl), by kernel_rfl, by kernel_rfl, by kernel_rfl, fun h => by cases h⟩
set_option maxRecDepth 100000 in
theorem eqS_7 (x0 : Int) (x1 : Int) (x2 : Bool) (x3 : UInt8) (y0 : Int) (y1 : Int) (y2 : Bool) (y3 : UInt8) (w : World) : (binOp .eql 7 (.agg #[.int .i64 x0, .int .i64 x1, .bool x2, .int .u8 (x3.toNat : Int)]) (.agg #[.int .i64 y0, .int .i64 y1, .bool y2, .int .u8 (y3.toNat : Int)])).run Try.prog w = .ok (.bool (decide (x0 = y0 ∧ x1 = y1 ∧ x2 = y2 ∧ (x3.toNat : Int) = (y3.toNat : Int)))) w := by
  simp [go_sem]; repeat' split
  all_goals simp_all
theorem eq_7 : EqT KT Try.prog 7 ([.int .i64 0, .int .i64 0, .tt false, .u8 0] : List (CV Sx)) := ⟨by kernel_rfl, fun g m vs ws p xs ys w hv hw hp h1 h2 => by
  obtain ⟨x0, _, rfl, hv1⟩ := kind_int hv
  obtain ⟨x1, _, rfl, hv2⟩ := kind_int hv1
  rcases kind_bo hv2 with ⟨x2, _, _, _, _, rfl, hv3⟩ | ⟨x2, _, rfl, hv3⟩
  all_goals
    obtain ⟨x3, _, rfl, hv4⟩ := kind_u8 hv3
    obtain rfl := kind_nil hv4
    obtain ⟨y0, _, rfl, hw1⟩ := kind_int hw
    obtain ⟨y1, _, rfl, hw2⟩ := kind_int hw1
    rcases kind_bo hw2 with ⟨y2, _, _, _, _, rfl, hw3⟩ | ⟨y2, _, rfl, hw3⟩
    all_goals
      obtain ⟨y3, _, rfl, hw4⟩ := kind_u8 hw3
      obtain rfl := kind_nil hw4
      obtain ⟨_, rfl, h1_1⟩ := cvs_int h1
      obtain ⟨_, rfl, h1_2⟩ := cvs_int h1_1
      first | obtain ⟨_, rfl, h1_3⟩ := cvs_tt h1_2 | obtain ⟨_, rfl, h1_3⟩ := cvs_bo h1_2
      obtain ⟨_, rfl, h1_4⟩ := cvs_u8 h1_3
      simp only [cvsR] at h1_4; subst h1_4
      obtain ⟨_, rfl, h2_1⟩ := cvs_int h2
      obtain ⟨_, rfl, h2_2⟩ := cvs_int h2_1
      first | obtain ⟨_, rfl, h2_3⟩ := cvs_tt h2_2 | obtain ⟨_, rfl, h2_3⟩ := cvs_bo h2_2
      obtain ⟨_, rfl, h2_4⟩ := cvs_u8 h2_3
      simp only [cvsR] at h2_4; subst h2_4
      simp only [eqCs, bit, Option.bind_some, Option.map_some, Option.some.injEq] at hp
      subst hp
      exact eqS_7 x0 x1 x2 x3 y0 y1 y2 y3 w⟩
set_option maxRecDepth 100000 in
theorem eqS_8 (x0 : Int) (x1 : Int) (x2 : Bool) (x3 : UInt8) (y0 : Int) (y1 : Int) (y2 : Bool) (y3 : UInt8) (w : World) : (binOp .eql 8 (.agg #[.int .i64 x0, .int .i64 x1, .bool x2, .int .u8 (x3.toNat : Int)]) (.agg #[.int .i64 y0, .int .i64 y1, .bool y2, .int .u8 (y3.toNat : Int)])).run Try.prog w = .ok (.bool (decide (x0 = y0 ∧ x1 = y1 ∧ x2 = y2 ∧ (x3.toNat : Int) = (y3.toNat : Int)))) w := by
  simp [go_sem]; repeat' split
  all_goals simp_all
theorem eq_8 : EqT KT Try.prog 8 ([.int .i64 0, .int .i64 0, .tt false, .u8 0] : List (CV Sx)) := ⟨by kernel_rfl, fun g m vs ws p xs ys w hv hw hp h1 h2 => by
  obtain ⟨x0, _, rfl, hv1⟩ := kind_int hv
  obtain ⟨x1, _, rfl, hv2⟩ := kind_int hv1
  rcases kind_bo hv2 with ⟨x2, _, _, _, _, rfl, hv3⟩ | ⟨x2, _, rfl, hv3⟩
  all_goals
    obtain ⟨x3, _, rfl, hv4⟩ := kind_u8 hv3
    obtain rfl := kind_nil hv4
    obtain ⟨y0, _, rfl, hw1⟩ := kind_int hw
    obtain ⟨y1, _, rfl, hw2⟩ := kind_int hw1
    rcases kind_bo hw2 with ⟨y2, _, _, _, _, rfl, hw3⟩ | ⟨y2, _, rfl, hw3⟩
    all_goals
      obtain ⟨y3, _, rfl, hw4⟩ := kind_u8 hw3
      obtain rfl := kind_nil hw4
      obtain ⟨_, rfl, h1_1⟩ := cvs_int h1
      obtain ⟨_, rfl, h1_2⟩ := cvs_int h1_1
      first | obtain ⟨_, rfl, h1_3⟩ := cvs_tt h1_2 | obtain ⟨_, rfl, h1_3⟩ := cvs_bo h1_2
      obtain ⟨_, rfl, h1_4⟩ := cvs_u8 h1_3
      simp only [cvsR] at h1_4; subst h1_4
      obtain ⟨_, rfl, h2_1⟩ := cvs_int h2
      obtain ⟨_, rfl, h2_2⟩ := cvs_int h2_1
      first | obtain ⟨_, rfl, h2_3⟩ := cvs_tt h2_2 | obtain ⟨_, rfl, h2_3⟩ := cvs_bo h2_2
      obtain ⟨_, rfl, h2_4⟩ := cvs_u8 h2_3
      simp only [cvsR] at h2_4; subst h2_4
      simp only [eqCs, bit, Option.bind_some, Option.map_some, Option.some.injEq] at hp
      subst hp
      exact eqS_8 x0 x1 x2 x3 y0 y1 y2 y3 w⟩
theorem eq_32 : EqT KT Try.prog 32 ([.a8 32 (fun _ => 0)] : List (CV Sx)) := ⟨by kernel_rfl, fun g m vs ws p xs ys w hv hw hp h1 h2 => by cases vs <;> simp [kindOk] at hv⟩
set_option maxRecDepth 100000 in
theorem eqS_54 (x0 : Int) (x1 : Int) (y0 : Int) (y1 : Int) (w : World) : (binOp .eql 54 (.agg #[.int .i64 x0, .int .i64 x1]) (.agg #[.int .i64 y0, .int .i64 y1])).run Try.prog w = .ok (.bool (decide (x0 = y0 ∧ x1 = y1))) w := by
  simp [go_sem]; repeat' split
  all_goals simp_all
theorem eq_54 : EqT KT Try.prog 54 ([.int .i64 0, .int .i64 0] : List (CV Sx)) := ⟨by kernel_rfl, fun g m vs ws p xs ys w hv hw hp h1 h2 => by
  obtain ⟨x0, _, rfl, hv1⟩ := kind_int hv
  obtain ⟨x1, _, rfl, hv2⟩ := kind_int hv1
  obtain rfl := kind_nil hv2
  obtain ⟨y0, _, rfl, hw1⟩ := kind_int hw
  obtain ⟨y1, _, rfl, hw2⟩ := kind_int hw1
  obtain rfl := kind_nil hw2
  obtain ⟨_, rfl, h1_1⟩ := cvs_int h1
  obtain ⟨_, rfl, h1_2⟩ := cvs_int h1_1
  simp only [cvsR] at h1_2; subst h1_2
  obtain ⟨_, rfl, h2_1⟩ := cvs_int h2
  obtain ⟨_, rfl, h2_2⟩ := cvs_int h2_1
  simp only [cvsR] at h2_2; subst h2_2
  simp only [eqCs, bit, Option.bind_some, Option.map_some, Option.some.injEq] at hp
  subst hp
  exact eqS_54 x0 x1 y0 y1 w⟩
set_option maxRecDepth 100000 in
theorem eqS_55 (x0 : Int) (x1 : Int) (y0 : Int) (y1 : Int) (w : World) : (binOp .eql 55 (.agg #[.int .i64 x0, .int .i64 x1]) (.agg #[.int .i64 y0, .int .i64 y1])).run Try.prog w = .ok (.bool (decide (x0 = y0 ∧ x1 = y1))) w := by
  simp [go_sem]; repeat' split
  all_goals simp_all
theorem eq_55 : EqT KT Try.prog 55 ([.int .i64 0, .int .i64 0] : List (CV Sx)) := ⟨by kernel_rfl, fun g m vs ws p xs ys w hv hw hp h1 h2 => by
  obtain ⟨x0, _, rfl, hv1⟩ := kind_int hv
  obtain ⟨x1, _, rfl, hv2⟩ := kind_int hv1
  obtain rfl := kind_nil hv2
  obtain ⟨y0, _, rfl, hw1⟩ := kind_int hw
  obtain ⟨y1, _, rfl, hw2⟩ := kind_int hw1
  obtain rfl := kind_nil hw2
  obtain ⟨_, rfl, h1_1⟩ := cvs_int h1
  obtain ⟨_, rfl, h1_2⟩ := cvs_int h1_1
  simp only [cvsR] at h1_2; subst h1_2
  obtain ⟨_, rfl, h2_1⟩ := cvs_int h2
  obtain ⟨_, rfl, h2_2⟩ := cvs_int h2_1
  simp only [cvsR] at h2_2; subst h2_2
  simp only [eqCs, bit, Option.bind_some, Option.map_some, Option.some.injEq] at hp
  subst hp
  exact eqS_55 x0 x1 y0 y1 w⟩
set_option maxRecDepth 100000 in
theorem eqS_57 (x0 : Int) (x1 : Int) (y0 : Int) (y1 : Int) (w : World) : (binOp .eql 57 (.agg #[.int .i64 x0, .int .i64 x1]) (.agg #[.int .i64 y0, .int .i64 y1])).run Try.prog w = .ok (.bool (decide (x0 = y0 ∧ x1 = y1))) w := by
  simp [go_sem]; repeat' split
  all_goals simp_all
theorem eq_57 : EqT KT Try.prog 57 ([.int .i64 0, .int .i64 0] : List (CV Sx)) := ⟨by kernel_rfl, fun g m vs ws p xs ys w hv hw hp h1 h2 => by
  obtain ⟨x0, _, rfl, hv1⟩ := kind_int hv
  obtain ⟨x1, _, rfl, hv2⟩ := kind_int hv1
  obtain rfl := kind_nil hv2
  obtain ⟨y0, _, rfl, hw1⟩ := kind_int hw
  obtain ⟨y1, _, rfl, hw2⟩ := kind_int hw1
  obtain rfl := kind_nil hw2
  obtain ⟨_, rfl, h1_1⟩ := cvs_int h1
  obtain ⟨_, rfl, h1_2⟩ := cvs_int h1_1
  simp only [cvsR] at h1_2; subst h1_2
  obtain ⟨_, rfl, h2_1⟩ := cvs_int h2
  obtain ⟨_, rfl, h2_2⟩ := cvs_int h2_1
  simp only [cvsR] at h2_2; subst h2_2
  simp only [eqCs, bit, Option.bind_some, Option.map_some, Option.some.injEq] at hp
  subst hp
  exact eqS_57 x0 x1 y0 y1 w⟩
set_option maxRecDepth 100000 in
theorem eqS_60 (x0 : Int) (x1 : Int) (y0 : Int) (y1 : Int) (w : World) : (binOp .eql 60 (.agg #[.int .i64 x0, .int .i64 x1]) (.agg #[.int .i64 y0, .int .i64 y1])).run Try.prog w = .ok (.bool (decide (x0 = y0 ∧ x1 = y1))) w := by
  simp [go_sem]; repeat' split
  all_goals simp_all
theorem eq_60 : EqT KT Try.prog 60 ([.int .i64 0, .int .i64 0] : List (CV Sx)) := ⟨by kernel_rfl, fun g m vs ws p xs ys w hv hw hp h1 h2 => by
  obtain ⟨x0, _, rfl, hv1⟩ := kind_int hv
  obtain ⟨x1, _, rfl, hv2⟩ := kind_int hv1
  obtain rfl := kind_nil hv2
  obtain ⟨y0, _, rfl, hw1⟩ := kind_int hw
  obtain ⟨y1, _, rfl, hw2⟩ := kind_int hw1
  obtain rfl := kind_nil hw2
  obtain ⟨_, rfl, h1_1⟩ := cvs_int h1
  obtain ⟨_, rfl, h1_2⟩ := cvs_int h1_1
  simp only [cvsR] at h1_2; subst h1_2
  obtain ⟨_, rfl, h2_1⟩ := cvs_int h2
  obtain ⟨_, rfl, h2_2⟩ := cvs_int h2_1
  simp only [cvsR] at h2_2; subst h2_2
  simp only [eqCs, bit, Option.bind_some, Option.map_some, Option.some.injEq] at hp
  subst hp
  exact eqS_60 x0 x1 y0 y1 w⟩
set_option maxRecDepth 100000 in
theorem eqS_61 (x0 : Int) (x1 : Int) (y0 : Int) (y1 : Int) (w : World) : (binOp .eql 61 (.agg #[.int .i64 x0, .int .i64 x1]) (.agg #[.int .i64 y0, .int .i64 y1])).run Try.prog w = .ok (.bool (decide (x0 = y0 ∧ x1 = y1))) w := by
  simp [go_sem]; repeat' split
  all_goals simp_all
theorem eq_61 : EqT KT Try.prog 61 ([.int .i64 0, .int .i64 0] : List (CV Sx)) := ⟨by kernel_rfl, fun g m vs ws p xs ys w hv hw hp h1 h2 => by
  obtain ⟨x0, _, rfl, hv1⟩ := kind_int hv
  obtain ⟨x1, _, rfl, hv2⟩ := kind_int hv1
  obtain rfl := kind_nil hv2
  obtain ⟨y0, _, rfl, hw1⟩ := kind_int hw
  obtain ⟨y1, _, rfl, hw2⟩ := kind_int hw1
  obtain rfl := kind_nil hw2
  obtain ⟨_, rfl, h1_1⟩ := cvs_int h1
  obtain ⟨_, rfl, h1_2⟩ := cvs_int h1_1
  simp only [cvsR] at h1_2; subst h1_2
  obtain ⟨_, rfl, h2_1⟩ := cvs_int h2
  obtain ⟨_, rfl, h2_2⟩ := cvs_int h2_1
  simp only [cvsR] at h2_2; subst h2_2
  simp only [eqCs, bit, Option.bind_some, Option.map_some, Option.some.injEq] at hp
  subst hp
  exact eqS_61 x0 x1 y0 y1 w⟩
set_option maxRecDepth 100000 in
theorem eqS_72 (x0 : Int) (x1 : Int) (y0 : Int) (y1 : Int) (w : World) : (binOp .eql 72 (.agg #[.int .i64 x0, .int .i64 x1]) (.agg #[.int .i64 y0, .int .i64 y1])).run Try.prog w = .ok (.bool (decide (x0 = y0 ∧ x1 = y1))) w := by
  simp [go_sem]; repeat' split
  all_goals simp_all
theorem eq_72 : EqT KT Try.prog 72 ([.int .i64 0, .int .i64 0] : List (CV Sx)) := ⟨by kernel_rfl, fun g m vs ws p xs ys w hv hw hp h1 h2 => by
  obtain ⟨x0, _, rfl, hv1⟩ := kind_int hv
  obtain ⟨x1, _, rfl, hv2⟩ := kind_int hv1
  obtain rfl := kind_nil hv2
  obtain ⟨y0, _, rfl, hw1⟩ := kind_int hw
  obtain ⟨y1, _, rfl, hw2⟩ := kind_int hw1
  obtain rfl := kind_nil hw2
  obtain ⟨_, rfl, h1_1⟩ := cvs_int h1
  obtain ⟨_, rfl, h1_2⟩ := cvs_int h1_1
  simp only [cvsR] at h1_2; subst h1_2
  obtain ⟨_, rfl, h2_1⟩ := cvs_int h2
  obtain ⟨_, rfl, h2_2⟩ := cvs_int h2_1
  simp only [cvsR] at h2_2; subst h2_2
  simp only [eqCs, bit, Option.bind_some, Option.map_some, Option.some.injEq] at hp
  subst hp
  exact eqS_72 x0 x1 y0 y1 w⟩
set_option maxRecDepth 100000 in
theorem eqS_73 (x0 : Int) (x1 : Int) (y0 : Int) (y1 : Int) (w : World) : (binOp .eql 73 (.agg #[.int .i64 x0, .int .i64 x1]) (.agg #[.int .i64 y0, .int .i64 y1])).run Try.prog w = .ok (.bool (decide (x0 = y0 ∧ x1 = y1))) w := by
  simp [go_sem]; repeat' split
  all_goals simp_all
theorem eq_73 : EqT KT Try.prog 73 ([.int .i64 0, .int .i64 0] : List (CV Sx)) := ⟨by kernel_rfl, fun g m vs ws p xs ys w hv hw hp h1 h2 => by
  obtain ⟨x0, _, rfl, hv1⟩ := kind_int hv
  obtain ⟨x1, _, rfl, hv2⟩ := kind_int hv1
  obtain rfl := kind_nil hv2
  obtain ⟨y0, _, rfl, hw1⟩ := kind_int hw
  obtain ⟨y1, _, rfl, hw2⟩ := kind_int hw1
  obtain rfl := kind_nil hw2
  obtain ⟨_, rfl, h1_1⟩ := cvs_int h1
  obtain ⟨_, rfl, h1_2⟩ := cvs_int h1_1
  simp only [cvsR] at h1_2; subst h1_2
  obtain ⟨_, rfl, h2_1⟩ := cvs_int h2
  obtain ⟨_, rfl, h2_2⟩ := cvs_int h2_1
  simp only [cvsR] at h2_2; subst h2_2
  simp only [eqCs, bit, Option.bind_some, Option.map_some, Option.some.injEq] at hp
  subst hp
  exact eqS_73 x0 x1 y0 y1 w⟩
set_option maxRecDepth 100000 in
theorem eqS_85 (x0 : Bool) (x1 : Int) (x2 : UInt8) (y0 : Bool) (y1 : Int) (y2 : UInt8) (w : World) : (binOp .eql 85 (.agg #[.bool x0, .int .i64 x1, .int .u8 (x2.toNat : Int)]) (.agg #[.bool y0, .int .i64 y1, .int .u8 (y2.toNat : Int)])).run Try.prog w = .ok (.bool (decide (x0 = y0 ∧ x1 = y1 ∧ (x2.toNat : Int) = (y2.toNat : Int)))) w := by
  simp [go_sem]; repeat' split
  all_goals simp_all
theorem eq_85 : EqT KT Try.prog 85 ([.tt false, .int .i64 0, .u8 0] : List (CV Sx)) := ⟨by kernel_rfl, fun g m vs ws p xs ys w hv hw hp h1 h2 => by
  rcases kind_bo hv with ⟨x0, _, _, _, _, rfl, hv1⟩ | ⟨x0, _, rfl, hv1⟩
  all_goals
    obtain ⟨x1, _, rfl, hv2⟩ := kind_int hv1
    obtain ⟨x2, _, rfl, hv3⟩ := kind_u8 hv2
    obtain rfl := kind_nil hv3
    rcases kind_bo hw with ⟨y0, _, _, _, _, rfl, hw1⟩ | ⟨y0, _, rfl, hw1⟩
    all_goals
      obtain ⟨y1, _, rfl, hw2⟩ := kind_int hw1
      obtain ⟨y2, _, rfl, hw3⟩ := kind_u8 hw2
      obtain rfl := kind_nil hw3
      first | obtain ⟨_, rfl, h1_1⟩ := cvs_tt h1 | obtain ⟨_, rfl, h1_1⟩ := cvs_bo h1
      obtain ⟨_, rfl, h1_2⟩ := cvs_int h1_1
      obtain ⟨_, rfl, h1_3⟩ := cvs_u8 h1_2
      simp only [cvsR] at h1_3; subst h1_3
      first | obtain ⟨_, rfl, h2_1⟩ := cvs_tt h2 | obtain ⟨_, rfl, h2_1⟩ := cvs_bo h2
      obtain ⟨_, rfl, h2_2⟩ := cvs_int h2_1
      obtain ⟨_, rfl, h2_3⟩ := cvs_u8 h2_2
      simp only [cvsR] at h2_3; subst h2_3
      simp only [eqCs, bit, Option.bind_some, Option.map_some, Option.some.injEq] at hp
      subst hp
      exact eqS_85 x0 x1 x2 y0 y1 y2 w⟩
set_option maxRecDepth 100000 in
theorem eqS_86 (x0 : Bool) (x1 : Int) (x2 : UInt8) (y0 : Bool) (y1 : Int) (y2 : UInt8) (w : World) : (binOp .eql 86 (.agg #[.bool x0, .int .i64 x1, .int .u8 (x2.toNat : Int)]) (.agg #[.bool y0, .int .i64 y1, .int .u8 (y2.toNat : Int)])).run Try.prog w = .ok (.bool (decide (x0 = y0 ∧ x1 = y1 ∧ (x2.toNat : Int) = (y2.toNat : Int)))) w := by
  simp [go_sem]; repeat' split
  all_goals simp_all
theorem eq_86 : EqT KT Try.prog 86 ([.tt false, .int .i64 0, .u8 0] : List (CV Sx)) := ⟨by kernel_rfl, fun g m vs ws p xs ys w hv hw hp h1 h2 => by
  rcases kind_bo hv with ⟨x0, _, _, _, _, rfl, hv1⟩ | ⟨x0, _, rfl, hv1⟩
  all_goals
    obtain ⟨x1, _, rfl, hv2⟩ := kind_int hv1
    obtain ⟨x2, _, rfl, hv3⟩ := kind_u8 hv2
    obtain rfl := kind_nil hv3
    rcases kind_bo hw with ⟨y0, _, _, _, _, rfl, hw1⟩ | ⟨y0, _, rfl, hw1⟩
    all_goals
      obtain ⟨y1, _, rfl, hw2⟩ := kind_int hw1
      obtain ⟨y2, _, rfl, hw3⟩ := kind_u8 hw2
      obtain rfl := kind_nil hw3
      first | obtain ⟨_, rfl, h1_1⟩ := cvs_tt h1 | obtain ⟨_, rfl, h1_1⟩ := cvs_bo h1
      obtain ⟨_, rfl, h1_2⟩ := cvs_int h1_1
      obtain ⟨_, rfl, h1_3⟩ := cvs_u8 h1_2
      simp only [cvsR] at h1_3; subst h1_3
      first | obtain ⟨_, rfl, h2_1⟩ := cvs_tt h2 | obtain ⟨_, rfl, h2_1⟩ := cvs_bo h2
      obtain ⟨_, rfl, h2_2⟩ := cvs_int h2_1
      obtain ⟨_, rfl, h2_3⟩ := cvs_u8 h2_2
      simp only [cvsR] at h2_3; subst h2_3
      simp only [eqCs, bit, Option.bind_some, Option.map_some, Option.some.injEq] at hp
      subst hp
      exact eqS_86 x0 x1 x2 y0 y1 y2 w⟩
set_option maxRecDepth 100000 in
theorem eqS_98 (x0 : Bool) (x1 : Int) (x2 : UInt8) (y0 : Bool) (y1 : Int) (y2 : UInt8) (w : World) : (binOp .eql 98 (.agg #[.bool x0, .int .i64 x1, .int .u8 (x2.toNat : Int)]) (.agg #[.bool y0, .int .i64 y1, .int .u8 (y2.toNat : Int)])).run Try.prog w = .ok (.bool (decide (x0 = y0 ∧ x1 = y1 ∧ (x2.toNat : Int) = (y2.toNat : Int)))) w := by
  simp [go_sem]; repeat' split
  all_goals simp_all
theorem eq_98 : EqT KT Try.prog 98 ([.tt false, .int .i64 0, .u8 0] : List (CV Sx)) := ⟨by kernel_rfl, fun g m vs ws p xs ys w hv hw hp h1 h2 => by
  rcases kind_bo hv with ⟨x0, _, _, _, _, rfl, hv1⟩ | ⟨x0, _, rfl, hv1⟩
  all_goals
    obtain ⟨x1, _, rfl, hv2⟩ := kind_int hv1
    obtain ⟨x2, _, rfl, hv3⟩ := kind_u8 hv2
    obtain rfl := kind_nil hv3
    rcases kind_bo hw with ⟨y0, _, _, _, _, rfl, hw1⟩ | ⟨y0, _, rfl, hw1⟩
    all_goals
      obtain ⟨y1, _, rfl, hw2⟩ := kind_int hw1
      obtain ⟨y2, _, rfl, hw3⟩ := kind_u8 hw2
      obtain rfl := kind_nil hw3
      first | obtain ⟨_, rfl, h1_1⟩ := cvs_tt h1 | obtain ⟨_, rfl, h1_1⟩ := cvs_bo h1
      obtain ⟨_, rfl, h1_2⟩ := cvs_int h1_1
      obtain ⟨_, rfl, h1_3⟩ := cvs_u8 h1_2
      simp only [cvsR] at h1_3; subst h1_3
      first | obtain ⟨_, rfl, h2_1⟩ := cvs_tt h2 | obtain ⟨_, rfl, h2_1⟩ := cvs_bo h2
      obtain ⟨_, rfl, h2_2⟩ := cvs_int h2_1
      obtain ⟨_, rfl, h2_3⟩ := cvs_u8 h2_2
      simp only [cvsR] at h2_3; subst h2_3
      simp only [eqCs, bit, Option.bind_some, Option.map_some, Option.some.injEq] at hp
      subst hp
      exact eqS_98 x0 x1 x2 y0 y1 y2 w⟩
set_option maxRecDepth 100000 in
theorem eqS_136 (x0 : Int) (x1 : Int) (y0 : Int) (y1 : Int) (w : World) : (binOp .eql 136 (.agg #[.int .i64 x0, .int .i64 x1]) (.agg #[.int .i64 y0, .int .i64 y1])).run Try.prog w = .ok (.bool (decide (x0 = y0 ∧ x1 = y1))) w := by
  simp [go_sem]; repeat' split
  all_goals simp_all
theorem eq_136 : EqT KT Try.prog 136 ([.int .i64 0, .int .i64 0] : List (CV Sx)) := ⟨by kernel_rfl, fun g m vs ws p xs ys w hv hw hp h1 h2 => by
  obtain ⟨x0, _, rfl, hv1⟩ := kind_int hv
  obtain ⟨x1, _, rfl, hv2⟩ := kind_int hv1
  obtain rfl := kind_nil hv2
  obtain ⟨y0, _, rfl, hw1⟩ := kind_int hw
  obtain ⟨y1, _, rfl, hw2⟩ := kind_int hw1
  obtain rfl := kind_nil hw2
  obtain ⟨_, rfl, h1_1⟩ := cvs_int h1
  obtain ⟨_, rfl, h1_2⟩ := cvs_int h1_1
  simp only [cvsR] at h1_2; subst h1_2
  obtain ⟨_, rfl, h2_1⟩ := cvs_int h2
  obtain ⟨_, rfl, h2_2⟩ := cvs_int h2_1
  simp only [cvsR] at h2_2; subst h2_2
  simp only [eqCs, bit, Option.bind_some, Option.map_some, Option.some.injEq] at hp
  subst hp
  exact eqS_136 x0 x1 y0 y1 w⟩
set_option maxRecDepth 100000 in
theorem eqS_137 (x0 : Int) (x1 : Int) (y0 : Int) (y1 : Int) (w : World) : (binOp .eql 137 (.agg #[.int .i64 x0, .int .i64 x1]) (.agg #[.int .i64 y0, .int .i64 y1])).run Try.prog w = .ok (.bool (decide (x0 = y0 ∧ x1 = y1))) w := by
  simp [go_sem]; repeat' split
  all_goals simp_all
theorem eq_137 : EqT KT Try.prog 137 ([.int .i64 0, .int .i64 0] : List (CV Sx)) := ⟨by kernel_rfl, fun g m vs ws p xs ys w hv hw hp h1 h2 => by
  obtain ⟨x0, _, rfl, hv1⟩ := kind_int hv
  obtain ⟨x1, _, rfl, hv2⟩ := kind_int hv1
  obtain rfl := kind_nil hv2
  obtain ⟨y0, _, rfl, hw1⟩ := kind_int hw
  obtain ⟨y1, _, rfl, hw2⟩ := kind_int hw1
  obtain rfl := kind_nil hw2
  obtain ⟨_, rfl, h1_1⟩ := cvs_int h1
  obtain ⟨_, rfl, h1_2⟩ := cvs_int h1_1
  simp only [cvsR] at h1_2; subst h1_2
  obtain ⟨_, rfl, h2_1⟩ := cvs_int h2
  obtain ⟨_, rfl, h2_2⟩ := cvs_int h2_1
  simp only [cvsR] at h2_2; subst h2_2
  simp only [eqCs, bit, Option.bind_some, Option.map_some, Option.some.injEq] at hp
  subst hp
  exact eqS_137 x0 x1 y0 y1 w⟩
set_option maxRecDepth 100000 in
theorem eqS_155 (x0 : Int) (x1 : Int) (x2 : Int) (y0 : Int) (y1 : Int) (y2 : Int) (w : World) : (binOp .eql 155 (.agg #[.int .i64 x0, .int .i64 x1, .int .i64 x2]) (.agg #[.int .i64 y0, .int .i64 y1, .int .i64 y2])).run Try.prog w = .ok (.bool (decide (x0 = y0 ∧ x1 = y1 ∧ x2 = y2))) w := by
  simp [go_sem]; repeat' split
  all_goals simp_all
theorem eq_155 : EqT KT Try.prog 155 ([.int .i64 0, .int .i64 0, .int .i64 0] : List (CV Sx)) := ⟨by kernel_rfl, fun g m vs ws p xs ys w hv hw hp h1 h2 => by
  obtain ⟨x0, _, rfl, hv1⟩ := kind_int hv
  obtain ⟨x1, _, rfl, hv2⟩ := kind_int hv1
  obtain ⟨x2, _, rfl, hv3⟩ := kind_int hv2
  obtain rfl := kind_nil hv3
  obtain ⟨y0, _, rfl, hw1⟩ := kind_int hw
  obtain ⟨y1, _, rfl, hw2⟩ := kind_int hw1
  obtain ⟨y2, _, rfl, hw3⟩ := kind_int hw2
  obtain rfl := kind_nil hw3
  obtain ⟨_, rfl, h1_1⟩ := cvs_int h1
  obtain ⟨_, rfl, h1_2⟩ := cvs_int h1_1
  obtain ⟨_, rfl, h1_3⟩ := cvs_int h1_2
  simp only [cvsR] at h1_3; subst h1_3
  obtain ⟨_, rfl, h2_1⟩ := cvs_int h2
  obtain ⟨_, rfl, h2_2⟩ := cvs_int h2_1
  obtain ⟨_, rfl, h2_3⟩ := cvs_int h2_2
  simp only [cvsR] at h2_3; subst h2_3
  simp only [eqCs, bit, Option.bind_some, Option.map_some, Option.some.injEq] at hp
  subst hp
  exact eqS_155 x0 x1 x2 y0 y1 y2 w⟩
set_option maxRecDepth 100000 in
theorem eqS_156 (x0 : Int) (x1 : Int) (x2 : Int) (y0 : Int) (y1 : Int) (y2 : Int) (w : World) : (binOp .eql 156 (.agg #[.int .i64 x0, .int .i64 x1, .int .i64 x2]) (.agg #[.int .i64 y0, .int .i64 y1, .int .i64 y2])).run Try.prog w = .ok (.bool (decide (x0 = y0 ∧ x1 = y1 ∧ x2 = y2))) w := by
  simp [go_sem]; repeat' split
  all_goals simp_all
theorem eq_156 : EqT KT Try.prog 156 ([.int .i64 0, .int .i64 0, .int .i64 0] : List (CV Sx)) := ⟨by kernel_rfl, fun g m vs ws p xs ys w hv hw hp h1 h2 => by
  obtain ⟨x0, _, rfl, hv1⟩ := kind_int hv
  obtain ⟨x1, _, rfl, hv2⟩ := kind_int hv1
  obtain ⟨x2, _, rfl, hv3⟩ := kind_int hv2
  obtain rfl := kind_nil hv3
  obtain ⟨y0, _, rfl, hw1⟩ := kind_int hw
  obtain ⟨y1, _, rfl, hw2⟩ := kind_int hw1
  obtain ⟨y2, _, rfl, hw3⟩ := kind_int hw2
  obtain rfl := kind_nil hw3
  obtain ⟨_, rfl, h1_1⟩ := cvs_int h1
  obtain ⟨_, rfl, h1_2⟩ := cvs_int h1_1
  obtain ⟨_, rfl, h1_3⟩ := cvs_int h1_2
  simp only [cvsR] at h1_3; subst h1_3
  obtain ⟨_, rfl, h2_1⟩ := cvs_int h2
  obtain ⟨_, rfl, h2_2⟩ := cvs_int h2_1
  obtain ⟨_, rfl, h2_3⟩ := cvs_int h2_2
  simp only [cvsR] at h2_3; subst h2_3
  simp only [eqCs, bit, Option.bind_some, Option.map_some, Option.some.injEq] at hp
  subst hp
  exact eqS_156 x0 x1 x2 y0 y1 y2 w⟩
set_option maxRecDepth 100000 in
theorem ty_all : ∀ p ∈ tyL, TyOK Try.prog p.1 p.2 := all_cons ty_1 <| all_cons ty_2 <| all_cons ty_3 <| all_cons ty_4 <| all_cons ty_5 <| all_cons ty_6 <| all_cons ty_7 <| all_cons ty_8 <| all_cons ty_9 <| all_cons ty_10 <| all_cons ty_11 <| all_cons ty_12 <| all_cons ty_13 <| all_cons ty_14 <| all_cons ty_15 <| all_cons ty_16 <| all_cons ty_17 <| all_cons ty_18 <| all_cons ty_19 <| all_cons ty_20 <| all_cons ty_21 <| all_cons ty_22 <| all_cons ty_23 <| all_cons ty_24 <| all_cons ty_25 <| all_cons ty_26 <| all_cons ty_27 <| all_cons ty_28 <| all_cons ty_29 <| all_cons ty_30 <| all_cons ty_31 <| all_cons ty_32 <| all_cons ty_33 <| all_cons ty_34 <| all_cons ty_35 <| all_cons ty_36 <| all_cons ty_37 <| all_cons ty_38 <| all_cons ty_39 <| all_cons ty_40 <| all_cons ty_41 <| all_cons ty_43 <| all_cons ty_44 <| all_cons ty_45 <| all_cons ty_46 <| all_cons ty_47 <| all_cons ty_48 <| all_cons ty_49 <| all_cons ty_50 <| all_cons ty_51 <| all_cons ty_52 <| all_cons ty_53 <| all_cons ty_54 <| all_cons ty_55 <| all_cons ty_56 <| all_cons ty_57 <| all_cons ty_58 <| all_cons ty_59 <| all_cons ty_60 <| all_cons ty_61 <| all_cons ty_62 <| all_cons ty_63 <| all_cons ty_64 <| all_cons ty_65 <| all_cons ty_66 <| all_cons ty_67 <| all_cons ty_68 <| all_cons ty_69 <| all_cons ty_70 <| all_cons ty_71 <| all_cons ty_72 <| all_cons ty_73 <| all_cons ty_74 <| all_cons ty_75 <| all_cons ty_76 <| all_cons ty_77 <| all_cons ty_78 <| all_cons ty_80 <| all_cons ty_81 <| all_cons ty_82 <| all_cons ty_83 <| all_cons ty_84 <| all_cons ty_85 <| all_cons ty_86 <| all_cons ty_88 <| all_cons ty_89 <| all_cons ty_90 <| all_cons ty_92 <| all_cons ty_93 <| all_cons ty_94 <| all_cons ty_95 <| all_cons ty_96 <| all_cons ty_97 <| all_cons ty_98 <| all_cons ty_99 <| all_cons ty_100 <| all_cons ty_101 <| all_cons ty_102 <| all_cons ty_103 <| all_cons ty_105 <| all_cons ty_106 <| all_cons ty_107 <| all_cons ty_108 <| all_cons ty_109 <| all_cons ty_110 <| all_cons ty_111 <| all_cons ty_112 <| all_cons ty_113 <| all_cons ty_114 <| all_cons ty_115 <| all_cons ty_116 <| all_cons ty_117 <| all_cons ty_118 <| all_cons ty_119 <| all_cons ty_120 <| all_cons ty_121 <| all_cons ty_122 <| all_cons ty_123 <| all_cons ty_124 <| all_cons ty_125 <| all_cons ty_126 <| all_cons ty_127 <| all_cons ty_128 <| all_cons ty_129 <| all_cons ty_130 <| all_cons ty_132 <| all_cons ty_133 <| all_cons ty_134 <| all_cons ty_135 <| all_cons ty_136 <| all_cons ty_137 <| all_cons ty_138 <| all_cons ty_139 <| all_cons ty_140 <| all_cons ty_142 <| all_cons ty_143 <| all_cons ty_144 <| all_cons ty_145 <| all_cons ty_146 <| all_cons ty_147 <| all_cons ty_148 <| all_cons ty_149 <| all_cons ty_150 <| all_cons ty_151 <| all_cons ty_152 <| all_cons ty_153 <| all_cons ty_154 <| all_cons ty_155 <| all_cons ty_156 <| all_cons ty_157 <| all_cons ty_158 <| all_cons ty_159 <| all_cons ty_160 <| all_cons ty_161 <| all_cons ty_162 <| all_cons ty_163 <| all_cons ty_164 <| all_cons ty_165 <| all_cons ty_166 <| all_cons ty_167 <| all_cons ty_168 <| all_cons ty_169 <| all_cons ty_170 <| all_cons ty_171 <| all_cons ty_172 <| all_cons ty_173 <| all_cons ty_174 <| all_cons ty_175 <| all_cons ty_176 <| all_cons ty_177 <| all_cons ty_179 <| all_cons ty_180 <| all_cons ty_181 <| all_cons ty_182 <| all_cons ty_183 <| all_cons ty_184 <| all_cons ty_185 <| all_cons ty_186 <| all_cons ty_187 <| all_cons ty_188 <| all_cons ty_189 <| all_cons ty_190 <| all_cons ty_191 <| all_cons ty_192 <| all_cons ty_193 <| all_cons ty_194 <| all_cons ty_195 <| all_cons ty_196 <| all_cons ty_197 <| all_cons ty_198 <| all_cons ty_199 <| all_cons ty_200 <| all_cons ty_201 <| all_cons ty_202 <| all_cons ty_203 <| all_cons ty_204 <| all_cons ty_205 <| all_cons ty_206 <| all_cons ty_207 <| all_cons ty_208 <| all_cons ty_209 <| all_cons ty_210 <| all_nil
theorem tyT : TTOK Try.prog KT tt := ttOK rfl ty_all (by kernel_rfl) (by
  rw [show (tyL.filter fun p => p.2.eq).map (fun p => (p.1, p.2.zero)) = [(7, [.int .i64 0, .int .i64 0, .tt false, .u8 0]), (8, [.int .i64 0, .int .i64 0, .tt false, .u8 0]), (32, [.a8 32 (fun _ => 0)]), (54, [.int .i64 0, .int .i64 0]), (55, [.int .i64 0, .int .i64 0]), (57, [.int .i64 0, .int .i64 0]), (60, [.int .i64 0, .int .i64 0]), (61, [.int .i64 0, .int .i64 0]), (72, [.int .i64 0, .int .i64 0]), (73, [.int .i64 0, .int .i64 0]), (85, [.tt false, .int .i64 0, .u8 0]), (86, [.tt false, .int .i64 0, .u8 0]), (98, [.tt false, .int .i64 0, .u8 0]), (136, [.int .i64 0, .int .i64 0]), (137, [.int .i64 0, .int .i64 0]), (155, [.int .i64 0, .int .i64 0, .int .i64 0]), (156, [.int .i64 0, .int .i64 0, .int .i64 0])] by kernel_rfl]
  exact all_cons eq_7 <| all_cons eq_8 <| all_cons eq_32 <| all_cons eq_54 <| all_cons eq_55 <| all_cons eq_57 <| all_cons eq_60 <| all_cons eq_61 <| all_cons eq_72 <| all_cons eq_73 <| all_cons eq_85 <| all_cons eq_86 <| all_cons eq_98 <| all_cons eq_136 <| all_cons eq_137 <| all_cons eq_155 <| all_cons eq_156 <| all_nil)
theorem hmix : Try.prog.follows .mixedOrders = true := by kernel_rfl
end E
end Go.Proofs.Ytnbipipegmoigaa
