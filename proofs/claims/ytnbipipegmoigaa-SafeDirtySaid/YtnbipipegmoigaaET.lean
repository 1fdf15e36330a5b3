/- Tables: the types of the program. Printed by a program. -/
import Derived.Test.YtnbipipegmoigaaEvG
import Derived.Test.YtnbipipegmoigaaProg
import Derived.Test.YtnbipipegmoigaaTy
namespace Go.Proofs.Ytnbipipegmoigaa
open Go.RowKit G
namespace E
def Sx : Nat → Type
  | 0 => G.struct_x_int64_y_int_signed_bool_code_abi_BoundsErrorCode
  | 1 => G.runtime_boundsError
  | 2 => G.struct_msg_string_addr_uintptr
  | 3 => G.Command
  | 4 => G.Extent
  | 5 => G.Fault
  | 6 => G.graftref09_Origin
  | 7 => G.command_target
  | 8 => G.index_entry
  | 9 => G.index_Index
  | _ => Bool
def tb : Tb Sx
  | 0 => { fs := [(.int .i64), (.int .i64), .bo, .u8], to := fun (x : G.struct_x_int64_y_int_signed_bool_code_abi_BoundsErrorCode) => (x.x, x.y, x.signed, x.code, ()), of := fun h => (⟨h.1, h.2.1, h.2.2.1, h.2.2.2.1⟩ : G.struct_x_int64_y_int_signed_bool_code_abi_BoundsErrorCode) }
  | 1 => { fs := [(.int .i64), (.int .i64), .bo, .u8], to := fun (x : G.runtime_boundsError) => (x.x, x.y, x.signed, x.code, ()), of := fun h => (⟨h.1, h.2.1, h.2.2.1, h.2.2.2.1⟩ : G.runtime_boundsError) }
  | 2 => { fs := [.str, (.int .u64)], to := fun (x : G.struct_msg_string_addr_uintptr) => (x.msg, x.addr, ()), of := fun h => (⟨h.1, h.2.1⟩ : G.struct_msg_string_addr_uintptr) }
  | 3 => { fs := [(.int .i64), (.int .i64), (.int .i64), (.int .i64), (.sl .u8)], to := fun (x : G.Command) => (x.kind, x.to, x.from_, x.len, x.data, ()), of := fun h => (⟨h.1, h.2.1, h.2.2.1, h.2.2.2.1, h.2.2.2.2.1⟩ : G.Command) }
  | 4 => { fs := [(.int .i64), (.int .i64)], to := fun (x : G.Extent) => (x.off, x.len, ()), of := fun h => (⟨h.1, h.2.1⟩ : G.Extent) }
  | 5 => { fs := [(.int .i64), (.int .i64)], to := fun (x : G.Fault) => (x.code, x.at_, ()), of := fun h => (⟨h.1, h.2.1⟩ : G.Fault) }
  | 6 => { fs := [.bo, (.int .i64), .u8], to := fun (x : G.graftref09_Origin) => (x.copied, x.from_, x.value, ()), of := fun h => (⟨h.1, h.2.1, h.2.2.1⟩ : G.graftref09_Origin) }
  | 7 => { fs := [(.int .i64), (.int .i64)], to := fun (x : G.command_target) => (x.extent.off, x.extent.len, ()), of := fun h => (⟨(⟨h.1, h.2.1⟩ : G.Extent)⟩ : G.command_target) }
  | 8 => { fs := [(.int .i64), (.int .i64), (.int .i64)], to := fun (x : G.index_entry) => (x.extent.off, x.extent.len, x.position, ()), of := fun h => (⟨(⟨h.1, h.2.1⟩ : G.Extent), h.2.2.1⟩ : G.index_entry) }
  | 9 => { fs := [(.sl (.st 8))], to := fun (x : G.index_Index) => (x.sorted, ()), of := fun h => (⟨h.1⟩ : G.index_Index) }
  | _ + 10 => { fs := [.bo], to := fun (x : Bool) => (x, ()), of := fun h => h.1 }
def tyL : List (Nat × TI Sx) := [(1, ⟨.func, 1, 8, [.nilF], .bo, false⟩),
  (2, ⟨.int .i64, 1, 8, [.int .i64 0], (.int .i64), false⟩),
  (3, ⟨.int .i64, 1, 8, [.int .i64 0], (.int .i64), false⟩),
  (4, ⟨.bool, 1, 1, [.tt false], .bo, false⟩),
  (5, ⟨.int .u8, 1, 1, [.u8 0], .u8, false⟩),
  (6, ⟨.int .u8, 1, 1, [.u8 0], .u8, false⟩),
  (7, ⟨.struct [(2, 0, 1), (3, 1, 1), (4, 2, 1), (6, 3, 1)], 4, 24, [.int .i64 0, .int .i64 0, .tt false, .u8 0], (.st 0), true⟩),
  (8, ⟨.struct [(2, 0, 1), (3, 1, 1), (4, 2, 1), (6, 3, 1)], 4, 24, [.int .i64 0, .int .i64 0, .tt false, .u8 0], (.st 1), true⟩),
  (9, ⟨.str, 1, 16, [.str []], .str, false⟩),
  (11, ⟨.str, 1, 16, [.str []], .str, false⟩),
  (12, ⟨.int .u64, 1, 8, [.int .u64 0], (.int .u64), false⟩),
  (13, ⟨.struct [(9, 0, 1), (12, 1, 1)], 2, 24, [.str [], .int .u64 0], (.st 2), false⟩),
  (16, ⟨.ptr 202, 1, 8, [.nilP], .bo, false⟩),
  (17, ⟨.ptr 210, 1, 8, [.nilP], .bo, false⟩),
  (22, ⟨.slice 26, 1, 24, [.nilS], (.sl (.st 3)), false⟩),
  (24, ⟨.slice 5, 1, 24, [.nilS], (.sl .u8), false⟩),
  (26, ⟨.struct [(3, 0, 1), (3, 1, 1), (3, 2, 1), (3, 3, 1), (24, 4, 1)], 5, 56, [.int .i64 0, .int .i64 0, .int .i64 0, .int .i64 0, .nilS], (.st 3), false⟩),
  (30, ⟨.func, 1, 8, [.nilF], .bo, false⟩),
  (32, ⟨.array 32 5, 32, 32, [.a8 32 (fun _ => 0)], (.a8 32), true⟩),
  (41, ⟨.slice 3, 1, 24, [.nilS], (.sl (.int .i64)), false⟩),
  (50, ⟨.func, 1, 8, [.nilF], .bo, false⟩),
  (59, ⟨.slice 61, 1, 24, [.nilS], (.sl (.st 4)), false⟩),
  (61, ⟨.struct [(3, 0, 1), (3, 1, 1)], 2, 16, [.int .i64 0, .int .i64 0], (.st 4), true⟩),
  (71, ⟨.int .i64, 1, 8, [.int .i64 0], (.int .i64), false⟩),
  (73, ⟨.struct [(71, 0, 1), (3, 1, 1)], 2, 16, [.int .i64 0, .int .i64 0], (.st 5), true⟩),
  (89, ⟨.func, 1, 8, [.nilF], .bo, false⟩),
  (97, ⟨.func, 1, 8, [.nilF], .bo, false⟩),
  (98, ⟨.struct [(4, 0, 1), (3, 1, 1), (5, 2, 1)], 3, 24, [.tt false, .int .i64 0, .u8 0], (.st 6), true⟩),
  (99, ⟨.func, 1, 8, [.nilF], .bo, false⟩),
  (100, ⟨.func, 1, 8, [.nilF], .bo, false⟩),
  (111, ⟨.ptr 154, 1, 8, [.nilP], .bo, false⟩),
  (115, ⟨.map 57 4, 1, 8, [.nilM], .bo, false⟩),
  (116, ⟨.map 3 41, 1, 8, [.nilM], .bo, false⟩),
  (118, ⟨.struct [(3, 0, 1), (115, 1, 1), (116, 2, 1), (116, 3, 1)], 4, 32, [.int .i64 0, .nilM, .nilM, .nilM], .bo, false⟩),
  (120, ⟨.func, 1, 8, [.nilF], .bo, false⟩),
  (121, ⟨.func, 1, 8, [.nilF], .bo, false⟩),
  (126, ⟨.func, 1, 8, [.nilF], .bo, false⟩),
  (133, ⟨.func, 1, 8, [.nilF], .bo, false⟩),
  (134, ⟨.func, 1, 8, [.nilF], .bo, false⟩),
  (137, ⟨.struct [(61, 0, 2)], 2, 16, [.int .i64 0, .int .i64 0], (.st 7), true⟩),
  (139, ⟨.func, 1, 8, [.nilF], .bo, false⟩),
  (146, ⟨.func, 1, 8, [.nilF], .bo, false⟩),
  (150, ⟨.func, 1, 8, [.nilF], .bo, false⟩),
  (152, ⟨.slice 156, 1, 24, [.nilS], (.sl (.st 8)), false⟩),
  (154, ⟨.struct [(152, 0, 1)], 1, 24, [.nilS], (.st 9), false⟩),
  (156, ⟨.struct [(61, 0, 2), (3, 2, 1)], 3, 24, [.int .i64 0, .int .i64 0, .int .i64 0], (.st 8), true⟩),
  (159, ⟨.func, 1, 8, [.nilF], .bo, false⟩),
  (167, ⟨.func, 1, 8, [.nilF], .bo, false⟩),
  (173, ⟨.int .u64, 1, 8, [.int .u64 0], (.int .u64), false⟩),
  (177, ⟨.int .i64, 1, 8, [.int .i64 0], (.int .i64), false⟩),
  (184, ⟨.int .u32, 1, 4, [.int .u32 0], (.int .u32), false⟩),
  (186, ⟨.int .u64, 1, 8, [.int .u64 0], (.int .u64), false⟩),
  (189, ⟨.int .u64, 1, 8, [.int .u64 0], (.int .u64), false⟩),
  (193, ⟨.ptr 3, 1, 8, [.nilP], .bo, false⟩),
  (195, ⟨.ptr 189, 1, 8, [.nilP], .bo, false⟩),
  (200, ⟨.array 0 16, 0, 0, [], .bo, false⟩)]
def tt (t : TypeId) : Option (TI Sx) := look t tyL
end E
namespace E
theorem flat_ : ∀ i, (tb i).fs.all noSt = true
  | 0 => rfl
  | 1 => rfl
  | 2 => rfl
  | 3 => rfl
  | 4 => rfl
  | 5 => rfl
  | 6 => rfl
  | 7 => rfl
  | 8 => rfl
  | 9 => rfl
  | 10 => rfl
  | _ + 11 => rfl
theorem max_ : ∀ i, (tb i).fs.all (fun c => Nat.ble (maxSt c) i) = true
  | 0 => rfl
  | 1 => rfl
  | 2 => rfl
  | 3 => rfl
  | 4 => rfl
  | 5 => rfl
  | 6 => rfl
  | 7 => rfl
  | 8 => rfl
  | 9 => rfl
  | 10 => rfl
  | _ + 11 => by simp [tb, maxSt]
theorem ne_ : ∀ i, (tb i).fs ≠ []
  | 0 => (fun h => by cases h)
  | 1 => (fun h => by cases h)
  | 2 => (fun h => by cases h)
  | 3 => (fun h => by cases h)
  | 4 => (fun h => by cases h)
  | 5 => (fun h => by cases h)
  | 6 => (fun h => by cases h)
  | 7 => (fun h => by cases h)
  | 8 => (fun h => by cases h)
  | 9 => (fun h => by cases h)
  | 10 => (fun h => by cases h)
  | _ + 11 => (fun h => by cases h)
theorem to_of_ : ∀ i (h : HL Sx (tb i).fs), (tb i).to ((tb i).of h) = h
  | 0, _ => rfl
  | 1, _ => rfl
  | 2, _ => rfl
  | 3, _ => rfl
  | 4, _ => rfl
  | 5, _ => rfl
  | 6, _ => rfl
  | 7, _ => rfl
  | 8, _ => rfl
  | 9, _ => rfl
  | 10, _ => rfl
  | _ + 11, _ => rfl
noncomputable def KT : TbOK tb := tbOK (rgP Try.prog) flat_ (fun i c hc => Nat.le_of_ble_eq_true (List.all_eq_true.1 (max_ i) c hc)) ne_ to_of_
theorem ty_1 : TyOK Try.prog 1 (⟨.func, 1, 8, [.nilF], .bo, false⟩ : TI Sx) := ⟨(show (Try.prog.underlying 1).map isFuncD = some true by kernel_rfl), by kernel_rfl, by kernel_rfl, by kernel_rfl, fun _ => rfl⟩
theorem ty_2 : TyOK Try.prog 2 (⟨.int .i64, 1, 8, [.int .i64 0], (.int .i64), false⟩ : TI Sx) := ⟨(show Try.prog.underlying 2 = some (.int .i64) by kernel_rfl), by kernel_rfl, by kernel_rfl, by kernel_rfl, fun _ => rfl⟩
theorem ty_3 : TyOK Try.prog 3 (⟨.int .i64, 1, 8, [.int .i64 0], (.int .i64), false⟩ : TI Sx) := ⟨(show Try.prog.underlying 3 = some (.int .i64) by kernel_rfl), by kernel_rfl, by kernel_rfl, by kernel_rfl, fun _ => rfl⟩
theorem ty_4 : TyOK Try.prog 4 (⟨.bool, 1, 1, [.tt false], .bo, false⟩ : TI Sx) := ⟨(show Try.prog.underlying 4 = some (.bool) by kernel_rfl), by kernel_rfl, by kernel_rfl, by kernel_rfl, fun _ => rfl⟩
theorem ty_5 : TyOK Try.prog 5 (⟨.int .u8, 1, 1, [.u8 0], .u8, false⟩ : TI Sx) := ⟨(show Try.prog.underlying 5 = some (.int .u8) by kernel_rfl), by kernel_rfl, by kernel_rfl, by kernel_rfl, fun _ => rfl⟩
theorem ty_6 : TyOK Try.prog 6 (⟨.int .u8, 1, 1, [.u8 0], .u8, false⟩ : TI Sx) := ⟨(show Try.prog.underlying 6 = some (.int .u8) by kernel_rfl), by kernel_rfl, by kernel_rfl, by kernel_rfl, fun _ => rfl⟩
theorem ty_7 : TyOK Try.prog 7 (⟨.struct [(2, 0, 1), (3, 1, 1), (4, 2, 1), (6, 3, 1)], 4, 24, [.int .i64 0, .int .i64 0, .tt false, .u8 0], (.st 0), true⟩ : TI Sx) := ⟨(show undS Try.prog 7 = some [(2, 0, 1), (3, 1, 1), (4, 2, 1), (6, 3, 1)] by kernel_rfl), by kernel_rfl, by kernel_rfl, by kernel_rfl, fun h => by cases h⟩
theorem ty_8 : TyOK Try.prog 8 (⟨.struct [(2, 0, 1), (3, 1, 1), (4, 2, 1), (6, 3, 1)], 4, 24, [.int .i64 0, .int .i64 0, .tt false, .u8 0], (.st 1), true⟩ : TI Sx) := ⟨(show undS Try.prog 8 = some [(2, 0, 1), (3, 1, 1), (4, 2, 1), (6, 3, 1)] by kernel_rfl), by kernel_rfl, by kernel_rfl, by kernel_rfl, fun h => by cases h⟩
theorem ty_9 : TyOK Try.prog 9 (⟨.str, 1, 16, [.str []], .str, false⟩ : TI Sx) := ⟨(show Try.prog.underlying 9 = some (.string) by kernel_rfl), by kernel_rfl, by kernel_rfl, by kernel_rfl, fun _ => rfl⟩
theorem ty_11 : TyOK Try.prog 11 (⟨.str, 1, 16, [.str []], .str, false⟩ : TI Sx) := ⟨(show Try.prog.underlying 11 = some (.string) by kernel_rfl), by kernel_rfl, by kernel_rfl, by kernel_rfl, fun _ => rfl⟩
theorem ty_12 : TyOK Try.prog 12 (⟨.int .u64, 1, 8, [.int .u64 0], (.int .u64), false⟩ : TI Sx) := ⟨(show Try.prog.underlying 12 = some (.int .u64) by kernel_rfl), by kernel_rfl, by kernel_rfl, by kernel_rfl, fun _ => rfl⟩
theorem ty_13 : TyOK Try.prog 13 (⟨.struct [(9, 0, 1), (12, 1, 1)], 2, 24, [.str [], .int .u64 0], (.st 2), false⟩ : TI Sx) := ⟨(show undS Try.prog 13 = some [(9, 0, 1), (12, 1, 1)] by kernel_rfl), by kernel_rfl, by kernel_rfl, by kernel_rfl, fun h => by cases h⟩
theorem ty_16 : TyOK Try.prog 16 (⟨.ptr 202, 1, 8, [.nilP], .bo, false⟩ : TI Sx) := ⟨(show Try.prog.underlying 16 = some (.pointer 202) by kernel_rfl), by kernel_rfl, by kernel_rfl, by kernel_rfl, fun _ => rfl⟩
theorem ty_17 : TyOK Try.prog 17 (⟨.ptr 210, 1, 8, [.nilP], .bo, false⟩ : TI Sx) := ⟨(show Try.prog.underlying 17 = some (.pointer 210) by kernel_rfl), by kernel_rfl, by kernel_rfl, by kernel_rfl, fun _ => rfl⟩
theorem ty_22 : TyOK Try.prog 22 (⟨.slice 26, 1, 24, [.nilS], (.sl (.st 3)), false⟩ : TI Sx) := ⟨(show Try.prog.underlying 22 = some (.slice 26) by kernel_rfl), by kernel_rfl, by kernel_rfl, by kernel_rfl, fun _ => rfl⟩
theorem ty_24 : TyOK Try.prog 24 (⟨.slice 5, 1, 24, [.nilS], (.sl .u8), false⟩ : TI Sx) := ⟨(show Try.prog.underlying 24 = some (.slice 5) by kernel_rfl), by kernel_rfl, by kernel_rfl, by kernel_rfl, fun _ => rfl⟩
theorem ty_26 : TyOK Try.prog 26 (⟨.struct [(3, 0, 1), (3, 1, 1), (3, 2, 1), (3, 3, 1), (24, 4, 1)], 5, 56, [.int .i64 0, .int .i64 0, .int .i64 0, .int .i64 0, .nilS], (.st 3), false⟩ : TI Sx) := ⟨(show undS Try.prog 26 = some [(3, 0, 1), (3, 1, 1), (3, 2, 1), (3, 3, 1), (24, 4, 1)] by kernel_rfl), by kernel_rfl, by kernel_rfl, by kernel_rfl, fun h => by cases h⟩
theorem ty_30 : TyOK Try.prog 30 (⟨.func, 1, 8, [.nilF], .bo, false⟩ : TI Sx) := ⟨(show (Try.prog.underlying 30).map isFuncD = some true by kernel_rfl), by kernel_rfl, by kernel_rfl, by kernel_rfl, fun _ => rfl⟩
theorem ty_32 : TyOK Try.prog 32 (⟨.array 32 5, 32, 32, [.a8 32 (fun _ => 0)], (.a8 32), true⟩ : TI Sx) := ⟨(show Try.prog.underlying 32 = some (.array 32 5) by kernel_rfl), by kernel_rfl, by kernel_rfl, by kernel_rfl, fun h => by cases h⟩
theorem ty_41 : TyOK Try.prog 41 (⟨.slice 3, 1, 24, [.nilS], (.sl (.int .i64)), false⟩ : TI Sx) := ⟨(show Try.prog.underlying 41 = some (.slice 3) by kernel_rfl), by kernel_rfl, by kernel_rfl, by kernel_rfl, fun _ => rfl⟩
theorem ty_50 : TyOK Try.prog 50 (⟨.func, 1, 8, [.nilF], .bo, false⟩ : TI Sx) := ⟨(show (Try.prog.underlying 50).map isFuncD = some true by kernel_rfl), by kernel_rfl, by kernel_rfl, by kernel_rfl, fun _ => rfl⟩
theorem ty_59 : TyOK Try.prog 59 (⟨.slice 61, 1, 24, [.nilS], (.sl (.st 4)), false⟩ : TI Sx) := ⟨(show Try.prog.underlying 59 = some (.slice 61) by kernel_rfl), by kernel_rfl, by kernel_rfl, by kernel_rfl, fun _ => rfl⟩
theorem ty_61 : TyOK Try.prog 61 (⟨.struct [(3, 0, 1), (3, 1, 1)], 2, 16, [.int .i64 0, .int .i64 0], (.st 4), true⟩ : TI Sx) := ⟨(show undS Try.prog 61 = some [(3, 0, 1), (3, 1, 1)] by kernel_rfl), by kernel_rfl, by kernel_rfl, by kernel_rfl, fun h => by cases h⟩
theorem ty_71 : TyOK Try.prog 71 (⟨.int .i64, 1, 8, [.int .i64 0], (.int .i64), false⟩ : TI Sx) := ⟨(show Try.prog.underlying 71 = some (.int .i64) by kernel_rfl), by kernel_rfl, by kernel_rfl, by kernel_rfl, fun _ => rfl⟩
theorem ty_73 : TyOK Try.prog 73 (⟨.struct [(71, 0, 1), (3, 1, 1)], 2, 16, [.int .i64 0, .int .i64 0], (.st 5), true⟩ : TI Sx) := ⟨(show undS Try.prog 73 = some [(71, 0, 1), (3, 1, 1)] by kernel_rfl), by kernel_rfl, by kernel_rfl, by kernel_rfl, fun h => by cases h⟩
theorem ty_89 : TyOK Try.prog 89 (⟨.func, 1, 8, [.nilF], .bo, false⟩ : TI Sx) := ⟨(show (Try.prog.underlying 89).map isFuncD = some true by kernel_rfl), by kernel_rfl, by kernel_rfl, by kernel_rfl, fun _ => rfl⟩
theorem ty_97 : TyOK Try.prog 97 (⟨.func, 1, 8, [.nilF], .bo, false⟩ : TI Sx) := ⟨(show (Try.prog.underlying 97).map isFuncD = some true by kernel_rfl), by kernel_rfl, by kernel_rfl, by kernel_rfl, fun _ => rfl⟩
theorem ty_98 : TyOK Try.prog 98 (⟨.struct [(4, 0, 1), (3, 1, 1), (5, 2, 1)], 3, 24, [.tt false, .int .i64 0, .u8 0], (.st 6), true⟩ : TI Sx) := ⟨(show undS Try.prog 98 = some [(4, 0, 1), (3, 1, 1), (5, 2, 1)] by kernel_rfl), by kernel_rfl, by kernel_rfl, by kernel_rfl, fun h => by cases h⟩
theorem ty_99 : TyOK Try.prog 99 (⟨.func, 1, 8, [.nilF], .bo, false⟩ : TI Sx) := ⟨(show (Try.prog.underlying 99).map isFuncD = some true by kernel_rfl), by kernel_rfl, by kernel_rfl, by kernel_rfl, fun _ => rfl⟩
theorem ty_100 : TyOK Try.prog 100 (⟨.func, 1, 8, [.nilF], .bo, false⟩ : TI Sx) := ⟨(show (Try.prog.underlying 100).map isFuncD = some true by kernel_rfl), by kernel_rfl, by kernel_rfl, by kernel_rfl, fun _ => rfl⟩
theorem ty_111 : TyOK Try.prog 111 (⟨.ptr 154, 1, 8, [.nilP], .bo, false⟩ : TI Sx) := ⟨(show Try.prog.underlying 111 = some (.pointer 154) by kernel_rfl), by kernel_rfl, by kernel_rfl, by kernel_rfl, fun _ => rfl⟩
theorem ty_115 : TyOK Try.prog 115 (⟨.map 57 4, 1, 8, [.nilM], .bo, false⟩ : TI Sx) := ⟨(show Try.prog.underlying 115 = some (.map 57 4) by kernel_rfl), by kernel_rfl, by kernel_rfl, by kernel_rfl, fun _ => rfl⟩
theorem ty_116 : TyOK Try.prog 116 (⟨.map 3 41, 1, 8, [.nilM], .bo, false⟩ : TI Sx) := ⟨(show Try.prog.underlying 116 = some (.map 3 41) by kernel_rfl), by kernel_rfl, by kernel_rfl, by kernel_rfl, fun _ => rfl⟩
theorem ty_118 : TyOK Try.prog 118 (⟨.struct [(3, 0, 1), (115, 1, 1), (116, 2, 1), (116, 3, 1)], 4, 32, [.int .i64 0, .nilM, .nilM, .nilM], .bo, false⟩ : TI Sx) := ⟨(show undS Try.prog 118 = some [(3, 0, 1), (115, 1, 1), (116, 2, 1), (116, 3, 1)] by kernel_rfl), by kernel_rfl, by kernel_rfl, by kernel_rfl, fun h => by cases h⟩
theorem ty_120 : TyOK Try.prog 120 (⟨.func, 1, 8, [.nilF], .bo, false⟩ : TI Sx) := ⟨(show (Try.prog.underlying 120).map isFuncD = some true by kernel_rfl), by kernel_rfl, by kernel_rfl, by kernel_rfl, fun _ => rfl⟩
theorem ty_121 : TyOK Try.prog 121 (⟨.func, 1, 8, [.nilF], .bo, false⟩ : TI Sx) := ⟨(show (Try.prog.underlying 121).map isFuncD = some true by kernel_rfl), by kernel_rfl, by kernel_rfl, by kernel_rfl, fun _ => rfl⟩
theorem ty_126 : TyOK Try.prog 126 (⟨.func, 1, 8, [.nilF], .bo, false⟩ : TI Sx) := ⟨(show (Try.prog.underlying 126).map isFuncD = some true by kernel_rfl), by kernel_rfl, by kernel_rfl, by kernel_rfl, fun _ => rfl⟩
theorem ty_133 : TyOK Try.prog 133 (⟨.func, 1, 8, [.nilF], .bo, false⟩ : TI Sx) := ⟨(show (Try.prog.underlying 133).map isFuncD = some true by kernel_rfl), by kernel_rfl, by kernel_rfl, by kernel_rfl, fun _ => rfl⟩
theorem ty_134 : TyOK Try.prog 134 (⟨.func, 1, 8, [.nilF], .bo, false⟩ : TI Sx) := ⟨(show (Try.prog.underlying 134).map isFuncD = some true by kernel_rfl), by kernel_rfl, by kernel_rfl, by kernel_rfl, fun _ => rfl⟩
theorem ty_137 : TyOK Try.prog 137 (⟨.struct [(61, 0, 2)], 2, 16, [.int .i64 0, .int .i64 0], (.st 7), true⟩ : TI Sx) := ⟨(show undS Try.prog 137 = some [(61, 0, 2)] by kernel_rfl), by kernel_rfl, by kernel_rfl, by kernel_rfl, fun h => by cases h⟩
theorem ty_139 : TyOK Try.prog 139 (⟨.func, 1, 8, [.nilF], .bo, false⟩ : TI Sx) := ⟨(show (Try.prog.underlying 139).map isFuncD = some true by kernel_rfl), by kernel_rfl, by kernel_rfl, by kernel_rfl, fun _ => rfl⟩
theorem ty_146 : TyOK Try.prog 146 (⟨.func, 1, 8, [.nilF], .bo, false⟩ : TI Sx) := ⟨(show (Try.prog.underlying 146).map isFuncD = some true by kernel_rfl), by kernel_rfl, by kernel_rfl, by kernel_rfl, fun _ => rfl⟩
theorem ty_150 : TyOK Try.prog 150 (⟨.func, 1, 8, [.nilF], .bo, false⟩ : TI Sx) := ⟨(show (Try.prog.underlying 150).map isFuncD = some true by kernel_rfl), by kernel_rfl, by kernel_rfl, by kernel_rfl, fun _ => rfl⟩
theorem ty_152 : TyOK Try.prog 152 (⟨.slice 156, 1, 24, [.nilS], (.sl (.st 8)), false⟩ : TI Sx) := ⟨(show Try.prog.underlying 152 = some (.slice 156) by kernel_rfl), by kernel_rfl, by kernel_rfl, by kernel_rfl, fun _ => rfl⟩
theorem ty_154 : TyOK Try.prog 154 (⟨.struct [(152, 0, 1)], 1, 24, [.nilS], (.st 9), false⟩ : TI Sx) := ⟨(show undS Try.prog 154 = some [(152, 0, 1)] by kernel_rfl), by kernel_rfl, by kernel_rfl, by kernel_rfl, fun h => by cases h⟩
theorem ty_156 : TyOK Try.prog 156 (⟨.struct [(61, 0, 2), (3, 2, 1)], 3, 24, [.int .i64 0, .int .i64 0, .int .i64 0], (.st 8), true⟩ : TI Sx) := ⟨(show undS Try.prog 156 = some [(61, 0, 2), (3, 2, 1)] by kernel_rfl), by kernel_rfl, by kernel_rfl, by kernel_rfl, fun h => by cases h⟩
theorem ty_159 : TyOK Try.prog 159 (⟨.func, 1, 8, [.nilF], .bo, false⟩ : TI Sx) := ⟨(show (Try.prog.underlying 159).map isFuncD = some true by kernel_rfl), by kernel_rfl, by kernel_rfl, by kernel_rfl, fun _ => rfl⟩
theorem ty_167 : TyOK Try.prog 167 (⟨.func, 1, 8, [.nilF], .bo, false⟩ : TI Sx) := ⟨(show (Try.prog.underlying 167).map isFuncD = some true by kernel_rfl), by kernel_rfl, by kernel_rfl, by kernel_rfl, fun _ => rfl⟩
theorem ty_173 : TyOK Try.prog 173 (⟨.int .u64, 1, 8, [.int .u64 0], (.int .u64), false⟩ : TI Sx) := ⟨(show Try.prog.underlying 173 = some (.int .u64) by kernel_rfl), by kernel_rfl, by kernel_rfl, by kernel_rfl, fun _ => rfl⟩
theorem ty_177 : TyOK Try.prog 177 (⟨.int .i64, 1, 8, [.int .i64 0], (.int .i64), false⟩ : TI Sx) := ⟨(show Try.prog.underlying 177 = some (.int .i64) by kernel_rfl), by kernel_rfl, by kernel_rfl, by kernel_rfl, fun _ => rfl⟩
theorem ty_184 : TyOK Try.prog 184 (⟨.int .u32, 1, 4, [.int .u32 0], (.int .u32), false⟩ : TI Sx) := ⟨(show Try.prog.underlying 184 = some (.int .u32) by kernel_rfl), by kernel_rfl, by kernel_rfl, by kernel_rfl, fun _ => rfl⟩
theorem ty_186 : TyOK Try.prog 186 (⟨.int .u64, 1, 8, [.int .u64 0], (.int .u64), false⟩ : TI Sx) := ⟨(show Try.prog.underlying 186 = some (.int .u64) by kernel_rfl), by kernel_rfl, by kernel_rfl, by kernel_rfl, fun _ => rfl⟩
theorem ty_189 : TyOK Try.prog 189 (⟨.int .u64, 1, 8, [.int .u64 0], (.int .u64), false⟩ : TI Sx) := ⟨(show Try.prog.underlying 189 = some (.int .u64) by kernel_rfl), by kernel_rfl, by kernel_rfl, by kernel_rfl, fun _ => rfl⟩
theorem ty_193 : TyOK Try.prog 193 (⟨.ptr 3, 1, 8, [.nilP], .bo, false⟩ : TI Sx) := ⟨(show Try.prog.underlying 193 = some (.pointer 3) by kernel_rfl), by kernel_rfl, by kernel_rfl, by kernel_rfl, fun _ => rfl⟩
theorem ty_195 : TyOK Try.prog 195 (⟨.ptr 189, 1, 8, [.nilP], .bo, false⟩ : TI Sx) := ⟨(show Try.prog.underlying 195 = some (.pointer 189) by kernel_rfl), by kernel_rfl, by kernel_rfl, by kernel_rfl, fun _ => rfl⟩
theorem ty_200 : TyOK Try.prog 200 (⟨.array 0 16, 0, 0, [], .bo, false⟩ : TI Sx) := ⟨(show Try.prog.underlying 200 = some (.array 0 16) by kernel_rfl), by kernel_rfl, by kernel_rfl, by kernel_rfl, fun h => by cases h⟩
set_option maxRecDepth 100000 in
theorem eqS_7 (x0 : Int) (x1 : Int) (x2 : Bool) (x3 : UInt8) (y0 : Int) (y1 : Int) (y2 : Bool) (y3 : UInt8) (w : World) : (binOp .eql 7 (.agg #[.int .i64 x0, .int .i64 x1, .bool x2, .int .u8 (x3.toNat : Int)]) (.agg #[.int .i64 y0, .int .i64 y1, .bool y2, .int .u8 (y3.toNat : Int)])).run Try.prog w = .ok (.bool (decide (x0 = y0 ∧ x1 = y1 ∧ x2 = y2 ∧ (x3.toNat : Int) = (y3.toNat : Int)))) w := by
  simp [go_sem]; repeat' split
  all_goals simp_all
theorem eq_7 : EqT KT Try.prog 7 ([.int .i64 0, .int .i64 0, .tt false, .u8 0] : List (CV Sx)) := ⟨by kernel_rfl, fun g m vs ws p xs ys w hv hw hp h1 h2 => by
  obtain ⟨x0, _, rfl, hv1⟩ := kind_int hv
  obtain ⟨x1, _, rfl, hv2⟩ := kind_int hv1
  rcases kind_bo hv2 with ⟨x2, _, _, _, _, rfl, hv3⟩ | ⟨x2, _, rfl, hv3⟩
  all_goals
    obtain ⟨x3, _, rfl, hv4⟩ := kind_u8 hv3
    obtain rfl := kind_nil hv4
    obtain ⟨y0, _, rfl, hw1⟩ := kind_int hw
    obtain ⟨y1, _, rfl, hw2⟩ := kind_int hw1
    rcases kind_bo hw2 with ⟨y2, _, _, _, _, rfl, hw3⟩ | ⟨y2, _, rfl, hw3⟩
    all_goals
      obtain ⟨y3, _, rfl, hw4⟩ := kind_u8 hw3
      obtain rfl := kind_nil hw4
      obtain ⟨_, rfl, h1_1⟩ := cvs_int h1
      obtain ⟨_, rfl, h1_2⟩ := cvs_int h1_1
      first | obtain ⟨_, rfl, h1_3⟩ := cvs_tt h1_2 | obtain ⟨_, rfl, h1_3⟩ := cvs_bo h1_2
      obtain ⟨_, rfl, h1_4⟩ := cvs_u8 h1_3
      simp only [cvsR] at h1_4; subst h1_4
      obtain ⟨_, rfl, h2_1⟩ := cvs_int h2
      obtain ⟨_, rfl, h2_2⟩ := cvs_int h2_1
      first | obtain ⟨_, rfl, h2_3⟩ := cvs_tt h2_2 | obtain ⟨_, rfl, h2_3⟩ := cvs_bo h2_2
      obtain ⟨_, rfl, h2_4⟩ := cvs_u8 h2_3
      simp only [cvsR] at h2_4; subst h2_4
      simp only [eqCs, bit, Option.bind_some, Option.map_some, Option.some.injEq] at hp
      subst hp
      exact eqS_7 x0 x1 x2 x3 y0 y1 y2 y3 w⟩
set_option maxRecDepth 100000 in
theorem eqS_8 (x0 : Int) (x1 : Int) (x2 : Bool) (x3 : UInt8) (y0 : Int) (y1 : Int) (y2 : Bool) (y3 : UInt8) (w : World) : (binOp .eql 8 (.agg #[.int .i64 x0, .int .i64 x1, .bool x2, .int .u8 (x3.toNat : Int)]) (.agg #[.int .i64 y0, .int .i64 y1, .bool y2, .int .u8 (y3.toNat : Int)])).run Try.prog w = .ok (.bool (decide (x0 = y0 ∧ x1 = y1 ∧ x2 = y2 ∧ (x3.toNat : Int) = (y3.toNat : Int)))) w := by
  simp [go_sem]; repeat' split
  all_goals simp_all
theorem eq_8 : EqT KT Try.prog 8 ([.int .i64 0, .int .i64 0, .tt false, .u8 0] : List (CV Sx)) := ⟨by kernel_rfl, fun g m vs ws p xs ys w hv hw hp h1 h2 => by
  obtain ⟨x0, _, rfl, hv1⟩ := kind_int hv
  obtain ⟨x1, _, rfl, hv2⟩ := kind_int hv1
  rcases kind_bo hv2 with ⟨x2, _, _, _, _, rfl, hv3⟩ | ⟨x2, _, rfl, hv3⟩
  all_goals
    obtain ⟨x3, _, rfl, hv4⟩ := kind_u8 hv3
    obtain rfl := kind_nil hv4
    obtain ⟨y0, _, rfl, hw1⟩ := kind_int hw
    obtain ⟨y1, _, rfl, hw2⟩ := kind_int hw1
    rcases kind_bo hw2 with ⟨y2, _, _, _, _, rfl, hw3⟩ | ⟨y2, _, rfl, hw3⟩
    all_goals
      obtain ⟨y3, _, rfl, hw4⟩ := kind_u8 hw3
      obtain rfl := kind_nil hw4
      obtain ⟨_, rfl, h1_1⟩ := cvs_int h1
      obtain ⟨_, rfl, h1_2⟩ := cvs_int h1_1
      first | obtain ⟨_, rfl, h1_3⟩ := cvs_tt h1_2 | obtain ⟨_, rfl, h1_3⟩ := cvs_bo h1_2
      obtain ⟨_, rfl, h1_4⟩ := cvs_u8 h1_3
      simp only [cvsR] at h1_4; subst h1_4
      obtain ⟨_, rfl, h2_1⟩ := cvs_int h2
      obtain ⟨_, rfl, h2_2⟩ := cvs_int h2_1
      first | obtain ⟨_, rfl, h2_3⟩ := cvs_tt h2_2 | obtain ⟨_, rfl, h2_3⟩ := cvs_bo h2_2
      obtain ⟨_, rfl, h2_4⟩ := cvs_u8 h2_3
      simp only [cvsR] at h2_4; subst h2_4
      simp only [eqCs, bit, Option.bind_some, Option.map_some, Option.some.injEq] at hp
      subst hp
      exact eqS_8 x0 x1 x2 x3 y0 y1 y2 y3 w⟩
theorem eq_32 : EqT KT Try.prog 32 ([.a8 32 (fun _ => 0)] : List (CV Sx)) := ⟨by kernel_rfl, fun g m vs ws p xs ys w hv hw hp h1 h2 => by cases vs <;> simp [kindOk] at hv⟩
set_option maxRecDepth 100000 in
theorem eqS_61 (x0 : Int) (x1 : Int) (y0 : Int) (y1 : Int) (w : World) : (binOp .eql 61 (.agg #[.int .i64 x0, .int .i64 x1]) (.agg #[.int .i64 y0, .int .i64 y1])).run Try.prog w = .ok (.bool (decide (x0 = y0 ∧ x1 = y1))) w := by
  simp [go_sem]; repeat' split
  all_goals simp_all
theorem eq_61 : EqT KT Try.prog 61 ([.int .i64 0, .int .i64 0] : List (CV Sx)) := ⟨by kernel_rfl, fun g m vs ws p xs ys w hv hw hp h1 h2 => by
  obtain ⟨x0, _, rfl, hv1⟩ := kind_int hv
  obtain ⟨x1, _, rfl, hv2⟩ := kind_int hv1
  obtain rfl := kind_nil hv2
  obtain ⟨y0, _, rfl, hw1⟩ := kind_int hw
  obtain ⟨y1, _, rfl, hw2⟩ := kind_int hw1
  obtain rfl := kind_nil hw2
  obtain ⟨_, rfl, h1_1⟩ := cvs_int h1
  obtain ⟨_, rfl, h1_2⟩ := cvs_int h1_1
  simp only [cvsR] at h1_2; subst h1_2
  obtain ⟨_, rfl, h2_1⟩ := cvs_int h2
  obtain ⟨_, rfl, h2_2⟩ := cvs_int h2_1
  simp only [cvsR] at h2_2; subst h2_2
  simp only [eqCs, bit, Option.bind_some, Option.map_some, Option.some.injEq] at hp
  subst hp
  exact eqS_61 x0 x1 y0 y1 w⟩
set_option maxRecDepth 100000 in
theorem eqS_73 (x0 : Int) (x1 : Int) (y0 : Int) (y1 : Int) (w : World) : (binOp .eql 73 (.agg #[.int .i64 x0, .int .i64 x1]) (.agg #[.int .i64 y0, .int .i64 y1])).run Try.prog w = .ok (.bool (decide (x0 = y0 ∧ x1 = y1))) w := by
  simp [go_sem]; repeat' split
  all_goals simp_all
theorem eq_73 : EqT KT Try.prog 73 ([.int .i64 0, .int .i64 0] : List (CV Sx)) := ⟨by kernel_rfl, fun g m vs ws p xs ys w hv hw hp h1 h2 => by
  obtain ⟨x0, _, rfl, hv1⟩ := kind_int hv
  obtain ⟨x1, _, rfl, hv2⟩ := kind_int hv1
  obtain rfl := kind_nil hv2
  obtain ⟨y0, _, rfl, hw1⟩ := kind_int hw
  obtain ⟨y1, _, rfl, hw2⟩ := kind_int hw1
  obtain rfl := kind_nil hw2
  obtain ⟨_, rfl, h1_1⟩ := cvs_int h1
  obtain ⟨_, rfl, h1_2⟩ := cvs_int h1_1
  simp only [cvsR] at h1_2; subst h1_2
  obtain ⟨_, rfl, h2_1⟩ := cvs_int h2
  obtain ⟨_, rfl, h2_2⟩ := cvs_int h2_1
  simp only [cvsR] at h2_2; subst h2_2
  simp only [eqCs, bit, Option.bind_some, Option.map_some, Option.some.injEq] at hp
  subst hp
  exact eqS_73 x0 x1 y0 y1 w⟩
set_option maxRecDepth 100000 in
theorem eqS_98 (x0 : Bool) (x1 : Int) (x2 : UInt8) (y0 : Bool) (y1 : Int) (y2 : UInt8) (w : World) : (binOp .eql 98 (.agg #[.bool x0, .int .i64 x1, .int .u8 (x2.toNat : Int)]) (.agg #[.bool y0, .int .i64 y1, .int .u8 (y2.toNat : Int)])).run Try.prog w = .ok (.bool (decide (x0 = y0 ∧ x1 = y1 ∧ (x2.toNat : Int) = (y2.toNat : Int)))) w := by
  simp [go_sem]; repeat' split
  all_goals simp_all
theorem eq_98 : EqT KT Try.prog 98 ([.tt false, .int .i64 0, .u8 0] : List (CV Sx)) := ⟨by kernel_rfl, fun g m vs ws p xs ys w hv hw hp h1 h2 => by
  rcases kind_bo hv with ⟨x0, _, _, _, _, rfl, hv1⟩ | ⟨x0, _, rfl, hv1⟩
  all_goals
    obtain ⟨x1, _, rfl, hv2⟩ := kind_int hv1
    obtain ⟨x2, _, rfl, hv3⟩ := kind_u8 hv2
    obtain rfl := kind_nil hv3
    rcases kind_bo hw with ⟨y0, _, _, _, _, rfl, hw1⟩ | ⟨y0, _, rfl, hw1⟩
    all_goals
      obtain ⟨y1, _, rfl, hw2⟩ := kind_int hw1
      obtain ⟨y2, _, rfl, hw3⟩ := kind_u8 hw2
      obtain rfl := kind_nil hw3
      first | obtain ⟨_, rfl, h1_1⟩ := cvs_tt h1 | obtain ⟨_, rfl, h1_1⟩ := cvs_bo h1
      obtain ⟨_, rfl, h1_2⟩ := cvs_int h1_1
      obtain ⟨_, rfl, h1_3⟩ := cvs_u8 h1_2
      simp only [cvsR] at h1_3; subst h1_3
      first | obtain ⟨_, rfl, h2_1⟩ := cvs_tt h2 | obtain ⟨_, rfl, h2_1⟩ := cvs_bo h2
      obtain ⟨_, rfl, h2_2⟩ := cvs_int h2_1
      obtain ⟨_, rfl, h2_3⟩ := cvs_u8 h2_2
      simp only [cvsR] at h2_3; subst h2_3
      simp only [eqCs, bit, Option.bind_some, Option.map_some, Option.some.injEq] at hp
      subst hp
      exact eqS_98 x0 x1 x2 y0 y1 y2 w⟩
set_option maxRecDepth 100000 in
theorem eqS_137 (x0 : Int) (x1 : Int) (y0 : Int) (y1 : Int) (w : World) : (binOp .eql 137 (.agg #[.int .i64 x0, .int .i64 x1]) (.agg #[.int .i64 y0, .int .i64 y1])).run Try.prog w = .ok (.bool (decide (x0 = y0 ∧ x1 = y1))) w := by
  simp [go_sem]; repeat' split
  all_goals simp_all
theorem eq_137 : EqT KT Try.prog 137 ([.int .i64 0, .int .i64 0] : List (CV Sx)) := ⟨by kernel_rfl, fun g m vs ws p xs ys w hv hw hp h1 h2 => by
  obtain ⟨x0, _, rfl, hv1⟩ := kind_int hv
  obtain ⟨x1, _, rfl, hv2⟩ := kind_int hv1
  obtain rfl := kind_nil hv2
  obtain ⟨y0, _, rfl, hw1⟩ := kind_int hw
  obtain ⟨y1, _, rfl, hw2⟩ := kind_int hw1
  obtain rfl := kind_nil hw2
  obtain ⟨_, rfl, h1_1⟩ := cvs_int h1
  obtain ⟨_, rfl, h1_2⟩ := cvs_int h1_1
  simp only [cvsR] at h1_2; subst h1_2
  obtain ⟨_, rfl, h2_1⟩ := cvs_int h2
  obtain ⟨_, rfl, h2_2⟩ := cvs_int h2_1
  simp only [cvsR] at h2_2; subst h2_2
  simp only [eqCs, bit, Option.bind_some, Option.map_some, Option.some.injEq] at hp
  subst hp
  exact eqS_137 x0 x1 y0 y1 w⟩
set_option maxRecDepth 100000 in
theorem eqS_156 (x0 : Int) (x1 : Int) (x2 : Int) (y0 : Int) (y1 : Int) (y2 : Int) (w : World) : (binOp .eql 156 (.agg #[.int .i64 x0, .int .i64 x1, .int .i64 x2]) (.agg #[.int .i64 y0, .int .i64 y1, .int .i64 y2])).run Try.prog w = .ok (.bool (decide (x0 = y0 ∧ x1 = y1 ∧ x2 = y2))) w := by
  simp [go_sem]; repeat' split
  all_goals simp_all
theorem eq_156 : EqT KT Try.prog 156 ([.int .i64 0, .int .i64 0, .int .i64 0] : List (CV Sx)) := ⟨by kernel_rfl, fun g m vs ws p xs ys w hv hw hp h1 h2 => by
  obtain ⟨x0, _, rfl, hv1⟩ := kind_int hv
  obtain ⟨x1, _, rfl, hv2⟩ := kind_int hv1
  obtain ⟨x2, _, rfl, hv3⟩ := kind_int hv2
  obtain rfl := kind_nil hv3
  obtain ⟨y0, _, rfl, hw1⟩ := kind_int hw
  obtain ⟨y1, _, rfl, hw2⟩ := kind_int hw1
  obtain ⟨y2, _, rfl, hw3⟩ := kind_int hw2
  obtain rfl := kind_nil hw3
  obtain ⟨_, rfl, h1_1⟩ := cvs_int h1
  obtain ⟨_, rfl, h1_2⟩ := cvs_int h1_1
  obtain ⟨_, rfl, h1_3⟩ := cvs_int h1_2
  simp only [cvsR] at h1_3; subst h1_3
  obtain ⟨_, rfl, h2_1⟩ := cvs_int h2
  obtain ⟨_, rfl, h2_2⟩ := cvs_int h2_1
  obtain ⟨_, rfl, h2_3⟩ := cvs_int h2_2
  simp only [cvsR] at h2_3; subst h2_3
  simp only [eqCs, bit, Option.bind_some, Option.map_some, Option.some.injEq] at hp
  subst hp
  exact eqS_156 x0 x1 x2 y0 y1 y2 w⟩
set_option maxRecDepth 100000 in
theorem ty_all : ∀ p ∈ tyL, TyOK Try.prog p.1 p.2 := all_cons ty_1 <| all_cons ty_2 <| all_cons ty_3 <| all_cons ty_4 <| all_cons ty_5 <| all_cons ty_6 <| all_cons ty_7 <| all_cons ty_8 <| all_cons ty_9 <| all_cons ty_11 <| all_cons ty_12 <| all_cons ty_13 <| all_cons ty_16 <| all_cons ty_17 <| all_cons ty_22 <| all_cons ty_24 <| all_cons ty_26 <| all_cons ty_30 <| all_cons ty_32 <| all_cons ty_41 <| all_cons ty_50 <| all_cons ty_59 <| all_cons ty_61 <| all_cons ty_71 <| all_cons ty_73 <| all_cons ty_89 <| all_cons ty_97 <| all_cons ty_98 <| all_cons ty_99 <| all_cons ty_100 <| all_cons ty_111 <| all_cons ty_115 <| all_cons ty_116 <| all_cons ty_118 <| all_cons ty_120 <| all_cons ty_121 <| all_cons ty_126 <| all_cons ty_133 <| all_cons ty_134 <| all_cons ty_137 <| all_cons ty_139 <| all_cons ty_146 <| all_cons ty_150 <| all_cons ty_152 <| all_cons ty_154 <| all_cons ty_156 <| all_cons ty_159 <| all_cons ty_167 <| all_cons ty_173 <| all_cons ty_177 <| all_cons ty_184 <| all_cons ty_186 <| all_cons ty_189 <| all_cons ty_193 <| all_cons ty_195 <| all_cons ty_200 <| all_nil
theorem tyT : TTOK Try.prog KT tt := ttOK rfl ty_all (by kernel_rfl) (by
  rw [show (tyL.filter fun p => p.2.eq).map (fun p => (p.1, p.2.zero)) = [(7, [.int .i64 0, .int .i64 0, .tt false, .u8 0]), (8, [.int .i64 0, .int .i64 0, .tt false, .u8 0]), (32, [.a8 32 (fun _ => 0)]), (61, [.int .i64 0, .int .i64 0]), (73, [.int .i64 0, .int .i64 0]), (98, [.tt false, .int .i64 0, .u8 0]), (137, [.int .i64 0, .int .i64 0]), (156, [.int .i64 0, .int .i64 0, .int .i64 0])] by kernel_rfl]
  exact all_cons eq_7 <| all_cons eq_8 <| all_cons eq_32 <| all_cons eq_61 <| all_cons eq_73 <| all_cons eq_98 <| all_cons eq_137 <| all_cons eq_156 <| all_nil)
theorem hmix : Try.prog.follows .mixedOrders = true := by kernel_rfl
end E
end Go.Proofs.Ytnbipipegmoigaa
