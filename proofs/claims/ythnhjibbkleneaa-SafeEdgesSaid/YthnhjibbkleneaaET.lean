/- Tables: the types of the program. Printed by a program. -/
import Derived.Test.YthnhjibbkleneaaEvG
import Derived.Test.YthnhjibbkleneaaProg
import Derived.Test.YthnhjibbkleneaaTy
namespace Go.Proofs.Ythnhjibbkleneaa
open Go.RowKit G
namespace E
def Sx : Nat → Type
  | 0 => G.struct_x_int64_y_int_signed_bool_code_abi_BoundsErrorCode
  | 1 => G.runtime_boundsError
  | 2 => G.struct_msg_string_addr_uintptr
  | 3 => G.Command
  | 4 => G.Fault
  | 5 => G.graftref11_Edge
  | 6 => G.Extent
  | 7 => G.graftref11_Graph
  | 8 => G.sha_state
  | 9 => G.command_target
  | 10 => G.index_entry
  | 11 => G.index_Index
  | _ => Bool
def tb : Tb Sx
  | 0 => { fs := [(.int .i64), (.int .i64), .bo, .u8], to := fun (x : G.struct_x_int64_y_int_signed_bool_code_abi_BoundsErrorCode) => (x.x, x.y, x.signed, x.code, ()), of := fun h => (⟨h.1, h.2.1, h.2.2.1, h.2.2.2.1⟩ : G.struct_x_int64_y_int_signed_bool_code_abi_BoundsErrorCode) }
  | 1 => { fs := [(.int .i64), (.int .i64), .bo, .u8], to := fun (x : G.runtime_boundsError) => (x.x, x.y, x.signed, x.code, ()), of := fun h => (⟨h.1, h.2.1, h.2.2.1, h.2.2.2.1⟩ : G.runtime_boundsError) }
  | 2 => { fs := [.str, (.int .u64)], to := fun (x : G.struct_msg_string_addr_uintptr) => (x.msg, x.addr, ()), of := fun h => (⟨h.1, h.2.1⟩ : G.struct_msg_string_addr_uintptr) }
  | 3 => { fs := [(.int .i64), (.int .i64), (.int .i64), (.int .i64), (.sl .u8)], to := fun (x : G.Command) => (x.kind, x.to, x.from_, x.len, x.data, ()), of := fun h => (⟨h.1, h.2.1, h.2.2.1, h.2.2.2.1, h.2.2.2.2.1⟩ : G.Command) }
  | 4 => { fs := [(.int .i64), (.int .i64)], to := fun (x : G.Fault) => (x.code, x.at_, ()), of := fun h => (⟨h.1, h.2.1⟩ : G.Fault) }
  | 5 => { fs := [(.int .i64), (.int .i64)], to := fun (x : G.graftref11_Edge) => (x.from_, x.to, ()), of := fun h => (⟨h.1, h.2.1⟩ : G.graftref11_Edge) }
  | 6 => { fs := [(.int .i64), (.int .i64)], to := fun (x : G.Extent) => (x.off, x.len, ()), of := fun h => (⟨h.1, h.2.1⟩ : G.Extent) }
  | 7 => { fs := [(.int .i64), (.sl (.st 5))], to := fun (x : G.graftref11_Graph) => (x.n, x.edges, ()), of := fun h => (⟨h.1, h.2.1⟩ : G.graftref11_Graph) }
  | 8 => { fs := [(.ai 8 .u32), (.sl .u8), (.int .i64)], to := fun (x : G.sha_state) => (x.words, x.rest, x.n, ()), of := fun h => (⟨h.1, h.2.1, h.2.2.1⟩ : G.sha_state) }
  | 9 => { fs := [(.int .i64), (.int .i64)], to := fun (x : G.command_target) => (x.extent.off, x.extent.len, ()), of := fun h => (⟨(⟨h.1, h.2.1⟩ : G.Extent)⟩ : G.command_target) }
  | 10 => { fs := [(.int .i64), (.int .i64), (.int .i64)], to := fun (x : G.index_entry) => (x.extent.off, x.extent.len, x.position, ()), of := fun h => (⟨(⟨h.1, h.2.1⟩ : G.Extent), h.2.2.1⟩ : G.index_entry) }
  | 11 => { fs := [(.sl (.st 10))], to := fun (x : G.index_Index) => (x.sorted, ()), of := fun h => (⟨h.1⟩ : G.index_Index) }
  | _ + 12 => { fs := [.bo], to := fun (x : Bool) => (x, ()), of := fun h => h.1 }
def tyL : List (Nat × TI Sx) := [(1, ⟨.func, 1, 8, [.nilF], .bo, false⟩),
  (2, ⟨.int .i64, 1, 8, [.int .i64 0], (.int .i64), false⟩),
  (3, ⟨.int .i64, 1, 8, [.int .i64 0], (.int .i64), false⟩),
  (4, ⟨.bool, 1, 1, [.tt false], .bo, false⟩),
  (5, ⟨.int .u8, 1, 1, [.u8 0], .u8, false⟩),
  (6, ⟨.int .u8, 1, 1, [.u8 0], .u8, false⟩),
  (7, ⟨.struct [(2, 0, 1), (3, 1, 1), (4, 2, 1), (6, 3, 1)], 4, 24, [.int .i64 0, .int .i64 0, .tt false, .u8 0], (.st 0), true⟩),
  (8, ⟨.struct [(2, 0, 1), (3, 1, 1), (4, 2, 1), (6, 3, 1)], 4, 24, [.int .i64 0, .int .i64 0, .tt false, .u8 0], (.st 1), true⟩),
  (9, ⟨.str, 1, 16, [.str []], .str, false⟩),
  (11, ⟨.str, 1, 16, [.str []], .str, false⟩),
  (12, ⟨.int .u64, 1, 8, [.int .u64 0], (.int .u64), false⟩),
  (13, ⟨.struct [(9, 0, 1), (12, 1, 1)], 2, 24, [.str [], .int .u64 0], (.st 2), false⟩),
  (16, ⟨.ptr 212, 1, 8, [.nilP], .bo, false⟩),
  (17, ⟨.ptr 220, 1, 8, [.nilP], .bo, false⟩),
  (22, ⟨.slice 5, 1, 24, [.nilS], (.sl .u8), false⟩),
  (24, ⟨.slice 34, 1, 24, [.nilS], (.sl (.st 3)), false⟩),
  (30, ⟨.func, 1, 8, [.nilF], .bo, false⟩),
  (32, ⟨.func, 1, 8, [.nilF], .bo, false⟩),
  (34, ⟨.struct [(3, 0, 1), (3, 1, 1), (3, 2, 1), (3, 3, 1), (22, 4, 1)], 5, 56, [.int .i64 0, .int .i64 0, .int .i64 0, .int .i64 0, .nilS], (.st 3), false⟩),
  (41, ⟨.slice 3, 1, 24, [.nilS], (.sl (.int .i64)), false⟩),
  (42, ⟨.int .i64, 1, 8, [.int .i64 0], (.int .i64), false⟩),
  (44, ⟨.struct [(42, 0, 1), (3, 1, 1)], 2, 16, [.int .i64 0, .int .i64 0], (.st 4), true⟩),
  (46, ⟨.slice 86, 1, 24, [.nilS], (.sl (.st 5)), false⟩),
  (50, ⟨.func, 1, 8, [.nilF], .bo, false⟩),
  (65, ⟨.func, 1, 8, [.nilF], .bo, false⟩),
  (66, ⟨.func, 1, 8, [.nilF], .bo, false⟩),
  (71, ⟨.struct [(3, 0, 1), (3, 1, 1)], 2, 16, [.int .i64 0, .int .i64 0], (.st 6), true⟩),
  (77, ⟨.slice 71, 1, 24, [.nilS], (.sl (.st 6)), false⟩),
  (80, ⟨.ptr 83, 1, 8, [.nilP], .bo, false⟩),
  (83, ⟨.struct [(3, 0, 1), (46, 1, 1)], 2, 32, [.int .i64 0, .nilS], (.st 7), false⟩),
  (86, ⟨.struct [(3, 0, 1), (3, 1, 1)], 2, 16, [.int .i64 0, .int .i64 0], (.st 5), true⟩),
  (97, ⟨.func, 1, 8, [.nilF], .bo, false⟩),
  (98, ⟨.func, 1, 8, [.nilF], .bo, false⟩),
  (99, ⟨.func, 1, 8, [.nilF], .bo, false⟩),
  (100, ⟨.func, 1, 8, [.nilF], .bo, false⟩),
  (108, ⟨.func, 1, 8, [.nilF], .bo, false⟩),
  (113, ⟨.func, 1, 8, [.nilF], .bo, false⟩),
  (114, ⟨.func, 1, 8, [.nilF], .bo, false⟩),
  (116, ⟨.func, 1, 8, [.nilF], .bo, false⟩),
  (117, ⟨.func, 1, 8, [.nilF], .bo, false⟩),
  (119, ⟨.ptr 159, 1, 8, [.nilP], .bo, false⟩),
  (120, ⟨.func, 1, 8, [.nilF], .bo, false⟩),
  (128, ⟨.func, 1, 8, [.nilF], .bo, false⟩),
  (133, ⟨.int .u32, 1, 4, [.int .u32 0], (.int .u32), false⟩),
  (134, ⟨.array 8 133, 8, 32, [.ai 8 .u32 (fun _ => 0)], (.ai 8 .u32), false⟩),
  (136, ⟨.struct [(134, 0, 8), (22, 8, 1), (3, 9, 1)], 10, 64, [.ai 8 .u32 (fun _ => 0), .nilS, .int .i64 0], (.st 8), false⟩),
  (149, ⟨.int .u64, 1, 8, [.int .u64 0], (.int .u64), false⟩),
  (153, ⟨.struct [(71, 0, 2)], 2, 16, [.int .i64 0, .int .i64 0], (.st 9), true⟩),
  (156, ⟨.func, 1, 8, [.nilF], .bo, false⟩),
  (157, ⟨.slice 161, 1, 24, [.nilS], (.sl (.st 10)), false⟩),
  (159, ⟨.struct [(157, 0, 1)], 1, 24, [.nilS], (.st 11), false⟩),
  (161, ⟨.struct [(71, 0, 2), (3, 2, 1)], 3, 24, [.int .i64 0, .int .i64 0, .int .i64 0], (.st 10), true⟩),
  (163, ⟨.func, 1, 8, [.nilF], .bo, false⟩),
  (168, ⟨.int .u64, 1, 8, [.int .u64 0], (.int .u64), false⟩),
  (188, ⟨.int .i64, 1, 8, [.int .i64 0], (.int .i64), false⟩),
  (199, ⟨.int .u64, 1, 8, [.int .u64 0], (.int .u64), false⟩),
  (200, ⟨.func, 1, 8, [.nilF], .bo, false⟩),
  (203, ⟨.ptr 3, 1, 8, [.nilP], .bo, false⟩),
  (205, ⟨.ptr 199, 1, 8, [.nilP], .bo, false⟩)]
def tt (t : TypeId) : Option (TI Sx) := look t tyL
end E
namespace E
theorem flat_ : ∀ i, (tb i).fs.all noSt = true
  | 0 => rfl
  | 1 => rfl
  | 2 => rfl
  | 3 => rfl
  | 4 => rfl
  | 5 => rfl
  | 6 => rfl
  | 7 => rfl
  | 8 => rfl
  | 9 => rfl
  | 10 => rfl
  | 11 => rfl
  | 12 => rfl
  | _ + 13 => rfl
theorem max_ : ∀ i, (tb i).fs.all (fun c => Nat.ble (maxSt c) i) = true
  | 0 => rfl
  | 1 => rfl
  | 2 => rfl
  | 3 => rfl
  | 4 => rfl
  | 5 => rfl
  | 6 => rfl
  | 7 => rfl
  | 8 => rfl
  | 9 => rfl
  | 10 => rfl
  | 11 => rfl
  | 12 => rfl
  | _ + 13 => by simp [tb, maxSt]
theorem ne_ : ∀ i, (tb i).fs ≠ []
  | 0 => (fun h => by cases h)
  | 1 => (fun h => by cases h)
  | 2 => (fun h => by cases h)
  | 3 => (fun h => by cases h)
  | 4 => (fun h => by cases h)
  | 5 => (fun h => by cases h)
  | 6 => (fun h => by cases h)
  | 7 => (fun h => by cases h)
  | 8 => (fun h => by cases h)
  | 9 => (fun h => by cases h)
  | 10 => (fun h => by cases h)
  | 11 => (fun h => by cases h)
  | 12 => (fun h => by cases h)
  | _ + 13 => (fun h => by cases h)
theorem to_of_ : ∀ i (h : HL Sx (tb i).fs), (tb i).to ((tb i).of h) = h
  | 0, _ => rfl
  | 1, _ => rfl
  | 2, _ => rfl
  | 3, _ => rfl
  | 4, _ => rfl
  | 5, _ => rfl
  | 6, _ => rfl
  | 7, _ => rfl
  | 8, _ => rfl
  | 9, _ => rfl
  | 10, _ => rfl
  | 11, _ => rfl
  | 12, _ => rfl
  | _ + 13, _ => rfl
noncomputable def KT : TbOK tb := tbOK (rgP Try.prog) flat_ (fun i c hc => Nat.le_of_ble_eq_true (List.all_eq_true.1 (max_ i) c hc)) ne_ to_of_
theorem ty_1 : TyOK Try.prog 1 (⟨.func, 1, 8, [.nilF], .bo, false⟩ : TI Sx) := ⟨(show (Try.prog.underlying 1).map isFuncD = some true by kernel_rfl), by kernel_rfl, by kernel_rfl, by kernel_rfl, fun _ => rfl⟩
theorem ty_2 : TyOK Try.prog 2 (⟨.int .i64, 1, 8, [.int .i64 0], (.int .i64), false⟩ : TI Sx) := ⟨(show Try.prog.underlying 2 = some (.int .i64) by kernel_rfl), by kernel_rfl, by kernel_rfl, by kernel_rfl, fun _ => rfl⟩
theorem ty_3 : TyOK Try.prog 3 (⟨.int .i64, 1, 8, [.int .i64 0], (.int .i64), false⟩ : TI Sx) := ⟨(show Try.prog.underlying 3 = some (.int .i64) by kernel_rfl), by kernel_rfl, by kernel_rfl, by kernel_rfl, fun _ => rfl⟩
theorem ty_4 : TyOK Try.prog 4 (⟨.bool, 1, 1, [.tt false], .bo, false⟩ : TI Sx) := ⟨(show Try.prog.underlying 4 = some (.bool) by kernel_rfl), by kernel_rfl, by kernel_rfl, by kernel_rfl, fun _ => rfl⟩
theorem ty_5 : TyOK Try.prog 5 (⟨.int .u8, 1, 1, [.u8 0], .u8, false⟩ : TI Sx) := ⟨(show Try.prog.underlying 5 = some (.int .u8) by kernel_rfl), by kernel_rfl, by kernel_rfl, by kernel_rfl, fun _ => rfl⟩
theorem ty_6 : TyOK Try.prog 6 (⟨.int .u8, 1, 1, [.u8 0], .u8, false⟩ : TI Sx) := ⟨(show Try.prog.underlying 6 = some (.int .u8) by kernel_rfl), by kernel_rfl, by kernel_rfl, by kernel_rfl, fun _ => rfl⟩
theorem ty_7 : TyOK Try.prog 7 (⟨.struct [(2, 0, 1), (3, 1, 1), (4, 2, 1), (6, 3, 1)], 4, 24, [.int .i64 0, .int .i64 0, .tt false, .u8 0], (.st 0), true⟩ : TI Sx) := ⟨(show undS Try.prog 7 = some [(2, 0, 1), (3, 1, 1), (4, 2, 1), (6, 3, 1)] by kernel_rfl), by kernel_rfl, by kernel_rfl, by kernel_rfl, fun h => by cases h⟩
theorem ty_8 : TyOK Try.prog 8 (⟨.struct [(2, 0, 1), (3, 1, 1), (4, 2, 1), (6, 3, 1)], 4, 24, [.int .i64 0, .int .i64 0, .tt false, .u8 0], (.st 1), true⟩ : TI Sx) := ⟨(show undS Try.prog 8 = some [(2, 0, 1), (3, 1, 1), (4, 2, 1), (6, 3, 1)] by kernel_rfl), by kernel_rfl, by kernel_rfl, by kernel_rfl, fun h => by cases h⟩
theorem ty_9 : TyOK Try.prog 9 (⟨.str, 1, 16, [.str []], .str, false⟩ : TI Sx) := ⟨(show Try.prog.underlying 9 = some (.string) by kernel_rfl), by kernel_rfl, by kernel_rfl, by kernel_rfl, fun _ => rfl⟩
theorem ty_11 : TyOK Try.prog 11 (⟨.str, 1, 16, [.str []], .str, false⟩ : TI Sx) := ⟨(show Try.prog.underlying 11 = some (.string) by kernel_rfl), by kernel_rfl, by kernel_rfl, by kernel_rfl, fun _ => rfl⟩
theorem ty_12 : TyOK Try.prog 12 (⟨.int .u64, 1, 8, [.int .u64 0], (.int .u64), false⟩ : TI Sx) := ⟨(show Try.prog.underlying 12 = some (.int .u64) by kernel_rfl), by kernel_rfl, by kernel_rfl, by kernel_rfl, fun _ => rfl⟩
theorem ty_13 : TyOK Try.prog 13 (⟨.struct [(9, 0, 1), (12, 1, 1)], 2, 24, [.str [], .int .u64 0], (.st 2), false⟩ : TI Sx) := ⟨(show undS Try.prog 13 = some [(9, 0, 1), (12, 1, 1)] by kernel_rfl), by kernel_rfl, by kernel_rfl, by kernel_rfl, fun h => by cases h⟩
theorem ty_16 : TyOK Try.prog 16 (⟨.ptr 212, 1, 8, [.nilP], .bo, false⟩ : TI Sx) := ⟨(show Try.prog.underlying 16 = some (.pointer 212) by kernel_rfl), by kernel_rfl, by kernel_rfl, by kernel_rfl, fun _ => rfl⟩
theorem ty_17 : TyOK Try.prog 17 (⟨.ptr 220, 1, 8, [.nilP], .bo, false⟩ : TI Sx) := ⟨(show Try.prog.underlying 17 = some (.pointer 220) by kernel_rfl), by kernel_rfl, by kernel_rfl, by kernel_rfl, fun _ => rfl⟩
theorem ty_22 : TyOK Try.prog 22 (⟨.slice 5, 1, 24, [.nilS], (.sl .u8), false⟩ : TI Sx) := ⟨(show Try.prog.underlying 22 = some (.slice 5) by kernel_rfl), by kernel_rfl, by kernel_rfl, by kernel_rfl, fun _ => rfl⟩
theorem ty_24 : TyOK Try.prog 24 (⟨.slice 34, 1, 24, [.nilS], (.sl (.st 3)), false⟩ : TI Sx) := ⟨(show Try.prog.underlying 24 = some (.slice 34) by kernel_rfl), by kernel_rfl, by kernel_rfl, by kernel_rfl, fun _ => rfl⟩
theorem ty_30 : TyOK Try.prog 30 (⟨.func, 1, 8, [.nilF], .bo, false⟩ : TI Sx) := ⟨(show (Try.prog.underlying 30).map isFuncD = some true by kernel_rfl), by kernel_rfl, by kernel_rfl, by kernel_rfl, fun _ => rfl⟩
theorem ty_32 : TyOK Try.prog 32 (⟨.func, 1, 8, [.nilF], .bo, false⟩ : TI Sx) := ⟨(show (Try.prog.underlying 32).map isFuncD = some true by kernel_rfl), by kernel_rfl, by kernel_rfl, by kernel_rfl, fun _ => rfl⟩
theorem ty_34 : TyOK Try.prog 34 (⟨.struct [(3, 0, 1), (3, 1, 1), (3, 2, 1), (3, 3, 1), (22, 4, 1)], 5, 56, [.int .i64 0, .int .i64 0, .int .i64 0, .int .i64 0, .nilS], (.st 3), false⟩ : TI Sx) := ⟨(show undS Try.prog 34 = some [(3, 0, 1), (3, 1, 1), (3, 2, 1), (3, 3, 1), (22, 4, 1)] by kernel_rfl), by kernel_rfl, by kernel_rfl, by kernel_rfl, fun h => by cases h⟩
theorem ty_41 : TyOK Try.prog 41 (⟨.slice 3, 1, 24, [.nilS], (.sl (.int .i64)), false⟩ : TI Sx) := ⟨(show Try.prog.underlying 41 = some (.slice 3) by kernel_rfl), by kernel_rfl, by kernel_rfl, by kernel_rfl, fun _ => rfl⟩
theorem ty_42 : TyOK Try.prog 42 (⟨.int .i64, 1, 8, [.int .i64 0], (.int .i64), false⟩ : TI Sx) := ⟨(show Try.prog.underlying 42 = some (.int .i64) by kernel_rfl), by kernel_rfl, by kernel_rfl, by kernel_rfl, fun _ => rfl⟩
theorem ty_44 : TyOK Try.prog 44 (⟨.struct [(42, 0, 1), (3, 1, 1)], 2, 16, [.int .i64 0, .int .i64 0], (.st 4), true⟩ : TI Sx) := ⟨(show undS Try.prog 44 = some [(42, 0, 1), (3, 1, 1)] by kernel_rfl), by kernel_rfl, by kernel_rfl, by kernel_rfl, fun h => by cases h⟩
theorem ty_46 : TyOK Try.prog 46 (⟨.slice 86, 1, 24, [.nilS], (.sl (.st 5)), false⟩ : TI Sx) := ⟨(show Try.prog.underlying 46 = some (.slice 86) by kernel_rfl), by kernel_rfl, by kernel_rfl, by kernel_rfl, fun _ => rfl⟩
theorem ty_50 : TyOK Try.prog 50 (⟨.func, 1, 8, [.nilF], .bo, false⟩ : TI Sx) := ⟨(show (Try.prog.underlying 50).map isFuncD = some true by kernel_rfl), by kernel_rfl, by kernel_rfl, by kernel_rfl, fun _ => rfl⟩
theorem ty_65 : TyOK Try.prog 65 (⟨.func, 1, 8, [.nilF], .bo, false⟩ : TI Sx) := ⟨(show (Try.prog.underlying 65).map isFuncD = some true by kernel_rfl), by kernel_rfl, by kernel_rfl, by kernel_rfl, fun _ => rfl⟩
theorem ty_66 : TyOK Try.prog 66 (⟨.func, 1, 8, [.nilF], .bo, false⟩ : TI Sx) := ⟨(show (Try.prog.underlying 66).map isFuncD = some true by kernel_rfl), by kernel_rfl, by kernel_rfl, by kernel_rfl, fun _ => rfl⟩
theorem ty_71 : TyOK Try.prog 71 (⟨.struct [(3, 0, 1), (3, 1, 1)], 2, 16, [.int .i64 0, .int .i64 0], (.st 6), true⟩ : TI Sx) := ⟨(show undS Try.prog 71 = some [(3, 0, 1), (3, 1, 1)] by kernel_rfl), by kernel_rfl, by kernel_rfl, by kernel_rfl, fun h => by cases h⟩
theorem ty_77 : TyOK Try.prog 77 (⟨.slice 71, 1, 24, [.nilS], (.sl (.st 6)), false⟩ : TI Sx) := ⟨(show Try.prog.underlying 77 = some (.slice 71) by kernel_rfl), by kernel_rfl, by kernel_rfl, by kernel_rfl, fun _ => rfl⟩
theorem ty_80 : TyOK Try.prog 80 (⟨.ptr 83, 1, 8, [.nilP], .bo, false⟩ : TI Sx) := ⟨(show Try.prog.underlying 80 = some (.pointer 83) by kernel_rfl), by kernel_rfl, by kernel_rfl, by kernel_rfl, fun _ => rfl⟩
theorem ty_83 : TyOK Try.prog 83 (⟨.struct [(3, 0, 1), (46, 1, 1)], 2, 32, [.int .i64 0, .nilS], (.st 7), false⟩ : TI Sx) := ⟨(show undS Try.prog 83 = some [(3, 0, 1), (46, 1, 1)] by kernel_rfl), by kernel_rfl, by kernel_rfl, by kernel_rfl, fun h => by cases h⟩
theorem ty_86 : TyOK Try.prog 86 (⟨.struct [(3, 0, 1), (3, 1, 1)], 2, 16, [.int .i64 0, .int .i64 0], (.st 5), true⟩ : TI Sx) := ⟨(show undS Try.prog 86 = some [(3, 0, 1), (3, 1, 1)] by kernel_rfl), by kernel_rfl, by kernel_rfl, by kernel_rfl, fun h => by cases h⟩
theorem ty_97 : TyOK Try.prog 97 (⟨.func, 1, 8, [.nilF], .bo, false⟩ : TI Sx) := ⟨(show (Try.prog.underlying 97).map isFuncD = some true by kernel_rfl), by kernel_rfl, by kernel_rfl, by kernel_rfl, fun _ => rfl⟩
theorem ty_98 : TyOK Try.prog 98 (⟨.func, 1, 8, [.nilF], .bo, false⟩ : TI Sx) := ⟨(show (Try.prog.underlying 98).map isFuncD = some true by kernel_rfl), by kernel_rfl, by kernel_rfl, by kernel_rfl, fun _ => rfl⟩
theorem ty_99 : TyOK Try.prog 99 (⟨.func, 1, 8, [.nilF], .bo, false⟩ : TI Sx) := ⟨(show (Try.prog.underlying 99).map isFuncD = some true by kernel_rfl), by kernel_rfl, by kernel_rfl, by kernel_rfl, fun _ => rfl⟩
theorem ty_100 : TyOK Try.prog 100 (⟨.func, 1, 8, [.nilF], .bo, false⟩ : TI Sx) := ⟨(show (Try.prog.underlying 100).map isFuncD = some true by kernel_rfl), by kernel_rfl, by kernel_rfl, by kernel_rfl, fun _ => rfl⟩
theorem ty_108 : TyOK Try.prog 108 (⟨.func, 1, 8, [.nilF], .bo, false⟩ : TI Sx) := ⟨(show (Try.prog.underlying 108).map isFuncD = some true by kernel_rfl), by kernel_rfl, by kernel_rfl, by kernel_rfl, fun _ => rfl⟩
theorem ty_113 : TyOK Try.prog 113 (⟨.func, 1, 8, [.nilF], .bo, false⟩ : TI Sx) := ⟨(show (Try.prog.underlying 113).map isFuncD = some true by kernel_rfl), by kernel_rfl, by kernel_rfl, by kernel_rfl, fun _ => rfl⟩
theorem ty_114 : TyOK Try.prog 114 (⟨.func, 1, 8, [.nilF], .bo, false⟩ : TI Sx) := ⟨(show (Try.prog.underlying 114).map isFuncD = some true by kernel_rfl), by kernel_rfl, by kernel_rfl, by kernel_rfl, fun _ => rfl⟩
theorem ty_116 : TyOK Try.prog 116 (⟨.func, 1, 8, [.nilF], .bo, false⟩ : TI Sx) := ⟨(show (Try.prog.underlying 116).map isFuncD = some true by kernel_rfl), by kernel_rfl, by kernel_rfl, by kernel_rfl, fun _ => rfl⟩
theorem ty_117 : TyOK Try.prog 117 (⟨.func, 1, 8, [.nilF], .bo, false⟩ : TI Sx) := ⟨(show (Try.prog.underlying 117).map isFuncD = some true by kernel_rfl), by kernel_rfl, by kernel_rfl, by kernel_rfl, fun _ => rfl⟩
theorem ty_119 : TyOK Try.prog 119 (⟨.ptr 159, 1, 8, [.nilP], .bo, false⟩ : TI Sx) := ⟨(show Try.prog.underlying 119 = some (.pointer 159) by kernel_rfl), by kernel_rfl, by kernel_rfl, by kernel_rfl, fun _ => rfl⟩
theorem ty_120 : TyOK Try.prog 120 (⟨.func, 1, 8, [.nilF], .bo, false⟩ : TI Sx) := ⟨(show (Try.prog.underlying 120).map isFuncD = some true by kernel_rfl), by kernel_rfl, by kernel_rfl, by kernel_rfl, fun _ => rfl⟩
theorem ty_128 : TyOK Try.prog 128 (⟨.func, 1, 8, [.nilF], .bo, false⟩ : TI Sx) := ⟨(show (Try.prog.underlying 128).map isFuncD = some true by kernel_rfl), by kernel_rfl, by kernel_rfl, by kernel_rfl, fun _ => rfl⟩
theorem ty_133 : TyOK Try.prog 133 (⟨.int .u32, 1, 4, [.int .u32 0], (.int .u32), false⟩ : TI Sx) := ⟨(show Try.prog.underlying 133 = some (.int .u32) by kernel_rfl), by kernel_rfl, by kernel_rfl, by kernel_rfl, fun _ => rfl⟩
theorem ty_134 : TyOK Try.prog 134 (⟨.array 8 133, 8, 32, [.ai 8 .u32 (fun _ => 0)], (.ai 8 .u32), false⟩ : TI Sx) := ⟨(show Try.prog.underlying 134 = some (.array 8 133) by kernel_rfl), by kernel_rfl, by kernel_rfl, by kernel_rfl, fun h => by cases h⟩
theorem ty_136 : TyOK Try.prog 136 (⟨.struct [(134, 0, 8), (22, 8, 1), (3, 9, 1)], 10, 64, [.ai 8 .u32 (fun _ => 0), .nilS, .int .i64 0], (.st 8), false⟩ : TI Sx) := ⟨(show undS Try.prog 136 = some [(134, 0, 8), (22, 8, 1), (3, 9, 1)] by kernel_rfl), by kernel_rfl, by kernel_rfl, by kernel_rfl, fun h => by cases h⟩
theorem ty_149 : TyOK Try.prog 149 (⟨.int .u64, 1, 8, [.int .u64 0], (.int .u64), false⟩ : TI Sx) := ⟨(show Try.prog.underlying 149 = some (.int .u64) by kernel_rfl), by kernel_rfl, by kernel_rfl, by kernel_rfl, fun _ => rfl⟩
theorem ty_153 : TyOK Try.prog 153 (⟨.struct [(71, 0, 2)], 2, 16, [.int .i64 0, .int .i64 0], (.st 9), true⟩ : TI Sx) := ⟨(show undS Try.prog 153 = some [(71, 0, 2)] by kernel_rfl), by kernel_rfl, by kernel_rfl, by kernel_rfl, fun h => by cases h⟩
theorem ty_156 : TyOK Try.prog 156 (⟨.func, 1, 8, [.nilF], .bo, false⟩ : TI Sx) := ⟨(show (Try.prog.underlying 156).map isFuncD = some true by kernel_rfl), by kernel_rfl, by kernel_rfl, by kernel_rfl, fun _ => rfl⟩
theorem ty_157 : TyOK Try.prog 157 (⟨.slice 161, 1, 24, [.nilS], (.sl (.st 10)), false⟩ : TI Sx) := ⟨(show Try.prog.underlying 157 = some (.slice 161) by kernel_rfl), by kernel_rfl, by kernel_rfl, by kernel_rfl, fun _ => rfl⟩
theorem ty_159 : TyOK Try.prog 159 (⟨.struct [(157, 0, 1)], 1, 24, [.nilS], (.st 11), false⟩ : TI Sx) := ⟨(show undS Try.prog 159 = some [(157, 0, 1)] by kernel_rfl), by kernel_rfl, by kernel_rfl, by kernel_rfl, fun h => by cases h⟩
theorem ty_161 : TyOK Try.prog 161 (⟨.struct [(71, 0, 2), (3, 2, 1)], 3, 24, [.int .i64 0, .int .i64 0, .int .i64 0], (.st 10), true⟩ : TI Sx) := ⟨(show undS Try.prog 161 = some [(71, 0, 2), (3, 2, 1)] by kernel_rfl), by kernel_rfl, by kernel_rfl, by kernel_rfl, fun h => by cases h⟩
theorem ty_163 : TyOK Try.prog 163 (⟨.func, 1, 8, [.nilF], .bo, false⟩ : TI Sx) := ⟨(show (Try.prog.underlying 163).map isFuncD = some true by kernel_rfl), by kernel_rfl, by kernel_rfl, by kernel_rfl, fun _ => rfl⟩
theorem ty_168 : TyOK Try.prog 168 (⟨.int .u64, 1, 8, [.int .u64 0], (.int .u64), false⟩ : TI Sx) := ⟨(show Try.prog.underlying 168 = some (.int .u64) by kernel_rfl), by kernel_rfl, by kernel_rfl, by kernel_rfl, fun _ => rfl⟩
theorem ty_188 : TyOK Try.prog 188 (⟨.int .i64, 1, 8, [.int .i64 0], (.int .i64), false⟩ : TI Sx) := ⟨(show Try.prog.underlying 188 = some (.int .i64) by kernel_rfl), by kernel_rfl, by kernel_rfl, by kernel_rfl, fun _ => rfl⟩
theorem ty_199 : TyOK Try.prog 199 (⟨.int .u64, 1, 8, [.int .u64 0], (.int .u64), false⟩ : TI Sx) := ⟨(show Try.prog.underlying 199 = some (.int .u64) by kernel_rfl), by kernel_rfl, by kernel_rfl, by kernel_rfl, fun _ => rfl⟩
theorem ty_200 : TyOK Try.prog 200 (⟨.func, 1, 8, [.nilF], .bo, false⟩ : TI Sx) := ⟨(show (Try.prog.underlying 200).map isFuncD = some true by kernel_rfl), by kernel_rfl, by kernel_rfl, by kernel_rfl, fun _ => rfl⟩
theorem ty_203 : TyOK Try.prog 203 (⟨.ptr 3, 1, 8, [.nilP], .bo, false⟩ : TI Sx) := ⟨(show Try.prog.underlying 203 = some (.pointer 3) by kernel_rfl), by kernel_rfl, by kernel_rfl, by kernel_rfl, fun _ => rfl⟩
theorem ty_205 : TyOK Try.prog 205 (⟨.ptr 199, 1, 8, [.nilP], .bo, false⟩ : TI Sx) := ⟨(show Try.prog.underlying 205 = some (.pointer 199) by kernel_rfl), by kernel_rfl, by kernel_rfl, by kernel_rfl, fun _ => rfl⟩
set_option maxRecDepth 100000 in
theorem eqS_7 (x0 : Int) (x1 : Int) (x2 : Bool) (x3 : UInt8) (y0 : Int) (y1 : Int) (y2 : Bool) (y3 : UInt8) (w : World) : (binOp .eql 7 (.agg #[.int .i64 x0, .int .i64 x1, .bool x2, .int .u8 (x3.toNat : Int)]) (.agg #[.int .i64 y0, .int .i64 y1, .bool y2, .int .u8 (y3.toNat : Int)])).run Try.prog w = .ok (.bool (decide (x0 = y0 ∧ x1 = y1 ∧ x2 = y2 ∧ (x3.toNat : Int) = (y3.toNat : Int)))) w := by
  simp [go_sem]; repeat' split
  all_goals simp_all
theorem eq_7 : EqT KT Try.prog 7 ([.int .i64 0, .int .i64 0, .tt false, .u8 0] : List (CV Sx)) := ⟨by kernel_rfl, fun g m vs ws p xs ys w hv hw hp h1 h2 => by
  obtain ⟨x0, _, rfl, hv1⟩ := kind_int hv
  obtain ⟨x1, _, rfl, hv2⟩ := kind_int hv1
  rcases kind_bo hv2 with ⟨x2, _, _, _, _, rfl, hv3⟩ | ⟨x2, _, rfl, hv3⟩
  all_goals
    obtain ⟨x3, _, rfl, hv4⟩ := kind_u8 hv3
    obtain rfl := kind_nil hv4
    obtain ⟨y0, _, rfl, hw1⟩ := kind_int hw
    obtain ⟨y1, _, rfl, hw2⟩ := kind_int hw1
    rcases kind_bo hw2 with ⟨y2, _, _, _, _, rfl, hw3⟩ | ⟨y2, _, rfl, hw3⟩
    all_goals
      obtain ⟨y3, _, rfl, hw4⟩ := kind_u8 hw3
      obtain rfl := kind_nil hw4
      obtain ⟨_, rfl, h1_1⟩ := cvs_int h1
      obtain ⟨_, rfl, h1_2⟩ := cvs_int h1_1
      first | obtain ⟨_, rfl, h1_3⟩ := cvs_tt h1_2 | obtain ⟨_, rfl, h1_3⟩ := cvs_bo h1_2
      obtain ⟨_, rfl, h1_4⟩ := cvs_u8 h1_3
      simp only [cvsR] at h1_4; subst h1_4
      obtain ⟨_, rfl, h2_1⟩ := cvs_int h2
      obtain ⟨_, rfl, h2_2⟩ := cvs_int h2_1
      first | obtain ⟨_, rfl, h2_3⟩ := cvs_tt h2_2 | obtain ⟨_, rfl, h2_3⟩ := cvs_bo h2_2
      obtain ⟨_, rfl, h2_4⟩ := cvs_u8 h2_3
      simp only [cvsR] at h2_4; subst h2_4
      simp only [eqCs, bit, Option.bind_some, Option.map_some, Option.some.injEq] at hp
      subst hp
      exact eqS_7 x0 x1 x2 x3 y0 y1 y2 y3 w⟩
set_option maxRecDepth 100000 in
theorem eqS_8 (x0 : Int) (x1 : Int) (x2 : Bool) (x3 : UInt8) (y0 : Int) (y1 : Int) (y2 : Bool) (y3 : UInt8) (w : World) : (binOp .eql 8 (.agg #[.int .i64 x0, .int .i64 x1, .bool x2, .int .u8 (x3.toNat : Int)]) (.agg #[.int .i64 y0, .int .i64 y1, .bool y2, .int .u8 (y3.toNat : Int)])).run Try.prog w = .ok (.bool (decide (x0 = y0 ∧ x1 = y1 ∧ x2 = y2 ∧ (x3.toNat : Int) = (y3.toNat : Int)))) w := by
  simp [go_sem]; repeat' split
  all_goals simp_all
theorem eq_8 : EqT KT Try.prog 8 ([.int .i64 0, .int .i64 0, .tt false, .u8 0] : List (CV Sx)) := ⟨by kernel_rfl, fun g m vs ws p xs ys w hv hw hp h1 h2 => by
  obtain ⟨x0, _, rfl, hv1⟩ := kind_int hv
  obtain ⟨x1, _, rfl, hv2⟩ := kind_int hv1
  rcases kind_bo hv2 with ⟨x2, _, _, _, _, rfl, hv3⟩ | ⟨x2, _, rfl, hv3⟩
  all_goals
    obtain ⟨x3, _, rfl, hv4⟩ := kind_u8 hv3
    obtain rfl := kind_nil hv4
    obtain ⟨y0, _, rfl, hw1⟩ := kind_int hw
    obtain ⟨y1, _, rfl, hw2⟩ := kind_int hw1
    rcases kind_bo hw2 with ⟨y2, _, _, _, _, rfl, hw3⟩ | ⟨y2, _, rfl, hw3⟩
    all_goals
      obtain ⟨y3, _, rfl, hw4⟩ := kind_u8 hw3
      obtain rfl := kind_nil hw4
      obtain ⟨_, rfl, h1_1⟩ := cvs_int h1
      obtain ⟨_, rfl, h1_2⟩ := cvs_int h1_1
      first | obtain ⟨_, rfl, h1_3⟩ := cvs_tt h1_2 | obtain ⟨_, rfl, h1_3⟩ := cvs_bo h1_2
      obtain ⟨_, rfl, h1_4⟩ := cvs_u8 h1_3
      simp only [cvsR] at h1_4; subst h1_4
      obtain ⟨_, rfl, h2_1⟩ := cvs_int h2
      obtain ⟨_, rfl, h2_2⟩ := cvs_int h2_1
      first | obtain ⟨_, rfl, h2_3⟩ := cvs_tt h2_2 | obtain ⟨_, rfl, h2_3⟩ := cvs_bo h2_2
      obtain ⟨_, rfl, h2_4⟩ := cvs_u8 h2_3
      simp only [cvsR] at h2_4; subst h2_4
      simp only [eqCs, bit, Option.bind_some, Option.map_some, Option.some.injEq] at hp
      subst hp
      exact eqS_8 x0 x1 x2 x3 y0 y1 y2 y3 w⟩
set_option maxRecDepth 100000 in
theorem eqS_44 (x0 : Int) (x1 : Int) (y0 : Int) (y1 : Int) (w : World) : (binOp .eql 44 (.agg #[.int .i64 x0, .int .i64 x1]) (.agg #[.int .i64 y0, .int .i64 y1])).run Try.prog w = .ok (.bool (decide (x0 = y0 ∧ x1 = y1))) w := by
  simp [go_sem]; repeat' split
  all_goals simp_all
theorem eq_44 : EqT KT Try.prog 44 ([.int .i64 0, .int .i64 0] : List (CV Sx)) := ⟨by kernel_rfl, fun g m vs ws p xs ys w hv hw hp h1 h2 => by
  obtain ⟨x0, _, rfl, hv1⟩ := kind_int hv
  obtain ⟨x1, _, rfl, hv2⟩ := kind_int hv1
  obtain rfl := kind_nil hv2
  obtain ⟨y0, _, rfl, hw1⟩ := kind_int hw
  obtain ⟨y1, _, rfl, hw2⟩ := kind_int hw1
  obtain rfl := kind_nil hw2
  obtain ⟨_, rfl, h1_1⟩ := cvs_int h1
  obtain ⟨_, rfl, h1_2⟩ := cvs_int h1_1
  simp only [cvsR] at h1_2; subst h1_2
  obtain ⟨_, rfl, h2_1⟩ := cvs_int h2
  obtain ⟨_, rfl, h2_2⟩ := cvs_int h2_1
  simp only [cvsR] at h2_2; subst h2_2
  simp only [eqCs, bit, Option.bind_some, Option.map_some, Option.some.injEq] at hp
  subst hp
  exact eqS_44 x0 x1 y0 y1 w⟩
set_option maxRecDepth 100000 in
theorem eqS_71 (x0 : Int) (x1 : Int) (y0 : Int) (y1 : Int) (w : World) : (binOp .eql 71 (.agg #[.int .i64 x0, .int .i64 x1]) (.agg #[.int .i64 y0, .int .i64 y1])).run Try.prog w = .ok (.bool (decide (x0 = y0 ∧ x1 = y1))) w := by
  simp [go_sem]; repeat' split
  all_goals simp_all
theorem eq_71 : EqT KT Try.prog 71 ([.int .i64 0, .int .i64 0] : List (CV Sx)) := ⟨by kernel_rfl, fun g m vs ws p xs ys w hv hw hp h1 h2 => by
  obtain ⟨x0, _, rfl, hv1⟩ := kind_int hv
  obtain ⟨x1, _, rfl, hv2⟩ := kind_int hv1
  obtain rfl := kind_nil hv2
  obtain ⟨y0, _, rfl, hw1⟩ := kind_int hw
  obtain ⟨y1, _, rfl, hw2⟩ := kind_int hw1
  obtain rfl := kind_nil hw2
  obtain ⟨_, rfl, h1_1⟩ := cvs_int h1
  obtain ⟨_, rfl, h1_2⟩ := cvs_int h1_1
  simp only [cvsR] at h1_2; subst h1_2
  obtain ⟨_, rfl, h2_1⟩ := cvs_int h2
  obtain ⟨_, rfl, h2_2⟩ := cvs_int h2_1
  simp only [cvsR] at h2_2; subst h2_2
  simp only [eqCs, bit, Option.bind_some, Option.map_some, Option.some.injEq] at hp
  subst hp
  exact eqS_71 x0 x1 y0 y1 w⟩
set_option maxRecDepth 100000 in
theorem eqS_86 (x0 : Int) (x1 : Int) (y0 : Int) (y1 : Int) (w : World) : (binOp .eql 86 (.agg #[.int .i64 x0, .int .i64 x1]) (.agg #[.int .i64 y0, .int .i64 y1])).run Try.prog w = .ok (.bool (decide (x0 = y0 ∧ x1 = y1))) w := by
  simp [go_sem]; repeat' split
  all_goals simp_all
theorem eq_86 : EqT KT Try.prog 86 ([.int .i64 0, .int .i64 0] : List (CV Sx)) := ⟨by kernel_rfl, fun g m vs ws p xs ys w hv hw hp h1 h2 => by
  obtain ⟨x0, _, rfl, hv1⟩ := kind_int hv
  obtain ⟨x1, _, rfl, hv2⟩ := kind_int hv1
  obtain rfl := kind_nil hv2
  obtain ⟨y0, _, rfl, hw1⟩ := kind_int hw
  obtain ⟨y1, _, rfl, hw2⟩ := kind_int hw1
  obtain rfl := kind_nil hw2
  obtain ⟨_, rfl, h1_1⟩ := cvs_int h1
  obtain ⟨_, rfl, h1_2⟩ := cvs_int h1_1
  simp only [cvsR] at h1_2; subst h1_2
  obtain ⟨_, rfl, h2_1⟩ := cvs_int h2
  obtain ⟨_, rfl, h2_2⟩ := cvs_int h2_1
  simp only [cvsR] at h2_2; subst h2_2
  simp only [eqCs, bit, Option.bind_some, Option.map_some, Option.some.injEq] at hp
  subst hp
  exact eqS_86 x0 x1 y0 y1 w⟩
set_option maxRecDepth 100000 in
theorem eqS_153 (x0 : Int) (x1 : Int) (y0 : Int) (y1 : Int) (w : World) : (binOp .eql 153 (.agg #[.int .i64 x0, .int .i64 x1]) (.agg #[.int .i64 y0, .int .i64 y1])).run Try.prog w = .ok (.bool (decide (x0 = y0 ∧ x1 = y1))) w := by
  simp [go_sem]; repeat' split
  all_goals simp_all
theorem eq_153 : EqT KT Try.prog 153 ([.int .i64 0, .int .i64 0] : List (CV Sx)) := ⟨by kernel_rfl, fun g m vs ws p xs ys w hv hw hp h1 h2 => by
  obtain ⟨x0, _, rfl, hv1⟩ := kind_int hv
  obtain ⟨x1, _, rfl, hv2⟩ := kind_int hv1
  obtain rfl := kind_nil hv2
  obtain ⟨y0, _, rfl, hw1⟩ := kind_int hw
  obtain ⟨y1, _, rfl, hw2⟩ := kind_int hw1
  obtain rfl := kind_nil hw2
  obtain ⟨_, rfl, h1_1⟩ := cvs_int h1
  obtain ⟨_, rfl, h1_2⟩ := cvs_int h1_1
  simp only [cvsR] at h1_2; subst h1_2
  obtain ⟨_, rfl, h2_1⟩ := cvs_int h2
  obtain ⟨_, rfl, h2_2⟩ := cvs_int h2_1
  simp only [cvsR] at h2_2; subst h2_2
  simp only [eqCs, bit, Option.bind_some, Option.map_some, Option.some.injEq] at hp
  subst hp
  exact eqS_153 x0 x1 y0 y1 w⟩
set_option maxRecDepth 100000 in
theorem eqS_161 (x0 : Int) (x1 : Int) (x2 : Int) (y0 : Int) (y1 : Int) (y2 : Int) (w : World) : (binOp .eql 161 (.agg #[.int .i64 x0, .int .i64 x1, .int .i64 x2]) (.agg #[.int .i64 y0, .int .i64 y1, .int .i64 y2])).run Try.prog w = .ok (.bool (decide (x0 = y0 ∧ x1 = y1 ∧ x2 = y2))) w := by
  simp [go_sem]; repeat' split
  all_goals simp_all
theorem eq_161 : EqT KT Try.prog 161 ([.int .i64 0, .int .i64 0, .int .i64 0] : List (CV Sx)) := ⟨by kernel_rfl, fun g m vs ws p xs ys w hv hw hp h1 h2 => by
  obtain ⟨x0, _, rfl, hv1⟩ := kind_int hv
  obtain ⟨x1, _, rfl, hv2⟩ := kind_int hv1
  obtain ⟨x2, _, rfl, hv3⟩ := kind_int hv2
  obtain rfl := kind_nil hv3
  obtain ⟨y0, _, rfl, hw1⟩ := kind_int hw
  obtain ⟨y1, _, rfl, hw2⟩ := kind_int hw1
  obtain ⟨y2, _, rfl, hw3⟩ := kind_int hw2
  obtain rfl := kind_nil hw3
  obtain ⟨_, rfl, h1_1⟩ := cvs_int h1
  obtain ⟨_, rfl, h1_2⟩ := cvs_int h1_1
  obtain ⟨_, rfl, h1_3⟩ := cvs_int h1_2
  simp only [cvsR] at h1_3; subst h1_3
  obtain ⟨_, rfl, h2_1⟩ := cvs_int h2
  obtain ⟨_, rfl, h2_2⟩ := cvs_int h2_1
  obtain ⟨_, rfl, h2_3⟩ := cvs_int h2_2
  simp only [cvsR] at h2_3; subst h2_3
  simp only [eqCs, bit, Option.bind_some, Option.map_some, Option.some.injEq] at hp
  subst hp
  exact eqS_161 x0 x1 x2 y0 y1 y2 w⟩
set_option maxRecDepth 100000 in
theorem ty_all : ∀ p ∈ tyL, TyOK Try.prog p.1 p.2 := all_cons ty_1 <| all_cons ty_2 <| all_cons ty_3 <| all_cons ty_4 <| all_cons ty_5 <| all_cons ty_6 <| all_cons ty_7 <| all_cons ty_8 <| all_cons ty_9 <| all_cons ty_11 <| all_cons ty_12 <| all_cons ty_13 <| all_cons ty_16 <| all_cons ty_17 <| all_cons ty_22 <| all_cons ty_24 <| all_cons ty_30 <| all_cons ty_32 <| all_cons ty_34 <| all_cons ty_41 <| all_cons ty_42 <| all_cons ty_44 <| all_cons ty_46 <| all_cons ty_50 <| all_cons ty_65 <| all_cons ty_66 <| all_cons ty_71 <| all_cons ty_77 <| all_cons ty_80 <| all_cons ty_83 <| all_cons ty_86 <| all_cons ty_97 <| all_cons ty_98 <| all_cons ty_99 <| all_cons ty_100 <| all_cons ty_108 <| all_cons ty_113 <| all_cons ty_114 <| all_cons ty_116 <| all_cons ty_117 <| all_cons ty_119 <| all_cons ty_120 <| all_cons ty_128 <| all_cons ty_133 <| all_cons ty_134 <| all_cons ty_136 <| all_cons ty_149 <| all_cons ty_153 <| all_cons ty_156 <| all_cons ty_157 <| all_cons ty_159 <| all_cons ty_161 <| all_cons ty_163 <| all_cons ty_168 <| all_cons ty_188 <| all_cons ty_199 <| all_cons ty_200 <| all_cons ty_203 <| all_cons ty_205 <| all_nil
theorem tyT : TTOK Try.prog KT tt := ttOK rfl ty_all (by kernel_rfl) (by
  rw [show (tyL.filter fun p => p.2.eq).map (fun p => (p.1, p.2.zero)) = [(7, [.int .i64 0, .int .i64 0, .tt false, .u8 0]), (8, [.int .i64 0, .int .i64 0, .tt false, .u8 0]), (44, [.int .i64 0, .int .i64 0]), (71, [.int .i64 0, .int .i64 0]), (86, [.int .i64 0, .int .i64 0]), (153, [.int .i64 0, .int .i64 0]), (161, [.int .i64 0, .int .i64 0, .int .i64 0])] by kernel_rfl]
  exact all_cons eq_7 <| all_cons eq_8 <| all_cons eq_44 <| all_cons eq_71 <| all_cons eq_86 <| all_cons eq_153 <| all_cons eq_161 <| all_nil)
theorem hmix : Try.prog.follows .mixedOrders = true := by kernel_rfl
end E
end Go.Proofs.Ythnhjibbkleneaa
