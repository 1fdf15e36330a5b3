/- Part of what the laws need: plain words, the walker and its laws, the program's functions. -/
import Derived.Test.YthhmandpjlggcaaZEvG
import Derived.Test.YthhmandpjlggcaaProg
import Derived.Test.YthhmandpjlggcaaZTy
namespace Go.Proofs.Ythhmandpjlggcaa
open Go.RowKit G
def Bx : Mem → Prop := fun _ => True
theorem Bxm {m m2 : Mem} (_ : Bx m) (_ : Le m m2) : Bx m2 := trivial
namespace E
def Sx : Nat → Type
  | 0 => G.struct_x_int64_y_int_signed_bool_code_abi_BoundsErrorCode
  | 1 => G.runtime_boundsError
  | 2 => G.struct_msg_string_addr_uintptr
  | 3 => G.Command
  | 4 => G.graftref11_Edge
  | 5 => G.graftref11_Graph
  | 6 => G.digraph_Edge
  | 7 => G.Extent
  | 8 => G.command_target
  | 9 => G.index_entry
  | 10 => G.index_Index
  | _ => Bool
def tb : Tb Sx
  | 0 => { fs := [(.int .i64), (.int .i64), .bo, .u8], to := fun (x : G.struct_x_int64_y_int_signed_bool_code_abi_BoundsErrorCode) => (x.x, x.y, x.signed, x.code, ()), of := fun h => (⟨h.1, h.2.1, h.2.2.1, h.2.2.2.1⟩ : G.struct_x_int64_y_int_signed_bool_code_abi_BoundsErrorCode) }
  | 1 => { fs := [(.int .i64), (.int .i64), .bo, .u8], to := fun (x : G.runtime_boundsError) => (x.x, x.y, x.signed, x.code, ()), of := fun h => (⟨h.1, h.2.1, h.2.2.1, h.2.2.2.1⟩ : G.runtime_boundsError) }
  | 2 => { fs := [.str, (.int .u64)], to := fun (x : G.struct_msg_string_addr_uintptr) => (x.msg, x.addr, ()), of := fun h => (⟨h.1, h.2.1⟩ : G.struct_msg_string_addr_uintptr) }
  | 3 => { fs := [(.int .i64), (.int .i64), (.int .i64), (.int .i64), (.sl .u8)], to := fun (x : G.Command) => (x.kind, x.to, x.from_, x.len, x.data, ()), of := fun h => (⟨h.1, h.2.1, h.2.2.1, h.2.2.2.1, h.2.2.2.2.1⟩ : G.Command) }
  | 4 => { fs := [(.int .i64), (.int .i64)], to := fun (x : G.graftref11_Edge) => (x.from_, x.to, ()), of := fun h => (⟨h.1, h.2.1⟩ : G.graftref11_Edge) }
  | 5 => { fs := [(.int .i64), (.sl (.st 4))], to := fun (x : G.graftref11_Graph) => (x.n, x.edges, ()), of := fun h => (⟨h.1, h.2.1⟩ : G.graftref11_Graph) }
  | 6 => { fs := [(.int .i64), (.int .i64)], to := fun (x : G.digraph_Edge) => (x.from_, x.to, ()), of := fun h => (⟨h.1, h.2.1⟩ : G.digraph_Edge) }
  | 7 => { fs := [(.int .i64), (.int .i64)], to := fun (x : G.Extent) => (x.off, x.len, ()), of := fun h => (⟨h.1, h.2.1⟩ : G.Extent) }
  | 8 => { fs := [(.int .i64), (.int .i64)], to := fun (x : G.command_target) => (x.extent.off, x.extent.len, ()), of := fun h => (⟨(⟨h.1, h.2.1⟩ : G.Extent)⟩ : G.command_target) }
  | 9 => { fs := [(.int .i64), (.int .i64), (.int .i64)], to := fun (x : G.index_entry) => (x.extent.off, x.extent.len, x.position, ()), of := fun h => (⟨(⟨h.1, h.2.1⟩ : G.Extent), h.2.2.1⟩ : G.index_entry) }
  | 10 => { fs := [(.sl (.st 9))], to := fun (x : G.index_Index) => (x.sorted, ()), of := fun h => (⟨h.1⟩ : G.index_Index) }
  | _ + 11 => { fs := [.bo], to := fun (x : Bool) => (x, ()), of := fun h => h.1 }
def tyL : List (Nat × TI Sx) := [(1, ⟨.func, 1, 8, [.nilF], .bo, false⟩),
  (2, ⟨.int .i64, 1, 8, [.int .i64 0], (.int .i64), false⟩),
  (3, ⟨.int .i64, 1, 8, [.int .i64 0], (.int .i64), false⟩),
  (4, ⟨.bool, 1, 1, [.tt false], .bo, false⟩),
  (5, ⟨.int .u8, 1, 1, [.u8 0], .u8, false⟩),
  (6, ⟨.int .u8, 1, 1, [.u8 0], .u8, false⟩),
  (7, ⟨.struct [(2, 0, 1), (3, 1, 1), (4, 2, 1), (6, 3, 1)], 4, 24, [.int .i64 0, .int .i64 0, .tt false, .u8 0], (.st 0), true⟩),
  (8, ⟨.struct [(2, 0, 1), (3, 1, 1), (4, 2, 1), (6, 3, 1)], 4, 24, [.int .i64 0, .int .i64 0, .tt false, .u8 0], (.st 1), true⟩),
  (9, ⟨.str, 1, 16, [.str []], .str, false⟩),
  (11, ⟨.str, 1, 16, [.str []], .str, false⟩),
  (12, ⟨.int .u64, 1, 8, [.int .u64 0], (.int .u64), false⟩),
  (13, ⟨.struct [(9, 0, 1), (12, 1, 1)], 2, 24, [.str [], .int .u64 0], (.st 2), false⟩),
  (16, ⟨.ptr 188, 1, 8, [.nilP], .bo, false⟩),
  (17, ⟨.ptr 196, 1, 8, [.nilP], .bo, false⟩),
  (22, ⟨.slice 26, 1, 24, [.nilS], (.sl (.st 3)), false⟩),
  (24, ⟨.slice 5, 1, 24, [.nilS], (.sl .u8), false⟩),
  (26, ⟨.struct [(3, 0, 1), (3, 1, 1), (3, 2, 1), (3, 3, 1), (24, 4, 1)], 5, 56, [.int .i64 0, .int .i64 0, .int .i64 0, .int .i64 0, .nilS], (.st 3), false⟩),
  (30, ⟨.func, 1, 8, [.nilF], .bo, false⟩),
  (32, ⟨.ptr 89, 1, 8, [.nilP], .bo, false⟩),
  (34, ⟨.ptr 39, 1, 8, [.nilP], .bo, false⟩),
  (37, ⟨.slice 41, 1, 24, [.nilS], (.sl (.st 4)), false⟩),
  (39, ⟨.struct [(3, 0, 1), (37, 1, 1)], 2, 32, [.int .i64 0, .nilS], (.st 5), false⟩),
  (41, ⟨.struct [(3, 0, 1), (3, 1, 1)], 2, 16, [.int .i64 0, .int .i64 0], (.st 4), true⟩),
  (43, ⟨.struct [(3, 0, 1), (3, 1, 1)], 2, 16, [.int .i64 0, .int .i64 0], (.st 6), true⟩),
  (44, ⟨.array 2 3, 2, 16, [.ai 2 .i64 (fun _ => 0)], (.ai 2 .i64), false⟩),
  (45, ⟨.slice 47, 1, 24, [.nilS], (.sl (.st 7)), false⟩),
  (47, ⟨.struct [(3, 0, 1), (3, 1, 1)], 2, 16, [.int .i64 0, .int .i64 0], (.st 7), true⟩),
  (50, ⟨.func, 1, 8, [.nilF], .bo, false⟩),
  (53, ⟨.slice 3, 1, 24, [.nilS], (.sl (.int .i64)), false⟩),
  (54, ⟨.func, 1, 8, [.nilF], .bo, false⟩),
  (58, ⟨.slice 43, 1, 24, [.nilS], (.sl (.st 6)), false⟩),
  (60, ⟨.func, 1, 8, [.nilF], .bo, false⟩),
  (74, ⟨.func, 1, 8, [.nilF], .bo, false⟩),
  (80, ⟨.ptr 135, 1, 8, [.nilP], .bo, false⟩),
  (86, ⟨.map 43 4, 1, 8, [.nilM], (.mp (.st 6) .bo), false⟩),
  (87, ⟨.map 3 53, 1, 8, [.nilM], (.mp (.int .i64) (.sl (.int .i64))), false⟩),
  (88, ⟨.struct [(3, 0, 1), (86, 1, 1), (87, 2, 1), (87, 3, 1)], 4, 32, [.int .i64 0, .nilM, .nilM, .nilM], .bo, false⟩),
  (89, ⟨.struct [(3, 0, 1), (86, 1, 1), (87, 2, 1), (87, 3, 1)], 4, 32, [.int .i64 0, .nilM, .nilM, .nilM], .bo, false⟩),
  (91, ⟨.map 3 3, 1, 8, [.nilM], (.mp (.int .i64) (.int .i64)), false⟩),
  (92, ⟨.func, 1, 8, [.nilF], .bo, false⟩),
  (93, ⟨.func, 1, 8, [.nilF], .bo, false⟩),
  (96, ⟨.func, 1, 8, [.nilF], .bo, false⟩),
  (104, ⟨.ptr 22, 1, 8, [.nilP], .bo, false⟩),
  (112, ⟨.func, 1, 8, [.nilF], .bo, false⟩),
  (113, ⟨.func, 1, 8, [.nilF], .bo, false⟩),
  (115, ⟨.func, 1, 8, [.nilF], .bo, false⟩),
  (118, ⟨.struct [(47, 0, 2)], 2, 16, [.int .i64 0, .int .i64 0], (.st 8), true⟩),
  (120, ⟨.func, 1, 8, [.nilF], .bo, false⟩),
  (122, ⟨.func, 1, 8, [.nilF], .bo, false⟩),
  (123, ⟨.func, 1, 8, [.nilF], .bo, false⟩),
  (133, ⟨.slice 137, 1, 24, [.nilS], (.sl (.st 9)), false⟩),
  (135, ⟨.struct [(133, 0, 1)], 1, 24, [.nilS], (.st 10), false⟩),
  (137, ⟨.struct [(47, 0, 2), (3, 2, 1)], 3, 24, [.int .i64 0, .int .i64 0, .int .i64 0], (.st 9), true⟩),
  (140, ⟨.func, 1, 8, [.nilF], .bo, false⟩),
  (141, ⟨.func, 1, 8, [.nilF], .bo, false⟩),
  (147, ⟨.int .u64, 1, 8, [.int .u64 0], (.int .u64), false⟩),
  (154, ⟨.int .i64, 1, 8, [.int .i64 0], (.int .i64), false⟩),
  (161, ⟨.int .u32, 1, 4, [.int .u32 0], (.int .u32), false⟩),
  (163, ⟨.int .u64, 1, 8, [.int .u64 0], (.int .u64), false⟩),
  (171, ⟨.int .u64, 1, 8, [.int .u64 0], (.int .u64), false⟩),
  (175, ⟨.ptr 3, 1, 8, [.nilP], .bo, false⟩),
  (179, ⟨.ptr 171, 1, 8, [.nilP], .bo, false⟩)]
def tt (t : TypeId) : Option (TI Sx) := look t tyL
end E
namespace E
theorem flat_ : ∀ i, (tb i).fs.all noSt = true
  | 0 => rfl
  | 1 => rfl
  | 2 => rfl
  | 3 => rfl
  | 4 => rfl
  | 5 => rfl
  | 6 => rfl
  | 7 => rfl
  | 8 => rfl
  | 9 => rfl
  | 10 => rfl
  | 11 => rfl
  | 12 => rfl
  | _ + 13 => rfl
theorem max_ : ∀ i, (tb i).fs.all (fun c => Nat.ble (maxSt c) i) = true
  | 0 => rfl
  | 1 => rfl
  | 2 => rfl
  | 3 => rfl
  | 4 => rfl
  | 5 => rfl
  | 6 => rfl
  | 7 => rfl
  | 8 => rfl
  | 9 => rfl
  | 10 => rfl
  | 11 => rfl
  | 12 => rfl
  | _ + 13 => by simp [tb, maxSt]
theorem ne_ : ∀ i, (tb i).fs ≠ []
  | 0 => (fun h => by cases h)
  | 1 => (fun h => by cases h)
  | 2 => (fun h => by cases h)
  | 3 => (fun h => by cases h)
  | 4 => (fun h => by cases h)
  | 5 => (fun h => by cases h)
  | 6 => (fun h => by cases h)
  | 7 => (fun h => by cases h)
  | 8 => (fun h => by cases h)
  | 9 => (fun h => by cases h)
  | 10 => (fun h => by cases h)
  | 11 => (fun h => by cases h)
  | 12 => (fun h => by cases h)
  | _ + 13 => (fun h => by cases h)
theorem to_of_ : ∀ i (h : HL Sx (tb i).fs), (tb i).to ((tb i).of h) = h
  | 0, _ => rfl
  | 1, _ => rfl
  | 2, _ => rfl
  | 3, _ => rfl
  | 4, _ => rfl
  | 5, _ => rfl
  | 6, _ => rfl
  | 7, _ => rfl
  | 8, _ => rfl
  | 9, _ => rfl
  | 10, _ => rfl
  | 11, _ => rfl
  | 12, _ => rfl
  | _ + 13, _ => rfl
noncomputable def KT : TbOK tb := tbOK (rgP Try.prog) Bx Bxm flat_ (fun i c hc => Nat.le_of_ble_eq_true (List.all_eq_true.1 (max_ i) c hc)) ne_ to_of_
theorem ty_1 : TyOK Try.prog 1 (⟨.func, 1, 8, [.nilF], .bo, false⟩ : TI Sx) := ⟨(show (Try.prog.underlying 1).map isFuncD = some true by kernel_rfl), by kernel_rfl, by kernel_rfl, by kernel_rfl, fun _ => rfl⟩
theorem ty_2 : TyOK Try.prog 2 (⟨.int .i64, 1, 8, [.int .i64 0], (.int .i64), false⟩ : TI Sx) := ⟨(show Try.prog.underlying 2 = some (.int .i64) by kernel_rfl), by kernel_rfl, by kernel_rfl, by kernel_rfl, fun _ => rfl⟩
theorem ty_3 : TyOK Try.prog 3 (⟨.int .i64, 1, 8, [.int .i64 0], (.int .i64), false⟩ : TI Sx) := ⟨(show Try.prog.underlying 3 = some (.int .i64) by kernel_rfl), by kernel_rfl, by kernel_rfl, by kernel_rfl, fun _ => rfl⟩
theorem ty_4 : TyOK Try.prog 4 (⟨.bool, 1, 1, [.tt false], .bo, false⟩ : TI Sx) := ⟨(show Try.prog.underlying 4 = some (.bool) by kernel_rfl), by kernel_rfl, by kernel_rfl, by kernel_rfl, fun _ => rfl⟩
theorem ty_5 : TyOK Try.prog 5 (⟨.int .u8, 1, 1, [.u8 0], .u8, false⟩ : TI Sx) := ⟨(show Try.prog.underlying 5 = some (.int .u8) by kernel_rfl), by kernel_rfl, by kernel_rfl, by kernel_rfl, fun _ => rfl⟩
theorem ty_6 : TyOK Try.prog 6 (⟨.int .u8, 1, 1, [.u8 0], .u8, false⟩ : TI Sx) := ⟨(show Try.prog.underlying 6 = some (.int .u8) by kernel_rfl), by kernel_rfl, by kernel_rfl, by kernel_rfl, fun _ => rfl⟩
theorem ty_7 : TyOK Try.prog 7 (⟨.struct [(2, 0, 1), (3, 1, 1), (4, 2, 1), (6, 3, 1)], 4, 24, [.int .i64 0, .int .i64 0, .tt false, .u8 0], (.st 0), true⟩ : TI Sx) := ⟨(show undS Try.prog 7 = some [(2, 0, 1), (3, 1, 1), (4, 2, 1), (6, 3, 1)] by kernel_rfl), by kernel_rfl, by kernel_rfl, by kernel_rfl, fun h => by cases h⟩
theorem ty_8 : TyOK Try.prog 8 (⟨.struct [(2, 0, 1), (3, 1, 1), (4, 2, 1), (6, 3, 1)], 4, 24, [.int .i64 0, .int .i64 0, .tt false, .u8 0], (.st 1), true⟩ : TI Sx) := ⟨(show undS Try.prog 8 = some [(2, 0, 1), (3, 1, 1), (4, 2, 1), (6, 3, 1)] by kernel_rfl), by kernel_rfl, by kernel_rfl, by kernel_rfl, fun h => by cases h⟩
theorem ty_9 : TyOK Try.prog 9 (⟨.str, 1, 16, [.str []], .str, false⟩ : TI Sx) := ⟨(show Try.prog.underlying 9 = some (.string) by kernel_rfl), by kernel_rfl, by kernel_rfl, by kernel_rfl, fun _ => rfl⟩
theorem ty_11 : TyOK Try.prog 11 (⟨.str, 1, 16, [.str []], .str, false⟩ : TI Sx) := ⟨(show Try.prog.underlying 11 = some (.string) by kernel_rfl), by kernel_rfl, by kernel_rfl, by kernel_rfl, fun _ => rfl⟩
theorem ty_12 : TyOK Try.prog 12 (⟨.int .u64, 1, 8, [.int .u64 0], (.int .u64), false⟩ : TI Sx) := ⟨(show Try.prog.underlying 12 = some (.int .u64) by kernel_rfl), by kernel_rfl, by kernel_rfl, by kernel_rfl, fun _ => rfl⟩
theorem ty_13 : TyOK Try.prog 13 (⟨.struct [(9, 0, 1), (12, 1, 1)], 2, 24, [.str [], .int .u64 0], (.st 2), false⟩ : TI Sx) := ⟨(show undS Try.prog 13 = some [(9, 0, 1), (12, 1, 1)] by kernel_rfl), by kernel_rfl, by kernel_rfl, by kernel_rfl, fun h => by cases h⟩
theorem ty_16 : TyOK Try.prog 16 (⟨.ptr 188, 1, 8, [.nilP], .bo, false⟩ : TI Sx) := ⟨(show Try.prog.underlying 16 = some (.pointer 188) by kernel_rfl), by kernel_rfl, by kernel_rfl, by kernel_rfl, fun _ => rfl⟩
theorem ty_17 : TyOK Try.prog 17 (⟨.ptr 196, 1, 8, [.nilP], .bo, false⟩ : TI Sx) := ⟨(show Try.prog.underlying 17 = some (.pointer 196) by kernel_rfl), by kernel_rfl, by kernel_rfl, by kernel_rfl, fun _ => rfl⟩
theorem ty_22 : TyOK Try.prog 22 (⟨.slice 26, 1, 24, [.nilS], (.sl (.st 3)), false⟩ : TI Sx) := ⟨(show Try.prog.underlying 22 = some (.slice 26) by kernel_rfl), by kernel_rfl, by kernel_rfl, by kernel_rfl, fun _ => rfl⟩
theorem ty_24 : TyOK Try.prog 24 (⟨.slice 5, 1, 24, [.nilS], (.sl .u8), false⟩ : TI Sx) := ⟨(show Try.prog.underlying 24 = some (.slice 5) by kernel_rfl), by kernel_rfl, by kernel_rfl, by kernel_rfl, fun _ => rfl⟩
theorem ty_26 : TyOK Try.prog 26 (⟨.struct [(3, 0, 1), (3, 1, 1), (3, 2, 1), (3, 3, 1), (24, 4, 1)], 5, 56, [.int .i64 0, .int .i64 0, .int .i64 0, .int .i64 0, .nilS], (.st 3), false⟩ : TI Sx) := ⟨(show undS Try.prog 26 = some [(3, 0, 1), (3, 1, 1), (3, 2, 1), (3, 3, 1), (24, 4, 1)] by kernel_rfl), by kernel_rfl, by kernel_rfl, by kernel_rfl, fun h => by cases h⟩
theorem ty_30 : TyOK Try.prog 30 (⟨.func, 1, 8, [.nilF], .bo, false⟩ : TI Sx) := ⟨(show (Try.prog.underlying 30).map isFuncD = some true by kernel_rfl), by kernel_rfl, by kernel_rfl, by kernel_rfl, fun _ => rfl⟩
theorem ty_32 : TyOK Try.prog 32 (⟨.ptr 89, 1, 8, [.nilP], .bo, false⟩ : TI Sx) := ⟨(show Try.prog.underlying 32 = some (.pointer 89) by kernel_rfl), by kernel_rfl, by kernel_rfl, by kernel_rfl, fun _ => rfl⟩
theorem ty_34 : TyOK Try.prog 34 (⟨.ptr 39, 1, 8, [.nilP], .bo, false⟩ : TI Sx) := ⟨(show Try.prog.underlying 34 = some (.pointer 39) by kernel_rfl), by kernel_rfl, by kernel_rfl, by kernel_rfl, fun _ => rfl⟩
theorem ty_37 : TyOK Try.prog 37 (⟨.slice 41, 1, 24, [.nilS], (.sl (.st 4)), false⟩ : TI Sx) := ⟨(show Try.prog.underlying 37 = some (.slice 41) by kernel_rfl), by kernel_rfl, by kernel_rfl, by kernel_rfl, fun _ => rfl⟩
theorem ty_39 : TyOK Try.prog 39 (⟨.struct [(3, 0, 1), (37, 1, 1)], 2, 32, [.int .i64 0, .nilS], (.st 5), false⟩ : TI Sx) := ⟨(show undS Try.prog 39 = some [(3, 0, 1), (37, 1, 1)] by kernel_rfl), by kernel_rfl, by kernel_rfl, by kernel_rfl, fun h => by cases h⟩
theorem ty_41 : TyOK Try.prog 41 (⟨.struct [(3, 0, 1), (3, 1, 1)], 2, 16, [.int .i64 0, .int .i64 0], (.st 4), true⟩ : TI Sx) := ⟨(show undS Try.prog 41 = some [(3, 0, 1), (3, 1, 1)] by kernel_rfl), by kernel_rfl, by kernel_rfl, by kernel_rfl, fun h => by cases h⟩
theorem ty_43 : TyOK Try.prog 43 (⟨.struct [(3, 0, 1), (3, 1, 1)], 2, 16, [.int .i64 0, .int .i64 0], (.st 6), true⟩ : TI Sx) := ⟨(show undS Try.prog 43 = some [(3, 0, 1), (3, 1, 1)] by kernel_rfl), by kernel_rfl, by kernel_rfl, by kernel_rfl, fun h => by cases h⟩
theorem ty_44 : TyOK Try.prog 44 (⟨.array 2 3, 2, 16, [.ai 2 .i64 (fun _ => 0)], (.ai 2 .i64), false⟩ : TI Sx) := ⟨(show Try.prog.underlying 44 = some (.array 2 3) by kernel_rfl), by kernel_rfl, by kernel_rfl, by kernel_rfl, fun h => by cases h⟩
theorem ty_45 : TyOK Try.prog 45 (⟨.slice 47, 1, 24, [.nilS], (.sl (.st 7)), false⟩ : TI Sx) := ⟨(show Try.prog.underlying 45 = some (.slice 47) by kernel_rfl), by kernel_rfl, by kernel_rfl, by kernel_rfl, fun _ => rfl⟩
theorem ty_47 : TyOK Try.prog 47 (⟨.struct [(3, 0, 1), (3, 1, 1)], 2, 16, [.int .i64 0, .int .i64 0], (.st 7), true⟩ : TI Sx) := ⟨(show undS Try.prog 47 = some [(3, 0, 1), (3, 1, 1)] by kernel_rfl), by kernel_rfl, by kernel_rfl, by kernel_rfl, fun h => by cases h⟩
theorem ty_50 : TyOK Try.prog 50 (⟨.func, 1, 8, [.nilF], .bo, false⟩ : TI Sx) := ⟨(show (Try.prog.underlying 50).map isFuncD = some true by kernel_rfl), by kernel_rfl, by kernel_rfl, by kernel_rfl, fun _ => rfl⟩
theorem ty_53 : TyOK Try.prog 53 (⟨.slice 3, 1, 24, [.nilS], (.sl (.int .i64)), false⟩ : TI Sx) := ⟨(show Try.prog.underlying 53 = some (.slice 3) by kernel_rfl), by kernel_rfl, by kernel_rfl, by kernel_rfl, fun _ => rfl⟩
theorem ty_54 : TyOK Try.prog 54 (⟨.func, 1, 8, [.nilF], .bo, false⟩ : TI Sx) := ⟨(show (Try.prog.underlying 54).map isFuncD = some true by kernel_rfl), by kernel_rfl, by kernel_rfl, by kernel_rfl, fun _ => rfl⟩
theorem ty_58 : TyOK Try.prog 58 (⟨.slice 43, 1, 24, [.nilS], (.sl (.st 6)), false⟩ : TI Sx) := ⟨(show Try.prog.underlying 58 = some (.slice 43) by kernel_rfl), by kernel_rfl, by kernel_rfl, by kernel_rfl, fun _ => rfl⟩
theorem ty_60 : TyOK Try.prog 60 (⟨.func, 1, 8, [.nilF], .bo, false⟩ : TI Sx) := ⟨(show (Try.prog.underlying 60).map isFuncD = some true by kernel_rfl), by kernel_rfl, by kernel_rfl, by kernel_rfl, fun _ => rfl⟩
theorem ty_74 : TyOK Try.prog 74 (⟨.func, 1, 8, [.nilF], .bo, false⟩ : TI Sx) := ⟨(show (Try.prog.underlying 74).map isFuncD = some true by kernel_rfl), by kernel_rfl, by kernel_rfl, by kernel_rfl, fun _ => rfl⟩
theorem ty_80 : TyOK Try.prog 80 (⟨.ptr 135, 1, 8, [.nilP], .bo, false⟩ : TI Sx) := ⟨(show Try.prog.underlying 80 = some (.pointer 135) by kernel_rfl), by kernel_rfl, by kernel_rfl, by kernel_rfl, fun _ => rfl⟩
theorem ty_86 : TyOK Try.prog 86 (⟨.map 43 4, 1, 8, [.nilM], (.mp (.st 6) .bo), false⟩ : TI Sx) := ⟨(show Try.prog.underlying 86 = some (.map 43 4) by kernel_rfl), by kernel_rfl, by kernel_rfl, by kernel_rfl, fun _ => rfl⟩
theorem ty_87 : TyOK Try.prog 87 (⟨.map 3 53, 1, 8, [.nilM], (.mp (.int .i64) (.sl (.int .i64))), false⟩ : TI Sx) := ⟨(show Try.prog.underlying 87 = some (.map 3 53) by kernel_rfl), by kernel_rfl, by kernel_rfl, by kernel_rfl, fun _ => rfl⟩
theorem ty_88 : TyOK Try.prog 88 (⟨.struct [(3, 0, 1), (86, 1, 1), (87, 2, 1), (87, 3, 1)], 4, 32, [.int .i64 0, .nilM, .nilM, .nilM], .bo, false⟩ : TI Sx) := ⟨(show undS Try.prog 88 = some [(3, 0, 1), (86, 1, 1), (87, 2, 1), (87, 3, 1)] by kernel_rfl), by kernel_rfl, by kernel_rfl, by kernel_rfl, fun h => by cases h⟩
theorem ty_89 : TyOK Try.prog 89 (⟨.struct [(3, 0, 1), (86, 1, 1), (87, 2, 1), (87, 3, 1)], 4, 32, [.int .i64 0, .nilM, .nilM, .nilM], .bo, false⟩ : TI Sx) := ⟨(show undS Try.prog 89 = some [(3, 0, 1), (86, 1, 1), (87, 2, 1), (87, 3, 1)] by kernel_rfl), by kernel_rfl, by kernel_rfl, by kernel_rfl, fun h => by cases h⟩
theorem ty_91 : TyOK Try.prog 91 (⟨.map 3 3, 1, 8, [.nilM], (.mp (.int .i64) (.int .i64)), false⟩ : TI Sx) := ⟨(show Try.prog.underlying 91 = some (.map 3 3) by kernel_rfl), by kernel_rfl, by kernel_rfl, by kernel_rfl, fun _ => rfl⟩
theorem ty_92 : TyOK Try.prog 92 (⟨.func, 1, 8, [.nilF], .bo, false⟩ : TI Sx) := ⟨(show (Try.prog.underlying 92).map isFuncD = some true by kernel_rfl), by kernel_rfl, by kernel_rfl, by kernel_rfl, fun _ => rfl⟩
theorem ty_93 : TyOK Try.prog 93 (⟨.func, 1, 8, [.nilF], .bo, false⟩ : TI Sx) := ⟨(show (Try.prog.underlying 93).map isFuncD = some true by kernel_rfl), by kernel_rfl, by kernel_rfl, by kernel_rfl, fun _ => rfl⟩
theorem ty_96 : TyOK Try.prog 96 (⟨.func, 1, 8, [.nilF], .bo, false⟩ : TI Sx) := ⟨(show (Try.prog.underlying 96).map isFuncD = some true by kernel_rfl), by kernel_rfl, by kernel_rfl, by kernel_rfl, fun _ => rfl⟩
theorem ty_104 : TyOK Try.prog 104 (⟨.ptr 22, 1, 8, [.nilP], .bo, false⟩ : TI Sx) := ⟨(show Try.prog.underlying 104 = some (.pointer 22) by kernel_rfl), by kernel_rfl, by kernel_rfl, by kernel_rfl, fun _ => rfl⟩
theorem ty_112 : TyOK Try.prog 112 (⟨.func, 1, 8, [.nilF], .bo, false⟩ : TI Sx) := ⟨(show (Try.prog.underlying 112).map isFuncD = some true by kernel_rfl), by kernel_rfl, by kernel_rfl, by kernel_rfl, fun _ => rfl⟩
theorem ty_113 : TyOK Try.prog 113 (⟨.func, 1, 8, [.nilF], .bo, false⟩ : TI Sx) := ⟨(show (Try.prog.underlying 113).map isFuncD = some true by kernel_rfl), by kernel_rfl, by kernel_rfl, by kernel_rfl, fun _ => rfl⟩
theorem ty_115 : TyOK Try.prog 115 (⟨.func, 1, 8, [.nilF], .bo, false⟩ : TI Sx) := ⟨(show (Try.prog.underlying 115).map isFuncD = some true by kernel_rfl), by kernel_rfl, by kernel_rfl, by kernel_rfl, fun _ => rfl⟩
theorem ty_118 : TyOK Try.prog 118 (⟨.struct [(47, 0, 2)], 2, 16, [.int .i64 0, .int .i64 0], (.st 8), true⟩ : TI Sx) := ⟨(show undS Try.prog 118 = some [(47, 0, 2)] by kernel_rfl), by kernel_rfl, by kernel_rfl, by kernel_rfl, fun h => by cases h⟩
theorem ty_120 : TyOK Try.prog 120 (⟨.func, 1, 8, [.nilF], .bo, false⟩ : TI Sx) := ⟨(show (Try.prog.underlying 120).map isFuncD = some true by kernel_rfl), by kernel_rfl, by kernel_rfl, by kernel_rfl, fun _ => rfl⟩
theorem ty_122 : TyOK Try.prog 122 (⟨.func, 1, 8, [.nilF], .bo, false⟩ : TI Sx) := ⟨(show (Try.prog.underlying 122).map isFuncD = some true by kernel_rfl), by kernel_rfl, by kernel_rfl, by kernel_rfl, fun _ => rfl⟩
theorem ty_123 : TyOK Try.prog 123 (⟨.func, 1, 8, [.nilF], .bo, false⟩ : TI Sx) := ⟨(show (Try.prog.underlying 123).map isFuncD = some true by kernel_rfl), by kernel_rfl, by kernel_rfl, by kernel_rfl, fun _ => rfl⟩
theorem ty_133 : TyOK Try.prog 133 (⟨.slice 137, 1, 24, [.nilS], (.sl (.st 9)), false⟩ : TI Sx) := ⟨(show Try.prog.underlying 133 = some (.slice 137) by kernel_rfl), by kernel_rfl, by kernel_rfl, by kernel_rfl, fun _ => rfl⟩
theorem ty_135 : TyOK Try.prog 135 (⟨.struct [(133, 0, 1)], 1, 24, [.nilS], (.st 10), false⟩ : TI Sx) := ⟨(show undS Try.prog 135 = some [(133, 0, 1)] by kernel_rfl), by kernel_rfl, by kernel_rfl, by kernel_rfl, fun h => by cases h⟩
theorem ty_137 : TyOK Try.prog 137 (⟨.struct [(47, 0, 2), (3, 2, 1)], 3, 24, [.int .i64 0, .int .i64 0, .int .i64 0], (.st 9), true⟩ : TI Sx) := ⟨(show undS Try.prog 137 = some [(47, 0, 2), (3, 2, 1)] by kernel_rfl), by kernel_rfl, by kernel_rfl, by kernel_rfl, fun h => by cases h⟩
theorem ty_140 : TyOK Try.prog 140 (⟨.func, 1, 8, [.nilF], .bo, false⟩ : TI Sx) := ⟨(show (Try.prog.underlying 140).map isFuncD = some true by kernel_rfl), by kernel_rfl, by kernel_rfl, by kernel_rfl, fun _ => rfl⟩
theorem ty_141 : TyOK Try.prog 141 (⟨.func, 1, 8, [.nilF], .bo, false⟩ : TI Sx) := ⟨(show (Try.prog.underlying 141).map isFuncD = some true by kernel_rfl), by kernel_rfl, by kernel_rfl, by kernel_rfl, fun _ => rfl⟩
theorem ty_147 : TyOK Try.prog 147 (⟨.int .u64, 1, 8, [.int .u64 0], (.int .u64), false⟩ : TI Sx) := ⟨(show Try.prog.underlying 147 = some (.int .u64) by kernel_rfl), by kernel_rfl, by kernel_rfl, by kernel_rfl, fun _ => rfl⟩
theorem ty_154 : TyOK Try.prog 154 (⟨.int .i64, 1, 8, [.int .i64 0], (.int .i64), false⟩ : TI Sx) := ⟨(show Try.prog.underlying 154 = some (.int .i64) by kernel_rfl), by kernel_rfl, by kernel_rfl, by kernel_rfl, fun _ => rfl⟩
theorem ty_161 : TyOK Try.prog 161 (⟨.int .u32, 1, 4, [.int .u32 0], (.int .u32), false⟩ : TI Sx) := ⟨(show Try.prog.underlying 161 = some (.int .u32) by kernel_rfl), by kernel_rfl, by kernel_rfl, by kernel_rfl, fun _ => rfl⟩
theorem ty_163 : TyOK Try.prog 163 (⟨.int .u64, 1, 8, [.int .u64 0], (.int .u64), false⟩ : TI Sx) := ⟨(show Try.prog.underlying 163 = some (.int .u64) by kernel_rfl), by kernel_rfl, by kernel_rfl, by kernel_rfl, fun _ => rfl⟩
theorem ty_171 : TyOK Try.prog 171 (⟨.int .u64, 1, 8, [.int .u64 0], (.int .u64), false⟩ : TI Sx) := ⟨(show Try.prog.underlying 171 = some (.int .u64) by kernel_rfl), by kernel_rfl, by kernel_rfl, by kernel_rfl, fun _ => rfl⟩
theorem ty_175 : TyOK Try.prog 175 (⟨.ptr 3, 1, 8, [.nilP], .bo, false⟩ : TI Sx) := ⟨(show Try.prog.underlying 175 = some (.pointer 3) by kernel_rfl), by kernel_rfl, by kernel_rfl, by kernel_rfl, fun _ => rfl⟩
theorem ty_179 : TyOK Try.prog 179 (⟨.ptr 171, 1, 8, [.nilP], .bo, false⟩ : TI Sx) := ⟨(show Try.prog.underlying 179 = some (.pointer 171) by kernel_rfl), by kernel_rfl, by kernel_rfl, by kernel_rfl, fun _ => rfl⟩
set_option maxRecDepth 100000 in
theorem eqS_7 (x0 : Int) (x1 : Int) (x2 : Bool) (x3 : UInt8) (y0 : Int) (y1 : Int) (y2 : Bool) (y3 : UInt8) (w : World) : (binOp .eql 7 (.agg #[.int .i64 x0, .int .i64 x1, .bool x2, .int .u8 (x3.toNat : Int)]) (.agg #[.int .i64 y0, .int .i64 y1, .bool y2, .int .u8 (y3.toNat : Int)])).run Try.prog w = .ok (.bool (decide (x0 = y0 ∧ x1 = y1 ∧ x2 = y2 ∧ (x3.toNat : Int) = (y3.toNat : Int)))) w := by
  simp [go_sem]; repeat' split
  all_goals simp_all
theorem eq_7 : EqT KT Try.prog 7 ([.int .i64 0, .int .i64 0, .tt false, .u8 0] : List (CV Sx)) := ⟨by kernel_rfl, fun g m vs ws p xs ys w hv hw hp h1 h2 => by
  obtain ⟨x0, _, rfl, hv1⟩ := kind_int hv
  obtain ⟨x1, _, rfl, hv2⟩ := kind_int hv1
  rcases kind_bo hv2 with ⟨x2, _, _, _, _, rfl, hv3⟩ | ⟨x2, _, rfl, hv3⟩
  all_goals
    obtain ⟨x3, _, rfl, hv4⟩ := kind_u8 hv3
    obtain rfl := kind_nil hv4
    obtain ⟨y0, _, rfl, hw1⟩ := kind_int hw
    obtain ⟨y1, _, rfl, hw2⟩ := kind_int hw1
    rcases kind_bo hw2 with ⟨y2, _, _, _, _, rfl, hw3⟩ | ⟨y2, _, rfl, hw3⟩
    all_goals
      obtain ⟨y3, _, rfl, hw4⟩ := kind_u8 hw3
      obtain rfl := kind_nil hw4
      obtain ⟨_, rfl, h1_1⟩ := cvs_int h1
      obtain ⟨_, rfl, h1_2⟩ := cvs_int h1_1
      first | obtain ⟨_, rfl, h1_3⟩ := cvs_tt h1_2 | obtain ⟨_, rfl, h1_3⟩ := cvs_bo h1_2
      obtain ⟨_, rfl, h1_4⟩ := cvs_u8 h1_3
      simp only [cvsR] at h1_4; subst h1_4
      obtain ⟨_, rfl, h2_1⟩ := cvs_int h2
      obtain ⟨_, rfl, h2_2⟩ := cvs_int h2_1
      first | obtain ⟨_, rfl, h2_3⟩ := cvs_tt h2_2 | obtain ⟨_, rfl, h2_3⟩ := cvs_bo h2_2
      obtain ⟨_, rfl, h2_4⟩ := cvs_u8 h2_3
      simp only [cvsR] at h2_4; subst h2_4
      simp only [eqCs, bit, Option.bind_some, Option.map_some, Option.some.injEq] at hp
      subst hp
      exact eqS_7 x0 x1 x2 x3 y0 y1 y2 y3 w⟩
set_option maxRecDepth 100000 in
theorem eqS_8 (x0 : Int) (x1 : Int) (x2 : Bool) (x3 : UInt8) (y0 : Int) (y1 : Int) (y2 : Bool) (y3 : UInt8) (w : World) : (binOp .eql 8 (.agg #[.int .i64 x0, .int .i64 x1, .bool x2, .int .u8 (x3.toNat : Int)]) (.agg #[.int .i64 y0, .int .i64 y1, .bool y2, .int .u8 (y3.toNat : Int)])).run Try.prog w = .ok (.bool (decide (x0 = y0 ∧ x1 = y1 ∧ x2 = y2 ∧ (x3.toNat : Int) = (y3.toNat : Int)))) w := by
  simp [go_sem]; repeat' split
  all_goals simp_all
theorem eq_8 : EqT KT Try.prog 8 ([.int .i64 0, .int .i64 0, .tt false, .u8 0] : List (CV Sx)) := ⟨by kernel_rfl, fun g m vs ws p xs ys w hv hw hp h1 h2 => by
  obtain ⟨x0, _, rfl, hv1⟩ := kind_int hv
  obtain ⟨x1, _, rfl, hv2⟩ := kind_int hv1
  rcases kind_bo hv2 with ⟨x2, _, _, _, _, rfl, hv3⟩ | ⟨x2, _, rfl, hv3⟩
  all_goals
    obtain ⟨x3, _, rfl, hv4⟩ := kind_u8 hv3
    obtain rfl := kind_nil hv4
    obtain ⟨y0, _, rfl, hw1⟩ := kind_int hw
    obtain ⟨y1, _, rfl, hw2⟩ := kind_int hw1
    rcases kind_bo hw2 with ⟨y2, _, _, _, _, rfl, hw3⟩ | ⟨y2, _, rfl, hw3⟩
    all_goals
      obtain ⟨y3, _, rfl, hw4⟩ := kind_u8 hw3
      obtain rfl := kind_nil hw4
      obtain ⟨_, rfl, h1_1⟩ := cvs_int h1
      obtain ⟨_, rfl, h1_2⟩ := cvs_int h1_1
      first | obtain ⟨_, rfl, h1_3⟩ := cvs_tt h1_2 | obtain ⟨_, rfl, h1_3⟩ := cvs_bo h1_2
      obtain ⟨_, rfl, h1_4⟩ := cvs_u8 h1_3
      simp only [cvsR] at h1_4; subst h1_4
      obtain ⟨_, rfl, h2_1⟩ := cvs_int h2
      obtain ⟨_, rfl, h2_2⟩ := cvs_int h2_1
      first | obtain ⟨_, rfl, h2_3⟩ := cvs_tt h2_2 | obtain ⟨_, rfl, h2_3⟩ := cvs_bo h2_2
      obtain ⟨_, rfl, h2_4⟩ := cvs_u8 h2_3
      simp only [cvsR] at h2_4; subst h2_4
      simp only [eqCs, bit, Option.bind_some, Option.map_some, Option.some.injEq] at hp
      subst hp
      exact eqS_8 x0 x1 x2 x3 y0 y1 y2 y3 w⟩
set_option maxRecDepth 100000 in
theorem eqS_41 (x0 : Int) (x1 : Int) (y0 : Int) (y1 : Int) (w : World) : (binOp .eql 41 (.agg #[.int .i64 x0, .int .i64 x1]) (.agg #[.int .i64 y0, .int .i64 y1])).run Try.prog w = .ok (.bool (decide (x0 = y0 ∧ x1 = y1))) w := by
  simp [go_sem]; repeat' split
  all_goals simp_all
theorem eq_41 : EqT KT Try.prog 41 ([.int .i64 0, .int .i64 0] : List (CV Sx)) := ⟨by kernel_rfl, fun g m vs ws p xs ys w hv hw hp h1 h2 => by
  obtain ⟨x0, _, rfl, hv1⟩ := kind_int hv
  obtain ⟨x1, _, rfl, hv2⟩ := kind_int hv1
  obtain rfl := kind_nil hv2
  obtain ⟨y0, _, rfl, hw1⟩ := kind_int hw
  obtain ⟨y1, _, rfl, hw2⟩ := kind_int hw1
  obtain rfl := kind_nil hw2
  obtain ⟨_, rfl, h1_1⟩ := cvs_int h1
  obtain ⟨_, rfl, h1_2⟩ := cvs_int h1_1
  simp only [cvsR] at h1_2; subst h1_2
  obtain ⟨_, rfl, h2_1⟩ := cvs_int h2
  obtain ⟨_, rfl, h2_2⟩ := cvs_int h2_1
  simp only [cvsR] at h2_2; subst h2_2
  simp only [eqCs, bit, Option.bind_some, Option.map_some, Option.some.injEq] at hp
  subst hp
  exact eqS_41 x0 x1 y0 y1 w⟩
set_option maxRecDepth 100000 in
theorem eqS_43 (x0 : Int) (x1 : Int) (y0 : Int) (y1 : Int) (w : World) : (binOp .eql 43 (.agg #[.int .i64 x0, .int .i64 x1]) (.agg #[.int .i64 y0, .int .i64 y1])).run Try.prog w = .ok (.bool (decide (x0 = y0 ∧ x1 = y1))) w := by
  simp [go_sem]; repeat' split
  all_goals simp_all
theorem eq_43 : EqT KT Try.prog 43 ([.int .i64 0, .int .i64 0] : List (CV Sx)) := ⟨by kernel_rfl, fun g m vs ws p xs ys w hv hw hp h1 h2 => by
  obtain ⟨x0, _, rfl, hv1⟩ := kind_int hv
  obtain ⟨x1, _, rfl, hv2⟩ := kind_int hv1
  obtain rfl := kind_nil hv2
  obtain ⟨y0, _, rfl, hw1⟩ := kind_int hw
  obtain ⟨y1, _, rfl, hw2⟩ := kind_int hw1
  obtain rfl := kind_nil hw2
  obtain ⟨_, rfl, h1_1⟩ := cvs_int h1
  obtain ⟨_, rfl, h1_2⟩ := cvs_int h1_1
  simp only [cvsR] at h1_2; subst h1_2
  obtain ⟨_, rfl, h2_1⟩ := cvs_int h2
  obtain ⟨_, rfl, h2_2⟩ := cvs_int h2_1
  simp only [cvsR] at h2_2; subst h2_2
  simp only [eqCs, bit, Option.bind_some, Option.map_some, Option.some.injEq] at hp
  subst hp
  exact eqS_43 x0 x1 y0 y1 w⟩
set_option maxRecDepth 100000 in
theorem eqS_47 (x0 : Int) (x1 : Int) (y0 : Int) (y1 : Int) (w : World) : (binOp .eql 47 (.agg #[.int .i64 x0, .int .i64 x1]) (.agg #[.int .i64 y0, .int .i64 y1])).run Try.prog w = .ok (.bool (decide (x0 = y0 ∧ x1 = y1))) w := by
  simp [go_sem]; repeat' split
  all_goals simp_all
theorem eq_47 : EqT KT Try.prog 47 ([.int .i64 0, .int .i64 0] : List (CV Sx)) := ⟨by kernel_rfl, fun g m vs ws p xs ys w hv hw hp h1 h2 => by
  obtain ⟨x0, _, rfl, hv1⟩ := kind_int hv
  obtain ⟨x1, _, rfl, hv2⟩ := kind_int hv1
  obtain rfl := kind_nil hv2
  obtain ⟨y0, _, rfl, hw1⟩ := kind_int hw
  obtain ⟨y1, _, rfl, hw2⟩ := kind_int hw1
  obtain rfl := kind_nil hw2
  obtain ⟨_, rfl, h1_1⟩ := cvs_int h1
  obtain ⟨_, rfl, h1_2⟩ := cvs_int h1_1
  simp only [cvsR] at h1_2; subst h1_2
  obtain ⟨_, rfl, h2_1⟩ := cvs_int h2
  obtain ⟨_, rfl, h2_2⟩ := cvs_int h2_1
  simp only [cvsR] at h2_2; subst h2_2
  simp only [eqCs, bit, Option.bind_some, Option.map_some, Option.some.injEq] at hp
  subst hp
  exact eqS_47 x0 x1 y0 y1 w⟩
set_option maxRecDepth 100000 in
theorem eqS_118 (x0 : Int) (x1 : Int) (y0 : Int) (y1 : Int) (w : World) : (binOp .eql 118 (.agg #[.int .i64 x0, .int .i64 x1]) (.agg #[.int .i64 y0, .int .i64 y1])).run Try.prog w = .ok (.bool (decide (x0 = y0 ∧ x1 = y1))) w := by
  simp [go_sem]; repeat' split
  all_goals simp_all
theorem eq_118 : EqT KT Try.prog 118 ([.int .i64 0, .int .i64 0] : List (CV Sx)) := ⟨by kernel_rfl, fun g m vs ws p xs ys w hv hw hp h1 h2 => by
  obtain ⟨x0, _, rfl, hv1⟩ := kind_int hv
  obtain ⟨x1, _, rfl, hv2⟩ := kind_int hv1
  obtain rfl := kind_nil hv2
  obtain ⟨y0, _, rfl, hw1⟩ := kind_int hw
  obtain ⟨y1, _, rfl, hw2⟩ := kind_int hw1
  obtain rfl := kind_nil hw2
  obtain ⟨_, rfl, h1_1⟩ := cvs_int h1
  obtain ⟨_, rfl, h1_2⟩ := cvs_int h1_1
  simp only [cvsR] at h1_2; subst h1_2
  obtain ⟨_, rfl, h2_1⟩ := cvs_int h2
  obtain ⟨_, rfl, h2_2⟩ := cvs_int h2_1
  simp only [cvsR] at h2_2; subst h2_2
  simp only [eqCs, bit, Option.bind_some, Option.map_some, Option.some.injEq] at hp
  subst hp
  exact eqS_118 x0 x1 y0 y1 w⟩
set_option maxRecDepth 100000 in
theorem eqS_137 (x0 : Int) (x1 : Int) (x2 : Int) (y0 : Int) (y1 : Int) (y2 : Int) (w : World) : (binOp .eql 137 (.agg #[.int .i64 x0, .int .i64 x1, .int .i64 x2]) (.agg #[.int .i64 y0, .int .i64 y1, .int .i64 y2])).run Try.prog w = .ok (.bool (decide (x0 = y0 ∧ x1 = y1 ∧ x2 = y2))) w := by
  simp [go_sem]; repeat' split
  all_goals simp_all
theorem eq_137 : EqT KT Try.prog 137 ([.int .i64 0, .int .i64 0, .int .i64 0] : List (CV Sx)) := ⟨by kernel_rfl, fun g m vs ws p xs ys w hv hw hp h1 h2 => by
  obtain ⟨x0, _, rfl, hv1⟩ := kind_int hv
  obtain ⟨x1, _, rfl, hv2⟩ := kind_int hv1
  obtain ⟨x2, _, rfl, hv3⟩ := kind_int hv2
  obtain rfl := kind_nil hv3
  obtain ⟨y0, _, rfl, hw1⟩ := kind_int hw
  obtain ⟨y1, _, rfl, hw2⟩ := kind_int hw1
  obtain ⟨y2, _, rfl, hw3⟩ := kind_int hw2
  obtain rfl := kind_nil hw3
  obtain ⟨_, rfl, h1_1⟩ := cvs_int h1
  obtain ⟨_, rfl, h1_2⟩ := cvs_int h1_1
  obtain ⟨_, rfl, h1_3⟩ := cvs_int h1_2
  simp only [cvsR] at h1_3; subst h1_3
  obtain ⟨_, rfl, h2_1⟩ := cvs_int h2
  obtain ⟨_, rfl, h2_2⟩ := cvs_int h2_1
  obtain ⟨_, rfl, h2_3⟩ := cvs_int h2_2
  simp only [cvsR] at h2_3; subst h2_3
  simp only [eqCs, bit, Option.bind_some, Option.map_some, Option.some.injEq] at hp
  subst hp
  exact eqS_137 x0 x1 x2 y0 y1 y2 w⟩
set_option maxRecDepth 100000 in
theorem ty_all : ∀ p ∈ tyL, TyOK Try.prog p.1 p.2 := all_cons ty_1 <| all_cons ty_2 <| all_cons ty_3 <| all_cons ty_4 <| all_cons ty_5 <| all_cons ty_6 <| all_cons ty_7 <| all_cons ty_8 <| all_cons ty_9 <| all_cons ty_11 <| all_cons ty_12 <| all_cons ty_13 <| all_cons ty_16 <| all_cons ty_17 <| all_cons ty_22 <| all_cons ty_24 <| all_cons ty_26 <| all_cons ty_30 <| all_cons ty_32 <| all_cons ty_34 <| all_cons ty_37 <| all_cons ty_39 <| all_cons ty_41 <| all_cons ty_43 <| all_cons ty_44 <| all_cons ty_45 <| all_cons ty_47 <| all_cons ty_50 <| all_cons ty_53 <| all_cons ty_54 <| all_cons ty_58 <| all_cons ty_60 <| all_cons ty_74 <| all_cons ty_80 <| all_cons ty_86 <| all_cons ty_87 <| all_cons ty_88 <| all_cons ty_89 <| all_cons ty_91 <| all_cons ty_92 <| all_cons ty_93 <| all_cons ty_96 <| all_cons ty_104 <| all_cons ty_112 <| all_cons ty_113 <| all_cons ty_115 <| all_cons ty_118 <| all_cons ty_120 <| all_cons ty_122 <| all_cons ty_123 <| all_cons ty_133 <| all_cons ty_135 <| all_cons ty_137 <| all_cons ty_140 <| all_cons ty_141 <| all_cons ty_147 <| all_cons ty_154 <| all_cons ty_161 <| all_cons ty_163 <| all_cons ty_171 <| all_cons ty_175 <| all_cons ty_179 <| all_nil
theorem keyS_43 (x0 x1 : Int) (w : World) (em : Bool) : (Instr.checkKey em 10000 43 (.agg #[.int .i64 x0, .int .i64 x1])).run Try.prog w = .ok () w := by kernel_rfl
theorem keyQ_43 (x0 x1 y0 y1 : Int) (w : World) : (Op.equal 43 (.agg #[.int .i64 x0, .int .i64 x1]) (.agg #[.int .i64 y0, .int .i64 y1])).run Try.prog w = .ok (intEq x0 y0 && (intEq x1 y1 && true)) w := by
  rw [equal_of_bin (eqS_43 x0 x1 y0 y1 w)]
  congr 1
  simp [intEq]
theorem key_43 : keyCo tb (.st 6) = true → KeyOK Try.prog 43 (fun x v => ∃ m, keyR KT (.st 6) m x v) (keq tb (.st 6)) := fun h => key_st h Try.underlying43 (fun w em x => keyS_43 x.from_ x.to w em) (fun w x y => keyQ_43 x.from_ x.to y.from_ y.to w)
theorem tyT : TTOK Try.prog KT tt := ttOK rfl ty_all (by kernel_rfl) (by
  rw [show (tyL.filter fun p => p.2.eq).map (fun p => (p.1, p.2.zero)) = [(7, [.int .i64 0, .int .i64 0, .tt false, .u8 0]), (8, [.int .i64 0, .int .i64 0, .tt false, .u8 0]), (41, [.int .i64 0, .int .i64 0]), (43, [.int .i64 0, .int .i64 0]), (47, [.int .i64 0, .int .i64 0]), (118, [.int .i64 0, .int .i64 0]), (137, [.int .i64 0, .int .i64 0, .int .i64 0])] by kernel_rfl]
  exact all_cons eq_7 <| all_cons eq_8 <| all_cons eq_41 <| all_cons eq_43 <| all_cons eq_47 <| all_cons eq_118 <| all_cons eq_137 <| all_nil) (by kernel_rfl) (by
  rw [show stKeys tyL = [(43, 6)] by kernel_rfl]
  exact all_cons key_43 <| all_nil)
theorem hmix : Try.prog.follows .mixedOrders = true := by kernel_rfl
end E
end Go.Proofs.Ythhmandpjlggcaa
