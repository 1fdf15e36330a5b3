/- Part of what the laws need: plain words, the walker and its laws, the program's functions. -/
import Derived.Test.YtekpafdhgkocaaaGreatZEvG
import Derived.Test.YtekpafdhgkocaaaGreatProg
import Derived.Test.YtekpafdhgkocaaaGreatZTy
namespace Go.Proofs.YtekpafdhgkocaaaGreat
open Go.RowKit G
def Bx : Mem → Prop := fun _ => True
theorem Q3 {m m2 : Mem} (_ : Bx m) (_ : Le m m2) : Bx m2 := trivial
namespace E
def Sx : Nat → Type
 | 0 => G.aB
 | 1 => G.dz
 | 2 => G.bG
 | 3 => G.bX
 | 4 => G.Command
 | 5 => G.aj
 | 6 => G.Delta
 | 7 => G.bM
 | 8 => G.eR
 | 9 => G.cy
 | 10 => G.cz
 | 11 => G.aH
 | 12 => G.bL
 | 13 => G.ck
 | 14 => G.ae
 | 15 => G.b6
 | 16 => G.al
 | 17 => G.dM
 | 18 => G.iy
 | 19 => G.oP
 | _ => Bool
def tb : Tb Sx
 | 0 => { fs := [(.int .i64), (.int .i64), .bo, .u8], to := fun (x : G.aB) => (x.x, x.y, x.signed, x.code, ()), of := fun h => (⟨h.1, h.2.1, h.2.2.1, h.2.2.2.1⟩ : G.aB) }
 | 1 => { fs := [(.int .i64), (.int .i64), .bo, .u8], to := fun (x : G.dz) => (x.x, x.y, x.signed, x.code, ()), of := fun h => (⟨h.1, h.2.1, h.2.2.1, h.2.2.2.1⟩ : G.dz) }
 | 2 => { fs := [.str, (.int .u64)], to := fun (x : G.bG) => (x.msg, x.addr, ()), of := fun h => (⟨h.1, h.2.1⟩ : G.bG) }
 | 3 => { fs := [.str, (.int .u64)], to := fun (x : G.bX) => (x.msg, x.addr, ()), of := fun h => (⟨h.1, h.2.1⟩ : G.bX) }
 | 4 => { fs := [(.int .i64), (.int .i64), (.int .i64), (.int .i64), (.sl .u8)], to := fun (x : G.Command) => (x.kind, x.to, x.from_, x.len, x.data, ()), of := fun h => (⟨h.1, h.2.1, h.2.2.1, h.2.2.2.1, h.2.2.2.2.1⟩ : G.Command) }
 | 5 => { fs := [(.int .i64), (.int .i64), (.a8 32), (.a8 32), (.sl (.st 4))], to := fun (x : G.aj) => (x.bp, x.aP, x.cF, x.cE, x.commands, ()), of := fun h => (⟨h.1, h.2.1, h.2.2.1, h.2.2.2.1, h.2.2.2.2.1⟩ : G.aj) }
 | 6 => { fs := [(.int .i64), (.int .i64), (.a8 32), (.a8 32), (.sl (.st 4))], to := fun (x : G.Delta) => (x.bp, x.aP, x.cF, x.cE, x.commands, ()), of := fun h => (⟨h.1, h.2.1, h.2.2.1, h.2.2.2.1, h.2.2.2.2.1⟩ : G.Delta) }
 | 7 => { fs := [(.int .i64), (.int .i64)], to := fun (x : G.bM) => (x.code, x.at_, ()), of := fun h => (⟨h.1, h.2.1⟩ : G.bM) }
 | 8 => { fs := [(.int .i64), (.int .i64)], to := fun (x : G.eR) => (x.code, x.at_, ()), of := fun h => (⟨h.1, h.2.1⟩ : G.eR) }
 | 9 => { fs := [(.sl (.int .u32)), (.sl (.int .u32))], to := fun (x : G.cy) => (x.s, x.k, ()), of := fun h => (⟨h.1, h.2.1⟩ : G.cy) }
 | 10 => { fs := [(.sl (.int .u32)), (.sl (.int .u32))], to := fun (x : G.cz) => (x.s, x.k, ()), of := fun h => (⟨h.1, h.2.1⟩ : G.cz) }
 | 11 => { fs := [(.int .i64), (.int .i64), (.int .i64), (.int .i64), (.sl .u8)], to := fun (x : G.aH) => (x.kind, x.to, x.from_, x.len, x.data, ()), of := fun h => (⟨h.1, h.2.1, h.2.2.1, h.2.2.2.1, h.2.2.2.2.1⟩ : G.aH) }
 | 12 => { fs := [(.int .i64), (.int .i64)], to := fun (x : G.bL) => (x.off, x.len, ()), of := fun h => (⟨h.1, h.2.1⟩ : G.bL) }
 | 13 => { fs := [(.int .u64), (.int .i64)], to := fun (x : G.ck) => (x.value, x.size, ()), of := fun h => (⟨h.1, h.2.1⟩ : G.ck) }
 | 14 => { fs := [(.sl .u8), (.int .i64), (.int .i64), (.int .i64)], to := fun (x : G.ae) => (x.b, x.at_, x.code, x.pos, ()), of := fun h => (⟨h.1, h.2.1, h.2.2.1, h.2.2.2.1⟩ : G.ae) }
 | 15 => { fs := [(.sl .u8), (.int .i64), (.int .i64), (.int .i64)], to := fun (x : G.b6) => (x.b, x.at_, x.fault.code, x.fault.at_, ()), of := fun h => (⟨h.1, h.2.1, (⟨h.2.2.1, h.2.2.2.1⟩ : G.eR)⟩ : G.b6) }
 | 16 => { fs := [(.sl .u8), (.int .i64), (.int .i64), (.int .i64)], to := fun (x : G.al) => (x.position.b, x.position.at_, x.position.fault.code, x.position.fault.at_, ()), of := fun h => (⟨(⟨h.1, h.2.1, (⟨h.2.2.1, h.2.2.2.1⟩ : G.eR)⟩ : G.b6)⟩ : G.al) }
 | 17 => { fs := [(.int .i64), (.int .i64)], to := fun (x : G.dM) => (x.uj.off, x.uj.len, ()), of := fun h => (⟨(⟨h.1, h.2.1⟩ : G.bL)⟩ : G.dM) }
 | 18 => { fs := [(.ai 8 .u32), (.sl .u8), (.int .i64)], to := fun (x : G.iy) => (x.words, x.rest, x.n, ()), of := fun h => (⟨h.1, h.2.1, h.2.2.1⟩ : G.iy) }
 | 19 => { fs := [(.ai 8 .u32), (.sl .u8), (.int .i64)], to := fun (x : G.oP) => (x.state.words, x.state.rest, x.state.n, ()), of := fun h => (⟨(⟨h.1, h.2.1, h.2.2.1⟩ : G.iy)⟩ : G.oP) }
 | _ + 20 => { fs := [.bo], to := fun (x : Bool) => (x, ()), of := fun h => h.1 }
def Qf : List (Nat × TI Sx) := [(1, ⟨.func, 1, 8, [.aU], .bo, false⟩),
 (2, ⟨.int .i64, 1, 8, [.int .i64 0], (.int .i64), false⟩),
 (3, ⟨.int .i64, 1, 8, [.int .i64 0], (.int .i64), false⟩),
 (4, ⟨.bool, 1, 1, [.tt false], .bo, false⟩),
 (5, ⟨.int .u8, 1, 1, [.u8 0], .u8, false⟩),
 (6, ⟨.int .u8, 1, 1, [.u8 0], .u8, false⟩),
 (7, ⟨.struct [(2, 0, 1), (3, 1, 1), (4, 2, 1), (6, 3, 1)], 4, 24, [.int .i64 0, .int .i64 0, .tt false, .u8 0], (.st 0), true⟩),
 (8, ⟨.struct [(2, 0, 1), (3, 1, 1), (4, 2, 1), (6, 3, 1)], 4, 24, [.int .i64 0, .int .i64 0, .tt false, .u8 0], (.st 1), true⟩),
 (9, ⟨.str, 1, 16, [.str []], .str, false⟩),
 (10, ⟨.str, 1, 16, [.str []], .str, false⟩),
 (11, ⟨.str, 1, 16, [.str []], .str, false⟩),
 (12, ⟨.int .u64, 1, 8, [.int .u64 0], (.int .u64), false⟩),
 (13, ⟨.struct [(9, 0, 1), (12, 1, 1)], 2, 24, [.str [], .int .u64 0], (.st 2), false⟩),
 (14, ⟨.struct [(9, 0, 1), (12, 1, 1)], 2, 24, [.str [], .int .u64 0], (.st 3), false⟩),
 (15, ⟨.ptr 328, 1, 8, [.dI], .bo, false⟩),
 (16, ⟨.ptr 331, 1, 8, [.dI], .bo, false⟩),
 (17, ⟨.ptr 339, 1, 8, [.dI], .bo, false⟩),
 (18, ⟨.struct [(17, 0, 1)], 1, 8, [.dI], .bo, false⟩),
 (19, ⟨.struct [(17, 0, 1)], 1, 8, [.dI], .bo, false⟩),
 (20, ⟨.iface, 1, 16, [.ru], .bo, false⟩),
 (21, ⟨.int .i32, 1, 4, [.int .i32 0], (.int .i32), false⟩),
 (22, ⟨.slice 5, 1, 24, [.bI], (.sl .u8), false⟩),
 (23, ⟨.func, 1, 8, [.aU], .bo, false⟩),
 (24, ⟨.array 32 5, 32, 32, [.a8 32 (fun _ => 0)], (.a8 32), true⟩),
 (25, ⟨.slice 72, 1, 24, [.bI], (.sl (.st 4)), false⟩),
 (26, ⟨.struct [(3, 0, 1), (3, 1, 1), (24, 2, 32), (24, 34, 32), (25, 66, 1)], 67, 104, [.int .i64 0, .int .i64 0, .a8 32 (fun _ => 0), .a8 32 (fun _ => 0), .bI], (.st 5), false⟩),
 (27, ⟨.struct [(3, 0, 1), (3, 1, 1), (24, 2, 32), (24, 34, 32), (25, 66, 1)], 67, 104, [.int .i64 0, .int .i64 0, .a8 32 (fun _ => 0), .a8 32 (fun _ => 0), .bI], (.st 6), false⟩),
 (28, ⟨.int .i64, 1, 8, [.int .i64 0], (.int .i64), false⟩),
 (29, ⟨.struct [(28, 0, 1), (3, 1, 1)], 2, 16, [.int .i64 0, .int .i64 0], (.st 7), true⟩),
 (30, ⟨.struct [(28, 0, 1), (3, 1, 1)], 2, 16, [.int .i64 0, .int .i64 0], (.st 8), true⟩),
 (32, ⟨.func, 1, 8, [.aU], .bo, false⟩),
 (34, ⟨.func, 1, 8, [.aU], .bo, false⟩),
 (35, ⟨.func, 1, 8, [.aU], .bo, false⟩),
 (36, ⟨.func, 1, 8, [.aU], .bo, false⟩),
 (37, ⟨.int .u64, 1, 8, [.int .u64 0], (.int .u64), false⟩),
 (38, ⟨.func, 1, 8, [.aU], .bo, false⟩),
 (39, ⟨.func, 1, 8, [.aU], .bo, false⟩),
 (40, ⟨.func, 1, 8, [.aU], .bo, false⟩),
 (41, ⟨.func, 1, 8, [.aU], .bo, false⟩),
 (42, ⟨.func, 1, 8, [.aU], .bo, false⟩),
 (44, ⟨.func, 1, 8, [.aU], .bo, false⟩),
 (45, ⟨.func, 1, 8, [.aU], .bo, false⟩),
 (46, ⟨.func, 1, 8, [.aU], .bo, false⟩),
 (47, ⟨.func, 1, 8, [.aU], .bo, false⟩),
 (48, ⟨.func, 1, 8, [.aU], .bo, false⟩),
 (49, ⟨.func, 1, 8, [.aU], .bo, false⟩),
 (50, ⟨.func, 1, 8, [.aU], .bo, false⟩),
 (51, ⟨.slice 206, 1, 24, [.bI], (.sl (.int .u32)), false⟩),
 (52, ⟨.struct [(51, 0, 1), (51, 1, 1)], 2, 48, [.bI, .bI], (.st 9), false⟩),
 (53, ⟨.struct [(51, 0, 1), (51, 1, 1)], 2, 48, [.bI, .bI], (.st 10), false⟩),
 (54, ⟨.func, 1, 8, [.aU], .bo, false⟩),
 (55, ⟨.func, 1, 8, [.aU], .bo, false⟩),
 (56, ⟨.slice 3, 1, 24, [.bI], (.sl (.int .i64)), false⟩),
 (57, ⟨.func, 1, 8, [.aU], .bo, false⟩),
 (58, ⟨.func, 1, 8, [.aU], .bo, false⟩),
 (59, ⟨.func, 1, 8, [.aU], .bo, false⟩),
 (60, ⟨.func, 1, 8, [.aU], .bo, false⟩),
 (61, ⟨.func, 1, 8, [.aU], .bo, false⟩),
 (62, ⟨.func, 1, 8, [.aU], .bo, false⟩),
 (63, ⟨.func, 1, 8, [.aU], .bo, false⟩),
 (70, ⟨.func, 1, 8, [.aU], .bo, false⟩),
 (71, ⟨.struct [(3, 0, 1), (3, 1, 1), (3, 2, 1), (3, 3, 1), (22, 4, 1)], 5, 56, [.int .i64 0, .int .i64 0, .int .i64 0, .int .i64 0, .bI], (.st 11), false⟩),
 (72, ⟨.struct [(3, 0, 1), (3, 1, 1), (3, 2, 1), (3, 3, 1), (22, 4, 1)], 5, 56, [.int .i64 0, .int .i64 0, .int .i64 0, .int .i64 0, .bI], (.st 4), false⟩),
 (82, ⟨.func, 1, 8, [.aU], .bo, false⟩),
 (83, ⟨.slice 22, 1, 24, [.bI], (.sl (.sl .u8)), false⟩),
 (84, ⟨.func, 1, 8, [.aU], .bo, false⟩),
 (85, ⟨.ptr 183, 1, 8, [.dI], .bo, false⟩),
 (89, ⟨.func, 1, 8, [.aU], .bo, false⟩),
 (92, ⟨.struct [(3, 0, 1), (3, 1, 1)], 2, 16, [.int .i64 0, .int .i64 0], (.st 12), true⟩),
 (106, ⟨.func, 1, 8, [.aU], .bo, false⟩),
 (119, ⟨.func, 1, 8, [.aU], .bo, false⟩),
 (126, ⟨.ptr 215, 1, 8, [.dI], .bo, false⟩),
 (128, ⟨.func, 1, 8, [.aU], .bo, false⟩),
 (141, ⟨.int .u64, 1, 8, [.int .u64 0], (.int .u64), false⟩),
 (156, ⟨.struct [(37, 0, 1), (3, 1, 1)], 2, 16, [.int .u64 0, .int .i64 0], (.st 13), true⟩),
 (158, ⟨.slice 156, 1, 24, [.bI], (.sl (.st 13)), false⟩),
 (160, ⟨.struct [(85, 0, 1)], 1, 8, [.dI], .bo, false⟩),
 (164, ⟨.func, 1, 8, [.aU], .bo, false⟩),
 (169, ⟨.ptr 171, 1, 8, [.dI], .bo, false⟩),
 (171, ⟨.struct [(22, 0, 1), (3, 1, 1), (3, 2, 1), (3, 3, 1)], 4, 48, [.bI, .int .i64 0, .int .i64 0, .int .i64 0], (.st 14), false⟩),
 (181, ⟨.struct [(22, 0, 1), (3, 1, 1), (30, 2, 2)], 4, 48, [.bI, .int .i64 0, .int .i64 0, .int .i64 0], (.st 15), false⟩),
 (183, ⟨.struct [(181, 0, 4)], 4, 48, [.bI, .int .i64 0, .int .i64 0, .int .i64 0], (.st 16), false⟩),
 (185, ⟨.func, 1, 8, [.aU], .bo, false⟩),
 (191, ⟨.func, 1, 8, [.aU], .bo, false⟩),
 (192, ⟨.func, 1, 8, [.aU], .bo, false⟩),
 (197, ⟨.func, 1, 8, [.aU], .bo, false⟩),
 (200, ⟨.struct [(92, 0, 2)], 2, 16, [.int .i64 0, .int .i64 0], (.st 17), true⟩),
 (204, ⟨.slice 37, 1, 24, [.bI], (.sl (.int .u64)), false⟩),
 (206, ⟨.int .u32, 1, 4, [.int .u32 0], (.int .u32), false⟩),
 (210, ⟨.array 8 206, 8, 32, [.ai 8 .u32 (fun _ => 0)], (.ai 8 .u32), false⟩),
 (212, ⟨.struct [(210, 0, 8), (22, 8, 1), (3, 9, 1)], 10, 64, [.ai 8 .u32 (fun _ => 0), .bI, .int .i64 0], (.st 18), false⟩),
 (215, ⟨.struct [(212, 0, 10)], 10, 64, [.ai 8 .u32 (fun _ => 0), .bI, .int .i64 0], (.st 19), false⟩),
 (216, ⟨.func, 1, 8, [.aU], .bo, false⟩),
 (217, ⟨.func, 1, 8, [.aU], .bo, false⟩),
 (219, ⟨.func, 1, 8, [.aU], .bo, false⟩),
 (220, ⟨.func, 1, 8, [.aU], .bo, false⟩),
 (247, ⟨.map 3 164, 1, 8, [.uG], (.mp (.int .i64) (.a8 0)), false⟩),
 (250, ⟨.ptr 181, 1, 8, [.dI], .bo, false⟩),
 (256, ⟨.func, 1, 8, [.aU], .bo, false⟩),
 (274, ⟨.func, 1, 8, [.aU], .bo, false⟩),
 (275, ⟨.ptr 212, 1, 8, [.dI], .bo, false⟩),
 (293, ⟨.array 4 37, 4, 32, [.ai 4 .u64 (fun _ => 0)], (.ai 4 .u64), false⟩),
 (296, ⟨.array 16 206, 16, 64, [.ai 16 .u32 (fun _ => 0)], (.ai 16 .u32), false⟩),
 (297, ⟨.array 64 206, 64, 256, [.ai 64 .u32 (fun _ => 0)], (.ai 64 .u32), false⟩)]
def tt (t : TypeId) : Option (TI Sx) := look t Qf
end E
namespace E
theorem Oq : ∀ i, (tb i).fs.all Aq = true
 | 0 => rfl
 | 1 => rfl
 | 2 => rfl
 | 3 => rfl
 | 4 => rfl
 | 5 => rfl
 | 6 => rfl
 | 7 => rfl
 | 8 => rfl
 | 9 => rfl
 | 10 => rfl
 | 11 => rfl
 | 12 => rfl
 | 13 => rfl
 | 14 => rfl
 | 15 => rfl
 | 16 => rfl
 | 17 => rfl
 | 18 => rfl
 | 19 => rfl
 | _ + 20 => rfl
theorem max_ : ∀ i, (tb i).fs.all (fun c => Nat.ble (qG c) i) = true
 | 0 => rfl
 | 1 => rfl
 | 2 => rfl
 | 3 => rfl
 | 4 => rfl
 | 5 => rfl
 | 6 => rfl
 | 7 => rfl
 | 8 => rfl
 | 9 => rfl
 | 10 => rfl
 | 11 => rfl
 | 12 => rfl
 | 13 => rfl
 | 14 => rfl
 | 15 => rfl
 | 16 => rfl
 | 17 => rfl
 | 18 => rfl
 | 19 => rfl
 | _ + 20 => by simp [tb, qG]
theorem Ra : ∀ i, (tb i).fs ≠ []
 | 0 => (fun h => by cases h)
 | 1 => (fun h => by cases h)
 | 2 => (fun h => by cases h)
 | 3 => (fun h => by cases h)
 | 4 => (fun h => by cases h)
 | 5 => (fun h => by cases h)
 | 6 => (fun h => by cases h)
 | 7 => (fun h => by cases h)
 | 8 => (fun h => by cases h)
 | 9 => (fun h => by cases h)
 | 10 => (fun h => by cases h)
 | 11 => (fun h => by cases h)
 | 12 => (fun h => by cases h)
 | 13 => (fun h => by cases h)
 | 14 => (fun h => by cases h)
 | 15 => (fun h => by cases h)
 | 16 => (fun h => by cases h)
 | 17 => (fun h => by cases h)
 | 18 => (fun h => by cases h)
 | 19 => (fun h => by cases h)
 | _ + 20 => (fun h => by cases h)
theorem MW : ∀ i (h : HL Sx (tb i).fs), (tb i).to ((tb i).of h) = h
 | 0, _ => rfl
 | 1, _ => rfl
 | 2, _ => rfl
 | 3, _ => rfl
 | 4, _ => rfl
 | 5, _ => rfl
 | 6, _ => rfl
 | 7, _ => rfl
 | 8, _ => rfl
 | 9, _ => rfl
 | 10, _ => rfl
 | 11, _ => rfl
 | 12, _ => rfl
 | 13, _ => rfl
 | 14, _ => rfl
 | 15, _ => rfl
 | 16, _ => rfl
 | 17, _ => rfl
 | 18, _ => rfl
 | 19, _ => rfl
 | _ + 20, _ => rfl
noncomputable def KT : cV tb := QH (MR Tryz.prog) Bx Q3 Oq (fun i c hc => Nat.le_of_ble_eq_true (List.all_eq_true.1 (max_ i) c hc)) Ra MW
theorem QJ : aV Tryz.prog 1 (⟨.func, 1, 8, [.aU], .bo, false⟩ : TI Sx) := ⟨(show (Tryz.prog.underlying 1).map aM = some true by kernel_rfl), by kernel_rfl, by kernel_rfl, by kernel_rfl, fun _ => rfl⟩
theorem QK : aV Tryz.prog 2 (⟨.int .i64, 1, 8, [.int .i64 0], (.int .i64), false⟩ : TI Sx) := ⟨(show Tryz.prog.underlying 2 = some (.int .i64) by kernel_rfl), by kernel_rfl, by kernel_rfl, by kernel_rfl, fun _ => rfl⟩
theorem QL : aV Tryz.prog 3 (⟨.int .i64, 1, 8, [.int .i64 0], (.int .i64), false⟩ : TI Sx) := ⟨(show Tryz.prog.underlying 3 = some (.int .i64) by kernel_rfl), by kernel_rfl, by kernel_rfl, by kernel_rfl, fun _ => rfl⟩
theorem QM : aV Tryz.prog 4 (⟨.bool, 1, 1, [.tt false], .bo, false⟩ : TI Sx) := ⟨(show Tryz.prog.underlying 4 = some (.bool) by kernel_rfl), by kernel_rfl, by kernel_rfl, by kernel_rfl, fun _ => rfl⟩
theorem QN : aV Tryz.prog 5 (⟨.int .u8, 1, 1, [.u8 0], .u8, false⟩ : TI Sx) := ⟨(show Tryz.prog.underlying 5 = some (.int .u8) by kernel_rfl), by kernel_rfl, by kernel_rfl, by kernel_rfl, fun _ => rfl⟩
theorem QO : aV Tryz.prog 6 (⟨.int .u8, 1, 1, [.u8 0], .u8, false⟩ : TI Sx) := ⟨(show Tryz.prog.underlying 6 = some (.int .u8) by kernel_rfl), by kernel_rfl, by kernel_rfl, by kernel_rfl, fun _ => rfl⟩
theorem QP : aV Tryz.prog 7 (⟨.struct [(2, 0, 1), (3, 1, 1), (4, 2, 1), (6, 3, 1)], 4, 24, [.int .i64 0, .int .i64 0, .tt false, .u8 0], (.st 0), true⟩ : TI Sx) := ⟨(show jy Tryz.prog 7 = some [(2, 0, 1), (3, 1, 1), (4, 2, 1), (6, 3, 1)] by kernel_rfl), by kernel_rfl, by kernel_rfl, by kernel_rfl, fun h => by cases h⟩
theorem QR : aV Tryz.prog 8 (⟨.struct [(2, 0, 1), (3, 1, 1), (4, 2, 1), (6, 3, 1)], 4, 24, [.int .i64 0, .int .i64 0, .tt false, .u8 0], (.st 1), true⟩ : TI Sx) := ⟨(show jy Tryz.prog 8 = some [(2, 0, 1), (3, 1, 1), (4, 2, 1), (6, 3, 1)] by kernel_rfl), by kernel_rfl, by kernel_rfl, by kernel_rfl, fun h => by cases h⟩
theorem QS : aV Tryz.prog 9 (⟨.str, 1, 16, [.str []], .str, false⟩ : TI Sx) := ⟨(show Tryz.prog.underlying 9 = some (.string) by kernel_rfl), by kernel_rfl, by kernel_rfl, by kernel_rfl, fun _ => rfl⟩
theorem O3 : aV Tryz.prog 10 (⟨.str, 1, 16, [.str []], .str, false⟩ : TI Sx) := ⟨(show Tryz.prog.underlying 10 = some (.string) by kernel_rfl), by kernel_rfl, by kernel_rfl, by kernel_rfl, fun _ => rfl⟩
theorem O4 : aV Tryz.prog 11 (⟨.str, 1, 16, [.str []], .str, false⟩ : TI Sx) := ⟨(show Tryz.prog.underlying 11 = some (.string) by kernel_rfl), by kernel_rfl, by kernel_rfl, by kernel_rfl, fun _ => rfl⟩
theorem O5 : aV Tryz.prog 12 (⟨.int .u64, 1, 8, [.int .u64 0], (.int .u64), false⟩ : TI Sx) := ⟨(show Tryz.prog.underlying 12 = some (.int .u64) by kernel_rfl), by kernel_rfl, by kernel_rfl, by kernel_rfl, fun _ => rfl⟩
theorem O6 : aV Tryz.prog 13 (⟨.struct [(9, 0, 1), (12, 1, 1)], 2, 24, [.str [], .int .u64 0], (.st 2), false⟩ : TI Sx) := ⟨(show jy Tryz.prog 13 = some [(9, 0, 1), (12, 1, 1)] by kernel_rfl), by kernel_rfl, by kernel_rfl, by kernel_rfl, fun h => by cases h⟩
theorem O7 : aV Tryz.prog 14 (⟨.struct [(9, 0, 1), (12, 1, 1)], 2, 24, [.str [], .int .u64 0], (.st 3), false⟩ : TI Sx) := ⟨(show jy Tryz.prog 14 = some [(9, 0, 1), (12, 1, 1)] by kernel_rfl), by kernel_rfl, by kernel_rfl, by kernel_rfl, fun h => by cases h⟩
theorem O8 : aV Tryz.prog 15 (⟨.ptr 328, 1, 8, [.dI], .bo, false⟩ : TI Sx) := ⟨(show Tryz.prog.underlying 15 = some (.pointer 328) by kernel_rfl), by kernel_rfl, by kernel_rfl, by kernel_rfl, fun _ => rfl⟩
theorem O9 : aV Tryz.prog 16 (⟨.ptr 331, 1, 8, [.dI], .bo, false⟩ : TI Sx) := ⟨(show Tryz.prog.underlying 16 = some (.pointer 331) by kernel_rfl), by kernel_rfl, by kernel_rfl, by kernel_rfl, fun _ => rfl⟩
theorem Pa : aV Tryz.prog 17 (⟨.ptr 339, 1, 8, [.dI], .bo, false⟩ : TI Sx) := ⟨(show Tryz.prog.underlying 17 = some (.pointer 339) by kernel_rfl), by kernel_rfl, by kernel_rfl, by kernel_rfl, fun _ => rfl⟩
theorem Pb : aV Tryz.prog 18 (⟨.struct [(17, 0, 1)], 1, 8, [.dI], .bo, false⟩ : TI Sx) := ⟨(show jy Tryz.prog 18 = some [(17, 0, 1)] by kernel_rfl), by kernel_rfl, by kernel_rfl, by kernel_rfl, fun h => by cases h⟩
theorem Pc : aV Tryz.prog 19 (⟨.struct [(17, 0, 1)], 1, 8, [.dI], .bo, false⟩ : TI Sx) := ⟨(show jy Tryz.prog 19 = some [(17, 0, 1)] by kernel_rfl), by kernel_rfl, by kernel_rfl, by kernel_rfl, fun h => by cases h⟩
theorem Pd : aV Tryz.prog 20 (⟨.iface, 1, 16, [.ru], .bo, false⟩ : TI Sx) := ⟨(show (Tryz.prog.underlying 20).map rq = some false by kernel_rfl), by kernel_rfl, by kernel_rfl, by kernel_rfl, fun _ => rfl⟩
theorem Pe : aV Tryz.prog 21 (⟨.int .i32, 1, 4, [.int .i32 0], (.int .i32), false⟩ : TI Sx) := ⟨(show Tryz.prog.underlying 21 = some (.int .i32) by kernel_rfl), by kernel_rfl, by kernel_rfl, by kernel_rfl, fun _ => rfl⟩
theorem Pf : aV Tryz.prog 22 (⟨.slice 5, 1, 24, [.bI], (.sl .u8), false⟩ : TI Sx) := ⟨(show Tryz.prog.underlying 22 = some (.slice 5) by kernel_rfl), by kernel_rfl, by kernel_rfl, by kernel_rfl, fun _ => rfl⟩
theorem Pg : aV Tryz.prog 23 (⟨.func, 1, 8, [.aU], .bo, false⟩ : TI Sx) := ⟨(show (Tryz.prog.underlying 23).map aM = some true by kernel_rfl), by kernel_rfl, by kernel_rfl, by kernel_rfl, fun _ => rfl⟩
theorem Ph : aV Tryz.prog 24 (⟨.array 32 5, 32, 32, [.a8 32 (fun _ => 0)], (.a8 32), true⟩ : TI Sx) := ⟨(show Tryz.prog.underlying 24 = some (.array 32 5) by kernel_rfl), by kernel_rfl, by kernel_rfl, by kernel_rfl, fun h => by cases h⟩
theorem Pj : aV Tryz.prog 25 (⟨.slice 72, 1, 24, [.bI], (.sl (.st 4)), false⟩ : TI Sx) := ⟨(show Tryz.prog.underlying 25 = some (.slice 72) by kernel_rfl), by kernel_rfl, by kernel_rfl, by kernel_rfl, fun _ => rfl⟩
theorem Pk : aV Tryz.prog 26 (⟨.struct [(3, 0, 1), (3, 1, 1), (24, 2, 32), (24, 34, 32), (25, 66, 1)], 67, 104, [.int .i64 0, .int .i64 0, .a8 32 (fun _ => 0), .a8 32 (fun _ => 0), .bI], (.st 5), false⟩ : TI Sx) := ⟨(show jy Tryz.prog 26 = some [(3, 0, 1), (3, 1, 1), (24, 2, 32), (24, 34, 32), (25, 66, 1)] by kernel_rfl), by kernel_rfl, by kernel_rfl, by kernel_rfl, fun h => by cases h⟩
theorem Pl : aV Tryz.prog 27 (⟨.struct [(3, 0, 1), (3, 1, 1), (24, 2, 32), (24, 34, 32), (25, 66, 1)], 67, 104, [.int .i64 0, .int .i64 0, .a8 32 (fun _ => 0), .a8 32 (fun _ => 0), .bI], (.st 6), false⟩ : TI Sx) := ⟨(show jy Tryz.prog 27 = some [(3, 0, 1), (3, 1, 1), (24, 2, 32), (24, 34, 32), (25, 66, 1)] by kernel_rfl), by kernel_rfl, by kernel_rfl, by kernel_rfl, fun h => by cases h⟩
theorem Pn : aV Tryz.prog 28 (⟨.int .i64, 1, 8, [.int .i64 0], (.int .i64), false⟩ : TI Sx) := ⟨(show Tryz.prog.underlying 28 = some (.int .i64) by kernel_rfl), by kernel_rfl, by kernel_rfl, by kernel_rfl, fun _ => rfl⟩
theorem Po : aV Tryz.prog 29 (⟨.struct [(28, 0, 1), (3, 1, 1)], 2, 16, [.int .i64 0, .int .i64 0], (.st 7), true⟩ : TI Sx) := ⟨(show jy Tryz.prog 29 = some [(28, 0, 1), (3, 1, 1)] by kernel_rfl), by kernel_rfl, by kernel_rfl, by kernel_rfl, fun h => by cases h⟩
theorem Pp : aV Tryz.prog 30 (⟨.struct [(28, 0, 1), (3, 1, 1)], 2, 16, [.int .i64 0, .int .i64 0], (.st 8), true⟩ : TI Sx) := ⟨(show jy Tryz.prog 30 = some [(28, 0, 1), (3, 1, 1)] by kernel_rfl), by kernel_rfl, by kernel_rfl, by kernel_rfl, fun h => by cases h⟩
theorem Pq : aV Tryz.prog 32 (⟨.func, 1, 8, [.aU], .bo, false⟩ : TI Sx) := ⟨(show (Tryz.prog.underlying 32).map aM = some true by kernel_rfl), by kernel_rfl, by kernel_rfl, by kernel_rfl, fun _ => rfl⟩
theorem Pr : aV Tryz.prog 34 (⟨.func, 1, 8, [.aU], .bo, false⟩ : TI Sx) := ⟨(show (Tryz.prog.underlying 34).map aM = some true by kernel_rfl), by kernel_rfl, by kernel_rfl, by kernel_rfl, fun _ => rfl⟩
theorem Ps : aV Tryz.prog 35 (⟨.func, 1, 8, [.aU], .bo, false⟩ : TI Sx) := ⟨(show (Tryz.prog.underlying 35).map aM = some true by kernel_rfl), by kernel_rfl, by kernel_rfl, by kernel_rfl, fun _ => rfl⟩
theorem Pu : aV Tryz.prog 36 (⟨.func, 1, 8, [.aU], .bo, false⟩ : TI Sx) := ⟨(show (Tryz.prog.underlying 36).map aM = some true by kernel_rfl), by kernel_rfl, by kernel_rfl, by kernel_rfl, fun _ => rfl⟩
theorem Pv : aV Tryz.prog 37 (⟨.int .u64, 1, 8, [.int .u64 0], (.int .u64), false⟩ : TI Sx) := ⟨(show Tryz.prog.underlying 37 = some (.int .u64) by kernel_rfl), by kernel_rfl, by kernel_rfl, by kernel_rfl, fun _ => rfl⟩
theorem Pw : aV Tryz.prog 38 (⟨.func, 1, 8, [.aU], .bo, false⟩ : TI Sx) := ⟨(show (Tryz.prog.underlying 38).map aM = some true by kernel_rfl), by kernel_rfl, by kernel_rfl, by kernel_rfl, fun _ => rfl⟩
theorem Px : aV Tryz.prog 39 (⟨.func, 1, 8, [.aU], .bo, false⟩ : TI Sx) := ⟨(show (Tryz.prog.underlying 39).map aM = some true by kernel_rfl), by kernel_rfl, by kernel_rfl, by kernel_rfl, fun _ => rfl⟩
theorem Py : aV Tryz.prog 40 (⟨.func, 1, 8, [.aU], .bo, false⟩ : TI Sx) := ⟨(show (Tryz.prog.underlying 40).map aM = some true by kernel_rfl), by kernel_rfl, by kernel_rfl, by kernel_rfl, fun _ => rfl⟩
theorem Pz : aV Tryz.prog 41 (⟨.func, 1, 8, [.aU], .bo, false⟩ : TI Sx) := ⟨(show (Tryz.prog.underlying 41).map aM = some true by kernel_rfl), by kernel_rfl, by kernel_rfl, by kernel_rfl, fun _ => rfl⟩
theorem PA : aV Tryz.prog 42 (⟨.func, 1, 8, [.aU], .bo, false⟩ : TI Sx) := ⟨(show (Tryz.prog.underlying 42).map aM = some true by kernel_rfl), by kernel_rfl, by kernel_rfl, by kernel_rfl, fun _ => rfl⟩
theorem PB : aV Tryz.prog 44 (⟨.func, 1, 8, [.aU], .bo, false⟩ : TI Sx) := ⟨(show (Tryz.prog.underlying 44).map aM = some true by kernel_rfl), by kernel_rfl, by kernel_rfl, by kernel_rfl, fun _ => rfl⟩
theorem PC : aV Tryz.prog 45 (⟨.func, 1, 8, [.aU], .bo, false⟩ : TI Sx) := ⟨(show (Tryz.prog.underlying 45).map aM = some true by kernel_rfl), by kernel_rfl, by kernel_rfl, by kernel_rfl, fun _ => rfl⟩
theorem PD : aV Tryz.prog 46 (⟨.func, 1, 8, [.aU], .bo, false⟩ : TI Sx) := ⟨(show (Tryz.prog.underlying 46).map aM = some true by kernel_rfl), by kernel_rfl, by kernel_rfl, by kernel_rfl, fun _ => rfl⟩
theorem PE : aV Tryz.prog 47 (⟨.func, 1, 8, [.aU], .bo, false⟩ : TI Sx) := ⟨(show (Tryz.prog.underlying 47).map aM = some true by kernel_rfl), by kernel_rfl, by kernel_rfl, by kernel_rfl, fun _ => rfl⟩
theorem PF : aV Tryz.prog 48 (⟨.func, 1, 8, [.aU], .bo, false⟩ : TI Sx) := ⟨(show (Tryz.prog.underlying 48).map aM = some true by kernel_rfl), by kernel_rfl, by kernel_rfl, by kernel_rfl, fun _ => rfl⟩
theorem PG : aV Tryz.prog 49 (⟨.func, 1, 8, [.aU], .bo, false⟩ : TI Sx) := ⟨(show (Tryz.prog.underlying 49).map aM = some true by kernel_rfl), by kernel_rfl, by kernel_rfl, by kernel_rfl, fun _ => rfl⟩
theorem PH : aV Tryz.prog 50 (⟨.func, 1, 8, [.aU], .bo, false⟩ : TI Sx) := ⟨(show (Tryz.prog.underlying 50).map aM = some true by kernel_rfl), by kernel_rfl, by kernel_rfl, by kernel_rfl, fun _ => rfl⟩
theorem PI : aV Tryz.prog 51 (⟨.slice 206, 1, 24, [.bI], (.sl (.int .u32)), false⟩ : TI Sx) := ⟨(show Tryz.prog.underlying 51 = some (.slice 206) by kernel_rfl), by kernel_rfl, by kernel_rfl, by kernel_rfl, fun _ => rfl⟩
theorem PJ : aV Tryz.prog 52 (⟨.struct [(51, 0, 1), (51, 1, 1)], 2, 48, [.bI, .bI], (.st 9), false⟩ : TI Sx) := ⟨(show jy Tryz.prog 52 = some [(51, 0, 1), (51, 1, 1)] by kernel_rfl), by kernel_rfl, by kernel_rfl, by kernel_rfl, fun h => by cases h⟩
theorem PK : aV Tryz.prog 53 (⟨.struct [(51, 0, 1), (51, 1, 1)], 2, 48, [.bI, .bI], (.st 10), false⟩ : TI Sx) := ⟨(show jy Tryz.prog 53 = some [(51, 0, 1), (51, 1, 1)] by kernel_rfl), by kernel_rfl, by kernel_rfl, by kernel_rfl, fun h => by cases h⟩
theorem PL : aV Tryz.prog 54 (⟨.func, 1, 8, [.aU], .bo, false⟩ : TI Sx) := ⟨(show (Tryz.prog.underlying 54).map aM = some true by kernel_rfl), by kernel_rfl, by kernel_rfl, by kernel_rfl, fun _ => rfl⟩
theorem PM : aV Tryz.prog 55 (⟨.func, 1, 8, [.aU], .bo, false⟩ : TI Sx) := ⟨(show (Tryz.prog.underlying 55).map aM = some true by kernel_rfl), by kernel_rfl, by kernel_rfl, by kernel_rfl, fun _ => rfl⟩
theorem PN : aV Tryz.prog 56 (⟨.slice 3, 1, 24, [.bI], (.sl (.int .i64)), false⟩ : TI Sx) := ⟨(show Tryz.prog.underlying 56 = some (.slice 3) by kernel_rfl), by kernel_rfl, by kernel_rfl, by kernel_rfl, fun _ => rfl⟩
theorem PO : aV Tryz.prog 57 (⟨.func, 1, 8, [.aU], .bo, false⟩ : TI Sx) := ⟨(show (Tryz.prog.underlying 57).map aM = some true by kernel_rfl), by kernel_rfl, by kernel_rfl, by kernel_rfl, fun _ => rfl⟩
theorem PQ : aV Tryz.prog 58 (⟨.func, 1, 8, [.aU], .bo, false⟩ : TI Sx) := ⟨(show (Tryz.prog.underlying 58).map aM = some true by kernel_rfl), by kernel_rfl, by kernel_rfl, by kernel_rfl, fun _ => rfl⟩
theorem PR : aV Tryz.prog 59 (⟨.func, 1, 8, [.aU], .bo, false⟩ : TI Sx) := ⟨(show (Tryz.prog.underlying 59).map aM = some true by kernel_rfl), by kernel_rfl, by kernel_rfl, by kernel_rfl, fun _ => rfl⟩
theorem PT : aV Tryz.prog 60 (⟨.func, 1, 8, [.aU], .bo, false⟩ : TI Sx) := ⟨(show (Tryz.prog.underlying 60).map aM = some true by kernel_rfl), by kernel_rfl, by kernel_rfl, by kernel_rfl, fun _ => rfl⟩
theorem PU : aV Tryz.prog 61 (⟨.func, 1, 8, [.aU], .bo, false⟩ : TI Sx) := ⟨(show (Tryz.prog.underlying 61).map aM = some true by kernel_rfl), by kernel_rfl, by kernel_rfl, by kernel_rfl, fun _ => rfl⟩
theorem PV : aV Tryz.prog 62 (⟨.func, 1, 8, [.aU], .bo, false⟩ : TI Sx) := ⟨(show (Tryz.prog.underlying 62).map aM = some true by kernel_rfl), by kernel_rfl, by kernel_rfl, by kernel_rfl, fun _ => rfl⟩
theorem PW : aV Tryz.prog 63 (⟨.func, 1, 8, [.aU], .bo, false⟩ : TI Sx) := ⟨(show (Tryz.prog.underlying 63).map aM = some true by kernel_rfl), by kernel_rfl, by kernel_rfl, by kernel_rfl, fun _ => rfl⟩
theorem PX : aV Tryz.prog 70 (⟨.func, 1, 8, [.aU], .bo, false⟩ : TI Sx) := ⟨(show (Tryz.prog.underlying 70).map aM = some true by kernel_rfl), by kernel_rfl, by kernel_rfl, by kernel_rfl, fun _ => rfl⟩
theorem PY : aV Tryz.prog 71 (⟨.struct [(3, 0, 1), (3, 1, 1), (3, 2, 1), (3, 3, 1), (22, 4, 1)], 5, 56, [.int .i64 0, .int .i64 0, .int .i64 0, .int .i64 0, .bI], (.st 11), false⟩ : TI Sx) := ⟨(show jy Tryz.prog 71 = some [(3, 0, 1), (3, 1, 1), (3, 2, 1), (3, 3, 1), (22, 4, 1)] by kernel_rfl), by kernel_rfl, by kernel_rfl, by kernel_rfl, fun h => by cases h⟩
theorem PZ : aV Tryz.prog 72 (⟨.struct [(3, 0, 1), (3, 1, 1), (3, 2, 1), (3, 3, 1), (22, 4, 1)], 5, 56, [.int .i64 0, .int .i64 0, .int .i64 0, .int .i64 0, .bI], (.st 4), false⟩ : TI Sx) := ⟨(show jy Tryz.prog 72 = some [(3, 0, 1), (3, 1, 1), (3, 2, 1), (3, 3, 1), (22, 4, 1)] by kernel_rfl), by kernel_rfl, by kernel_rfl, by kernel_rfl, fun h => by cases h⟩
theorem P0 : aV Tryz.prog 82 (⟨.func, 1, 8, [.aU], .bo, false⟩ : TI Sx) := ⟨(show (Tryz.prog.underlying 82).map aM = some true by kernel_rfl), by kernel_rfl, by kernel_rfl, by kernel_rfl, fun _ => rfl⟩
theorem P1 : aV Tryz.prog 83 (⟨.slice 22, 1, 24, [.bI], (.sl (.sl .u8)), false⟩ : TI Sx) := ⟨(show Tryz.prog.underlying 83 = some (.slice 22) by kernel_rfl), by kernel_rfl, by kernel_rfl, by kernel_rfl, fun _ => rfl⟩
theorem P2 : aV Tryz.prog 84 (⟨.func, 1, 8, [.aU], .bo, false⟩ : TI Sx) := ⟨(show (Tryz.prog.underlying 84).map aM = some true by kernel_rfl), by kernel_rfl, by kernel_rfl, by kernel_rfl, fun _ => rfl⟩
theorem P3 : aV Tryz.prog 85 (⟨.ptr 183, 1, 8, [.dI], .bo, false⟩ : TI Sx) := ⟨(show Tryz.prog.underlying 85 = some (.pointer 183) by kernel_rfl), by kernel_rfl, by kernel_rfl, by kernel_rfl, fun _ => rfl⟩
theorem P4 : aV Tryz.prog 89 (⟨.func, 1, 8, [.aU], .bo, false⟩ : TI Sx) := ⟨(show (Tryz.prog.underlying 89).map aM = some true by kernel_rfl), by kernel_rfl, by kernel_rfl, by kernel_rfl, fun _ => rfl⟩
theorem P5 : aV Tryz.prog 92 (⟨.struct [(3, 0, 1), (3, 1, 1)], 2, 16, [.int .i64 0, .int .i64 0], (.st 12), true⟩ : TI Sx) := ⟨(show jy Tryz.prog 92 = some [(3, 0, 1), (3, 1, 1)] by kernel_rfl), by kernel_rfl, by kernel_rfl, by kernel_rfl, fun h => by cases h⟩
theorem MX : aV Tryz.prog 106 (⟨.func, 1, 8, [.aU], .bo, false⟩ : TI Sx) := ⟨(show (Tryz.prog.underlying 106).map aM = some true by kernel_rfl), by kernel_rfl, by kernel_rfl, by kernel_rfl, fun _ => rfl⟩
theorem MY : aV Tryz.prog 119 (⟨.func, 1, 8, [.aU], .bo, false⟩ : TI Sx) := ⟨(show (Tryz.prog.underlying 119).map aM = some true by kernel_rfl), by kernel_rfl, by kernel_rfl, by kernel_rfl, fun _ => rfl⟩
theorem MZ : aV Tryz.prog 126 (⟨.ptr 215, 1, 8, [.dI], .bo, false⟩ : TI Sx) := ⟨(show Tryz.prog.underlying 126 = some (.pointer 215) by kernel_rfl), by kernel_rfl, by kernel_rfl, by kernel_rfl, fun _ => rfl⟩
theorem M1 : aV Tryz.prog 128 (⟨.func, 1, 8, [.aU], .bo, false⟩ : TI Sx) := ⟨(show (Tryz.prog.underlying 128).map aM = some true by kernel_rfl), by kernel_rfl, by kernel_rfl, by kernel_rfl, fun _ => rfl⟩
theorem M3 : aV Tryz.prog 141 (⟨.int .u64, 1, 8, [.int .u64 0], (.int .u64), false⟩ : TI Sx) := ⟨(show Tryz.prog.underlying 141 = some (.int .u64) by kernel_rfl), by kernel_rfl, by kernel_rfl, by kernel_rfl, fun _ => rfl⟩
theorem M4 : aV Tryz.prog 156 (⟨.struct [(37, 0, 1), (3, 1, 1)], 2, 16, [.int .u64 0, .int .i64 0], (.st 13), true⟩ : TI Sx) := ⟨(show jy Tryz.prog 156 = some [(37, 0, 1), (3, 1, 1)] by kernel_rfl), by kernel_rfl, by kernel_rfl, by kernel_rfl, fun h => by cases h⟩
theorem M5 : aV Tryz.prog 158 (⟨.slice 156, 1, 24, [.bI], (.sl (.st 13)), false⟩ : TI Sx) := ⟨(show Tryz.prog.underlying 158 = some (.slice 156) by kernel_rfl), by kernel_rfl, by kernel_rfl, by kernel_rfl, fun _ => rfl⟩
theorem M6 : aV Tryz.prog 160 (⟨.struct [(85, 0, 1)], 1, 8, [.dI], .bo, false⟩ : TI Sx) := ⟨(show jy Tryz.prog 160 = some [(85, 0, 1)] by kernel_rfl), by kernel_rfl, by kernel_rfl, by kernel_rfl, fun h => by cases h⟩
theorem M7 : aV Tryz.prog 164 (⟨.func, 1, 8, [.aU], .bo, false⟩ : TI Sx) := ⟨(show (Tryz.prog.underlying 164).map aM = some true by kernel_rfl), by kernel_rfl, by kernel_rfl, by kernel_rfl, fun _ => rfl⟩
theorem M8 : aV Tryz.prog 169 (⟨.ptr 171, 1, 8, [.dI], .bo, false⟩ : TI Sx) := ⟨(show Tryz.prog.underlying 169 = some (.pointer 171) by kernel_rfl), by kernel_rfl, by kernel_rfl, by kernel_rfl, fun _ => rfl⟩
theorem M9 : aV Tryz.prog 171 (⟨.struct [(22, 0, 1), (3, 1, 1), (3, 2, 1), (3, 3, 1)], 4, 48, [.bI, .int .i64 0, .int .i64 0, .int .i64 0], (.st 14), false⟩ : TI Sx) := ⟨(show jy Tryz.prog 171 = some [(22, 0, 1), (3, 1, 1), (3, 2, 1), (3, 3, 1)] by kernel_rfl), by kernel_rfl, by kernel_rfl, by kernel_rfl, fun h => by cases h⟩
theorem Na : aV Tryz.prog 181 (⟨.struct [(22, 0, 1), (3, 1, 1), (30, 2, 2)], 4, 48, [.bI, .int .i64 0, .int .i64 0, .int .i64 0], (.st 15), false⟩ : TI Sx) := ⟨(show jy Tryz.prog 181 = some [(22, 0, 1), (3, 1, 1), (30, 2, 2)] by kernel_rfl), by kernel_rfl, by kernel_rfl, by kernel_rfl, fun h => by cases h⟩
theorem Nb : aV Tryz.prog 183 (⟨.struct [(181, 0, 4)], 4, 48, [.bI, .int .i64 0, .int .i64 0, .int .i64 0], (.st 16), false⟩ : TI Sx) := ⟨(show jy Tryz.prog 183 = some [(181, 0, 4)] by kernel_rfl), by kernel_rfl, by kernel_rfl, by kernel_rfl, fun h => by cases h⟩
theorem Nc : aV Tryz.prog 185 (⟨.func, 1, 8, [.aU], .bo, false⟩ : TI Sx) := ⟨(show (Tryz.prog.underlying 185).map aM = some true by kernel_rfl), by kernel_rfl, by kernel_rfl, by kernel_rfl, fun _ => rfl⟩
theorem Nd : aV Tryz.prog 191 (⟨.func, 1, 8, [.aU], .bo, false⟩ : TI Sx) := ⟨(show (Tryz.prog.underlying 191).map aM = some true by kernel_rfl), by kernel_rfl, by kernel_rfl, by kernel_rfl, fun _ => rfl⟩
theorem Nf : aV Tryz.prog 192 (⟨.func, 1, 8, [.aU], .bo, false⟩ : TI Sx) := ⟨(show (Tryz.prog.underlying 192).map aM = some true by kernel_rfl), by kernel_rfl, by kernel_rfl, by kernel_rfl, fun _ => rfl⟩
theorem Ng : aV Tryz.prog 197 (⟨.func, 1, 8, [.aU], .bo, false⟩ : TI Sx) := ⟨(show (Tryz.prog.underlying 197).map aM = some true by kernel_rfl), by kernel_rfl, by kernel_rfl, by kernel_rfl, fun _ => rfl⟩
theorem Nh : aV Tryz.prog 200 (⟨.struct [(92, 0, 2)], 2, 16, [.int .i64 0, .int .i64 0], (.st 17), true⟩ : TI Sx) := ⟨(show jy Tryz.prog 200 = some [(92, 0, 2)] by kernel_rfl), by kernel_rfl, by kernel_rfl, by kernel_rfl, fun h => by cases h⟩
theorem Ni : aV Tryz.prog 204 (⟨.slice 37, 1, 24, [.bI], (.sl (.int .u64)), false⟩ : TI Sx) := ⟨(show Tryz.prog.underlying 204 = some (.slice 37) by kernel_rfl), by kernel_rfl, by kernel_rfl, by kernel_rfl, fun _ => rfl⟩
theorem Nj : aV Tryz.prog 206 (⟨.int .u32, 1, 4, [.int .u32 0], (.int .u32), false⟩ : TI Sx) := ⟨(show Tryz.prog.underlying 206 = some (.int .u32) by kernel_rfl), by kernel_rfl, by kernel_rfl, by kernel_rfl, fun _ => rfl⟩
theorem Nk : aV Tryz.prog 210 (⟨.array 8 206, 8, 32, [.ai 8 .u32 (fun _ => 0)], (.ai 8 .u32), false⟩ : TI Sx) := ⟨(show Tryz.prog.underlying 210 = some (.array 8 206) by kernel_rfl), by kernel_rfl, by kernel_rfl, by kernel_rfl, fun h => by cases h⟩
theorem Nl : aV Tryz.prog 212 (⟨.struct [(210, 0, 8), (22, 8, 1), (3, 9, 1)], 10, 64, [.ai 8 .u32 (fun _ => 0), .bI, .int .i64 0], (.st 18), false⟩ : TI Sx) := ⟨(show jy Tryz.prog 212 = some [(210, 0, 8), (22, 8, 1), (3, 9, 1)] by kernel_rfl), by kernel_rfl, by kernel_rfl, by kernel_rfl, fun h => by cases h⟩
theorem Nm : aV Tryz.prog 215 (⟨.struct [(212, 0, 10)], 10, 64, [.ai 8 .u32 (fun _ => 0), .bI, .int .i64 0], (.st 19), false⟩ : TI Sx) := ⟨(show jy Tryz.prog 215 = some [(212, 0, 10)] by kernel_rfl), by kernel_rfl, by kernel_rfl, by kernel_rfl, fun h => by cases h⟩
theorem Nn : aV Tryz.prog 216 (⟨.func, 1, 8, [.aU], .bo, false⟩ : TI Sx) := ⟨(show (Tryz.prog.underlying 216).map aM = some true by kernel_rfl), by kernel_rfl, by kernel_rfl, by kernel_rfl, fun _ => rfl⟩
theorem Np : aV Tryz.prog 217 (⟨.func, 1, 8, [.aU], .bo, false⟩ : TI Sx) := ⟨(show (Tryz.prog.underlying 217).map aM = some true by kernel_rfl), by kernel_rfl, by kernel_rfl, by kernel_rfl, fun _ => rfl⟩
theorem Nq : aV Tryz.prog 219 (⟨.func, 1, 8, [.aU], .bo, false⟩ : TI Sx) := ⟨(show (Tryz.prog.underlying 219).map aM = some true by kernel_rfl), by kernel_rfl, by kernel_rfl, by kernel_rfl, fun _ => rfl⟩
theorem Nr : aV Tryz.prog 220 (⟨.func, 1, 8, [.aU], .bo, false⟩ : TI Sx) := ⟨(show (Tryz.prog.underlying 220).map aM = some true by kernel_rfl), by kernel_rfl, by kernel_rfl, by kernel_rfl, fun _ => rfl⟩
theorem Ns : aV Tryz.prog 247 (⟨.map 3 164, 1, 8, [.uG], (.mp (.int .i64) (.a8 0)), false⟩ : TI Sx) := ⟨(show Tryz.prog.underlying 247 = some (.map 3 164) by kernel_rfl), by kernel_rfl, by kernel_rfl, by kernel_rfl, fun _ => rfl⟩
theorem Nt : aV Tryz.prog 250 (⟨.ptr 181, 1, 8, [.dI], .bo, false⟩ : TI Sx) := ⟨(show Tryz.prog.underlying 250 = some (.pointer 181) by kernel_rfl), by kernel_rfl, by kernel_rfl, by kernel_rfl, fun _ => rfl⟩
theorem Nu : aV Tryz.prog 256 (⟨.func, 1, 8, [.aU], .bo, false⟩ : TI Sx) := ⟨(show (Tryz.prog.underlying 256).map aM = some true by kernel_rfl), by kernel_rfl, by kernel_rfl, by kernel_rfl, fun _ => rfl⟩
theorem Nv : aV Tryz.prog 274 (⟨.func, 1, 8, [.aU], .bo, false⟩ : TI Sx) := ⟨(show (Tryz.prog.underlying 274).map aM = some true by kernel_rfl), by kernel_rfl, by kernel_rfl, by kernel_rfl, fun _ => rfl⟩
theorem Nw : aV Tryz.prog 275 (⟨.ptr 212, 1, 8, [.dI], .bo, false⟩ : TI Sx) := ⟨(show Tryz.prog.underlying 275 = some (.pointer 212) by kernel_rfl), by kernel_rfl, by kernel_rfl, by kernel_rfl, fun _ => rfl⟩
theorem Nx : aV Tryz.prog 293 (⟨.array 4 37, 4, 32, [.ai 4 .u64 (fun _ => 0)], (.ai 4 .u64), false⟩ : TI Sx) := ⟨(show Tryz.prog.underlying 293 = some (.array 4 37) by kernel_rfl), by kernel_rfl, by kernel_rfl, by kernel_rfl, fun h => by cases h⟩
theorem Ny : aV Tryz.prog 296 (⟨.array 16 206, 16, 64, [.ai 16 .u32 (fun _ => 0)], (.ai 16 .u32), false⟩ : TI Sx) := ⟨(show Tryz.prog.underlying 296 = some (.array 16 206) by kernel_rfl), by kernel_rfl, by kernel_rfl, by kernel_rfl, fun h => by cases h⟩
theorem Nz : aV Tryz.prog 297 (⟨.array 64 206, 64, 256, [.ai 64 .u32 (fun _ => 0)], (.ai 64 .u32), false⟩ : TI Sx) := ⟨(show Tryz.prog.underlying 297 = some (.array 64 206) by kernel_rfl), by kernel_rfl, by kernel_rfl, by kernel_rfl, fun h => by cases h⟩
set_option maxRecDepth 100000 in
theorem Oi (x0 : Int) (x1 : Int) (x2 : Bool) (x3 : UInt8) (y0 : Int) (y1 : Int) (y2 : Bool) (y3 : UInt8) (w : World) : (binOp .eql 7 (.agg #[.int .i64 x0, .int .i64 x1, .bool x2, .int .u8 (x3.toNat : Int)]) (.agg #[.int .i64 y0, .int .i64 y1, .bool y2, .int .u8 (y3.toNat : Int)])).run Tryz.prog w = .ok (.bool (decide (x0 = y0 ∧ x1 = y1 ∧ x2 = y2 ∧ (x3.toNat : Int) = (y3.toNat : Int)))) w := by
 simp [go_sem]; repeat' split
 all_goals simp_all
theorem eq_7 : Jf KT Tryz.prog 7 ([.int .i64 0, .int .i64 0, .tt false, .u8 0] : List (CV Sx)) := ⟨by kernel_rfl, fun g m vs ws p xs ys w hv hw hp h1 h2 => by
 obtain ⟨x0, _, rfl, hv1⟩ := bB hv
 obtain ⟨x1, _, rfl, hv2⟩ := bB hv1
 rcases we hv2 with ⟨x2, _, _, _, _, rfl, hv3⟩ | ⟨x2, _, rfl, hv3⟩
 all_goals
  obtain ⟨x3, _, rfl, hv4⟩ := wg hv3
  obtain rfl := ez hv4
  obtain ⟨y0, _, rfl, hw1⟩ := bB hw
  obtain ⟨y1, _, rfl, hw2⟩ := bB hw1
  rcases we hw2 with ⟨y2, _, _, _, _, rfl, hw3⟩ | ⟨y2, _, rfl, hw3⟩
  all_goals
   obtain ⟨y3, _, rfl, hw4⟩ := wg hw3
   obtain rfl := ez hw4
   obtain ⟨_, rfl, h1_1⟩ := bV h1
   obtain ⟨_, rfl, h1_2⟩ := bV h1_1
   first | obtain ⟨_, rfl, h1_3⟩ := Ad h1_2 | obtain ⟨_, rfl, h1_3⟩ := z9 h1_2
   obtain ⟨_, rfl, h1_4⟩ := Ae h1_3
   simp only [bq] at h1_4; subst h1_4
   obtain ⟨_, rfl, h2_1⟩ := bV h2
   obtain ⟨_, rfl, h2_2⟩ := bV h2_1
   first | obtain ⟨_, rfl, h2_3⟩ := Ad h2_2 | obtain ⟨_, rfl, h2_3⟩ := z9 h2_2
   obtain ⟨_, rfl, h2_4⟩ := Ae h2_3
   simp only [bq] at h2_4; subst h2_4
   simp only [vO, bit, Option.bind_some, Option.map_some, Option.some.injEq] at hp
   subst hp
   exact Oi x0 x1 x2 x3 y0 y1 y2 y3 w⟩
set_option maxRecDepth 100000 in
theorem Oj (x0 : Int) (x1 : Int) (x2 : Bool) (x3 : UInt8) (y0 : Int) (y1 : Int) (y2 : Bool) (y3 : UInt8) (w : World) : (binOp .eql 8 (.agg #[.int .i64 x0, .int .i64 x1, .bool x2, .int .u8 (x3.toNat : Int)]) (.agg #[.int .i64 y0, .int .i64 y1, .bool y2, .int .u8 (y3.toNat : Int)])).run Tryz.prog w = .ok (.bool (decide (x0 = y0 ∧ x1 = y1 ∧ x2 = y2 ∧ (x3.toNat : Int) = (y3.toNat : Int)))) w := by
 simp [go_sem]; repeat' split
 all_goals simp_all
theorem eq_8 : Jf KT Tryz.prog 8 ([.int .i64 0, .int .i64 0, .tt false, .u8 0] : List (CV Sx)) := ⟨by kernel_rfl, fun g m vs ws p xs ys w hv hw hp h1 h2 => by
 obtain ⟨x0, _, rfl, hv1⟩ := bB hv
 obtain ⟨x1, _, rfl, hv2⟩ := bB hv1
 rcases we hv2 with ⟨x2, _, _, _, _, rfl, hv3⟩ | ⟨x2, _, rfl, hv3⟩
 all_goals
  obtain ⟨x3, _, rfl, hv4⟩ := wg hv3
  obtain rfl := ez hv4
  obtain ⟨y0, _, rfl, hw1⟩ := bB hw
  obtain ⟨y1, _, rfl, hw2⟩ := bB hw1
  rcases we hw2 with ⟨y2, _, _, _, _, rfl, hw3⟩ | ⟨y2, _, rfl, hw3⟩
  all_goals
   obtain ⟨y3, _, rfl, hw4⟩ := wg hw3
   obtain rfl := ez hw4
   obtain ⟨_, rfl, h1_1⟩ := bV h1
   obtain ⟨_, rfl, h1_2⟩ := bV h1_1
   first | obtain ⟨_, rfl, h1_3⟩ := Ad h1_2 | obtain ⟨_, rfl, h1_3⟩ := z9 h1_2
   obtain ⟨_, rfl, h1_4⟩ := Ae h1_3
   simp only [bq] at h1_4; subst h1_4
   obtain ⟨_, rfl, h2_1⟩ := bV h2
   obtain ⟨_, rfl, h2_2⟩ := bV h2_1
   first | obtain ⟨_, rfl, h2_3⟩ := Ad h2_2 | obtain ⟨_, rfl, h2_3⟩ := z9 h2_2
   obtain ⟨_, rfl, h2_4⟩ := Ae h2_3
   simp only [bq] at h2_4; subst h2_4
   simp only [vO, bit, Option.bind_some, Option.map_some, Option.some.injEq] at hp
   subst hp
   exact Oj x0 x1 x2 x3 y0 y1 y2 y3 w⟩
theorem eq_24 : Jf KT Tryz.prog 24 ([.a8 32 (fun _ => 0)] : List (CV Sx)) := ⟨by kernel_rfl, fun g m vs ws p xs ys w hv hw hp h1 h2 => by cases vs <;> simp [kindOk] at hv⟩
set_option maxRecDepth 100000 in
theorem Mh (x0 : Int) (x1 : Int) (y0 : Int) (y1 : Int) (w : World) : (binOp .eql 29 (.agg #[.int .i64 x0, .int .i64 x1]) (.agg #[.int .i64 y0, .int .i64 y1])).run Tryz.prog w = .ok (.bool (decide (x0 = y0 ∧ x1 = y1))) w := by
 simp [go_sem]; repeat' split
 all_goals simp_all
theorem eq_29 : Jf KT Tryz.prog 29 ([.int .i64 0, .int .i64 0] : List (CV Sx)) := ⟨by kernel_rfl, fun g m vs ws p xs ys w hv hw hp h1 h2 => by
 obtain ⟨x0, _, rfl, hv1⟩ := bB hv
 obtain ⟨x1, _, rfl, hv2⟩ := bB hv1
 obtain rfl := ez hv2
 obtain ⟨y0, _, rfl, hw1⟩ := bB hw
 obtain ⟨y1, _, rfl, hw2⟩ := bB hw1
 obtain rfl := ez hw2
 obtain ⟨_, rfl, h1_1⟩ := bV h1
 obtain ⟨_, rfl, h1_2⟩ := bV h1_1
 simp only [bq] at h1_2; subst h1_2
 obtain ⟨_, rfl, h2_1⟩ := bV h2
 obtain ⟨_, rfl, h2_2⟩ := bV h2_1
 simp only [bq] at h2_2; subst h2_2
 simp only [vO, bit, Option.bind_some, Option.map_some, Option.some.injEq] at hp
 subst hp
 exact Mh x0 x1 y0 y1 w⟩
set_option maxRecDepth 100000 in
theorem Mi (x0 : Int) (x1 : Int) (y0 : Int) (y1 : Int) (w : World) : (binOp .eql 30 (.agg #[.int .i64 x0, .int .i64 x1]) (.agg #[.int .i64 y0, .int .i64 y1])).run Tryz.prog w = .ok (.bool (decide (x0 = y0 ∧ x1 = y1))) w := by
 simp [go_sem]; repeat' split
 all_goals simp_all
theorem eq_30 : Jf KT Tryz.prog 30 ([.int .i64 0, .int .i64 0] : List (CV Sx)) := ⟨by kernel_rfl, fun g m vs ws p xs ys w hv hw hp h1 h2 => by
 obtain ⟨x0, _, rfl, hv1⟩ := bB hv
 obtain ⟨x1, _, rfl, hv2⟩ := bB hv1
 obtain rfl := ez hv2
 obtain ⟨y0, _, rfl, hw1⟩ := bB hw
 obtain ⟨y1, _, rfl, hw2⟩ := bB hw1
 obtain rfl := ez hw2
 obtain ⟨_, rfl, h1_1⟩ := bV h1
 obtain ⟨_, rfl, h1_2⟩ := bV h1_1
 simp only [bq] at h1_2; subst h1_2
 obtain ⟨_, rfl, h2_1⟩ := bV h2
 obtain ⟨_, rfl, h2_2⟩ := bV h2_1
 simp only [bq] at h2_2; subst h2_2
 simp only [vO, bit, Option.bind_some, Option.map_some, Option.some.injEq] at hp
 subst hp
 exact Mi x0 x1 y0 y1 w⟩
set_option maxRecDepth 100000 in
theorem Mj (x0 : Int) (x1 : Int) (y0 : Int) (y1 : Int) (w : World) : (binOp .eql 92 (.agg #[.int .i64 x0, .int .i64 x1]) (.agg #[.int .i64 y0, .int .i64 y1])).run Tryz.prog w = .ok (.bool (decide (x0 = y0 ∧ x1 = y1))) w := by
 simp [go_sem]; repeat' split
 all_goals simp_all
theorem Ol : Jf KT Tryz.prog 92 ([.int .i64 0, .int .i64 0] : List (CV Sx)) := ⟨by kernel_rfl, fun g m vs ws p xs ys w hv hw hp h1 h2 => by
 obtain ⟨x0, _, rfl, hv1⟩ := bB hv
 obtain ⟨x1, _, rfl, hv2⟩ := bB hv1
 obtain rfl := ez hv2
 obtain ⟨y0, _, rfl, hw1⟩ := bB hw
 obtain ⟨y1, _, rfl, hw2⟩ := bB hw1
 obtain rfl := ez hw2
 obtain ⟨_, rfl, h1_1⟩ := bV h1
 obtain ⟨_, rfl, h1_2⟩ := bV h1_1
 simp only [bq] at h1_2; subst h1_2
 obtain ⟨_, rfl, h2_1⟩ := bV h2
 obtain ⟨_, rfl, h2_2⟩ := bV h2_1
 simp only [bq] at h2_2; subst h2_2
 simp only [vO, bit, Option.bind_some, Option.map_some, Option.some.injEq] at hp
 subst hp
 exact Mj x0 x1 y0 y1 w⟩
set_option maxRecDepth 100000 in
theorem JK (x0 : Int) (x1 : Int) (y0 : Int) (y1 : Int) (w : World) : (binOp .eql 156 (.agg #[.int .u64 x0, .int .i64 x1]) (.agg #[.int .u64 y0, .int .i64 y1])).run Tryz.prog w = .ok (.bool (decide (x0 = y0 ∧ x1 = y1))) w := by
 simp [go_sem]; repeat' split
 all_goals simp_all
theorem Mm : Jf KT Tryz.prog 156 ([.int .u64 0, .int .i64 0] : List (CV Sx)) := ⟨by kernel_rfl, fun g m vs ws p xs ys w hv hw hp h1 h2 => by
 obtain ⟨x0, _, rfl, hv1⟩ := bB hv
 obtain ⟨x1, _, rfl, hv2⟩ := bB hv1
 obtain rfl := ez hv2
 obtain ⟨y0, _, rfl, hw1⟩ := bB hw
 obtain ⟨y1, _, rfl, hw2⟩ := bB hw1
 obtain rfl := ez hw2
 obtain ⟨_, rfl, h1_1⟩ := bV h1
 obtain ⟨_, rfl, h1_2⟩ := bV h1_1
 simp only [bq] at h1_2; subst h1_2
 obtain ⟨_, rfl, h2_1⟩ := bV h2
 obtain ⟨_, rfl, h2_2⟩ := bV h2_1
 simp only [bq] at h2_2; subst h2_2
 simp only [vO, bit, Option.bind_some, Option.map_some, Option.some.injEq] at hp
 subst hp
 exact JK x0 x1 y0 y1 w⟩
set_option maxRecDepth 100000 in
theorem JL (x0 : Int) (x1 : Int) (y0 : Int) (y1 : Int) (w : World) : (binOp .eql 200 (.agg #[.int .i64 x0, .int .i64 x1]) (.agg #[.int .i64 y0, .int .i64 y1])).run Tryz.prog w = .ok (.bool (decide (x0 = y0 ∧ x1 = y1))) w := by
 simp [go_sem]; repeat' split
 all_goals simp_all
theorem Mn : Jf KT Tryz.prog 200 ([.int .i64 0, .int .i64 0] : List (CV Sx)) := ⟨by kernel_rfl, fun g m vs ws p xs ys w hv hw hp h1 h2 => by
 obtain ⟨x0, _, rfl, hv1⟩ := bB hv
 obtain ⟨x1, _, rfl, hv2⟩ := bB hv1
 obtain rfl := ez hv2
 obtain ⟨y0, _, rfl, hw1⟩ := bB hw
 obtain ⟨y1, _, rfl, hw2⟩ := bB hw1
 obtain rfl := ez hw2
 obtain ⟨_, rfl, h1_1⟩ := bV h1
 obtain ⟨_, rfl, h1_2⟩ := bV h1_1
 simp only [bq] at h1_2; subst h1_2
 obtain ⟨_, rfl, h2_1⟩ := bV h2
 obtain ⟨_, rfl, h2_2⟩ := bV h2_1
 simp only [bq] at h2_2; subst h2_2
 simp only [vO, bit, Option.bind_some, Option.map_some, Option.some.injEq] at hp
 subst hp
 exact JL x0 x1 y0 y1 w⟩
set_option maxRecDepth 100000 in
theorem NA : ∀ p ∈ Qf, aV Tryz.prog p.1 p.2 := all_cons QJ <| all_cons QK <| all_cons QL <| all_cons QM <| all_cons QN <| all_cons QO <| all_cons QP <| all_cons QR <| all_cons QS <| all_cons O3 <| all_cons O4 <| all_cons O5 <| all_cons O6 <| all_cons O7 <| all_cons O8 <| all_cons O9 <| all_cons Pa <| all_cons Pb <| all_cons Pc <| all_cons Pd <| all_cons Pe <| all_cons Pf <| all_cons Pg <| all_cons Ph <| all_cons Pj <| all_cons Pk <| all_cons Pl <| all_cons Pn <| all_cons Po <| all_cons Pp <| all_cons Pq <| all_cons Pr <| all_cons Ps <| all_cons Pu <| all_cons Pv <| all_cons Pw <| all_cons Px <| all_cons Py <| all_cons Pz <| all_cons PA <| all_cons PB <| all_cons PC <| all_cons PD <| all_cons PE <| all_cons PF <| all_cons PG <| all_cons PH <| all_cons PI <| all_cons PJ <| all_cons PK <| all_cons PL <| all_cons PM <| all_cons PN <| all_cons PO <| all_cons PQ <| all_cons PR <| all_cons PT <| all_cons PU <| all_cons PV <| all_cons PW <| all_cons PX <| all_cons PY <| all_cons PZ <| all_cons P0 <| all_cons P1 <| all_cons P2 <| all_cons P3 <| all_cons P4 <| all_cons P5 <| all_cons MX <| all_cons MY <| all_cons MZ <| all_cons M1 <| all_cons M3 <| all_cons M4 <| all_cons M5 <| all_cons M6 <| all_cons M7 <| all_cons M8 <| all_cons M9 <| all_cons Na <| all_cons Nb <| all_cons Nc <| all_cons Nd <| all_cons Nf <| all_cons Ng <| all_cons Nh <| all_cons Ni <| all_cons Nj <| all_cons Nk <| all_cons Nl <| all_cons Nm <| all_cons Nn <| all_cons Np <| all_cons Nq <| all_cons Nr <| all_cons Ns <| all_cons Nt <| all_cons Nu <| all_cons Nv <| all_cons Nw <| all_cons Nx <| all_cons Ny <| all_cons Nz <| all_nil
theorem Q0 : cn Tryz.prog KT tt := QI rfl NA (by kernel_rfl) (by
 rw [show (Qf.filter fun p => p.2.eq).map (fun p => (p.1, p.2.zero)) = [(7, [.int .i64 0, .int .i64 0, .tt false, .u8 0]), (8, [.int .i64 0, .int .i64 0, .tt false, .u8 0]), (24, [.a8 32 (fun _ => 0)]), (29, [.int .i64 0, .int .i64 0]), (30, [.int .i64 0, .int .i64 0]), (92, [.int .i64 0, .int .i64 0]), (156, [.int .u64 0, .int .i64 0]), (200, [.int .i64 0, .int .i64 0])] by kernel_rfl]
 exact all_cons eq_7 <| all_cons eq_8 <| all_cons eq_24 <| all_cons eq_29 <| all_cons eq_30 <| all_cons Ol <| all_cons Mm <| all_cons Mn <| all_nil) (by kernel_rfl) (by
 rw [show IP Qf = [] by kernel_rfl]
 exact all_nil)
theorem Ov : Tryz.prog.follows .mixedOrders = true := by kernel_rfl
abbrev SX (c : bO Sx) : Prop := Sound Tryz.prog KT c
abbrev QU (c : NC Sx) : Prop := jZ Tryz.prog KT c
set_option maxRecDepth 100000 in
theorem fq (fn : Func) (rs : List ResultVar) (fa : FA Sx) (an : An) {Φ : List (bO Sx)} {c : bO Sx} (hΦ : ∀ c ∈ Φ, SX c) (hev : ∀ x, Om tb tt Φ fa c rs (bd fn) an x = c.cx x := by intro x; kernel_rfl) (h : facts Tryz.prog fn c.f fa.fn c.ins.length = Jd fn rs := by kernel_rfl) (hΨ : ∀ c ∈ fa.nd, QU c := by intro c hc; cases hc) : SX c :=
 Qs Q0 Ov (fun _ => rfl) hΦ hev h hΨ
set_option maxRecDepth 100000 in
theorem yq (r n : Nat) (ps : List Nat) (fa : FA Sx) (an : An) {Φ : List (bO Sx)} {c : bO Sx} (hΦ : ∀ c ∈ Φ, SX c) (hev : ∀ x, Oo tb tt Φ fa c r ps (NQ Tryz.prog r) (NR Tryz.prog r) an x = c.cx x := by intro x; kernel_rfl) (h : DU Tryz.prog r n ps c.f c.ins.length = DV r := by kernel_rfl) (hrd : fa.rd = true := by rfl) (hrg : KT.rg r = some ⟨ps, NQ Tryz.prog r, NR Tryz.prog r, n⟩ := by rfl) (hΨ : ∀ c ∈ fa.nd, QU c := by intro c hc; cases hc) : SX c :=
 Rh Q0 Ov hΦ hev h hrd hrg hΨ
theorem c1 {a : bO Sx} {l : List (bO Sx)} (h : SX a) (hl : ∀ c ∈ l, SX c) : ∀ c ∈ a :: l, SX c := all_cons h hl
end E
end Go.Proofs.YtekpafdhgkocaaaGreat
