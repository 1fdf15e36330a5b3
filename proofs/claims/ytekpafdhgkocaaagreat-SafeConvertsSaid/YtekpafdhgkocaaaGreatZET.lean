/- Part of the proof. -/
import Derived.Test.YtekpafdhgkocaaaGreatZEvY
import Derived.Test.YtekpafdhgkocaaaGreatProg
import Derived.Test.YtekpafdhgkocaaaGreatZPure
namespace Go.Proofs.YtekpafdhgkocaaaGreat
open Go.RowKit G
def Bx:Mem->Prop:=fun _=>True
theorem Bxm{m m2:Mem}(_:Bx m)(_:Le m m2):Bx m2:=trivial
namespace E
def Sx:Nat->Type
 | 0=>G.df
 | 1=>G.qZ
 | 2=>G.jH
 | 3=>G.Command
 | 4=>G.Delta
 | 5=>G.vD
 | 6=>G.bN
 | 7=>G.bR
 | 8=>G.pH
 | 9=>G.bO
 | 10=>G.Af
 | _=>Bool
def tb:Tb Sx
 | 0=>{fs:=[(.int .i64),(.int .i64), .bo, .u8],to:=fun(x:G.df)=>(x.x,x.y,x.signed,x.code,()),of:=fun h=>(⟨h.1,h.2.1,h.2.2.1,h.2.2.2.1⟩:G.df)}
 | 1=>{fs:=[(.int .i64),(.int .i64), .bo, .u8],to:=fun(x:G.qZ)=>(x.x,x.y,x.signed,x.code,()),of:=fun h=>(⟨h.1,h.2.1,h.2.2.1,h.2.2.2.1⟩:G.qZ)}
 | 2=>{fs:=[.str,(.int .u64)],to:=fun(x:G.jH)=>(x.msg,x.addr,()),of:=fun h=>(⟨h.1,h.2.1⟩:G.jH)}
 | 3=>{fs:=[(.int .i64),(.int .i64),(.int .i64),(.int .i64),(.sl .u8)],to:=fun(x:G.Command)=>(x.kind,x.to,x.from_,x.len,x.data,()),of:=fun h=>(⟨h.1,h.2.1,h.2.2.1,h.2.2.2.1,h.2.2.2.2.1⟩:G.Command)}
 | 4=>{fs:=[(.int .i64),(.int .i64),(.a8 32),(.a8 32),(.sl (.st 3))],to:=fun(x:G.Delta)=>(x.dC,x.b5,x.oy,x.ox,x.commands,()),of:=fun h=>(⟨h.1,h.2.1,h.2.2.1,h.2.2.2.1,h.2.2.2.2.1⟩:G.Delta)}
 | 5=>{fs:=[(.int .i64),(.int .i64)],to:=fun(x:G.vD)=>(x.code,x.at_,()),of:=fun h=>(⟨h.1,h.2.1⟩:G.vD)}
 | 6=>{fs:=[(.int .i64),(.int .i64)],to:=fun(x:G.bN)=>(x.from_,x.to,()),of:=fun h=>(⟨h.1,h.2.1⟩:G.bN)}
 | 7=>{fs:=[(.int .i64),(.int .i64)],to:=fun(x:G.bR)=>(x.off,x.len,()),of:=fun h=>(⟨h.1,h.2.1⟩:G.bR)}
 | 8=>{fs:=[(.int .i64),(.int .i64)],to:=fun(x:G.pH)=>(x.dj.off,x.dj.len,()),of:=fun h=>(⟨(⟨h.1,h.2.1⟩:G.bR)⟩:G.pH)}
 | 9=>{fs:=[(.int .i64),(.int .i64),(.int .i64)],to:=fun(x:G.bO)=>(x.dj.off,x.dj.len,x.position,()),of:=fun h=>(⟨(⟨h.1,h.2.1⟩:G.bR),h.2.2.1⟩:G.bO)}
 | 10=>{fs:=[(.sl (.st 9))],to:=fun(x:G.Af)=>(x.sorted,()),of:=fun h=>(⟨h.1⟩:G.Af)}
 | _+11=>{fs:=[.bo],to:=fun(x:Bool)=>(x,()),of:=fun h=>h.1}
def tyL:List (Nat×TI Sx):=[(1,⟨.func,1,8,[.dy], .bo,false⟩),
 (2,⟨.int .i64,1,8,[.int .i64 0],(.int .i64),false⟩),
 (3,⟨.int .i64,1,8,[.int .i64 0],(.int .i64),false⟩),
 (4,⟨.bool,1,1,[.tt false], .bo,false⟩),
 (5,⟨.int .u8,1,1,[.u8 0], .u8,false⟩),
 (6,⟨.int .u8,1,1,[.u8 0], .u8,false⟩),
 (7,⟨.struct [(2,0,1),(3,1,1),(4,2,1),(6,3,1)],4,24,[.int .i64 0, .int .i64 0, .tt false, .u8 0],(.st 0),true⟩),
 (8,⟨.struct [(2,0,1),(3,1,1),(4,2,1),(6,3,1)],4,24,[.int .i64 0, .int .i64 0, .tt false, .u8 0],(.st 1),true⟩),
 (9,⟨.str,1,16,[.str []], .str,false⟩),
 (11,⟨.str,1,16,[.str []], .str,false⟩),
 (12,⟨.int .u64,1,8,[.int .u64 0],(.int .u64),false⟩),
 (13,⟨.struct [(9,0,1),(12,1,1)],2,24,[.str [], .int .u64 0],(.st 2),false⟩),
 (16,⟨.ptr 331,1,8,[.km], .bo,false⟩),
 (17,⟨.ptr 339,1,8,[.km], .bo,false⟩),
 (20,⟨.iface,1,16,[.Cp], .bo,false⟩),
 (22,⟨.slice 5,1,24,[.fk],(.sl .u8),false⟩),
 (24,⟨.array 32 5,32,32,[.a8 32 (fun _=>0)],(.a8 32),true⟩),
 (25,⟨.slice 72,1,24,[.fk],(.sl (.st 3)),false⟩),
 (27,⟨.struct [(3,0,1),(3,1,1),(24,2,32),(24,34,32),(25,66,1)],67,104,[.int .i64 0, .int .i64 0, .a8 32 (fun _=>0), .a8 32 (fun _=>0), .fk],(.st 4),false⟩),
 (28,⟨.int .i64,1,8,[.int .i64 0],(.int .i64),false⟩),
 (30,⟨.struct [(28,0,1),(3,1,1)],2,16,[.int .i64 0, .int .i64 0],(.st 5),true⟩),
 (32,⟨.func,1,8,[.dy], .bo,false⟩),
 (37,⟨.int .u64,1,8,[.int .u64 0],(.int .u64),false⟩),
 (40,⟨.func,1,8,[.dy], .bo,false⟩),
 (50,⟨.func,1,8,[.dy], .bo,false⟩),
 (56,⟨.slice 3,1,24,[.fk],(.sl (.int .i64)),false⟩),
 (72,⟨.struct [(3,0,1),(3,1,1),(3,2,1),(3,3,1),(22,4,1)],5,56,[.int .i64 0, .int .i64 0, .int .i64 0, .int .i64 0, .fk],(.st 3),false⟩),
 (76,⟨.slice 151,1,24,[.fk],(.sl (.st 6)),false⟩),
 (83,⟨.slice 22,1,24,[.fk],(.sl (.sl .u8)),false⟩),
 (90,⟨.slice 92,1,24,[.fk],(.sl (.st 7)),false⟩),
 (92,⟨.struct [(3,0,1),(3,1,1)],2,16,[.int .i64 0, .int .i64 0],(.st 7),true⟩),
 (94,⟨.ptr 243,1,8,[.km], .bo,false⟩),
 (96,⟨.struct [(25,0,1),(94,1,1)],2,32,[.fk, .km], .bo,false⟩),
 (97,⟨.struct [(96,0,2),(56,2,1),(56,3,1)],4,80,[.fk, .km, .fk, .fk], .bo,false⟩),
 (98,⟨.struct [(96,0,2),(56,2,1),(56,3,1)],4,80,[.fk, .km, .fk, .fk], .bo,false⟩),
 (99,⟨.func,1,8,[.dy], .bo,false⟩),
 (100,⟨.func,1,8,[.dy], .bo,false⟩),
 (102,⟨.func,1,8,[.dy], .bo,false⟩),
 (103,⟨.func,1,8,[.dy], .bo,false⟩),
 (104,⟨.func,1,8,[.dy], .bo,false⟩),
 (105,⟨.func,1,8,[.dy], .bo,false⟩),
 (107,⟨.func,1,8,[.dy], .bo,false⟩),
 (110,⟨.func,1,8,[.dy], .bo,false⟩),
 (111,⟨.func,1,8,[.dy], .bo,false⟩),
 (114,⟨.func,1,8,[.dy], .bo,false⟩),
 (115,⟨.func,1,8,[.dy], .bo,false⟩),
 (116,⟨.func,1,8,[.dy], .bo,false⟩),
 (117,⟨.func,1,8,[.dy], .bo,false⟩),
 (118,⟨.func,1,8,[.dy], .bo,false⟩),
 (141,⟨.int .u64,1,8,[.int .u64 0],(.int .u64),false⟩),
 (143,⟨.map 3 3,1,8,[.uI],(.mp (.int .i64) (.int .i64)),false⟩),
 (148,⟨.func,1,8,[.dy], .bo,false⟩),
 (150,⟨.func,1,8,[.dy], .bo,false⟩),
 (151,⟨.struct [(3,0,1),(3,1,1)],2,16,[.int .i64 0, .int .i64 0],(.st 6),true⟩),
 (166,⟨.func,1,8,[.dy], .bo,false⟩),
 (187,⟨.ptr 253,1,8,[.km], .bo,false⟩),
 (198,⟨.func,1,8,[.dy], .bo,false⟩),
 (200,⟨.struct [(92,0,2)],2,16,[.int .i64 0, .int .i64 0],(.st 8),true⟩),
 (202,⟨.func,1,8,[.dy], .bo,false⟩),
 (206,⟨.int .u32,1,4,[.int .u32 0],(.int .u32),false⟩),
 (216,⟨.func,1,8,[.dy], .bo,false⟩),
 (217,⟨.func,1,8,[.dy], .bo,false⟩),
 (222,⟨.int .i64,1,8,[.int .i64 0],(.int .i64),false⟩),
 (233,⟨.func,1,8,[.dy], .bo,false⟩),
 (237,⟨.func,1,8,[.dy], .bo,false⟩),
 (238,⟨.func,1,8,[.dy], .bo,false⟩),
 (240,⟨.map 151 4,1,8,[.uI],(.mp (.st 6) .bo),false⟩),
 (241,⟨.map 3 56,1,8,[.uI],(.mp (.int .i64) (.sl (.int .i64))),false⟩),
 (243,⟨.struct [(3,0,1),(240,1,1),(241,2,1),(241,3,1)],4,32,[.int .i64 0, .uI, .uI, .uI], .bo,false⟩),
 (251,⟨.slice 255,1,24,[.fk],(.sl (.st 9)),false⟩),
 (253,⟨.struct [(251,0,1)],1,24,[.fk],(.st 10),false⟩),
 (255,⟨.struct [(92,0,2),(3,2,1)],3,24,[.int .i64 0, .int .i64 0, .int .i64 0],(.st 9),true⟩),
 (256,⟨.func,1,8,[.dy], .bo,false⟩),
 (257,⟨.func,1,8,[.dy], .bo,false⟩),
 (265,⟨.func,1,8,[.dy], .bo,false⟩),
 (268,⟨.func,1,8,[.dy], .bo,false⟩),
 (270,⟨.func,1,8,[.dy], .bo,false⟩),
 (274,⟨.func,1,8,[.dy], .bo,false⟩),
 (277,⟨.int .u64,1,8,[.int .u64 0],(.int .u64),false⟩),
 (281,⟨.ptr 3,1,8,[.km], .bo,false⟩),
 (286,⟨.func,1,8,[.dy], .bo,false⟩),
 (294,⟨.func,1,8,[.dy], .bo,false⟩),
 (299,⟨.ptr 277,1,8,[.km], .bo,false⟩),
 (300,⟨.func,1,8,[.dy], .bo,false⟩),
 (323,⟨.map 3 4,1,8,[.uI],(.mp (.int .i64) .bo),false⟩)]
def tt(t:TypeId):Option (TI Sx):=look t tyL
end E
namespace E
theorem ZI:∀ i,(tb i).fs.all Kz=true
 | 0=>rfl
 | 1=>rfl
 | 2=>rfl
 | 3=>rfl
 | 4=>rfl
 | 5=>rfl
 | 6=>rfl
 | 7=>rfl
 | 8=>rfl
 | 9=>rfl
 | 10=>rfl
 | 11=>rfl
 | 12=>rfl
 | 13=>rfl
 | 14=>rfl
 | 15=>rfl
 | _+16=>rfl
theorem max_:∀ i,(tb i).fs.all (fun c=>Nat.ble (BR c) i)=true
 | 0=>rfl
 | 1=>rfl
 | 2=>rfl
 | 3=>rfl
 | 4=>rfl
 | 5=>rfl
 | 6=>rfl
 | 7=>rfl
 | 8=>rfl
 | 9=>rfl
 | 10=>rfl
 | 11=>rfl
 | 12=>rfl
 | 13=>rfl
 | 14=>rfl
 | 15=>rfl
 | _+16=>by simp[tb,BR]
theorem ne_:∀ i,(tb i).fs≠[]
 | 0=>(fun h=>by cases h)
 | 1=>(fun h=>by cases h)
 | 2=>(fun h=>by cases h)
 | 3=>(fun h=>by cases h)
 | 4=>(fun h=>by cases h)
 | 5=>(fun h=>by cases h)
 | 6=>(fun h=>by cases h)
 | 7=>(fun h=>by cases h)
 | 8=>(fun h=>by cases h)
 | 9=>(fun h=>by cases h)
 | 10=>(fun h=>by cases h)
 | 11=>(fun h=>by cases h)
 | 12=>(fun h=>by cases h)
 | 13=>(fun h=>by cases h)
 | 14=>(fun h=>by cases h)
 | 15=>(fun h=>by cases h)
 | _+16=>(fun h=>by cases h)
theorem Yn:∀ i (h:HL Sx (tb i).fs),(tb i).to ((tb i).of h)=h
 | 0,_=>rfl
 | 1,_=>rfl
 | 2,_=>rfl
 | 3,_=>rfl
 | 4,_=>rfl
 | 5,_=>rfl
 | 6,_=>rfl
 | 7,_=>rfl
 | 8,_=>rfl
 | 9,_=>rfl
 | 10,_=>rfl
 | 11,_=>rfl
 | 12,_=>rfl
 | 13,_=>rfl
 | 14,_=>rfl
 | 15,_=>rfl
 | _+16,_=>rfl
noncomputable def KT:iV tb:=aa1 (Wi Tryz.prog) Bx Bxm ZI (fun i c hc=>ax (aW.1 (max_ i) c hc)) ne_ Yn
theorem aa5:dP Tryz.prog 1 (⟨.func,1,8,[.dy], .bo,false⟩:TI Sx):=⟨(show(Tryz.prog.underlying 1).map dc=some true by kernel_rfl),by kernel_rfl,by kernel_rfl,by kernel_rfl,fun _=>rfl⟩
theorem aa6:dP Tryz.prog 2 (⟨.int .i64,1,8,[.int .i64 0],(.int .i64),false⟩:TI Sx):=⟨(show Tryz.prog.underlying 2=some (.int .i64)by kernel_rfl),by kernel_rfl,by kernel_rfl,by kernel_rfl,fun _=>rfl⟩
theorem aa7:dP Tryz.prog 3 (⟨.int .i64,1,8,[.int .i64 0],(.int .i64),false⟩:TI Sx):=⟨(show Tryz.prog.underlying 3=some (.int .i64)by kernel_rfl),by kernel_rfl,by kernel_rfl,by kernel_rfl,fun _=>rfl⟩
theorem aa8:dP Tryz.prog 4 (⟨.bool,1,1,[.tt false], .bo,false⟩:TI Sx):=⟨(show Tryz.prog.underlying 4=some (.bool)by kernel_rfl),by kernel_rfl,by kernel_rfl,by kernel_rfl,fun _=>rfl⟩
theorem aa9:dP Tryz.prog 5 (⟨.int .u8,1,1,[.u8 0], .u8,false⟩:TI Sx):=⟨(show Tryz.prog.underlying 5=some (.int .u8)by kernel_rfl),by kernel_rfl,by kernel_rfl,by kernel_rfl,fun _=>rfl⟩
theorem aba:dP Tryz.prog 6 (⟨.int .u8,1,1,[.u8 0], .u8,false⟩:TI Sx):=⟨(show Tryz.prog.underlying 6=some (.int .u8)by kernel_rfl),by kernel_rfl,by kernel_rfl,by kernel_rfl,fun _=>rfl⟩
theorem abb:dP Tryz.prog 7 (⟨.struct [(2,0,1),(3,1,1),(4,2,1),(6,3,1)],4,24,[.int .i64 0, .int .i64 0, .tt false, .u8 0],(.st 0),true⟩:TI Sx):=⟨(show zm Tryz.prog 7=some [(2,0,1),(3,1,1),(4,2,1),(6,3,1)]by kernel_rfl),by kernel_rfl,by kernel_rfl,by kernel_rfl,fun h=>by cases h⟩
theorem abc:dP Tryz.prog 8 (⟨.struct [(2,0,1),(3,1,1),(4,2,1),(6,3,1)],4,24,[.int .i64 0, .int .i64 0, .tt false, .u8 0],(.st 1),true⟩:TI Sx):=⟨(show zm Tryz.prog 8=some [(2,0,1),(3,1,1),(4,2,1),(6,3,1)]by kernel_rfl),by kernel_rfl,by kernel_rfl,by kernel_rfl,fun h=>by cases h⟩
theorem abd:dP Tryz.prog 9 (⟨.str,1,16,[.str []], .str,false⟩:TI Sx):=⟨(show Tryz.prog.underlying 9=some (.string)by kernel_rfl),by kernel_rfl,by kernel_rfl,by kernel_rfl,fun _=>rfl⟩
theorem Z8:dP Tryz.prog 11 (⟨.str,1,16,[.str []], .str,false⟩:TI Sx):=⟨(show Tryz.prog.underlying 11=some (.string)by kernel_rfl),by kernel_rfl,by kernel_rfl,by kernel_rfl,fun _=>rfl⟩
theorem Z9:dP Tryz.prog 12 (⟨.int .u64,1,8,[.int .u64 0],(.int .u64),false⟩:TI Sx):=⟨(show Tryz.prog.underlying 12=some (.int .u64)by kernel_rfl),by kernel_rfl,by kernel_rfl,by kernel_rfl,fun _=>rfl⟩
theorem aaa:dP Tryz.prog 13 (⟨.struct [(9,0,1),(12,1,1)],2,24,[.str [], .int .u64 0],(.st 2),false⟩:TI Sx):=⟨(show zm Tryz.prog 13=some [(9,0,1),(12,1,1)]by kernel_rfl),by kernel_rfl,by kernel_rfl,by kernel_rfl,fun h=>by cases h⟩
theorem aab:dP Tryz.prog 16 (⟨.ptr 331,1,8,[.km], .bo,false⟩:TI Sx):=⟨(show Tryz.prog.underlying 16=some (.pointer 331)by kernel_rfl),by kernel_rfl,by kernel_rfl,by kernel_rfl,fun _=>rfl⟩
theorem aac:dP Tryz.prog 17 (⟨.ptr 339,1,8,[.km], .bo,false⟩:TI Sx):=⟨(show Tryz.prog.underlying 17=some (.pointer 339)by kernel_rfl),by kernel_rfl,by kernel_rfl,by kernel_rfl,fun _=>rfl⟩
theorem aad:dP Tryz.prog 20 (⟨.iface,1,16,[.Cp], .bo,false⟩:TI Sx):=⟨(show(Tryz.prog.underlying 20).map Cm=some false by kernel_rfl),by kernel_rfl,by kernel_rfl,by kernel_rfl,fun _=>rfl⟩
theorem aae:dP Tryz.prog 22 (⟨.slice 5,1,24,[.fk],(.sl .u8),false⟩:TI Sx):=⟨(show Tryz.prog.underlying 22=some (.slice 5)by kernel_rfl),by kernel_rfl,by kernel_rfl,by kernel_rfl,fun _=>rfl⟩
theorem aaf:dP Tryz.prog 24 (⟨.array 32 5,32,32,[.a8 32 (fun _=>0)],(.a8 32),true⟩:TI Sx):=⟨(show Tryz.prog.underlying 24=some (.array 32 5)by kernel_rfl),by kernel_rfl,by kernel_rfl,by kernel_rfl,fun h=>by cases h⟩
theorem aag:dP Tryz.prog 25 (⟨.slice 72,1,24,[.fk],(.sl (.st 3)),false⟩:TI Sx):=⟨(show Tryz.prog.underlying 25=some (.slice 72)by kernel_rfl),by kernel_rfl,by kernel_rfl,by kernel_rfl,fun _=>rfl⟩
theorem aah:dP Tryz.prog 27 (⟨.struct [(3,0,1),(3,1,1),(24,2,32),(24,34,32),(25,66,1)],67,104,[.int .i64 0, .int .i64 0, .a8 32 (fun _=>0), .a8 32 (fun _=>0), .fk],(.st 4),false⟩:TI Sx):=⟨(show zm Tryz.prog 27=some [(3,0,1),(3,1,1),(24,2,32),(24,34,32),(25,66,1)]by kernel_rfl),by kernel_rfl,by kernel_rfl,by kernel_rfl,fun h=>by cases h⟩
theorem aai:dP Tryz.prog 28 (⟨.int .i64,1,8,[.int .i64 0],(.int .i64),false⟩:TI Sx):=⟨(show Tryz.prog.underlying 28=some (.int .i64)by kernel_rfl),by kernel_rfl,by kernel_rfl,by kernel_rfl,fun _=>rfl⟩
theorem aaj:dP Tryz.prog 30 (⟨.struct [(28,0,1),(3,1,1)],2,16,[.int .i64 0, .int .i64 0],(.st 5),true⟩:TI Sx):=⟨(show zm Tryz.prog 30=some [(28,0,1),(3,1,1)]by kernel_rfl),by kernel_rfl,by kernel_rfl,by kernel_rfl,fun h=>by cases h⟩
theorem aak:dP Tryz.prog 32 (⟨.func,1,8,[.dy], .bo,false⟩:TI Sx):=⟨(show(Tryz.prog.underlying 32).map dc=some true by kernel_rfl),by kernel_rfl,by kernel_rfl,by kernel_rfl,fun _=>rfl⟩
theorem aal:dP Tryz.prog 37 (⟨.int .u64,1,8,[.int .u64 0],(.int .u64),false⟩:TI Sx):=⟨(show Tryz.prog.underlying 37=some (.int .u64)by kernel_rfl),by kernel_rfl,by kernel_rfl,by kernel_rfl,fun _=>rfl⟩
theorem aam:dP Tryz.prog 40 (⟨.func,1,8,[.dy], .bo,false⟩:TI Sx):=⟨(show(Tryz.prog.underlying 40).map dc=some true by kernel_rfl),by kernel_rfl,by kernel_rfl,by kernel_rfl,fun _=>rfl⟩
theorem aan:dP Tryz.prog 50 (⟨.func,1,8,[.dy], .bo,false⟩:TI Sx):=⟨(show(Tryz.prog.underlying 50).map dc=some true by kernel_rfl),by kernel_rfl,by kernel_rfl,by kernel_rfl,fun _=>rfl⟩
theorem aao:dP Tryz.prog 56 (⟨.slice 3,1,24,[.fk],(.sl (.int .i64)),false⟩:TI Sx):=⟨(show Tryz.prog.underlying 56=some (.slice 3)by kernel_rfl),by kernel_rfl,by kernel_rfl,by kernel_rfl,fun _=>rfl⟩
theorem aap:dP Tryz.prog 72 (⟨.struct [(3,0,1),(3,1,1),(3,2,1),(3,3,1),(22,4,1)],5,56,[.int .i64 0, .int .i64 0, .int .i64 0, .int .i64 0, .fk],(.st 3),false⟩:TI Sx):=⟨(show zm Tryz.prog 72=some [(3,0,1),(3,1,1),(3,2,1),(3,3,1),(22,4,1)]by kernel_rfl),by kernel_rfl,by kernel_rfl,by kernel_rfl,fun h=>by cases h⟩
theorem aaq:dP Tryz.prog 76 (⟨.slice 151,1,24,[.fk],(.sl (.st 6)),false⟩:TI Sx):=⟨(show Tryz.prog.underlying 76=some (.slice 151)by kernel_rfl),by kernel_rfl,by kernel_rfl,by kernel_rfl,fun _=>rfl⟩
theorem aar:dP Tryz.prog 83 (⟨.slice 22,1,24,[.fk],(.sl (.sl .u8)),false⟩:TI Sx):=⟨(show Tryz.prog.underlying 83=some (.slice 22)by kernel_rfl),by kernel_rfl,by kernel_rfl,by kernel_rfl,fun _=>rfl⟩
theorem aas:dP Tryz.prog 90 (⟨.slice 92,1,24,[.fk],(.sl (.st 7)),false⟩:TI Sx):=⟨(show Tryz.prog.underlying 90=some (.slice 92)by kernel_rfl),by kernel_rfl,by kernel_rfl,by kernel_rfl,fun _=>rfl⟩
theorem aat:dP Tryz.prog 92 (⟨.struct [(3,0,1),(3,1,1)],2,16,[.int .i64 0, .int .i64 0],(.st 7),true⟩:TI Sx):=⟨(show zm Tryz.prog 92=some [(3,0,1),(3,1,1)]by kernel_rfl),by kernel_rfl,by kernel_rfl,by kernel_rfl,fun h=>by cases h⟩
theorem aau:dP Tryz.prog 94 (⟨.ptr 243,1,8,[.km], .bo,false⟩:TI Sx):=⟨(show Tryz.prog.underlying 94=some (.pointer 243)by kernel_rfl),by kernel_rfl,by kernel_rfl,by kernel_rfl,fun _=>rfl⟩
theorem aav:dP Tryz.prog 96 (⟨.struct [(25,0,1),(94,1,1)],2,32,[.fk, .km], .bo,false⟩:TI Sx):=⟨(show zm Tryz.prog 96=some [(25,0,1),(94,1,1)]by kernel_rfl),by kernel_rfl,by kernel_rfl,by kernel_rfl,fun h=>by cases h⟩
theorem aaw:dP Tryz.prog 97 (⟨.struct [(96,0,2),(56,2,1),(56,3,1)],4,80,[.fk, .km, .fk, .fk], .bo,false⟩:TI Sx):=⟨(show zm Tryz.prog 97=some [(96,0,2),(56,2,1),(56,3,1)]by kernel_rfl),by kernel_rfl,by kernel_rfl,by kernel_rfl,fun h=>by cases h⟩
theorem aax:dP Tryz.prog 98 (⟨.struct [(96,0,2),(56,2,1),(56,3,1)],4,80,[.fk, .km, .fk, .fk], .bo,false⟩:TI Sx):=⟨(show zm Tryz.prog 98=some [(96,0,2),(56,2,1),(56,3,1)]by kernel_rfl),by kernel_rfl,by kernel_rfl,by kernel_rfl,fun h=>by cases h⟩
theorem aay:dP Tryz.prog 99 (⟨.func,1,8,[.dy], .bo,false⟩:TI Sx):=⟨(show(Tryz.prog.underlying 99).map dc=some true by kernel_rfl),by kernel_rfl,by kernel_rfl,by kernel_rfl,fun _=>rfl⟩
theorem Yo:dP Tryz.prog 100 (⟨.func,1,8,[.dy], .bo,false⟩:TI Sx):=⟨(show(Tryz.prog.underlying 100).map dc=some true by kernel_rfl),by kernel_rfl,by kernel_rfl,by kernel_rfl,fun _=>rfl⟩
theorem Yp:dP Tryz.prog 102 (⟨.func,1,8,[.dy], .bo,false⟩:TI Sx):=⟨(show(Tryz.prog.underlying 102).map dc=some true by kernel_rfl),by kernel_rfl,by kernel_rfl,by kernel_rfl,fun _=>rfl⟩
theorem Yq:dP Tryz.prog 103 (⟨.func,1,8,[.dy], .bo,false⟩:TI Sx):=⟨(show(Tryz.prog.underlying 103).map dc=some true by kernel_rfl),by kernel_rfl,by kernel_rfl,by kernel_rfl,fun _=>rfl⟩
theorem Yr:dP Tryz.prog 104 (⟨.func,1,8,[.dy], .bo,false⟩:TI Sx):=⟨(show(Tryz.prog.underlying 104).map dc=some true by kernel_rfl),by kernel_rfl,by kernel_rfl,by kernel_rfl,fun _=>rfl⟩
theorem Ys:dP Tryz.prog 105 (⟨.func,1,8,[.dy], .bo,false⟩:TI Sx):=⟨(show(Tryz.prog.underlying 105).map dc=some true by kernel_rfl),by kernel_rfl,by kernel_rfl,by kernel_rfl,fun _=>rfl⟩
theorem Yt:dP Tryz.prog 107 (⟨.func,1,8,[.dy], .bo,false⟩:TI Sx):=⟨(show(Tryz.prog.underlying 107).map dc=some true by kernel_rfl),by kernel_rfl,by kernel_rfl,by kernel_rfl,fun _=>rfl⟩
theorem Yu:dP Tryz.prog 110 (⟨.func,1,8,[.dy], .bo,false⟩:TI Sx):=⟨(show(Tryz.prog.underlying 110).map dc=some true by kernel_rfl),by kernel_rfl,by kernel_rfl,by kernel_rfl,fun _=>rfl⟩
theorem Yv:dP Tryz.prog 111 (⟨.func,1,8,[.dy], .bo,false⟩:TI Sx):=⟨(show(Tryz.prog.underlying 111).map dc=some true by kernel_rfl),by kernel_rfl,by kernel_rfl,by kernel_rfl,fun _=>rfl⟩
theorem Yw:dP Tryz.prog 114 (⟨.func,1,8,[.dy], .bo,false⟩:TI Sx):=⟨(show(Tryz.prog.underlying 114).map dc=some true by kernel_rfl),by kernel_rfl,by kernel_rfl,by kernel_rfl,fun _=>rfl⟩
theorem Yx:dP Tryz.prog 115 (⟨.func,1,8,[.dy], .bo,false⟩:TI Sx):=⟨(show(Tryz.prog.underlying 115).map dc=some true by kernel_rfl),by kernel_rfl,by kernel_rfl,by kernel_rfl,fun _=>rfl⟩
theorem Yy:dP Tryz.prog 116 (⟨.func,1,8,[.dy], .bo,false⟩:TI Sx):=⟨(show(Tryz.prog.underlying 116).map dc=some true by kernel_rfl),by kernel_rfl,by kernel_rfl,by kernel_rfl,fun _=>rfl⟩
theorem Yz:dP Tryz.prog 117 (⟨.func,1,8,[.dy], .bo,false⟩:TI Sx):=⟨(show(Tryz.prog.underlying 117).map dc=some true by kernel_rfl),by kernel_rfl,by kernel_rfl,by kernel_rfl,fun _=>rfl⟩
theorem YA:dP Tryz.prog 118 (⟨.func,1,8,[.dy], .bo,false⟩:TI Sx):=⟨(show(Tryz.prog.underlying 118).map dc=some true by kernel_rfl),by kernel_rfl,by kernel_rfl,by kernel_rfl,fun _=>rfl⟩
theorem YB:dP Tryz.prog 141 (⟨.int .u64,1,8,[.int .u64 0],(.int .u64),false⟩:TI Sx):=⟨(show Tryz.prog.underlying 141=some (.int .u64)by kernel_rfl),by kernel_rfl,by kernel_rfl,by kernel_rfl,fun _=>rfl⟩
theorem YC:dP Tryz.prog 143 (⟨.map 3 3,1,8,[.uI],(.mp (.int .i64) (.int .i64)),false⟩:TI Sx):=⟨(show Tryz.prog.underlying 143=some (.map 3 3)by kernel_rfl),by kernel_rfl,by kernel_rfl,by kernel_rfl,fun _=>rfl⟩
theorem YD:dP Tryz.prog 148 (⟨.func,1,8,[.dy], .bo,false⟩:TI Sx):=⟨(show(Tryz.prog.underlying 148).map dc=some true by kernel_rfl),by kernel_rfl,by kernel_rfl,by kernel_rfl,fun _=>rfl⟩
theorem YE:dP Tryz.prog 150 (⟨.func,1,8,[.dy], .bo,false⟩:TI Sx):=⟨(show(Tryz.prog.underlying 150).map dc=some true by kernel_rfl),by kernel_rfl,by kernel_rfl,by kernel_rfl,fun _=>rfl⟩
theorem YF:dP Tryz.prog 151 (⟨.struct [(3,0,1),(3,1,1)],2,16,[.int .i64 0, .int .i64 0],(.st 6),true⟩:TI Sx):=⟨(show zm Tryz.prog 151=some [(3,0,1),(3,1,1)]by kernel_rfl),by kernel_rfl,by kernel_rfl,by kernel_rfl,fun h=>by cases h⟩
theorem YG:dP Tryz.prog 166 (⟨.func,1,8,[.dy], .bo,false⟩:TI Sx):=⟨(show(Tryz.prog.underlying 166).map dc=some true by kernel_rfl),by kernel_rfl,by kernel_rfl,by kernel_rfl,fun _=>rfl⟩
theorem YH:dP Tryz.prog 187 (⟨.ptr 253,1,8,[.km], .bo,false⟩:TI Sx):=⟨(show Tryz.prog.underlying 187=some (.pointer 253)by kernel_rfl),by kernel_rfl,by kernel_rfl,by kernel_rfl,fun _=>rfl⟩
theorem YI:dP Tryz.prog 198 (⟨.func,1,8,[.dy], .bo,false⟩:TI Sx):=⟨(show(Tryz.prog.underlying 198).map dc=some true by kernel_rfl),by kernel_rfl,by kernel_rfl,by kernel_rfl,fun _=>rfl⟩
theorem YJ:dP Tryz.prog 200 (⟨.struct [(92,0,2)],2,16,[.int .i64 0, .int .i64 0],(.st 8),true⟩:TI Sx):=⟨(show zm Tryz.prog 200=some [(92,0,2)]by kernel_rfl),by kernel_rfl,by kernel_rfl,by kernel_rfl,fun h=>by cases h⟩
theorem YK:dP Tryz.prog 202 (⟨.func,1,8,[.dy], .bo,false⟩:TI Sx):=⟨(show(Tryz.prog.underlying 202).map dc=some true by kernel_rfl),by kernel_rfl,by kernel_rfl,by kernel_rfl,fun _=>rfl⟩
theorem YL:dP Tryz.prog 206 (⟨.int .u32,1,4,[.int .u32 0],(.int .u32),false⟩:TI Sx):=⟨(show Tryz.prog.underlying 206=some (.int .u32)by kernel_rfl),by kernel_rfl,by kernel_rfl,by kernel_rfl,fun _=>rfl⟩
theorem YM:dP Tryz.prog 216 (⟨.func,1,8,[.dy], .bo,false⟩:TI Sx):=⟨(show(Tryz.prog.underlying 216).map dc=some true by kernel_rfl),by kernel_rfl,by kernel_rfl,by kernel_rfl,fun _=>rfl⟩
theorem YN:dP Tryz.prog 217 (⟨.func,1,8,[.dy], .bo,false⟩:TI Sx):=⟨(show(Tryz.prog.underlying 217).map dc=some true by kernel_rfl),by kernel_rfl,by kernel_rfl,by kernel_rfl,fun _=>rfl⟩
theorem YO:dP Tryz.prog 222 (⟨.int .i64,1,8,[.int .i64 0],(.int .i64),false⟩:TI Sx):=⟨(show Tryz.prog.underlying 222=some (.int .i64)by kernel_rfl),by kernel_rfl,by kernel_rfl,by kernel_rfl,fun _=>rfl⟩
theorem YP:dP Tryz.prog 233 (⟨.func,1,8,[.dy], .bo,false⟩:TI Sx):=⟨(show(Tryz.prog.underlying 233).map dc=some true by kernel_rfl),by kernel_rfl,by kernel_rfl,by kernel_rfl,fun _=>rfl⟩
theorem YQ:dP Tryz.prog 237 (⟨.func,1,8,[.dy], .bo,false⟩:TI Sx):=⟨(show(Tryz.prog.underlying 237).map dc=some true by kernel_rfl),by kernel_rfl,by kernel_rfl,by kernel_rfl,fun _=>rfl⟩
theorem YR:dP Tryz.prog 238 (⟨.func,1,8,[.dy], .bo,false⟩:TI Sx):=⟨(show(Tryz.prog.underlying 238).map dc=some true by kernel_rfl),by kernel_rfl,by kernel_rfl,by kernel_rfl,fun _=>rfl⟩
theorem YS:dP Tryz.prog 240 (⟨.map 151 4,1,8,[.uI],(.mp (.st 6) .bo),false⟩:TI Sx):=⟨(show Tryz.prog.underlying 240=some (.map 151 4)by kernel_rfl),by kernel_rfl,by kernel_rfl,by kernel_rfl,fun _=>rfl⟩
theorem YT:dP Tryz.prog 241 (⟨.map 3 56,1,8,[.uI],(.mp (.int .i64) (.sl (.int .i64))),false⟩:TI Sx):=⟨(show Tryz.prog.underlying 241=some (.map 3 56)by kernel_rfl),by kernel_rfl,by kernel_rfl,by kernel_rfl,fun _=>rfl⟩
theorem YU:dP Tryz.prog 243 (⟨.struct [(3,0,1),(240,1,1),(241,2,1),(241,3,1)],4,32,[.int .i64 0, .uI, .uI, .uI], .bo,false⟩:TI Sx):=⟨(show zm Tryz.prog 243=some [(3,0,1),(240,1,1),(241,2,1),(241,3,1)]by kernel_rfl),by kernel_rfl,by kernel_rfl,by kernel_rfl,fun h=>by cases h⟩
theorem YV:dP Tryz.prog 251 (⟨.slice 255,1,24,[.fk],(.sl (.st 9)),false⟩:TI Sx):=⟨(show Tryz.prog.underlying 251=some (.slice 255)by kernel_rfl),by kernel_rfl,by kernel_rfl,by kernel_rfl,fun _=>rfl⟩
theorem YW:dP Tryz.prog 253 (⟨.struct [(251,0,1)],1,24,[.fk],(.st 10),false⟩:TI Sx):=⟨(show zm Tryz.prog 253=some [(251,0,1)]by kernel_rfl),by kernel_rfl,by kernel_rfl,by kernel_rfl,fun h=>by cases h⟩
theorem YX:dP Tryz.prog 255 (⟨.struct [(92,0,2),(3,2,1)],3,24,[.int .i64 0, .int .i64 0, .int .i64 0],(.st 9),true⟩:TI Sx):=⟨(show zm Tryz.prog 255=some [(92,0,2),(3,2,1)]by kernel_rfl),by kernel_rfl,by kernel_rfl,by kernel_rfl,fun h=>by cases h⟩
theorem YY:dP Tryz.prog 256 (⟨.func,1,8,[.dy], .bo,false⟩:TI Sx):=⟨(show(Tryz.prog.underlying 256).map dc=some true by kernel_rfl),by kernel_rfl,by kernel_rfl,by kernel_rfl,fun _=>rfl⟩
theorem YZ:dP Tryz.prog 257 (⟨.func,1,8,[.dy], .bo,false⟩:TI Sx):=⟨(show(Tryz.prog.underlying 257).map dc=some true by kernel_rfl),by kernel_rfl,by kernel_rfl,by kernel_rfl,fun _=>rfl⟩
theorem Y0:dP Tryz.prog 265 (⟨.func,1,8,[.dy], .bo,false⟩:TI Sx):=⟨(show(Tryz.prog.underlying 265).map dc=some true by kernel_rfl),by kernel_rfl,by kernel_rfl,by kernel_rfl,fun _=>rfl⟩
theorem Y3:dP Tryz.prog 268 (⟨.func,1,8,[.dy], .bo,false⟩:TI Sx):=⟨(show(Tryz.prog.underlying 268).map dc=some true by kernel_rfl),by kernel_rfl,by kernel_rfl,by kernel_rfl,fun _=>rfl⟩
theorem Y4:dP Tryz.prog 270 (⟨.func,1,8,[.dy], .bo,false⟩:TI Sx):=⟨(show(Tryz.prog.underlying 270).map dc=some true by kernel_rfl),by kernel_rfl,by kernel_rfl,by kernel_rfl,fun _=>rfl⟩
theorem Y5:dP Tryz.prog 274 (⟨.func,1,8,[.dy], .bo,false⟩:TI Sx):=⟨(show(Tryz.prog.underlying 274).map dc=some true by kernel_rfl),by kernel_rfl,by kernel_rfl,by kernel_rfl,fun _=>rfl⟩
theorem Y6:dP Tryz.prog 277 (⟨.int .u64,1,8,[.int .u64 0],(.int .u64),false⟩:TI Sx):=⟨(show Tryz.prog.underlying 277=some (.int .u64)by kernel_rfl),by kernel_rfl,by kernel_rfl,by kernel_rfl,fun _=>rfl⟩
theorem Y7:dP Tryz.prog 281 (⟨.ptr 3,1,8,[.km], .bo,false⟩:TI Sx):=⟨(show Tryz.prog.underlying 281=some (.pointer 3)by kernel_rfl),by kernel_rfl,by kernel_rfl,by kernel_rfl,fun _=>rfl⟩
theorem Y8:dP Tryz.prog 286 (⟨.func,1,8,[.dy], .bo,false⟩:TI Sx):=⟨(show(Tryz.prog.underlying 286).map dc=some true by kernel_rfl),by kernel_rfl,by kernel_rfl,by kernel_rfl,fun _=>rfl⟩
theorem Y9:dP Tryz.prog 294 (⟨.func,1,8,[.dy], .bo,false⟩:TI Sx):=⟨(show(Tryz.prog.underlying 294).map dc=some true by kernel_rfl),by kernel_rfl,by kernel_rfl,by kernel_rfl,fun _=>rfl⟩
theorem Za:dP Tryz.prog 299 (⟨.ptr 277,1,8,[.km], .bo,false⟩:TI Sx):=⟨(show Tryz.prog.underlying 299=some (.pointer 277)by kernel_rfl),by kernel_rfl,by kernel_rfl,by kernel_rfl,fun _=>rfl⟩
theorem Zb:dP Tryz.prog 300 (⟨.func,1,8,[.dy], .bo,false⟩:TI Sx):=⟨(show(Tryz.prog.underlying 300).map dc=some true by kernel_rfl),by kernel_rfl,by kernel_rfl,by kernel_rfl,fun _=>rfl⟩
theorem Zc:dP Tryz.prog 323 (⟨.map 3 4,1,8,[.uI],(.mp (.int .i64) .bo),false⟩:TI Sx):=⟨(show Tryz.prog.underlying 323=some (.map 3 4)by kernel_rfl),by kernel_rfl,by kernel_rfl,by kernel_rfl,fun _=>rfl⟩
set_option maxRecDepth 100000 in
theorem ZD(x0:Int)(x1:Int)(x2:Bool)(x3:UInt8)(y0:Int)(y1:Int)(y2:Bool)(y3:UInt8)(w:World):(binOp .eql 7 (.agg #[.int .i64 x0, .int .i64 x1, .bool x2, .int .u8 (x3.toNat:Int)]) (.agg #[.int .i64 y0, .int .i64 y1, .bool y2, .int .u8 (y3.toNat:Int)])).run Tryz.prog w= .ok (.bool (decide (x0=y0/\x1=y1/\x2=y2/\(x3.toNat:Int)=(y3.toNat:Int)))) w:=by
 simp[go_sem];repeat' split
 all_goals simp_all
theorem eq_7:UL KT Tryz.prog 7 ([.int .i64 0, .int .i64 0, .tt false, .u8 0]:List (CV Sx)):=⟨by kernel_rfl,fun g m vs ws p xs ys w hv hw hp h1 h2=>by
 obtain⟨x0,_,rfl,hv1⟩:=dS hv
 obtain⟨x1,_,rfl,hv2⟩:=dS hv1
 rcases FX hv2 with⟨x2,_,_,_,_,rfl,hv3⟩|⟨x2,_,rfl,hv3⟩
 all_goals
  obtain⟨x3,_,rfl,hv4⟩:=FY hv3
  obtain rfl:=mL hv4
  obtain⟨y0,_,rfl,hw1⟩:=dS hw
  obtain⟨y1,_,rfl,hw2⟩:=dS hw1
  rcases FX hw2 with⟨y2,_,_,_,_,rfl,hw3⟩|⟨y2,_,rfl,hw3⟩
  all_goals
   obtain⟨y3,_,rfl,hw4⟩:=FY hw3
   obtain rfl:=mL hw4
   obtain⟨_,rfl,h1_1⟩:=fh h1
   obtain⟨_,rfl,h1_2⟩:=fh h1_1
   first|obtain⟨_,rfl,h1_3⟩:=J9 h1_2|obtain⟨_,rfl,h1_3⟩:=J6 h1_2
   obtain⟨_,rfl,h1_4⟩:=Ka h1_3
   simp only[dW]at h1_4;subst h1_4
   obtain⟨_,rfl,h2_1⟩:=fh h2
   obtain⟨_,rfl,h2_2⟩:=fh h2_1
   first|obtain⟨_,rfl,h2_3⟩:=J9 h2_2|obtain⟨_,rfl,h2_3⟩:=J6 h2_2
   obtain⟨_,rfl,h2_4⟩:=Ka h2_3
   simp only[dW]at h2_4;subst h2_4
   simp only[Fs,bit,ae,ba,ak]at hp
   subst hp
   exact ZD x0 x1 x2 x3 y0 y1 y2 y3 w⟩
set_option maxRecDepth 100000 in
theorem ZE(x0:Int)(x1:Int)(x2:Bool)(x3:UInt8)(y0:Int)(y1:Int)(y2:Bool)(y3:UInt8)(w:World):(binOp .eql 8 (.agg #[.int .i64 x0, .int .i64 x1, .bool x2, .int .u8 (x3.toNat:Int)]) (.agg #[.int .i64 y0, .int .i64 y1, .bool y2, .int .u8 (y3.toNat:Int)])).run Tryz.prog w= .ok (.bool (decide (x0=y0/\x1=y1/\x2=y2/\(x3.toNat:Int)=(y3.toNat:Int)))) w:=by
 simp[go_sem];repeat' split
 all_goals simp_all
theorem eq_8:UL KT Tryz.prog 8 ([.int .i64 0, .int .i64 0, .tt false, .u8 0]:List (CV Sx)):=⟨by kernel_rfl,fun g m vs ws p xs ys w hv hw hp h1 h2=>by
 obtain⟨x0,_,rfl,hv1⟩:=dS hv
 obtain⟨x1,_,rfl,hv2⟩:=dS hv1
 rcases FX hv2 with⟨x2,_,_,_,_,rfl,hv3⟩|⟨x2,_,rfl,hv3⟩
 all_goals
  obtain⟨x3,_,rfl,hv4⟩:=FY hv3
  obtain rfl:=mL hv4
  obtain⟨y0,_,rfl,hw1⟩:=dS hw
  obtain⟨y1,_,rfl,hw2⟩:=dS hw1
  rcases FX hw2 with⟨y2,_,_,_,_,rfl,hw3⟩|⟨y2,_,rfl,hw3⟩
  all_goals
   obtain⟨y3,_,rfl,hw4⟩:=FY hw3
   obtain rfl:=mL hw4
   obtain⟨_,rfl,h1_1⟩:=fh h1
   obtain⟨_,rfl,h1_2⟩:=fh h1_1
   first|obtain⟨_,rfl,h1_3⟩:=J9 h1_2|obtain⟨_,rfl,h1_3⟩:=J6 h1_2
   obtain⟨_,rfl,h1_4⟩:=Ka h1_3
   simp only[dW]at h1_4;subst h1_4
   obtain⟨_,rfl,h2_1⟩:=fh h2
   obtain⟨_,rfl,h2_2⟩:=fh h2_1
   first|obtain⟨_,rfl,h2_3⟩:=J9 h2_2|obtain⟨_,rfl,h2_3⟩:=J6 h2_2
   obtain⟨_,rfl,h2_4⟩:=Ka h2_3
   simp only[dW]at h2_4;subst h2_4
   simp only[Fs,bit,ae,ba,ak]at hp
   subst hp
   exact ZE x0 x1 x2 x3 y0 y1 y2 y3 w⟩
theorem eq_24:UL KT Tryz.prog 24 ([.a8 32 (fun _=>0)]:List (CV Sx)):=⟨by kernel_rfl,fun g m vs ws p xs ys w hv hw hp h1 h2=>by cases vs<;>simp[kindOk]at hv⟩
set_option maxRecDepth 100000 in
theorem Xq(x0:Int)(x1:Int)(y0:Int)(y1:Int)(w:World):(binOp .eql 30 (.agg #[.int .i64 x0, .int .i64 x1]) (.agg #[.int .i64 y0, .int .i64 y1])).run Tryz.prog w= .ok (.bool (decide (x0=y0/\x1=y1))) w:=by
 simp[go_sem];repeat' split
 all_goals simp_all
theorem eq_30:UL KT Tryz.prog 30 ([.int .i64 0, .int .i64 0]:List (CV Sx)):=⟨by kernel_rfl,fun g m vs ws p xs ys w hv hw hp h1 h2=>by
 obtain⟨x0,_,rfl,hv1⟩:=dS hv
 obtain⟨x1,_,rfl,hv2⟩:=dS hv1
 obtain rfl:=mL hv2
 obtain⟨y0,_,rfl,hw1⟩:=dS hw
 obtain⟨y1,_,rfl,hw2⟩:=dS hw1
 obtain rfl:=mL hw2
 obtain⟨_,rfl,h1_1⟩:=fh h1
 obtain⟨_,rfl,h1_2⟩:=fh h1_1
 simp only[dW]at h1_2;subst h1_2
 obtain⟨_,rfl,h2_1⟩:=fh h2
 obtain⟨_,rfl,h2_2⟩:=fh h2_1
 simp only[dW]at h2_2;subst h2_2
 simp only[Fs,bit,ae,ba,ak]at hp
 subst hp
 exact Xq x0 x1 y0 y1 w⟩
set_option maxRecDepth 100000 in
theorem Xr(x0:Int)(x1:Int)(y0:Int)(y1:Int)(w:World):(binOp .eql 92 (.agg #[.int .i64 x0, .int .i64 x1]) (.agg #[.int .i64 y0, .int .i64 y1])).run Tryz.prog w= .ok (.bool (decide (x0=y0/\x1=y1))) w:=by
 simp[go_sem];repeat' split
 all_goals simp_all
theorem ZF:UL KT Tryz.prog 92 ([.int .i64 0, .int .i64 0]:List (CV Sx)):=⟨by kernel_rfl,fun g m vs ws p xs ys w hv hw hp h1 h2=>by
 obtain⟨x0,_,rfl,hv1⟩:=dS hv
 obtain⟨x1,_,rfl,hv2⟩:=dS hv1
 obtain rfl:=mL hv2
 obtain⟨y0,_,rfl,hw1⟩:=dS hw
 obtain⟨y1,_,rfl,hw2⟩:=dS hw1
 obtain rfl:=mL hw2
 obtain⟨_,rfl,h1_1⟩:=fh h1
 obtain⟨_,rfl,h1_2⟩:=fh h1_1
 simp only[dW]at h1_2;subst h1_2
 obtain⟨_,rfl,h2_1⟩:=fh h2
 obtain⟨_,rfl,h2_2⟩:=fh h2_1
 simp only[dW]at h2_2;subst h2_2
 simp only[Fs,bit,ae,ba,ak]at hp
 subst hp
 exact Xr x0 x1 y0 y1 w⟩
set_option maxRecDepth 100000 in
theorem OX(x0:Int)(x1:Int)(y0:Int)(y1:Int)(w:World):(binOp .eql 151 (.agg #[.int .i64 x0, .int .i64 x1]) (.agg #[.int .i64 y0, .int .i64 y1])).run Tryz.prog w= .ok (.bool (decide (x0=y0/\x1=y1))) w:=by
 simp[go_sem];repeat' split
 all_goals simp_all
theorem Xu:UL KT Tryz.prog 151 ([.int .i64 0, .int .i64 0]:List (CV Sx)):=⟨by kernel_rfl,fun g m vs ws p xs ys w hv hw hp h1 h2=>by
 obtain⟨x0,_,rfl,hv1⟩:=dS hv
 obtain⟨x1,_,rfl,hv2⟩:=dS hv1
 obtain rfl:=mL hv2
 obtain⟨y0,_,rfl,hw1⟩:=dS hw
 obtain⟨y1,_,rfl,hw2⟩:=dS hw1
 obtain rfl:=mL hw2
 obtain⟨_,rfl,h1_1⟩:=fh h1
 obtain⟨_,rfl,h1_2⟩:=fh h1_1
 simp only[dW]at h1_2;subst h1_2
 obtain⟨_,rfl,h2_1⟩:=fh h2
 obtain⟨_,rfl,h2_2⟩:=fh h2_1
 simp only[dW]at h2_2;subst h2_2
 simp only[Fs,bit,ae,ba,ak]at hp
 subst hp
 exact OX x0 x1 y0 y1 w⟩
set_option maxRecDepth 100000 in
theorem Vm(x0:Int)(x1:Int)(y0:Int)(y1:Int)(w:World):(binOp .eql 200 (.agg #[.int .i64 x0, .int .i64 x1]) (.agg #[.int .i64 y0, .int .i64 y1])).run Tryz.prog w= .ok (.bool (decide (x0=y0/\x1=y1))) w:=by
 simp[go_sem];repeat' split
 all_goals simp_all
theorem Xv:UL KT Tryz.prog 200 ([.int .i64 0, .int .i64 0]:List (CV Sx)):=⟨by kernel_rfl,fun g m vs ws p xs ys w hv hw hp h1 h2=>by
 obtain⟨x0,_,rfl,hv1⟩:=dS hv
 obtain⟨x1,_,rfl,hv2⟩:=dS hv1
 obtain rfl:=mL hv2
 obtain⟨y0,_,rfl,hw1⟩:=dS hw
 obtain⟨y1,_,rfl,hw2⟩:=dS hw1
 obtain rfl:=mL hw2
 obtain⟨_,rfl,h1_1⟩:=fh h1
 obtain⟨_,rfl,h1_2⟩:=fh h1_1
 simp only[dW]at h1_2;subst h1_2
 obtain⟨_,rfl,h2_1⟩:=fh h2
 obtain⟨_,rfl,h2_2⟩:=fh h2_1
 simp only[dW]at h2_2;subst h2_2
 simp only[Fs,bit,ae,ba,ak]at hp
 subst hp
 exact Vm x0 x1 y0 y1 w⟩
set_option maxRecDepth 100000 in
theorem Vn(x0:Int)(x1:Int)(x2:Int)(y0:Int)(y1:Int)(y2:Int)(w:World):(binOp .eql 255 (.agg #[.int .i64 x0, .int .i64 x1, .int .i64 x2]) (.agg #[.int .i64 y0, .int .i64 y1, .int .i64 y2])).run Tryz.prog w= .ok (.bool (decide (x0=y0/\x1=y1/\x2=y2))) w:=by
 simp[go_sem];repeat' split
 all_goals simp_all
theorem Xw:UL KT Tryz.prog 255 ([.int .i64 0, .int .i64 0, .int .i64 0]:List (CV Sx)):=⟨by kernel_rfl,fun g m vs ws p xs ys w hv hw hp h1 h2=>by
 obtain⟨x0,_,rfl,hv1⟩:=dS hv
 obtain⟨x1,_,rfl,hv2⟩:=dS hv1
 obtain⟨x2,_,rfl,hv3⟩:=dS hv2
 obtain rfl:=mL hv3
 obtain⟨y0,_,rfl,hw1⟩:=dS hw
 obtain⟨y1,_,rfl,hw2⟩:=dS hw1
 obtain⟨y2,_,rfl,hw3⟩:=dS hw2
 obtain rfl:=mL hw3
 obtain⟨_,rfl,h1_1⟩:=fh h1
 obtain⟨_,rfl,h1_2⟩:=fh h1_1
 obtain⟨_,rfl,h1_3⟩:=fh h1_2
 simp only[dW]at h1_3;subst h1_3
 obtain⟨_,rfl,h2_1⟩:=fh h2
 obtain⟨_,rfl,h2_2⟩:=fh h2_1
 obtain⟨_,rfl,h2_3⟩:=fh h2_2
 simp only[dW]at h2_3;subst h2_3
 simp only[Fs,bit,ae,ba,ak]at hp
 subst hp
 exact Vn x0 x1 x2 y0 y1 y2 w⟩
set_option maxRecDepth 100000 in
theorem Zd:∀ p∈tyL,dP Tryz.prog p.1 p.2:=all_cons aa5<|all_cons aa6<|all_cons aa7<|all_cons aa8<|all_cons aa9<|all_cons aba<|all_cons abb<|all_cons abc<|all_cons abd<|all_cons Z8<|all_cons Z9<|all_cons aaa<|all_cons aab<|all_cons aac<|all_cons aad<|all_cons aae<|all_cons aaf<|all_cons aag<|all_cons aah<|all_cons aai<|all_cons aaj<|all_cons aak<|all_cons aal<|all_cons aam<|all_cons aan<|all_cons aao<|all_cons aap<|all_cons aaq<|all_cons aar<|all_cons aas<|all_cons aat<|all_cons aau<|all_cons aav<|all_cons aaw<|all_cons aax<|all_cons aay<|all_cons Yo<|all_cons Yp<|all_cons Yq<|all_cons Yr<|all_cons Ys<|all_cons Yt<|all_cons Yu<|all_cons Yv<|all_cons Yw<|all_cons Yx<|all_cons Yy<|all_cons Yz<|all_cons YA<|all_cons YB<|all_cons YC<|all_cons YD<|all_cons YE<|all_cons YF<|all_cons YG<|all_cons YH<|all_cons YI<|all_cons YJ<|all_cons YK<|all_cons YL<|all_cons YM<|all_cons YN<|all_cons YO<|all_cons YP<|all_cons YQ<|all_cons YR<|all_cons YS<|all_cons YT<|all_cons YU<|all_cons YV<|all_cons YW<|all_cons YX<|all_cons YY<|all_cons YZ<|all_cons Y0<|all_cons Y3<|all_cons Y4<|all_cons Y5<|all_cons Y6<|all_cons Y7<|all_cons Y8<|all_cons Y9<|all_cons Za<|all_cons Zb<|all_cons Zc<|all_nil
theorem SS(x0 x1:Int)(w:World)(em:Bool):(Instr.checkKey em 10000 151 (.agg #[.int .i64 x0, .int .i64 x1])).run Tryz.prog w= .ok () w:=by kernel_rfl
theorem SR(x0 x1 y0 y1:Int)(w:World):(Op.equal 151 (.agg #[.int .i64 x0, .int .i64 x1]) (.agg #[.int .i64 y0, .int .i64 y1])).run Tryz.prog w= .ok (cR x0 y0&&(cR x1 y1&&true)) w:=by
 rw[Kg (OX x0 x1 y0 y1 w)]
 congr 1
 simp[cR]
theorem VF:Dm tb (.st 6)=true->lf Tryz.prog 151 (fun x v=>∃ m,fJ KT (.st 6) m x v) (oU tb (.st 6)):=fun h=>XL h Tryz.underlying151 (fun w em x=>SS x.from_ x.to w em) (fun w x y=>SR x.from_ x.to y.from_ y.to w)
theorem tyT:fR Tryz.prog KT tt:=aa3 rfl Zd (by kernel_rfl) (by
 rw[show(tyL.filter fun p=>p.2.eq).map (fun p=>(p.1,p.2.zero))=[(7,[.int .i64 0, .int .i64 0, .tt false, .u8 0]),(8,[.int .i64 0, .int .i64 0, .tt false, .u8 0]),(24,[.a8 32 (fun _=>0)]),(30,[.int .i64 0, .int .i64 0]),(92,[.int .i64 0, .int .i64 0]),(151,[.int .i64 0, .int .i64 0]),(200,[.int .i64 0, .int .i64 0]),(255,[.int .i64 0, .int .i64 0, .int .i64 0])]by kernel_rfl]
 exact all_cons eq_7<|all_cons eq_8<|all_cons eq_24<|all_cons eq_30<|all_cons ZF<|all_cons Xu<|all_cons Xv<|all_cons Xw<|all_nil) (by kernel_rfl) (by
 rw[show Uq tyL=[(151,6)]by kernel_rfl]
 exact all_cons VF<|all_nil)
theorem XB:Tryz.prog.follows .mixedOrders=true:=by kernel_rfl
abbrev SX(c:dt Sx):Prop:=Sound Tryz.prog KT c
abbrev WQ(c:NC Sx):Prop:=pb Tryz.prog KT c
set_option maxRecDepth 100000 in
theorem fq(fn:Func)(rs:List ResultVar)(fa:FA Sx)(an:An){Φ:List (dt Sx)}{c:dt Sx}(hΦ:∀ c∈Φ,SX c)(hev:∀ x,ZG tb tt Φ fa c rs (bd fn) an x=c.pB x:=by intro x;kernel_rfl)(h:facts Tryz.prog fn c.f fa.fn c.ins.length=JG fn rs:=by kernel_rfl)(hΨ:∀ c∈fa.nd,WQ c:=by intro c hc;cases hc):SX c:=
 aaP tyT XB (fun _=>rfl) hΦ hev h hΨ
set_option maxRecDepth 100000 in
theorem nq(fn:Func)(rs:List ResultVar)(fa:FA Sx)(an:An){Φ:List (dt Sx)}{c:NC Sx}(hΦ:∀ c∈Φ,SX c)(hev:∀ γ k x,Zl tb tt Φ fa c rs (bd fn) an γ k x=c.Fw γ k x:=by intro γ k x;kernel_rfl)(h:facts Tryz.prog fn c.f fa.fn c.ins.length=JG fn rs:=by kernel_rfl)(hΨ:∀ c∈fa.nd,WQ c:=by intro c hc;cases hc):WQ c:=
 ZT tyT XB (fun _=>rfl) hΦ hev h hΨ
set_option maxRecDepth 100000 in
theorem yq(r n:Nat)(ps:List Nat)(fa:FA Sx)(an:An){Φ:List (dt Sx)}{c:dt Sx}(hΦ:∀ c∈Φ,SX c)(hev:∀ x,ZH tb tt Φ fa c r ps (Zm Tryz.prog r) (Zn Tryz.prog r) an x=c.pB x:=by intro x;kernel_rfl)(h:Ox Tryz.prog r n ps c.f c.ins.length=Oy r:=by kernel_rfl)(hrd:fa.rd=true:=by rfl)(hrg:KT.rg r=some ⟨ps,Zm Tryz.prog r,Zn Tryz.prog r,n⟩:=by rfl)(hΨ:∀ c∈fa.nd,WQ c:=by intro c hc;cases hc):SX c:=
 y_q tyT XB hΦ hev h hrd hrg hΨ
theorem c1{a:dt Sx}{l:List (dt Sx)}(h:SX a)(hl:∀ c∈l,SX c):∀ c∈a::l,SX c:=all_cons h hl
end E
end Go.Proofs.YtekpafdhgkocaaaGreat
