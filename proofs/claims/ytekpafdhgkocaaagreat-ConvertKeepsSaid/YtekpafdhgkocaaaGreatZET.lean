/- Part of the proof. -/
import Derived.Test.YtekpafdhgkocaaaGreatZEvD
import Derived.Test.YtekpafdhgkocaaaGreatProg
namespace Go.Proofs.YtekpafdhgkocaaaGreat
open Go.RowKit G
def Bx:Mem->Prop:=fun _=>True
theorem Bxm{m m2:Mem}(_:Bx m)(_:Le m m2):Bx m2:=trivial
namespace E
def Sx:Nat->Type
 |0=>dF
 |1=>sM
 |2=>kh
 |3=>ns
 |4=>bN
 |5=>cu
 |6=>bZ
 |7=>lS
 |8=>sQ
 |9=>og
 |10=>gg
 |11=>bP
 |12=>bT
 |13=>cd
 |14=>vW
 |15=>gu
 |16=>qZ
 |17=>AE
 |18=>Mn
 |19=>bQ
 |20=>CD
 |_=>Bool
def tb:Tb Sx
 |0=>{fs:=[(.int .i64),(.int .i64),.bo,.u8],to:=fun(x:dF)=>(x.x,x.y,x.signed,x.code,()),of:=fun h=>(⟨h.1,h.2.1,h.2.2.1,h.2.2.2.1⟩:dF)}
 |1=>{fs:=[(.int .i64),(.int .i64),.bo,.u8],to:=fun(x:sM)=>(x.x,x.y,x.signed,x.code,()),of:=fun h=>(⟨h.1,h.2.1,h.2.2.1,h.2.2.2.1⟩:sM)}
 |2=>{fs:=[.str,(.int .u64)],to:=fun(x:kh)=>(x.msg,x.addr,()),of:=fun h=>(⟨h.1,h.2.1⟩:kh)}
 |3=>{fs:=[.str,(.int .u64)],to:=fun(x:ns)=>(x.msg,x.addr,()),of:=fun h=>(⟨h.1,h.2.1⟩:ns)}
 |4=>{fs:=[(.int .i64),(.int .i64),(.int .i64),(.int .i64),(.sl .u8)],to:=fun(x:bN)=>(x.kind,x.to,x.cq,x.len,x.data,()),of:=fun h=>(⟨h.1,h.2.1,h.2.2.1,h.2.2.2.1,h.2.2.2.2.1⟩:bN)}
 |5=>{fs:=[(.int .i64),(.int .i64),(.a8 32),(.a8 32),(.sl (.st 4))],to:=fun(x:cu)=>(x.cg,x.b6,x.dv,x.du,x.bO,()),of:=fun h=>(⟨h.1,h.2.1,h.2.2.1,h.2.2.2.1,h.2.2.2.2.1⟩:cu)}
 |6=>{fs:=[(.int .i64),(.int .i64),(.a8 32),(.a8 32),(.sl (.st 4))],to:=fun(x:bZ)=>(x.cg,x.b6,x.dv,x.du,x.bO,()),of:=fun h=>(⟨h.1,h.2.1,h.2.2.1,h.2.2.2.1,h.2.2.2.2.1⟩:bZ)}
 |7=>{fs:=[(.int .i64),(.int .i64)],to:=fun(x:lS)=>(x.code,x.at_,()),of:=fun h=>(⟨h.1,h.2.1⟩:lS)}
 |8=>{fs:=[(.int .i64),(.int .i64)],to:=fun(x:sQ)=>(x.code,x.at_,()),of:=fun h=>(⟨h.1,h.2.1⟩:sQ)}
 |9=>{fs:=[(.sl (.int .u32)),(.sl (.int .u32))],to:=fun(x:og)=>(x.s,x.k,()),of:=fun h=>(⟨h.1,h.2.1⟩:og)}
 |10=>{fs:=[(.sl (.int .u32)),(.sl (.int .u32))],to:=fun(x:gg)=>(x.s,x.k,()),of:=fun h=>(⟨h.1,h.2.1⟩:gg)}
 |11=>{fs:=[(.int .i64),(.int .i64)],to:=fun(x:bP)=>(x.cq,x.to,()),of:=fun h=>(⟨h.1,h.2.1⟩:bP)}
 |12=>{fs:=[(.int .i64),(.int .i64)],to:=fun(x:bT)=>(x.cq,x.to,()),of:=fun h=>(⟨h.1,h.2.1⟩:bT)}
 |13=>{fs:=[(.int .i64),(.int .i64)],to:=fun(x:cd)=>(x.off,x.len,()),of:=fun h=>(⟨h.1,h.2.1⟩:cd)}
 |14=>{fs:=[(.int .i64),(.sl (.st 12))],to:=fun(x:vW)=>(x.n,x.aeD,()),of:=fun h=>(⟨h.1,h.2.1⟩:vW)}
 |15=>{fs:=[(.sl .u8),(.int .i64),(.int .i64),(.int .i64)],to:=fun(x:gu)=>(x.b,x.at_,x.fault.code,x.fault.at_,()),of:=fun h=>(⟨h.1,h.2.1,(⟨h.2.2.1,h.2.2.2.1⟩:sQ)⟩:gu)}
 |16=>{fs:=[(.int .i64),(.int .i64)],to:=fun(x:qZ)=>(x.dH.off,x.dH.len,()),of:=fun h=>(⟨(⟨h.1,h.2.1⟩:cd)⟩:qZ)}
 |17=>{fs:=[(.ai 8 .u32),(.sl .u8),(.int .i64)],to:=fun(x:AE)=>(x.words,x.rest,x.n,()),of:=fun h=>(⟨h.1,h.2.1,h.2.2.1⟩:AE)}
 |18=>{fs:=[(.ai 8 .u32),(.sl .u8),(.int .i64)],to:=fun(x:Mn)=>(x.state.words,x.state.rest,x.state.n,()),of:=fun h=>(⟨(⟨h.1,h.2.1,h.2.2.1⟩:AE)⟩:Mn)}
 |19=>{fs:=[(.int .i64),(.int .i64),(.int .i64)],to:=fun(x:bQ)=>(x.dH.off,x.dH.len,x.position,()),of:=fun h=>(⟨(⟨h.1,h.2.1⟩:cd),h.2.2.1⟩:bQ)}
 |20=>{fs:=[(.sl (.st 19))],to:=fun(x:CD)=>(x.sorted,()),of:=fun h=>(⟨h.1⟩:CD)}
 |_+21=>{fs:=[.bo],to:=fun(x:Bool)=>(x,()),of:=fun h=>h.1}
def tyL:List (Nat×TI Sx):=[(1,⟨.func,1,8,[.ed],.bo,false⟩),
 (2,⟨.int .i64,1,8,[.int .i64 0],(.int .i64),false⟩),
 (3,⟨.int .i64,1,8,[.int .i64 0],(.int .i64),false⟩),
 (4,⟨.bool,1,1,[.tt false],.bo,false⟩),
 (5,⟨.int .u8,1,1,[.u8 0],.u8,false⟩),
 (6,⟨.int .u8,1,1,[.u8 0],.u8,false⟩),
 (7,⟨.struct [(2,0,1),(3,1,1),(4,2,1),(6,3,1)],4,24,[.int .i64 0,.int .i64 0,.tt false,.u8 0],(.st 0),true⟩),
 (8,⟨.struct [(2,0,1),(3,1,1),(4,2,1),(6,3,1)],4,24,[.int .i64 0,.int .i64 0,.tt false,.u8 0],(.st 1),true⟩),
 (9,⟨.str,1,16,[.str []],.str,false⟩),
 (10,⟨.str,1,16,[.str []],.str,false⟩),
 (11,⟨.str,1,16,[.str []],.str,false⟩),
 (12,⟨.int .u64,1,8,[.int .u64 0],(.int .u64),false⟩),
 (13,⟨.struct [(9,0,1),(12,1,1)],2,24,[.str [],.int .u64 0],(.st 2),false⟩),
 (14,⟨.struct [(9,0,1),(12,1,1)],2,24,[.str [],.int .u64 0],(.st 3),false⟩),
 (15,⟨.ptr 328,1,8,[.mb],.bo,false⟩),
 (16,⟨.ptr 331,1,8,[.mb],.bo,false⟩),
 (17,⟨.ptr 339,1,8,[.mb],.bo,false⟩),
 (18,⟨.struct [(17,0,1)],1,8,[.mb],.bo,false⟩),
 (19,⟨.struct [(17,0,1)],1,8,[.mb],.bo,false⟩),
 (20,⟨.iface,1,16,[.GP],.bo,false⟩),
 (21,⟨.int .i32,1,4,[.int .i32 0],(.int .i32),false⟩),
 (22,⟨.slice 5,1,24,[.fP],(.sl .u8),false⟩),
 (23,⟨.func,1,8,[.ed],.bo,false⟩),
 (24,⟨.array 32 5,32,32,[.a8 32 (fun _=>0)],(.a8 32),true⟩),
 (25,⟨.slice 72,1,24,[.fP],(.sl (.st 4)),false⟩),
 (26,⟨.struct [(3,0,1),(3,1,1),(24,2,32),(24,34,32),(25,66,1)],67,104,[.int .i64 0,.int .i64 0,.a8 32 (fun _=>0),.a8 32 (fun _=>0),.fP],(.st 5),false⟩),
 (27,⟨.struct [(3,0,1),(3,1,1),(24,2,32),(24,34,32),(25,66,1)],67,104,[.int .i64 0,.int .i64 0,.a8 32 (fun _=>0),.a8 32 (fun _=>0),.fP],(.st 6),false⟩),
 (28,⟨.int .i64,1,8,[.int .i64 0],(.int .i64),false⟩),
 (29,⟨.struct [(28,0,1),(3,1,1)],2,16,[.int .i64 0,.int .i64 0],(.st 7),true⟩),
 (30,⟨.struct [(28,0,1),(3,1,1)],2,16,[.int .i64 0,.int .i64 0],(.st 8),true⟩),
 (32,⟨.func,1,8,[.ed],.bo,false⟩),
 (34,⟨.func,1,8,[.ed],.bo,false⟩),
 (35,⟨.func,1,8,[.ed],.bo,false⟩),
 (36,⟨.func,1,8,[.ed],.bo,false⟩),
 (37,⟨.int .u64,1,8,[.int .u64 0],(.int .u64),false⟩),
 (38,⟨.func,1,8,[.ed],.bo,false⟩),
 (39,⟨.func,1,8,[.ed],.bo,false⟩),
 (40,⟨.func,1,8,[.ed],.bo,false⟩),
 (41,⟨.func,1,8,[.ed],.bo,false⟩),
 (42,⟨.func,1,8,[.ed],.bo,false⟩),
 (44,⟨.func,1,8,[.ed],.bo,false⟩),
 (45,⟨.func,1,8,[.ed],.bo,false⟩),
 (46,⟨.func,1,8,[.ed],.bo,false⟩),
 (47,⟨.func,1,8,[.ed],.bo,false⟩),
 (48,⟨.func,1,8,[.ed],.bo,false⟩),
 (49,⟨.func,1,8,[.ed],.bo,false⟩),
 (50,⟨.func,1,8,[.ed],.bo,false⟩),
 (51,⟨.slice 206,1,24,[.fP],(.sl (.int .u32)),false⟩),
 (52,⟨.struct [(51,0,1),(51,1,1)],2,48,[.fP,.fP],(.st 9),false⟩),
 (53,⟨.struct [(51,0,1),(51,1,1)],2,48,[.fP,.fP],(.st 10),false⟩),
 (54,⟨.func,1,8,[.ed],.bo,false⟩),
 (55,⟨.func,1,8,[.ed],.bo,false⟩),
 (56,⟨.slice 3,1,24,[.fP],(.sl (.int .i64)),false⟩),
 (57,⟨.func,1,8,[.ed],.bo,false⟩),
 (58,⟨.func,1,8,[.ed],.bo,false⟩),
 (59,⟨.func,1,8,[.ed],.bo,false⟩),
 (60,⟨.func,1,8,[.ed],.bo,false⟩),
 (61,⟨.func,1,8,[.ed],.bo,false⟩),
 (62,⟨.func,1,8,[.ed],.bo,false⟩),
 (63,⟨.func,1,8,[.ed],.bo,false⟩),
 (68,⟨.ptr 134,1,8,[.mb],.bo,false⟩),
 (72,⟨.struct [(3,0,1),(3,1,1),(3,2,1),(3,3,1),(22,4,1)],5,56,[.int .i64 0,.int .i64 0,.int .i64 0,.int .i64 0,.fP],(.st 4),false⟩),
 (76,⟨.slice 151,1,24,[.fP],(.sl (.st 11)),false⟩),
 (78,⟨.slice 138,1,24,[.fP],(.sl (.st 12)),false⟩),
 (83,⟨.slice 22,1,24,[.fP],(.sl (.sl .u8)),false⟩),
 (90,⟨.slice 92,1,24,[.fP],(.sl (.st 13)),false⟩),
 (92,⟨.struct [(3,0,1),(3,1,1)],2,16,[.int .i64 0,.int .i64 0],(.st 13),true⟩),
 (94,⟨.ptr 243,1,8,[.mb],.bo,false⟩),
 (96,⟨.struct [(25,0,1),(94,1,1)],2,32,[.fP,.mb],.bo,false⟩),
 (97,⟨.struct [(96,0,2),(56,2,1),(56,3,1)],4,80,[.fP,.mb,.fP,.fP],.bo,false⟩),
 (98,⟨.struct [(96,0,2),(56,2,1),(56,3,1)],4,80,[.fP,.mb,.fP,.fP],.bo,false⟩),
 (99,⟨.func,1,8,[.ed],.bo,false⟩),
 (100,⟨.func,1,8,[.ed],.bo,false⟩),
 (102,⟨.func,1,8,[.ed],.bo,false⟩),
 (103,⟨.func,1,8,[.ed],.bo,false⟩),
 (104,⟨.func,1,8,[.ed],.bo,false⟩),
 (105,⟨.func,1,8,[.ed],.bo,false⟩),
 (106,⟨.func,1,8,[.ed],.bo,false⟩),
 (107,⟨.func,1,8,[.ed],.bo,false⟩),
 (110,⟨.func,1,8,[.ed],.bo,false⟩),
 (111,⟨.func,1,8,[.ed],.bo,false⟩),
 (114,⟨.func,1,8,[.ed],.bo,false⟩),
 (116,⟨.func,1,8,[.ed],.bo,false⟩),
 (117,⟨.func,1,8,[.ed],.bo,false⟩),
 (118,⟨.func,1,8,[.ed],.bo,false⟩),
 (119,⟨.func,1,8,[.ed],.bo,false⟩),
 (120,⟨.func,1,8,[.ed],.bo,false⟩),
 (121,⟨.func,1,8,[.ed],.bo,false⟩),
 (126,⟨.ptr 215,1,8,[.mb],.bo,false⟩),
 (128,⟨.func,1,8,[.ed],.bo,false⟩),
 (134,⟨.struct [(3,0,1),(78,1,1)],2,32,[.int .i64 0,.fP],(.st 14),false⟩),
 (138,⟨.struct [(3,0,1),(3,1,1)],2,16,[.int .i64 0,.int .i64 0],(.st 12),true⟩),
 (141,⟨.int .u64,1,8,[.int .u64 0],(.int .u64),false⟩),
 (143,⟨.map 3 3,1,8,[.B6],(.mp (.int .i64) (.int .i64)),false⟩),
 (144,⟨.func,1,8,[.ed],.bo,false⟩),
 (145,⟨.func,1,8,[.ed],.bo,false⟩),
 (148,⟨.func,1,8,[.ed],.bo,false⟩),
 (151,⟨.struct [(3,0,1),(3,1,1)],2,16,[.int .i64 0,.int .i64 0],(.st 11),true⟩),
 (166,⟨.func,1,8,[.ed],.bo,false⟩),
 (180,⟨.struct [(22,0,1),(3,1,1),(30,2,2)],4,48,[.fP,.int .i64 0,.int .i64 0,.int .i64 0],(.st 15),false⟩),
 (187,⟨.ptr 253,1,8,[.mb],.bo,false⟩),
 (200,⟨.struct [(92,0,2)],2,16,[.int .i64 0,.int .i64 0],(.st 16),true⟩),
 (204,⟨.slice 37,1,24,[.fP],(.sl (.int .u64)),false⟩),
 (206,⟨.int .u32,1,4,[.int .u32 0],(.int .u32),false⟩),
 (210,⟨.array 8 206,8,32,[.ai 8 .u32 (fun _=>0)],(.ai 8 .u32),false⟩),
 (212,⟨.struct [(210,0,8),(22,8,1),(3,9,1)],10,64,[.ai 8 .u32 (fun _=>0),.fP,.int .i64 0],(.st 17),false⟩),
 (215,⟨.struct [(212,0,10)],10,64,[.ai 8 .u32 (fun _=>0),.fP,.int .i64 0],(.st 18),false⟩),
 (216,⟨.func,1,8,[.ed],.bo,false⟩),
 (217,⟨.func,1,8,[.ed],.bo,false⟩),
 (219,⟨.func,1,8,[.ed],.bo,false⟩),
 (220,⟨.func,1,8,[.ed],.bo,false⟩),
 (222,⟨.int .i64,1,8,[.int .i64 0],(.int .i64),false⟩),
 (226,⟨.func,1,8,[.ed],.bo,false⟩),
 (233,⟨.func,1,8,[.ed],.bo,false⟩),
 (237,⟨.func,1,8,[.ed],.bo,false⟩),
 (238,⟨.func,1,8,[.ed],.bo,false⟩),
 (240,⟨.map 151 4,1,8,[.B6],(.mp (.st 11) .bo),false⟩),
 (241,⟨.map 3 56,1,8,[.B6],(.mp (.int .i64) (.sl (.int .i64))),false⟩),
 (243,⟨.struct [(3,0,1),(240,1,1),(241,2,1),(241,3,1)],4,32,[.int .i64 0,.B6,.B6,.B6],.bo,false⟩),
 (251,⟨.slice 255,1,24,[.fP],(.sl (.st 19)),false⟩),
 (253,⟨.struct [(251,0,1)],1,24,[.fP],(.st 20),false⟩),
 (255,⟨.struct [(92,0,2),(3,2,1)],3,24,[.int .i64 0,.int .i64 0,.int .i64 0],(.st 19),true⟩),
 (256,⟨.func,1,8,[.ed],.bo,false⟩),
 (257,⟨.func,1,8,[.ed],.bo,false⟩),
 (265,⟨.func,1,8,[.ed],.bo,false⟩),
 (268,⟨.func,1,8,[.ed],.bo,false⟩),
 (270,⟨.func,1,8,[.ed],.bo,false⟩),
 (274,⟨.func,1,8,[.ed],.bo,false⟩),
 (275,⟨.ptr 212,1,8,[.mb],.bo,false⟩),
 (277,⟨.int .u64,1,8,[.int .u64 0],(.int .u64),false⟩),
 (281,⟨.ptr 3,1,8,[.mb],.bo,false⟩),
 (286,⟨.func,1,8,[.ed],.bo,false⟩),
 (293,⟨.array 4 37,4,32,[.ai 4 .u64 (fun _=>0)],(.ai 4 .u64),false⟩),
 (294,⟨.func,1,8,[.ed],.bo,false⟩),
 (296,⟨.array 16 206,16,64,[.ai 16 .u32 (fun _=>0)],(.ai 16 .u32),false⟩),
 (297,⟨.array 64 206,64,256,[.ai 64 .u32 (fun _=>0)],(.ai 64 .u32),false⟩),
 (299,⟨.ptr 277,1,8,[.mb],.bo,false⟩),
 (300,⟨.func,1,8,[.ed],.bo,false⟩),
 (301,⟨.slice 4,1,24,[.fP],(.sl .bo),false⟩),
 (323,⟨.map 3 4,1,8,[.B6],(.mp (.int .i64) .bo),false⟩)]
def tt(t:TypeId):Option (TI Sx):=look t tyL
end E
namespace E
theorem aeK:∀i,(tb i).fs.all Pq=true
 |0=>rfl
 |1=>rfl
 |2=>rfl
 |3=>rfl
 |4=>rfl
 |5=>rfl
 |6=>rfl
 |7=>rfl
 |8=>rfl
 |9=>rfl
 |10=>rfl
 |11=>rfl
 |12=>rfl
 |13=>rfl
 |14=>rfl
 |15=>rfl
 |16=>rfl
 |17=>rfl
 |18=>rfl
 |19=>rfl
 |20=>rfl
 |_+21=>rfl
theorem max_:∀i,(tb i).fs.all (fun c=>Nat.ble (EB c) i)=true
 |0=>rfl
 |1=>rfl
 |2=>rfl
 |3=>rfl
 |4=>rfl
 |5=>rfl
 |6=>rfl
 |7=>rfl
 |8=>rfl
 |9=>rfl
 |10=>rfl
 |11=>rfl
 |12=>rfl
 |13=>rfl
 |14=>rfl
 |15=>rfl
 |16=>rfl
 |17=>rfl
 |18=>rfl
 |19=>rfl
 |20=>rfl
 |_+21=>by simp[tb,EB]
theorem ne_:∀i,(tb i).fs≠[]
 |0=>(fun h=>by cases h)
 |1=>(fun h=>by cases h)
 |2=>(fun h=>by cases h)
 |3=>(fun h=>by cases h)
 |4=>(fun h=>by cases h)
 |5=>(fun h=>by cases h)
 |6=>(fun h=>by cases h)
 |7=>(fun h=>by cases h)
 |8=>(fun h=>by cases h)
 |9=>(fun h=>by cases h)
 |10=>(fun h=>by cases h)
 |11=>(fun h=>by cases h)
 |12=>(fun h=>by cases h)
 |13=>(fun h=>by cases h)
 |14=>(fun h=>by cases h)
 |15=>(fun h=>by cases h)
 |16=>(fun h=>by cases h)
 |17=>(fun h=>by cases h)
 |18=>(fun h=>by cases h)
 |19=>(fun h=>by cases h)
 |20=>(fun h=>by cases h)
 |_+21=>(fun h=>by cases h)
theorem adW:∀i (h:HL Sx (tb i).fs),(tb i).to ((tb i).of h)=h
 |0,_=>rfl
 |1,_=>rfl
 |2,_=>rfl
 |3,_=>rfl
 |4,_=>rfl
 |5,_=>rfl
 |6,_=>rfl
 |7,_=>rfl
 |8,_=>rfl
 |9,_=>rfl
 |10,_=>rfl
 |11,_=>rfl
 |12,_=>rfl
 |13,_=>rfl
 |14,_=>rfl
 |15,_=>rfl
 |16,_=>rfl
 |17,_=>rfl
 |18,_=>rfl
 |19,_=>rfl
 |20,_=>rfl
 |_+21,_=>rfl
noncomputable def KT:ju tb:=afQ (rgP Tryz.prog) Bx Bxm aeK (fun i c hc=>ay (aR.1 (max_ i) c hc)) ne_ adW
set_option maxRecDepth 100000 in
theorem aeE(x0:Int)(x1:Int)(x2:Bool)(x3:UInt8)(y0:Int)(y1:Int)(y2:Bool)(y3:UInt8)(w:World):(binOp .eql 7 (.agg #[.int .i64 x0,.int .i64 x1,.bool x2,.int .u8 (x3.toNat:Int)]) (.agg #[.int .i64 y0,.int .i64 y1,.bool y2,.int .u8 (y3.toNat:Int)])).run Tryz.prog w=.ok (.bool (decide (x0=y0/\x1=y1/\x2=y2/\(x3.toNat:Int)=(y3.toNat:Int)))) w:=by
 simp[go_sem];repeat' split
 all_goals simp_all
theorem eq_7:W3 KT Tryz.prog 7 ([.int .i64 0,.int .i64 0,.tt false,.u8 0]:List (CV Sx)):=⟨by kernel_rfl,fun g m vs ws p xs ys w hv hw hp h1 h2=>by
 obtain⟨x0,_,rfl,hv1⟩:=dr hv;obtain⟨x1,_,rfl,hv2⟩:=dr hv1;rcases Kd hv2 with⟨x2,_,_,_,_,rfl,hv3⟩|⟨x2,_,rfl,hv3⟩
 all_goals
  obtain⟨x3,_,rfl,hv4⟩:=Kf hv3
  obtain rfl:=jF hv4
  obtain⟨y0,_,rfl,hw1⟩:=dr hw
  obtain⟨y1,_,rfl,hw2⟩:=dr hw1
  rcases Kd hw2 with⟨y2,_,_,_,_,rfl,hw3⟩|⟨y2,_,rfl,hw3⟩
  all_goals
   obtain⟨y3,_,rfl,hw4⟩:=Kf hw3
   obtain rfl:=jF hw4
   obtain⟨_,rfl,h1_1⟩:=dU h1
   obtain⟨_,rfl,h1_2⟩:=dU h1_1
   first|obtain⟨_,rfl,h1_3⟩:=O2 h1_2|obtain⟨_,rfl,h1_3⟩:=OZ h1_2
   obtain⟨_,rfl,h1_4⟩:=O3 h1_3
   simp only[eb]at h1_4;subst h1_4
   obtain⟨_,rfl,h2_1⟩:=dU h2
   obtain⟨_,rfl,h2_2⟩:=dU h2_1
   first|obtain⟨_,rfl,h2_3⟩:=O2 h2_2|obtain⟨_,rfl,h2_3⟩:=OZ h2_2
   obtain⟨_,rfl,h2_4⟩:=O3 h2_3
   simp only[eb]at h2_4;subst h2_4
   simp only[Gw,bit,aa,bg,al]at hp
   subst hp
   exact aeE x0 x1 x2 x3 y0 y1 y2 y3 w⟩
set_option maxRecDepth 100000 in
theorem aeF(x0:Int)(x1:Int)(x2:Bool)(x3:UInt8)(y0:Int)(y1:Int)(y2:Bool)(y3:UInt8)(w:World):(binOp .eql 8 (.agg #[.int .i64 x0,.int .i64 x1,.bool x2,.int .u8 (x3.toNat:Int)]) (.agg #[.int .i64 y0,.int .i64 y1,.bool y2,.int .u8 (y3.toNat:Int)])).run Tryz.prog w=.ok (.bool (decide (x0=y0/\x1=y1/\x2=y2/\(x3.toNat:Int)=(y3.toNat:Int)))) w:=by
 simp[go_sem];repeat' split
 all_goals simp_all
theorem eq_8:W3 KT Tryz.prog 8 ([.int .i64 0,.int .i64 0,.tt false,.u8 0]:List (CV Sx)):=⟨by kernel_rfl,fun g m vs ws p xs ys w hv hw hp h1 h2=>by
 obtain⟨x0,_,rfl,hv1⟩:=dr hv;obtain⟨x1,_,rfl,hv2⟩:=dr hv1;rcases Kd hv2 with⟨x2,_,_,_,_,rfl,hv3⟩|⟨x2,_,rfl,hv3⟩
 all_goals
  obtain⟨x3,_,rfl,hv4⟩:=Kf hv3
  obtain rfl:=jF hv4
  obtain⟨y0,_,rfl,hw1⟩:=dr hw
  obtain⟨y1,_,rfl,hw2⟩:=dr hw1
  rcases Kd hw2 with⟨y2,_,_,_,_,rfl,hw3⟩|⟨y2,_,rfl,hw3⟩
  all_goals
   obtain⟨y3,_,rfl,hw4⟩:=Kf hw3
   obtain rfl:=jF hw4
   obtain⟨_,rfl,h1_1⟩:=dU h1
   obtain⟨_,rfl,h1_2⟩:=dU h1_1
   first|obtain⟨_,rfl,h1_3⟩:=O2 h1_2|obtain⟨_,rfl,h1_3⟩:=OZ h1_2
   obtain⟨_,rfl,h1_4⟩:=O3 h1_3
   simp only[eb]at h1_4;subst h1_4
   obtain⟨_,rfl,h2_1⟩:=dU h2
   obtain⟨_,rfl,h2_2⟩:=dU h2_1
   first|obtain⟨_,rfl,h2_3⟩:=O2 h2_2|obtain⟨_,rfl,h2_3⟩:=OZ h2_2
   obtain⟨_,rfl,h2_4⟩:=O3 h2_3
   simp only[eb]at h2_4;subst h2_4
   simp only[Gw,bit,aa,bg,al]at hp
   subst hp
   exact aeF x0 x1 x2 x3 y0 y1 y2 y3 w⟩
theorem eq_24:W3 KT Tryz.prog 24 ([.a8 32 (fun _=>0)]:List (CV Sx)):=⟨by kernel_rfl,fun g m vs ws p xs ys w hv hw hp h1 h2=>by cases vs<;>simp[kindOk]at hv⟩
set_option maxRecDepth 100000 in
theorem acX(x0:Int)(x1:Int)(y0:Int)(y1:Int)(w:World):(binOp .eql 29 (.agg #[.int .i64 x0,.int .i64 x1]) (.agg #[.int .i64 y0,.int .i64 y1])).run Tryz.prog w=.ok (.bool (decide (x0=y0/\x1=y1))) w:=by
 simp[go_sem];repeat' split
 all_goals simp_all
theorem eq_29:W3 KT Tryz.prog 29 ([.int .i64 0,.int .i64 0]:List (CV Sx)):=⟨by kernel_rfl,fun g m vs ws p xs ys w hv hw hp h1 h2=>by
 obtain⟨x0,_,rfl,hv1⟩:=dr hv;obtain⟨x1,_,rfl,hv2⟩:=dr hv1;obtain rfl:=jF hv2;obtain⟨y0,_,rfl,hw1⟩:=dr hw;obtain⟨y1,_,rfl,hw2⟩:=dr hw1;obtain rfl:=jF hw2;obtain⟨_,rfl,h1_1⟩:=dU h1;obtain⟨_,rfl,h1_2⟩:=dU h1_1;simp only[eb]at h1_2;subst h1_2;obtain⟨_,rfl,h2_1⟩:=dU h2;obtain⟨_,rfl,h2_2⟩:=dU h2_1;simp only[eb]at h2_2;subst h2_2;simp only[Gw,bit,aa,bg,al]at hp;subst hp;exact acX x0 x1 y0 y1 w⟩
set_option maxRecDepth 100000 in
theorem acY(x0:Int)(x1:Int)(y0:Int)(y1:Int)(w:World):(binOp .eql 30 (.agg #[.int .i64 x0,.int .i64 x1]) (.agg #[.int .i64 y0,.int .i64 y1])).run Tryz.prog w=.ok (.bool (decide (x0=y0/\x1=y1))) w:=by
 simp[go_sem];repeat' split
 all_goals simp_all
theorem eq_30:W3 KT Tryz.prog 30 ([.int .i64 0,.int .i64 0]:List (CV Sx)):=⟨by kernel_rfl,fun g m vs ws p xs ys w hv hw hp h1 h2=>by
 obtain⟨x0,_,rfl,hv1⟩:=dr hv;obtain⟨x1,_,rfl,hv2⟩:=dr hv1;obtain rfl:=jF hv2;obtain⟨y0,_,rfl,hw1⟩:=dr hw;obtain⟨y1,_,rfl,hw2⟩:=dr hw1;obtain rfl:=jF hw2;obtain⟨_,rfl,h1_1⟩:=dU h1;obtain⟨_,rfl,h1_2⟩:=dU h1_1;simp only[eb]at h1_2;subst h1_2;obtain⟨_,rfl,h2_1⟩:=dU h2;obtain⟨_,rfl,h2_2⟩:=dU h2_1;simp only[eb]at h2_2;subst h2_2;simp only[Gw,bit,aa,bg,al]at hp;subst hp;exact acY x0 x1 y0 y1 w⟩
set_option maxRecDepth 100000 in
theorem acZ(x0:Int)(x1:Int)(y0:Int)(y1:Int)(w:World):(binOp .eql 92 (.agg #[.int .i64 x0,.int .i64 x1]) (.agg #[.int .i64 y0,.int .i64 y1])).run Tryz.prog w=.ok (.bool (decide (x0=y0/\x1=y1))) w:=by
 simp[go_sem];repeat' split
 all_goals simp_all
theorem aeG:W3 KT Tryz.prog 92 ([.int .i64 0,.int .i64 0]:List (CV Sx)):=⟨by kernel_rfl,fun g m vs ws p xs ys w hv hw hp h1 h2=>by
 obtain⟨x0,_,rfl,hv1⟩:=dr hv;obtain⟨x1,_,rfl,hv2⟩:=dr hv1;obtain rfl:=jF hv2;obtain⟨y0,_,rfl,hw1⟩:=dr hw;obtain⟨y1,_,rfl,hw2⟩:=dr hw1;obtain rfl:=jF hw2;obtain⟨_,rfl,h1_1⟩:=dU h1;obtain⟨_,rfl,h1_2⟩:=dU h1_1;simp only[eb]at h1_2;subst h1_2;obtain⟨_,rfl,h2_1⟩:=dU h2;obtain⟨_,rfl,h2_2⟩:=dU h2_1;simp only[eb]at h2_2;subst h2_2;simp only[Gw,bit,aa,bg,al]at hp;subst hp;exact acZ x0 x1 y0 y1 w⟩
set_option maxRecDepth 100000 in
theorem aax(x0:Int)(x1:Int)(y0:Int)(y1:Int)(w:World):(binOp .eql 138 (.agg #[.int .i64 x0,.int .i64 x1]) (.agg #[.int .i64 y0,.int .i64 y1])).run Tryz.prog w=.ok (.bool (decide (x0=y0/\x1=y1))) w:=by
 simp[go_sem];repeat' split
 all_goals simp_all
theorem ac1:W3 KT Tryz.prog 138 ([.int .i64 0,.int .i64 0]:List (CV Sx)):=⟨by kernel_rfl,fun g m vs ws p xs ys w hv hw hp h1 h2=>by
 obtain⟨x0,_,rfl,hv1⟩:=dr hv;obtain⟨x1,_,rfl,hv2⟩:=dr hv1;obtain rfl:=jF hv2;obtain⟨y0,_,rfl,hw1⟩:=dr hw;obtain⟨y1,_,rfl,hw2⟩:=dr hw1;obtain rfl:=jF hw2;obtain⟨_,rfl,h1_1⟩:=dU h1;obtain⟨_,rfl,h1_2⟩:=dU h1_1;simp only[eb]at h1_2;subst h1_2;obtain⟨_,rfl,h2_1⟩:=dU h2;obtain⟨_,rfl,h2_2⟩:=dU h2_1;simp only[eb]at h2_2;subst h2_2;simp only[Gw,bit,aa,bg,al]at hp;subst hp;exact aax x0 x1 y0 y1 w⟩
set_option maxRecDepth 100000 in
theorem Uo(x0:Int)(x1:Int)(y0:Int)(y1:Int)(w:World):(binOp .eql 151 (.agg #[.int .i64 x0,.int .i64 x1]) (.agg #[.int .i64 y0,.int .i64 y1])).run Tryz.prog w=.ok (.bool (decide (x0=y0/\x1=y1))) w:=by
 simp[go_sem];repeat' split
 all_goals simp_all
theorem ac2:W3 KT Tryz.prog 151 ([.int .i64 0,.int .i64 0]:List (CV Sx)):=⟨by kernel_rfl,fun g m vs ws p xs ys w hv hw hp h1 h2=>by
 obtain⟨x0,_,rfl,hv1⟩:=dr hv;obtain⟨x1,_,rfl,hv2⟩:=dr hv1;obtain rfl:=jF hv2;obtain⟨y0,_,rfl,hw1⟩:=dr hw;obtain⟨y1,_,rfl,hw2⟩:=dr hw1;obtain rfl:=jF hw2;obtain⟨_,rfl,h1_1⟩:=dU h1;obtain⟨_,rfl,h1_2⟩:=dU h1_1;simp only[eb]at h1_2;subst h1_2;obtain⟨_,rfl,h2_1⟩:=dU h2;obtain⟨_,rfl,h2_2⟩:=dU h2_1;simp only[eb]at h2_2;subst h2_2;simp only[Gw,bit,aa,bg,al]at hp;subst hp;exact Uo x0 x1 y0 y1 w⟩
set_option maxRecDepth 100000 in
theorem aay(x0:Int)(x1:Int)(y0:Int)(y1:Int)(w:World):(binOp .eql 200 (.agg #[.int .i64 x0,.int .i64 x1]) (.agg #[.int .i64 y0,.int .i64 y1])).run Tryz.prog w=.ok (.bool (decide (x0=y0/\x1=y1))) w:=by
 simp[go_sem];repeat' split
 all_goals simp_all
theorem ac3:W3 KT Tryz.prog 200 ([.int .i64 0,.int .i64 0]:List (CV Sx)):=⟨by kernel_rfl,fun g m vs ws p xs ys w hv hw hp h1 h2=>by
 obtain⟨x0,_,rfl,hv1⟩:=dr hv;obtain⟨x1,_,rfl,hv2⟩:=dr hv1;obtain rfl:=jF hv2;obtain⟨y0,_,rfl,hw1⟩:=dr hw;obtain⟨y1,_,rfl,hw2⟩:=dr hw1;obtain rfl:=jF hw2;obtain⟨_,rfl,h1_1⟩:=dU h1;obtain⟨_,rfl,h1_2⟩:=dU h1_1;simp only[eb]at h1_2;subst h1_2;obtain⟨_,rfl,h2_1⟩:=dU h2;obtain⟨_,rfl,h2_2⟩:=dU h2_1;simp only[eb]at h2_2;subst h2_2;simp only[Gw,bit,aa,bg,al]at hp;subst hp;exact aay x0 x1 y0 y1 w⟩
set_option maxRecDepth 100000 in
theorem aaz(x0:Int)(x1:Int)(x2:Int)(y0:Int)(y1:Int)(y2:Int)(w:World):(binOp .eql 255 (.agg #[.int .i64 x0,.int .i64 x1,.int .i64 x2]) (.agg #[.int .i64 y0,.int .i64 y1,.int .i64 y2])).run Tryz.prog w=.ok (.bool (decide (x0=y0/\x1=y1/\x2=y2))) w:=by
 simp[go_sem];repeat' split
 all_goals simp_all
theorem ac4:W3 KT Tryz.prog 255 ([.int .i64 0,.int .i64 0,.int .i64 0]:List (CV Sx)):=⟨by kernel_rfl,fun g m vs ws p xs ys w hv hw hp h1 h2=>by
 obtain⟨x0,_,rfl,hv1⟩:=dr hv;obtain⟨x1,_,rfl,hv2⟩:=dr hv1;obtain⟨x2,_,rfl,hv3⟩:=dr hv2;obtain rfl:=jF hv3;obtain⟨y0,_,rfl,hw1⟩:=dr hw;obtain⟨y1,_,rfl,hw2⟩:=dr hw1;obtain⟨y2,_,rfl,hw3⟩:=dr hw2;obtain rfl:=jF hw3;obtain⟨_,rfl,h1_1⟩:=dU h1;obtain⟨_,rfl,h1_2⟩:=dU h1_1;obtain⟨_,rfl,h1_3⟩:=dU h1_2;simp only[eb]at h1_3;subst h1_3;obtain⟨_,rfl,h2_1⟩:=dU h2;obtain⟨_,rfl,h2_2⟩:=dU h2_1;obtain⟨_,rfl,h2_3⟩:=dU h2_2;simp only[eb]at h2_3;subst h2_3;simp only[Gw,bit,aa,bg,al]at hp;subst hp;exact aaz x0 x1 x2 y0 y1 y2 w⟩
set_option maxRecDepth 100000 in
theorem adX:∀p∈tyL,MG Tryz.prog p.1 p.2:=adY (by kernel_rfl) (by kernel_rfl) (by kernel_rfl)
theorem Yd(x0 x1:Int)(w:World)(em:Bool):(Instr.checkKey em 10000 151 (.agg #[.int .i64 x0,.int .i64 x1])).run Tryz.prog w=.ok () w:=by kernel_rfl
theorem Yc(x0 x1 y0 y1:Int)(w:World):(Op.equal 151 (.agg #[.int .i64 x0,.int .i64 x1]) (.agg #[.int .i64 y0,.int .i64 y1])).run Tryz.prog w=.ok (dn x0 y0&&(dn x1 y1&&true)) w:=by
 rw[O8 (Uo x0 x1 y0 y1 w)];congr 1;simp[dn]
theorem aaO:GK tb (.st 11)=true->lV Tryz.prog 151 (fun x v=>∃m,fW KT (.st 11) m x v) (qw tb (.st 11)):=fun h=>adi h Tryz.underlying151 (fun w em x=>Yd x.cq x.to w em) (fun w x y=>Yc x.cq x.to y.cq y.to w)
theorem tyT:gj Tryz.prog KT tt:=afT rfl adX (by kernel_rfl) (by
 rw[show(tyL.filter fun p=>p.2.eq).map (fun p=>(p.1,p.2.zero))=[(7,[.int .i64 0,.int .i64 0,.tt false,.u8 0]),(8,[.int .i64 0,.int .i64 0,.tt false,.u8 0]),(24,[.a8 32 (fun _=>0)]),(29,[.int .i64 0,.int .i64 0]),(30,[.int .i64 0,.int .i64 0]),(92,[.int .i64 0,.int .i64 0]),(138,[.int .i64 0,.int .i64 0]),(151,[.int .i64 0,.int .i64 0]),(200,[.int .i64 0,.int .i64 0]),(255,[.int .i64 0,.int .i64 0,.int .i64 0])]by kernel_rfl];exact eO eq_7<|eO eq_8<|eO eq_24<|eO eq_29<|eO eq_30<|eO aeG<|eO ac1<|eO ac2<|eO ac3<|eO ac4<|bR) (by kernel_rfl) (by
 rw[show Zz tyL=[(151,11)]by kernel_rfl];exact eO aaO<|bR)
theorem ac6:Tryz.prog.follows .mixedOrders=true:=by kernel_rfl
abbrev SX(c:cU Sx):Prop:=Sound Tryz.prog KT c
abbrev NSX(c:NC Sx):Prop:=qE Tryz.prog KT c
set_option maxRecDepth 100000 in
theorem fq(fn:Func)(rs:List ResultVar)(fa:FA Sx)(an:An){Φ:List (cU Sx)}{c:cU Sx}(hΦ:∀c∈Φ,SX c)(hev:∀x,evF tb tt Φ fa c rs (bd fn) an x=c.pJ x:=by intro x;kernel_rfl)(h:facts Tryz.prog fn c.f fa.fn c.ins.length=Om fn rs:=by kernel_rfl)(hΨ:∀c∈fa.nd,NSX c:=by intro c hc;cases hc):SX c:=
 afy tyT ac6 (fun _=>rfl) hΦ hev h hΨ
set_option maxRecDepth 100000 in
theorem nq(fn:Func)(rs:List ResultVar)(fa:FA Sx)(an:An){Φ:List (cU Sx)}{c:NC Sx}(hΦ:∀c∈Φ,SX c)(hev:∀γ k x,evN tb tt Φ fa c rs (bd fn) an γ k x=c.JP γ k x:=by intro γ k x;kernel_rfl)(h:facts Tryz.prog fn c.f fa.fn c.ins.length=Om fn rs:=by kernel_rfl)(hΨ:∀c∈fa.nd,NSX c:=by intro c hc;cases hc):NSX c:=
 aeV tyT ac6 (fun _=>rfl) hΦ hev h hΨ
set_option maxRecDepth 100000 in
theorem yq(r n:Nat)(ps:List Nat)(fa:FA Sx)(an:An){Φ:List (cU Sx)}{c:cU Sx}(hΦ:∀c∈Φ,SX c)(hev:∀x,evY tb tt Φ fa c r ps (rgA Tryz.prog r) (rgB Tryz.prog r) an x=c.pJ x:=by intro x;kernel_rfl)(h:TX Tryz.prog r n ps c.f c.ins.length=TY r:=by kernel_rfl)(hrd:fa.rd=true:=by rfl)(hrg:KT.rg r=some ⟨ps,rgA Tryz.prog r,rgB Tryz.prog r,n⟩:=by rfl)(hΨ:∀c∈fa.nd,NSX c:=by intro c hc;cases hc):SX c:=
 y_q tyT ac6 hΦ hev h hrd hrg hΨ
theorem c1{a:cU Sx}{l:List (cU Sx)}(h:SX a)(hl:∀c∈l,SX c):∀c∈a::l,SX c:=eO h hl
end E
end Go.Proofs.YtekpafdhgkocaaaGreat
