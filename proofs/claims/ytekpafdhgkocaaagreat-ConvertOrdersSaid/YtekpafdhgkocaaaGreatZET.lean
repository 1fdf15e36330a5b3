/- Part of the proof. -/
import Derived.Test.YtekpafdhgkocaaaGreatZEvD
import Derived.Test.YtekpafdhgkocaaaGreatProg
namespace Go.Proofs.YtekpafdhgkocaaaGreat
open Go.RowKit G
def Bx:Mem->Prop:=fun _=>True
theorem Bxm{m m2:Mem}(_:Bx m)(_:Le m m2):Bx m2:=trivial
namespace E
def Sx:Nat->Type
 |0=>dz
 |1=>sK
 |2=>kl
 |3=>mY
 |4=>bO
 |5=>cq
 |6=>bZ
 |7=>lR
 |8=>sP
 |9=>og
 |10=>xd
 |11=>bQ
 |12=>bT
 |13=>cc
 |14=>vF
 |15=>gy
 |16=>rf
 |17=>AK
 |18=>LP
 |19=>bR
 |20=>Cy
 |_=>Bool
def tb:Tb Sx
 |0=>{fs:=[(.int .i64),(.int .i64),.bo,.u8],to:=fun(x:dz)=>(x.x,x.y,x.signed,x.code,()),of:=fun h=>(⟨h.1,h.2.1,h.2.2.1,h.2.2.2.1⟩:dz)}
 |1=>{fs:=[(.int .i64),(.int .i64),.bo,.u8],to:=fun(x:sK)=>(x.x,x.y,x.signed,x.code,()),of:=fun h=>(⟨h.1,h.2.1,h.2.2.1,h.2.2.2.1⟩:sK)}
 |2=>{fs:=[.str,(.int .u64)],to:=fun(x:kl)=>(x.msg,x.addr,()),of:=fun h=>(⟨h.1,h.2.1⟩:kl)}
 |3=>{fs:=[.str,(.int .u64)],to:=fun(x:mY)=>(x.msg,x.addr,()),of:=fun h=>(⟨h.1,h.2.1⟩:mY)}
 |4=>{fs:=[(.int .i64),(.int .i64),(.int .i64),(.int .i64),(.sl .u8)],to:=fun(x:bO)=>(x.kind,x.to,x.cp,x.len,x.data,()),of:=fun h=>(⟨h.1,h.2.1,h.2.2.1,h.2.2.2.1,h.2.2.2.2.1⟩:bO)}
 |5=>{fs:=[(.int .i64),(.int .i64),(.a8 32),(.a8 32),(.sl (.st 4))],to:=fun(x:cq)=>(x.cZ,x.cd,x.fU,x.fT,x.bP,()),of:=fun h=>(⟨h.1,h.2.1,h.2.2.1,h.2.2.2.1,h.2.2.2.2.1⟩:cq)}
 |6=>{fs:=[(.int .i64),(.int .i64),(.a8 32),(.a8 32),(.sl (.st 4))],to:=fun(x:bZ)=>(x.cZ,x.cd,x.fU,x.fT,x.bP,()),of:=fun h=>(⟨h.1,h.2.1,h.2.2.1,h.2.2.2.1,h.2.2.2.2.1⟩:bZ)}
 |7=>{fs:=[(.int .i64),(.int .i64)],to:=fun(x:lR)=>(x.code,x.at_,()),of:=fun h=>(⟨h.1,h.2.1⟩:lR)}
 |8=>{fs:=[(.int .i64),(.int .i64)],to:=fun(x:sP)=>(x.code,x.at_,()),of:=fun h=>(⟨h.1,h.2.1⟩:sP)}
 |9=>{fs:=[(.sl (.int .u32)),(.sl (.int .u32))],to:=fun(x:og)=>(x.s,x.k,()),of:=fun h=>(⟨h.1,h.2.1⟩:og)}
 |10=>{fs:=[(.sl (.int .u32)),(.sl (.int .u32))],to:=fun(x:xd)=>(x.s,x.k,()),of:=fun h=>(⟨h.1,h.2.1⟩:xd)}
 |11=>{fs:=[(.int .i64),(.int .i64)],to:=fun(x:bQ)=>(x.cp,x.to,()),of:=fun h=>(⟨h.1,h.2.1⟩:bQ)}
 |12=>{fs:=[(.int .i64),(.int .i64)],to:=fun(x:bT)=>(x.cp,x.to,()),of:=fun h=>(⟨h.1,h.2.1⟩:bT)}
 |13=>{fs:=[(.int .i64),(.int .i64)],to:=fun(x:cc)=>(x.off,x.len,()),of:=fun h=>(⟨h.1,h.2.1⟩:cc)}
 |14=>{fs:=[(.int .i64),(.sl (.st 12))],to:=fun(x:vF)=>(x.n,x.ac9,()),of:=fun h=>(⟨h.1,h.2.1⟩:vF)}
 |15=>{fs:=[(.sl .u8),(.int .i64),(.int .i64),(.int .i64)],to:=fun(x:gy)=>(x.b,x.at_,x.fault.code,x.fault.at_,()),of:=fun h=>(⟨h.1,h.2.1,(⟨h.2.2.1,h.2.2.2.1⟩:sP)⟩:gy)}
 |16=>{fs:=[(.int .i64),(.int .i64)],to:=fun(x:rf)=>(x.dC.off,x.dC.len,()),of:=fun h=>(⟨(⟨h.1,h.2.1⟩:cc)⟩:rf)}
 |17=>{fs:=[(.ai 8 .u32),(.sl .u8),(.int .i64)],to:=fun(x:AK)=>(x.words,x.rest,x.n,()),of:=fun h=>(⟨h.1,h.2.1,h.2.2.1⟩:AK)}
 |18=>{fs:=[(.ai 8 .u32),(.sl .u8),(.int .i64)],to:=fun(x:LP)=>(x.state.words,x.state.rest,x.state.n,()),of:=fun h=>(⟨(⟨h.1,h.2.1,h.2.2.1⟩:AK)⟩:LP)}
 |19=>{fs:=[(.int .i64),(.int .i64),(.int .i64)],to:=fun(x:bR)=>(x.dC.off,x.dC.len,x.position,()),of:=fun h=>(⟨(⟨h.1,h.2.1⟩:cc),h.2.2.1⟩:bR)}
 |20=>{fs:=[(.sl (.st 19))],to:=fun(x:Cy)=>(x.sorted,()),of:=fun h=>(⟨h.1⟩:Cy)}
 |_+21=>{fs:=[.bo],to:=fun(x:Bool)=>(x,()),of:=fun h=>h.1}
def tyL:List (Nat×TI Sx):=[(1,⟨.func,1,8,[.dY],.bo,false⟩),
 (2,⟨.int .i64,1,8,[.int .i64 0],(.int .i64),false⟩),
 (3,⟨.int .i64,1,8,[.int .i64 0],(.int .i64),false⟩),
 (4,⟨.bool,1,1,[.tt false],.bo,false⟩),
 (5,⟨.int .u8,1,1,[.u8 0],.u8,false⟩),
 (6,⟨.int .u8,1,1,[.u8 0],.u8,false⟩),
 (7,⟨.struct [(2,0,1),(3,1,1),(4,2,1),(6,3,1)],4,24,[.int .i64 0,.int .i64 0,.tt false,.u8 0],(.st 0),true⟩),
 (8,⟨.struct [(2,0,1),(3,1,1),(4,2,1),(6,3,1)],4,24,[.int .i64 0,.int .i64 0,.tt false,.u8 0],(.st 1),true⟩),
 (9,⟨.str,1,16,[.str []],.str,false⟩),
 (10,⟨.str,1,16,[.str []],.str,false⟩),
 (11,⟨.str,1,16,[.str []],.str,false⟩),
 (12,⟨.int .u64,1,8,[.int .u64 0],(.int .u64),false⟩),
 (13,⟨.struct [(9,0,1),(12,1,1)],2,24,[.str [],.int .u64 0],(.st 2),false⟩),
 (14,⟨.struct [(9,0,1),(12,1,1)],2,24,[.str [],.int .u64 0],(.st 3),false⟩),
 (15,⟨.ptr 328,1,8,[.l7],.bo,false⟩),
 (16,⟨.ptr 331,1,8,[.l7],.bo,false⟩),
 (17,⟨.ptr 339,1,8,[.l7],.bo,false⟩),
 (18,⟨.struct [(17,0,1)],1,8,[.l7],.bo,false⟩),
 (19,⟨.struct [(17,0,1)],1,8,[.l7],.bo,false⟩),
 (20,⟨.iface,1,16,[.Gg],.bo,false⟩),
 (21,⟨.int .i32,1,4,[.int .i32 0],(.int .i32),false⟩),
 (22,⟨.slice 5,1,24,[.fQ],(.sl .u8),false⟩),
 (23,⟨.func,1,8,[.dY],.bo,false⟩),
 (24,⟨.array 32 5,32,32,[.a8 32 (fun _=>0)],(.a8 32),true⟩),
 (25,⟨.slice 72,1,24,[.fQ],(.sl (.st 4)),false⟩),
 (26,⟨.struct [(3,0,1),(3,1,1),(24,2,32),(24,34,32),(25,66,1)],67,104,[.int .i64 0,.int .i64 0,.a8 32 (fun _=>0),.a8 32 (fun _=>0),.fQ],(.st 5),false⟩),
 (27,⟨.struct [(3,0,1),(3,1,1),(24,2,32),(24,34,32),(25,66,1)],67,104,[.int .i64 0,.int .i64 0,.a8 32 (fun _=>0),.a8 32 (fun _=>0),.fQ],(.st 6),false⟩),
 (28,⟨.int .i64,1,8,[.int .i64 0],(.int .i64),false⟩),
 (29,⟨.struct [(28,0,1),(3,1,1)],2,16,[.int .i64 0,.int .i64 0],(.st 7),true⟩),
 (30,⟨.struct [(28,0,1),(3,1,1)],2,16,[.int .i64 0,.int .i64 0],(.st 8),true⟩),
 (32,⟨.func,1,8,[.dY],.bo,false⟩),
 (34,⟨.func,1,8,[.dY],.bo,false⟩),
 (35,⟨.func,1,8,[.dY],.bo,false⟩),
 (36,⟨.func,1,8,[.dY],.bo,false⟩),
 (37,⟨.int .u64,1,8,[.int .u64 0],(.int .u64),false⟩),
 (38,⟨.func,1,8,[.dY],.bo,false⟩),
 (39,⟨.func,1,8,[.dY],.bo,false⟩),
 (40,⟨.func,1,8,[.dY],.bo,false⟩),
 (41,⟨.func,1,8,[.dY],.bo,false⟩),
 (42,⟨.func,1,8,[.dY],.bo,false⟩),
 (44,⟨.func,1,8,[.dY],.bo,false⟩),
 (45,⟨.func,1,8,[.dY],.bo,false⟩),
 (46,⟨.func,1,8,[.dY],.bo,false⟩),
 (47,⟨.func,1,8,[.dY],.bo,false⟩),
 (48,⟨.func,1,8,[.dY],.bo,false⟩),
 (49,⟨.func,1,8,[.dY],.bo,false⟩),
 (50,⟨.func,1,8,[.dY],.bo,false⟩),
 (51,⟨.slice 206,1,24,[.fQ],(.sl (.int .u32)),false⟩),
 (52,⟨.struct [(51,0,1),(51,1,1)],2,48,[.fQ,.fQ],(.st 9),false⟩),
 (53,⟨.struct [(51,0,1),(51,1,1)],2,48,[.fQ,.fQ],(.st 10),false⟩),
 (54,⟨.func,1,8,[.dY],.bo,false⟩),
 (55,⟨.func,1,8,[.dY],.bo,false⟩),
 (56,⟨.slice 3,1,24,[.fQ],(.sl (.int .i64)),false⟩),
 (57,⟨.func,1,8,[.dY],.bo,false⟩),
 (58,⟨.func,1,8,[.dY],.bo,false⟩),
 (59,⟨.func,1,8,[.dY],.bo,false⟩),
 (60,⟨.func,1,8,[.dY],.bo,false⟩),
 (61,⟨.func,1,8,[.dY],.bo,false⟩),
 (62,⟨.func,1,8,[.dY],.bo,false⟩),
 (63,⟨.func,1,8,[.dY],.bo,false⟩),
 (68,⟨.ptr 134,1,8,[.l7],.bo,false⟩),
 (72,⟨.struct [(3,0,1),(3,1,1),(3,2,1),(3,3,1),(22,4,1)],5,56,[.int .i64 0,.int .i64 0,.int .i64 0,.int .i64 0,.fQ],(.st 4),false⟩),
 (76,⟨.slice 151,1,24,[.fQ],(.sl (.st 11)),false⟩),
 (78,⟨.slice 138,1,24,[.fQ],(.sl (.st 12)),false⟩),
 (83,⟨.slice 22,1,24,[.fQ],(.sl (.sl .u8)),false⟩),
 (90,⟨.slice 92,1,24,[.fQ],(.sl (.st 13)),false⟩),
 (92,⟨.struct [(3,0,1),(3,1,1)],2,16,[.int .i64 0,.int .i64 0],(.st 13),true⟩),
 (94,⟨.ptr 243,1,8,[.l7],.bo,false⟩),
 (96,⟨.struct [(25,0,1),(94,1,1)],2,32,[.fQ,.l7],.bo,false⟩),
 (97,⟨.struct [(96,0,2),(56,2,1),(56,3,1)],4,80,[.fQ,.l7,.fQ,.fQ],.bo,false⟩),
 (98,⟨.struct [(96,0,2),(56,2,1),(56,3,1)],4,80,[.fQ,.l7,.fQ,.fQ],.bo,false⟩),
 (99,⟨.func,1,8,[.dY],.bo,false⟩),
 (100,⟨.func,1,8,[.dY],.bo,false⟩),
 (102,⟨.func,1,8,[.dY],.bo,false⟩),
 (103,⟨.func,1,8,[.dY],.bo,false⟩),
 (104,⟨.func,1,8,[.dY],.bo,false⟩),
 (105,⟨.func,1,8,[.dY],.bo,false⟩),
 (106,⟨.func,1,8,[.dY],.bo,false⟩),
 (107,⟨.func,1,8,[.dY],.bo,false⟩),
 (110,⟨.func,1,8,[.dY],.bo,false⟩),
 (111,⟨.func,1,8,[.dY],.bo,false⟩),
 (114,⟨.func,1,8,[.dY],.bo,false⟩),
 (116,⟨.func,1,8,[.dY],.bo,false⟩),
 (117,⟨.func,1,8,[.dY],.bo,false⟩),
 (118,⟨.func,1,8,[.dY],.bo,false⟩),
 (119,⟨.func,1,8,[.dY],.bo,false⟩),
 (120,⟨.func,1,8,[.dY],.bo,false⟩),
 (121,⟨.func,1,8,[.dY],.bo,false⟩),
 (126,⟨.ptr 215,1,8,[.l7],.bo,false⟩),
 (128,⟨.func,1,8,[.dY],.bo,false⟩),
 (134,⟨.struct [(3,0,1),(78,1,1)],2,32,[.int .i64 0,.fQ],(.st 14),false⟩),
 (138,⟨.struct [(3,0,1),(3,1,1)],2,16,[.int .i64 0,.int .i64 0],(.st 12),true⟩),
 (141,⟨.int .u64,1,8,[.int .u64 0],(.int .u64),false⟩),
 (143,⟨.map 3 3,1,8,[.B4],(.mp (.int .i64) (.int .i64)),false⟩),
 (144,⟨.func,1,8,[.dY],.bo,false⟩),
 (145,⟨.func,1,8,[.dY],.bo,false⟩),
 (148,⟨.func,1,8,[.dY],.bo,false⟩),
 (151,⟨.struct [(3,0,1),(3,1,1)],2,16,[.int .i64 0,.int .i64 0],(.st 11),true⟩),
 (166,⟨.func,1,8,[.dY],.bo,false⟩),
 (180,⟨.struct [(22,0,1),(3,1,1),(30,2,2)],4,48,[.fQ,.int .i64 0,.int .i64 0,.int .i64 0],(.st 15),false⟩),
 (187,⟨.ptr 253,1,8,[.l7],.bo,false⟩),
 (200,⟨.struct [(92,0,2)],2,16,[.int .i64 0,.int .i64 0],(.st 16),true⟩),
 (204,⟨.slice 37,1,24,[.fQ],(.sl (.int .u64)),false⟩),
 (206,⟨.int .u32,1,4,[.int .u32 0],(.int .u32),false⟩),
 (210,⟨.array 8 206,8,32,[.ai 8 .u32 (fun _=>0)],(.ai 8 .u32),false⟩),
 (212,⟨.struct [(210,0,8),(22,8,1),(3,9,1)],10,64,[.ai 8 .u32 (fun _=>0),.fQ,.int .i64 0],(.st 17),false⟩),
 (215,⟨.struct [(212,0,10)],10,64,[.ai 8 .u32 (fun _=>0),.fQ,.int .i64 0],(.st 18),false⟩),
 (216,⟨.func,1,8,[.dY],.bo,false⟩),
 (217,⟨.func,1,8,[.dY],.bo,false⟩),
 (219,⟨.func,1,8,[.dY],.bo,false⟩),
 (220,⟨.func,1,8,[.dY],.bo,false⟩),
 (222,⟨.int .i64,1,8,[.int .i64 0],(.int .i64),false⟩),
 (226,⟨.func,1,8,[.dY],.bo,false⟩),
 (233,⟨.func,1,8,[.dY],.bo,false⟩),
 (237,⟨.func,1,8,[.dY],.bo,false⟩),
 (238,⟨.func,1,8,[.dY],.bo,false⟩),
 (240,⟨.map 151 4,1,8,[.B4],(.mp (.st 11) .bo),false⟩),
 (241,⟨.map 3 56,1,8,[.B4],(.mp (.int .i64) (.sl (.int .i64))),false⟩),
 (243,⟨.struct [(3,0,1),(240,1,1),(241,2,1),(241,3,1)],4,32,[.int .i64 0,.B4,.B4,.B4],.bo,false⟩),
 (251,⟨.slice 255,1,24,[.fQ],(.sl (.st 19)),false⟩),
 (253,⟨.struct [(251,0,1)],1,24,[.fQ],(.st 20),false⟩),
 (255,⟨.struct [(92,0,2),(3,2,1)],3,24,[.int .i64 0,.int .i64 0,.int .i64 0],(.st 19),true⟩),
 (256,⟨.func,1,8,[.dY],.bo,false⟩),
 (257,⟨.func,1,8,[.dY],.bo,false⟩),
 (265,⟨.func,1,8,[.dY],.bo,false⟩),
 (268,⟨.func,1,8,[.dY],.bo,false⟩),
 (270,⟨.func,1,8,[.dY],.bo,false⟩),
 (274,⟨.func,1,8,[.dY],.bo,false⟩),
 (275,⟨.ptr 212,1,8,[.l7],.bo,false⟩),
 (277,⟨.int .u64,1,8,[.int .u64 0],(.int .u64),false⟩),
 (281,⟨.ptr 3,1,8,[.l7],.bo,false⟩),
 (286,⟨.func,1,8,[.dY],.bo,false⟩),
 (293,⟨.array 4 37,4,32,[.ai 4 .u64 (fun _=>0)],(.ai 4 .u64),false⟩),
 (294,⟨.func,1,8,[.dY],.bo,false⟩),
 (296,⟨.array 16 206,16,64,[.ai 16 .u32 (fun _=>0)],(.ai 16 .u32),false⟩),
 (297,⟨.array 64 206,64,256,[.ai 64 .u32 (fun _=>0)],(.ai 64 .u32),false⟩),
 (299,⟨.ptr 277,1,8,[.l7],.bo,false⟩),
 (300,⟨.func,1,8,[.dY],.bo,false⟩),
 (301,⟨.slice 4,1,24,[.fQ],(.sl .bo),false⟩),
 (323,⟨.map 3 4,1,8,[.B4],(.mp (.int .i64) .bo),false⟩)]
def tt(t:TypeId):Option (TI Sx):=look t tyL
end E
namespace E
theorem adi:∀i,(tb i).fs.all OC=true
 |0=>rfl
 |1=>rfl
 |2=>rfl
 |3=>rfl
 |4=>rfl
 |5=>rfl
 |6=>rfl
 |7=>rfl
 |8=>rfl
 |9=>rfl
 |10=>rfl
 |11=>rfl
 |12=>rfl
 |13=>rfl
 |14=>rfl
 |15=>rfl
 |16=>rfl
 |17=>rfl
 |18=>rfl
 |19=>rfl
 |20=>rfl
 |_+21=>rfl
theorem max_:∀i,(tb i).fs.all (fun c=>Nat.ble (Eh c) i)=true
 |0=>rfl
 |1=>rfl
 |2=>rfl
 |3=>rfl
 |4=>rfl
 |5=>rfl
 |6=>rfl
 |7=>rfl
 |8=>rfl
 |9=>rfl
 |10=>rfl
 |11=>rfl
 |12=>rfl
 |13=>rfl
 |14=>rfl
 |15=>rfl
 |16=>rfl
 |17=>rfl
 |18=>rfl
 |19=>rfl
 |20=>rfl
 |_+21=>by simp[tb,Eh]
theorem ne_:∀i,(tb i).fs≠[]
 |0=>(fun h=>by cases h)
 |1=>(fun h=>by cases h)
 |2=>(fun h=>by cases h)
 |3=>(fun h=>by cases h)
 |4=>(fun h=>by cases h)
 |5=>(fun h=>by cases h)
 |6=>(fun h=>by cases h)
 |7=>(fun h=>by cases h)
 |8=>(fun h=>by cases h)
 |9=>(fun h=>by cases h)
 |10=>(fun h=>by cases h)
 |11=>(fun h=>by cases h)
 |12=>(fun h=>by cases h)
 |13=>(fun h=>by cases h)
 |14=>(fun h=>by cases h)
 |15=>(fun h=>by cases h)
 |16=>(fun h=>by cases h)
 |17=>(fun h=>by cases h)
 |18=>(fun h=>by cases h)
 |19=>(fun h=>by cases h)
 |20=>(fun h=>by cases h)
 |_+21=>(fun h=>by cases h)
theorem acC:∀i (h:HL Sx (tb i).fs),(tb i).to ((tb i).of h)=h
 |0,_=>rfl
 |1,_=>rfl
 |2,_=>rfl
 |3,_=>rfl
 |4,_=>rfl
 |5,_=>rfl
 |6,_=>rfl
 |7,_=>rfl
 |8,_=>rfl
 |9,_=>rfl
 |10,_=>rfl
 |11,_=>rfl
 |12,_=>rfl
 |13,_=>rfl
 |14,_=>rfl
 |15,_=>rfl
 |16,_=>rfl
 |17,_=>rfl
 |18,_=>rfl
 |19,_=>rfl
 |20,_=>rfl
 |_+21,_=>rfl
noncomputable def KT:jy tb:=aee (rgP Tryz.prog) Bx Bxm adi (fun i c hc=>ay (a7.1 (max_ i) c hc)) ne_ acC
set_option maxRecDepth 100000 in
theorem ada(x0:Int)(x1:Int)(x2:Bool)(x3:UInt8)(y0:Int)(y1:Int)(y2:Bool)(y3:UInt8)(w:World):(binOp .eql 7 (.agg #[.int .i64 x0,.int .i64 x1,.bool x2,.int .u8 (x3.toNat:Int)]) (.agg #[.int .i64 y0,.int .i64 y1,.bool y2,.int .u8 (y3.toNat:Int)])).run Tryz.prog w=.ok (.bool (decide (x0=y0/\x1=y1/\x2=y2/\(x3.toNat:Int)=(y3.toNat:Int)))) w:=by
 simp[go_sem];repeat' split
 all_goals simp_all
theorem eq_7:V6 KT Tryz.prog 7 ([.int .i64 0,.int .i64 0,.tt false,.u8 0]:List (CV Sx)):=⟨by kernel_rfl,fun g m vs ws p xs ys w hv hw hp h1 h2=>by
 obtain⟨x0,_,rfl,hv1⟩:=dq hv;obtain⟨x1,_,rfl,hv2⟩:=dq hv1;rcases JN hv2 with⟨x2,_,_,_,_,rfl,hv3⟩|⟨x2,_,rfl,hv3⟩
 all_goals
  obtain⟨x3,_,rfl,hv4⟩:=JP hv3
  obtain rfl:=jI hv4
  obtain⟨y0,_,rfl,hw1⟩:=dq hw
  obtain⟨y1,_,rfl,hw2⟩:=dq hw1
  rcases JN hw2 with⟨y2,_,_,_,_,rfl,hw3⟩|⟨y2,_,rfl,hw3⟩
  all_goals
   obtain⟨y3,_,rfl,hw4⟩:=JP hw3
   obtain rfl:=jI hw4
   obtain⟨_,rfl,h1_1⟩:=dR h1
   obtain⟨_,rfl,h1_2⟩:=dR h1_1
   first|obtain⟨_,rfl,h1_3⟩:=Ob h1_2|obtain⟨_,rfl,h1_3⟩:=N8 h1_2
   obtain⟨_,rfl,h1_4⟩:=Oc h1_3
   simp only[dX]at h1_4;subst h1_4
   obtain⟨_,rfl,h2_1⟩:=dR h2
   obtain⟨_,rfl,h2_2⟩:=dR h2_1
   first|obtain⟨_,rfl,h2_3⟩:=Ob h2_2|obtain⟨_,rfl,h2_3⟩:=N8 h2_2
   obtain⟨_,rfl,h2_4⟩:=Oc h2_3
   simp only[dX]at h2_4;subst h2_4
   simp only[FX,bit,ae,ba,al]at hp
   subst hp
   exact ada x0 x1 x2 x3 y0 y1 y2 y3 w⟩
set_option maxRecDepth 100000 in
theorem adb(x0:Int)(x1:Int)(x2:Bool)(x3:UInt8)(y0:Int)(y1:Int)(y2:Bool)(y3:UInt8)(w:World):(binOp .eql 8 (.agg #[.int .i64 x0,.int .i64 x1,.bool x2,.int .u8 (x3.toNat:Int)]) (.agg #[.int .i64 y0,.int .i64 y1,.bool y2,.int .u8 (y3.toNat:Int)])).run Tryz.prog w=.ok (.bool (decide (x0=y0/\x1=y1/\x2=y2/\(x3.toNat:Int)=(y3.toNat:Int)))) w:=by
 simp[go_sem];repeat' split
 all_goals simp_all
theorem eq_8:V6 KT Tryz.prog 8 ([.int .i64 0,.int .i64 0,.tt false,.u8 0]:List (CV Sx)):=⟨by kernel_rfl,fun g m vs ws p xs ys w hv hw hp h1 h2=>by
 obtain⟨x0,_,rfl,hv1⟩:=dq hv;obtain⟨x1,_,rfl,hv2⟩:=dq hv1;rcases JN hv2 with⟨x2,_,_,_,_,rfl,hv3⟩|⟨x2,_,rfl,hv3⟩
 all_goals
  obtain⟨x3,_,rfl,hv4⟩:=JP hv3
  obtain rfl:=jI hv4
  obtain⟨y0,_,rfl,hw1⟩:=dq hw
  obtain⟨y1,_,rfl,hw2⟩:=dq hw1
  rcases JN hw2 with⟨y2,_,_,_,_,rfl,hw3⟩|⟨y2,_,rfl,hw3⟩
  all_goals
   obtain⟨y3,_,rfl,hw4⟩:=JP hw3
   obtain rfl:=jI hw4
   obtain⟨_,rfl,h1_1⟩:=dR h1
   obtain⟨_,rfl,h1_2⟩:=dR h1_1
   first|obtain⟨_,rfl,h1_3⟩:=Ob h1_2|obtain⟨_,rfl,h1_3⟩:=N8 h1_2
   obtain⟨_,rfl,h1_4⟩:=Oc h1_3
   simp only[dX]at h1_4;subst h1_4
   obtain⟨_,rfl,h2_1⟩:=dR h2
   obtain⟨_,rfl,h2_2⟩:=dR h2_1
   first|obtain⟨_,rfl,h2_3⟩:=Ob h2_2|obtain⟨_,rfl,h2_3⟩:=N8 h2_2
   obtain⟨_,rfl,h2_4⟩:=Oc h2_3
   simp only[dX]at h2_4;subst h2_4
   simp only[FX,bit,ae,ba,al]at hp
   subst hp
   exact adb x0 x1 x2 x3 y0 y1 y2 y3 w⟩
theorem eq_24:V6 KT Tryz.prog 24 ([.a8 32 (fun _=>0)]:List (CV Sx)):=⟨by kernel_rfl,fun g m vs ws p xs ys w hv hw hp h1 h2=>by cases vs<;>simp[kindOk]at hv⟩
set_option maxRecDepth 100000 in
theorem abK(x0:Int)(x1:Int)(y0:Int)(y1:Int)(w:World):(binOp .eql 29 (.agg #[.int .i64 x0,.int .i64 x1]) (.agg #[.int .i64 y0,.int .i64 y1])).run Tryz.prog w=.ok (.bool (decide (x0=y0/\x1=y1))) w:=by
 simp[go_sem];repeat' split
 all_goals simp_all
theorem eq_29:V6 KT Tryz.prog 29 ([.int .i64 0,.int .i64 0]:List (CV Sx)):=⟨by kernel_rfl,fun g m vs ws p xs ys w hv hw hp h1 h2=>by
 obtain⟨x0,_,rfl,hv1⟩:=dq hv;obtain⟨x1,_,rfl,hv2⟩:=dq hv1;obtain rfl:=jI hv2;obtain⟨y0,_,rfl,hw1⟩:=dq hw;obtain⟨y1,_,rfl,hw2⟩:=dq hw1;obtain rfl:=jI hw2;obtain⟨_,rfl,h1_1⟩:=dR h1;obtain⟨_,rfl,h1_2⟩:=dR h1_1;simp only[dX]at h1_2;subst h1_2;obtain⟨_,rfl,h2_1⟩:=dR h2;obtain⟨_,rfl,h2_2⟩:=dR h2_1;simp only[dX]at h2_2;subst h2_2;simp only[FX,bit,ae,ba,al]at hp;subst hp;exact abK x0 x1 y0 y1 w⟩
set_option maxRecDepth 100000 in
theorem abL(x0:Int)(x1:Int)(y0:Int)(y1:Int)(w:World):(binOp .eql 30 (.agg #[.int .i64 x0,.int .i64 x1]) (.agg #[.int .i64 y0,.int .i64 y1])).run Tryz.prog w=.ok (.bool (decide (x0=y0/\x1=y1))) w:=by
 simp[go_sem];repeat' split
 all_goals simp_all
theorem eq_30:V6 KT Tryz.prog 30 ([.int .i64 0,.int .i64 0]:List (CV Sx)):=⟨by kernel_rfl,fun g m vs ws p xs ys w hv hw hp h1 h2=>by
 obtain⟨x0,_,rfl,hv1⟩:=dq hv;obtain⟨x1,_,rfl,hv2⟩:=dq hv1;obtain rfl:=jI hv2;obtain⟨y0,_,rfl,hw1⟩:=dq hw;obtain⟨y1,_,rfl,hw2⟩:=dq hw1;obtain rfl:=jI hw2;obtain⟨_,rfl,h1_1⟩:=dR h1;obtain⟨_,rfl,h1_2⟩:=dR h1_1;simp only[dX]at h1_2;subst h1_2;obtain⟨_,rfl,h2_1⟩:=dR h2;obtain⟨_,rfl,h2_2⟩:=dR h2_1;simp only[dX]at h2_2;subst h2_2;simp only[FX,bit,ae,ba,al]at hp;subst hp;exact abL x0 x1 y0 y1 w⟩
set_option maxRecDepth 100000 in
theorem abM(x0:Int)(x1:Int)(y0:Int)(y1:Int)(w:World):(binOp .eql 92 (.agg #[.int .i64 x0,.int .i64 x1]) (.agg #[.int .i64 y0,.int .i64 y1])).run Tryz.prog w=.ok (.bool (decide (x0=y0/\x1=y1))) w:=by
 simp[go_sem];repeat' split
 all_goals simp_all
theorem ade:V6 KT Tryz.prog 92 ([.int .i64 0,.int .i64 0]:List (CV Sx)):=⟨by kernel_rfl,fun g m vs ws p xs ys w hv hw hp h1 h2=>by
 obtain⟨x0,_,rfl,hv1⟩:=dq hv;obtain⟨x1,_,rfl,hv2⟩:=dq hv1;obtain rfl:=jI hv2;obtain⟨y0,_,rfl,hw1⟩:=dq hw;obtain⟨y1,_,rfl,hw2⟩:=dq hw1;obtain rfl:=jI hw2;obtain⟨_,rfl,h1_1⟩:=dR h1;obtain⟨_,rfl,h1_2⟩:=dR h1_1;simp only[dX]at h1_2;subst h1_2;obtain⟨_,rfl,h2_1⟩:=dR h2;obtain⟨_,rfl,h2_2⟩:=dR h2_1;simp only[dX]at h2_2;subst h2_2;simp only[FX,bit,ae,ba,al]at hp;subst hp;exact abM x0 x1 y0 y1 w⟩
set_option maxRecDepth 100000 in
theorem ZE(x0:Int)(x1:Int)(y0:Int)(y1:Int)(w:World):(binOp .eql 138 (.agg #[.int .i64 x0,.int .i64 x1]) (.agg #[.int .i64 y0,.int .i64 y1])).run Tryz.prog w=.ok (.bool (decide (x0=y0/\x1=y1))) w:=by
 simp[go_sem];repeat' split
 all_goals simp_all
theorem abO:V6 KT Tryz.prog 138 ([.int .i64 0,.int .i64 0]:List (CV Sx)):=⟨by kernel_rfl,fun g m vs ws p xs ys w hv hw hp h1 h2=>by
 obtain⟨x0,_,rfl,hv1⟩:=dq hv;obtain⟨x1,_,rfl,hv2⟩:=dq hv1;obtain rfl:=jI hv2;obtain⟨y0,_,rfl,hw1⟩:=dq hw;obtain⟨y1,_,rfl,hw2⟩:=dq hw1;obtain rfl:=jI hw2;obtain⟨_,rfl,h1_1⟩:=dR h1;obtain⟨_,rfl,h1_2⟩:=dR h1_1;simp only[dX]at h1_2;subst h1_2;obtain⟨_,rfl,h2_1⟩:=dR h2;obtain⟨_,rfl,h2_2⟩:=dR h2_1;simp only[dX]at h2_2;subst h2_2;simp only[FX,bit,ae,ba,al]at hp;subst hp;exact ZE x0 x1 y0 y1 w⟩
set_option maxRecDepth 100000 in
theorem Tv(x0:Int)(x1:Int)(y0:Int)(y1:Int)(w:World):(binOp .eql 151 (.agg #[.int .i64 x0,.int .i64 x1]) (.agg #[.int .i64 y0,.int .i64 y1])).run Tryz.prog w=.ok (.bool (decide (x0=y0/\x1=y1))) w:=by
 simp[go_sem];repeat' split
 all_goals simp_all
theorem abP:V6 KT Tryz.prog 151 ([.int .i64 0,.int .i64 0]:List (CV Sx)):=⟨by kernel_rfl,fun g m vs ws p xs ys w hv hw hp h1 h2=>by
 obtain⟨x0,_,rfl,hv1⟩:=dq hv;obtain⟨x1,_,rfl,hv2⟩:=dq hv1;obtain rfl:=jI hv2;obtain⟨y0,_,rfl,hw1⟩:=dq hw;obtain⟨y1,_,rfl,hw2⟩:=dq hw1;obtain rfl:=jI hw2;obtain⟨_,rfl,h1_1⟩:=dR h1;obtain⟨_,rfl,h1_2⟩:=dR h1_1;simp only[dX]at h1_2;subst h1_2;obtain⟨_,rfl,h2_1⟩:=dR h2;obtain⟨_,rfl,h2_2⟩:=dR h2_1;simp only[dX]at h2_2;subst h2_2;simp only[FX,bit,ae,ba,al]at hp;subst hp;exact Tv x0 x1 y0 y1 w⟩
set_option maxRecDepth 100000 in
theorem ZF(x0:Int)(x1:Int)(y0:Int)(y1:Int)(w:World):(binOp .eql 200 (.agg #[.int .i64 x0,.int .i64 x1]) (.agg #[.int .i64 y0,.int .i64 y1])).run Tryz.prog w=.ok (.bool (decide (x0=y0/\x1=y1))) w:=by
 simp[go_sem];repeat' split
 all_goals simp_all
theorem abQ:V6 KT Tryz.prog 200 ([.int .i64 0,.int .i64 0]:List (CV Sx)):=⟨by kernel_rfl,fun g m vs ws p xs ys w hv hw hp h1 h2=>by
 obtain⟨x0,_,rfl,hv1⟩:=dq hv;obtain⟨x1,_,rfl,hv2⟩:=dq hv1;obtain rfl:=jI hv2;obtain⟨y0,_,rfl,hw1⟩:=dq hw;obtain⟨y1,_,rfl,hw2⟩:=dq hw1;obtain rfl:=jI hw2;obtain⟨_,rfl,h1_1⟩:=dR h1;obtain⟨_,rfl,h1_2⟩:=dR h1_1;simp only[dX]at h1_2;subst h1_2;obtain⟨_,rfl,h2_1⟩:=dR h2;obtain⟨_,rfl,h2_2⟩:=dR h2_1;simp only[dX]at h2_2;subst h2_2;simp only[FX,bit,ae,ba,al]at hp;subst hp;exact ZF x0 x1 y0 y1 w⟩
set_option maxRecDepth 100000 in
theorem ZG(x0:Int)(x1:Int)(x2:Int)(y0:Int)(y1:Int)(y2:Int)(w:World):(binOp .eql 255 (.agg #[.int .i64 x0,.int .i64 x1,.int .i64 x2]) (.agg #[.int .i64 y0,.int .i64 y1,.int .i64 y2])).run Tryz.prog w=.ok (.bool (decide (x0=y0/\x1=y1/\x2=y2))) w:=by
 simp[go_sem];repeat' split
 all_goals simp_all
theorem abR:V6 KT Tryz.prog 255 ([.int .i64 0,.int .i64 0,.int .i64 0]:List (CV Sx)):=⟨by kernel_rfl,fun g m vs ws p xs ys w hv hw hp h1 h2=>by
 obtain⟨x0,_,rfl,hv1⟩:=dq hv;obtain⟨x1,_,rfl,hv2⟩:=dq hv1;obtain⟨x2,_,rfl,hv3⟩:=dq hv2;obtain rfl:=jI hv3;obtain⟨y0,_,rfl,hw1⟩:=dq hw;obtain⟨y1,_,rfl,hw2⟩:=dq hw1;obtain⟨y2,_,rfl,hw3⟩:=dq hw2;obtain rfl:=jI hw3;obtain⟨_,rfl,h1_1⟩:=dR h1;obtain⟨_,rfl,h1_2⟩:=dR h1_1;obtain⟨_,rfl,h1_3⟩:=dR h1_2;simp only[dX]at h1_3;subst h1_3;obtain⟨_,rfl,h2_1⟩:=dR h2;obtain⟨_,rfl,h2_2⟩:=dR h2_1;obtain⟨_,rfl,h2_3⟩:=dR h2_2;simp only[dX]at h2_3;subst h2_3;simp only[FX,bit,ae,ba,al]at hp;subst hp;exact ZG x0 x1 x2 y0 y1 y2 w⟩
set_option maxRecDepth 100000 in
theorem acD:∀p∈tyL,Mf Tryz.prog p.1 p.2:=acE (by kernel_rfl) (by kernel_rfl) (by kernel_rfl)
theorem Xh(x0 x1:Int)(w:World)(em:Bool):(Instr.checkKey em 10000 151 (.agg #[.int .i64 x0,.int .i64 x1])).run Tryz.prog w=.ok () w:=by kernel_rfl
theorem Xg(x0 x1 y0 y1:Int)(w:World):(Op.equal 151 (.agg #[.int .i64 x0,.int .i64 x1]) (.agg #[.int .i64 y0,.int .i64 y1])).run Tryz.prog w=.ok (cX x0 y0&&(cX x1 y1&&true)) w:=by
 rw[Oi (Tv x0 x1 y0 y1 w)];congr 1;simp[cX]
theorem ZT:Ga tb (.st 11)=true->lU Tryz.prog 151 (fun x v=>∃m,fZ KT (.st 11) m x v) (qC tb (.st 11)):=fun h=>ab3 h Tryz.underlying151 (fun w em x=>Xh x.cp x.to w em) (fun w x y=>Xg x.cp x.to y.cp y.to w)
theorem tyT:gu Tryz.prog KT tt:=aei rfl acD (by kernel_rfl) (by
 rw[show(tyL.filter fun p=>p.2.eq).map (fun p=>(p.1,p.2.zero))=[(7,[.int .i64 0,.int .i64 0,.tt false,.u8 0]),(8,[.int .i64 0,.int .i64 0,.tt false,.u8 0]),(24,[.a8 32 (fun _=>0)]),(29,[.int .i64 0,.int .i64 0]),(30,[.int .i64 0,.int .i64 0]),(92,[.int .i64 0,.int .i64 0]),(138,[.int .i64 0,.int .i64 0]),(151,[.int .i64 0,.int .i64 0]),(200,[.int .i64 0,.int .i64 0]),(255,[.int .i64 0,.int .i64 0,.int .i64 0])]by kernel_rfl];exact eY eq_7<|eY eq_8<|eY eq_24<|eY eq_29<|eY eq_30<|eY ade<|eY abO<|eY abP<|eY abQ<|eY abR<|bS) (by kernel_rfl) (by
 rw[show YB tyL=[(151,11)]by kernel_rfl];exact eY ZT<|bS)
theorem abT:Tryz.prog.follows .mixedOrders=true:=by kernel_rfl
abbrev SX(c:cV Sx):Prop:=Sound Tryz.prog KT c
abbrev NSX(c:NC Sx):Prop:=qL Tryz.prog KT c
set_option maxRecDepth 100000 in
theorem fq(fn:Func)(rs:List ResultVar)(fa:FA Sx)(an:An){Φ:List (cV Sx)}{c:cV Sx}(hΦ:∀c∈Φ,SX c)(hev:∀x,evF tb tt Φ fa c rs (bd fn) an x=c.pL x:=by intro x;kernel_rfl)(h:facts Tryz.prog fn c.f fa.fn c.ins.length=NH fn rs:=by kernel_rfl)(hΨ:∀c∈fa.nd,NSX c:=by intro c hc;cases hc):SX c:=
 adY tyT abT (fun _=>rfl) hΦ hev h hΨ
set_option maxRecDepth 100000 in
theorem nq(fn:Func)(rs:List ResultVar)(fa:FA Sx)(an:An){Φ:List (cV Sx)}{c:NC Sx}(hΦ:∀c∈Φ,SX c)(hev:∀γ k x,evN tb tt Φ fa c rs (bd fn) an γ k x=c.Jo γ k x:=by intro γ k x;kernel_rfl)(h:facts Tryz.prog fn c.f fa.fn c.ins.length=NH fn rs:=by kernel_rfl)(hΨ:∀c∈fa.nd,NSX c:=by intro c hc;cases hc):NSX c:=
 adt tyT abT (fun _=>rfl) hΦ hev h hΨ
set_option maxRecDepth 100000 in
theorem yq(r n:Nat)(ps:List Nat)(fa:FA Sx)(an:An){Φ:List (cV Sx)}{c:cV Sx}(hΦ:∀c∈Φ,SX c)(hev:∀x,evY tb tt Φ fa c r ps (rgA Tryz.prog r) (rgB Tryz.prog r) an x=c.pL x:=by intro x;kernel_rfl)(h:S6 Tryz.prog r n ps c.f c.ins.length=S7 r:=by kernel_rfl)(hrd:fa.rd=true:=by rfl)(hrg:KT.rg r=some ⟨ps,rgA Tryz.prog r,rgB Tryz.prog r,n⟩:=by rfl)(hΨ:∀c∈fa.nd,NSX c:=by intro c hc;cases hc):SX c:=
 y_q tyT abT hΦ hev h hrd hrg hΨ
theorem c1{a:cV Sx}{l:List (cV Sx)}(h:SX a)(hl:∀c∈l,SX c):∀c∈a::l,SX c:=eY h hl
end E
end Go.Proofs.YtekpafdhgkocaaaGreat
