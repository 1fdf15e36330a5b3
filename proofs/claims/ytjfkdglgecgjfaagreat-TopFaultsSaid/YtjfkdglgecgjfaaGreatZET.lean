/- Part of the proof. -/
import Derived.Test.YtjfkdglgecgjfaaGreatZEvD
import Derived.Test.YtjfkdglgecgjfaaGreatProg
namespace Go.Proofs.YtjfkdglgecgjfaaGreat
open Go.RowKit G
def Bx:Mem->Prop:=E.GB 0
theorem Bxm{m m2:Mem}(h:Bx m)(k:Le m m2):Bx m2:=E.GB.mono h k
namespace E
def Sx:Nat->Type
 |0=>cv
 |1=>jV
 |2=>eD
 |3=>fK
 |4=>ga
 |5=>bH
 |6=>bV
 |7=>dj
 |8=>jG
 |9=>mV
 |10=>nV
 |11=>cL
 |12=>dt
 |13=>eO
 |14=>bL
 |15=>jt
 |_=>Bool
def tb:Tb Sx
 |0=>{fs:=[(.int .i64),(.int .i64),.bo,.u8],to:=fun(x:cv)=>(x.x,x.y,x.signed,x.code,()),of:=fun h=>(⟨h.1,h.2.1,h.2.2.1,h.2.2.2.1⟩:cv)}
 |1=>{fs:=[(.int .i64),(.int .i64),.bo,.u8],to:=fun(x:jV)=>(x.x,x.y,x.signed,x.code,()),of:=fun h=>(⟨h.1,h.2.1,h.2.2.1,h.2.2.2.1⟩:jV)}
 |2=>{fs:=[.str,(.int .u64)],to:=fun(x:eD)=>(x.msg,x.addr,()),of:=fun h=>(⟨h.1,h.2.1⟩:eD)}
 |3=>{fs:=[.str,(.int .u64)],to:=fun(x:fK)=>(x.msg,x.addr,()),of:=fun h=>(⟨h.1,h.2.1⟩:fK)}
 |4=>{fs:=[(.int .i64),(.int .i64)],to:=fun(x:ga)=>(x.code,x.at_,()),of:=fun h=>(⟨h.1,h.2.1⟩:ga)}
 |5=>{fs:=[(.int .i64),(.int .i64),(.int .i64),(.int .i64),(.sl .u8)],to:=fun(x:bH)=>(x.kind,x.to,x.dN,x.len,x.data,()),of:=fun h=>(⟨h.1,h.2.1,h.2.2.1,h.2.2.2.1,h.2.2.2.2.1⟩:bH)}
 |6=>{fs:=[(.int .i64),(.int .i64),(.a8 32),(.a8 32),(.sl (.st 5))],to:=fun(x:bV)=>(x.cD,x.bW,x.mw,x.mu,x.bG,()),of:=fun h=>(⟨h.1,h.2.1,h.2.2.1,h.2.2.2.1,h.2.2.2.2.1⟩:bV)}
 |7=>{fs:=[(.int .i64),(.int .i64)],to:=fun(x:dj)=>(x.off,x.len,()),of:=fun h=>(⟨h.1,h.2.1⟩:dj)}
 |8=>{fs:=[(.int .i64),(.int .i64),(.int .i64),(.int .i64),(.int .i64)],to:=fun(x:jG)=>(x.state,x.abm,x.writes,x.fault.code,x.fault.at_,()),of:=fun h=>(⟨h.1,h.2.1,h.2.2.1,(⟨h.2.2.2.1,h.2.2.2.2.1⟩:ga)⟩:jG)}
 |9=>{fs:=[(.sl (.st 8)),.bo,(.int .i64)],to:=fun(x:mV)=>(x.RF,x.done,x.aco,()),of:=fun h=>(⟨h.1,h.2.1,h.2.2.1⟩:mV)}
 |10=>{fs:=[(.int .i64),(.int .u64)],to:=fun(x:nV)=>(x.writes,x.ox,()),of:=fun h=>(⟨h.1,h.2.1⟩:nV)}
 |11=>{fs:=[(.int .u64),(.int .i64)],to:=fun(x:cL)=>(x.value,x.size,()),of:=fun h=>(⟨h.1,h.2.1⟩:cL)}
 |12=>{fs:=[(.sl .u8),(.int .i64),(.int .i64),(.int .i64)],to:=fun(x:dt)=>(x.b,x.at_,x.fault.code,x.fault.at_,()),of:=fun h=>(⟨h.1,h.2.1,(⟨h.2.2.1,h.2.2.2.1⟩:ga)⟩:dt)}
 |13=>{fs:=[(.sl .u8),(.int .i64),(.int .i64),(.int .i64)],to:=fun(x:eO)=>(x.b,x.at_,x.fault.code,x.fault.at_,()),of:=fun h=>(⟨h.1,h.2.1,(⟨h.2.2.1,h.2.2.2.1⟩:ga)⟩:eO)}
 |14=>{fs:=[(.sl .u8),(.int .i64),(.int .i64),(.int .i64)],to:=fun(x:bL)=>(x.position.b,x.position.at_,x.position.fault.code,x.position.fault.at_,()),of:=fun h=>(⟨(⟨h.1,h.2.1,(⟨h.2.2.1,h.2.2.2.1⟩:ga)⟩:eO)⟩:bL)}
 |15=>{fs:=[(.int .i64),(.int .i64)],to:=fun(x:jt)=>(x.CR.off,x.CR.len,()),of:=fun h=>(⟨(⟨h.1,h.2.1⟩:dj)⟩:jt)}
 |_+16=>{fs:=[.bo],to:=fun(x:Bool)=>(x,()),of:=fun h=>h.1}
def tyL:List (Nat×TI Sx):=[(1,⟨.func,1,8,[.fB],.bo,false⟩),
 (2,⟨.int .i64,1,8,[.int .i64 0],(.int .i64),false⟩),
 (3,⟨.int .i64,1,8,[.int .i64 0],(.int .i64),false⟩),
 (4,⟨.bool,1,1,[.tt false],.bo,false⟩),
 (5,⟨.int .u8,1,1,[.u8 0],.u8,false⟩),
 (6,⟨.int .u8,1,1,[.u8 0],.u8,false⟩),
 (7,⟨.struct [(2,0,1),(3,1,1),(4,2,1),(6,3,1)],4,24,[.int .i64 0,.int .i64 0,.tt false,.u8 0],(.st 0),true⟩),
 (8,⟨.struct [(2,0,1),(3,1,1),(4,2,1),(6,3,1)],4,24,[.int .i64 0,.int .i64 0,.tt false,.u8 0],(.st 1),true⟩),
 (9,⟨.str,1,16,[.str []],.str,false⟩),
 (10,⟨.str,1,16,[.str []],.str,false⟩),
 (11,⟨.str,1,16,[.str []],.str,false⟩),
 (12,⟨.int .u64,1,8,[.int .u64 0],(.int .u64),false⟩),
 (13,⟨.struct [(9,0,1),(12,1,1)],2,24,[.str [],.int .u64 0],(.st 2),false⟩),
 (14,⟨.struct [(9,0,1),(12,1,1)],2,24,[.str [],.int .u64 0],(.st 3),false⟩),
 (15,⟨.ptr 395,1,8,[.kG],.bo,false⟩),
 (20,⟨.iface,1,16,[.xV],.bo,false⟩),
 (24,⟨.int .i64,1,8,[.int .i64 0],(.int .i64),false⟩),
 (31,⟨.struct [(24,0,1),(3,1,1)],2,16,[.int .i64 0,.int .i64 0],(.st 4),true⟩),
 (32,⟨.func,1,8,[.fB],.bo,false⟩),
 (34,⟨.array 32 5,32,32,[.a8 32 (fun _=>0)],(.a8 32),true⟩),
 (35,⟨.slice 50,1,24,[.fg],(.sl (.st 5)),false⟩),
 (37,⟨.struct [(3,0,1),(3,1,1),(34,2,32),(34,34,32),(35,66,1)],67,104,[.int .i64 0,.int .i64 0,.a8 32 (fun _=>0),.a8 32 (fun _=>0),.fg],(.st 6),false⟩),
 (38,⟨.slice 5,1,24,[.fg],(.sl .u8),false⟩),
 (40,⟨.func,1,8,[.fB],.bo,false⟩),
 (50,⟨.struct [(3,0,1),(3,1,1),(3,2,1),(3,3,1),(38,4,1)],5,56,[.int .i64 0,.int .i64 0,.int .i64 0,.int .i64 0,.fg],(.st 5),false⟩),
 (64,⟨.func,1,8,[.fB],.bo,false⟩),
 (66,⟨.struct [(3,0,1),(3,1,1)],2,16,[.int .i64 0,.int .i64 0],(.st 7),true⟩),
 (70,⟨.func,1,8,[.fB],.bo,false⟩),
 (77,⟨.slice 167,1,24,[.fg],(.sl (.st 8)),false⟩),
 (79,⟨.struct [(77,0,1),(4,1,1),(3,2,1)],3,40,[.fg,.tt false,.int .i64 0],(.st 9),false⟩),
 (82,⟨.int .u64,1,8,[.int .u64 0],(.int .u64),false⟩),
 (84,⟨.struct [(3,0,1),(82,1,1)],2,16,[.int .i64 0,.int .u64 0],(.st 10),true⟩),
 (89,⟨.struct [(82,0,1),(3,1,1)],2,16,[.int .u64 0,.int .i64 0],(.st 11),true⟩),
 (91,⟨.slice 89,1,24,[.fg],(.sl (.st 11)),false⟩),
 (92,⟨.ptr 172,1,8,[.kG],.bo,false⟩),
 (95,⟨.struct [(92,0,1)],1,8,[.kG],.bo,false⟩),
 (97,⟨.func,1,8,[.fB],.bo,false⟩),
 (98,⟨.func,1,8,[.fB],.bo,false⟩),
 (99,⟨.func,1,8,[.fB],.bo,false⟩),
 (100,⟨.func,1,8,[.fB],.bo,false⟩),
 (101,⟨.func,1,8,[.fB],.bo,false⟩),
 (102,⟨.func,1,8,[.fB],.bo,false⟩),
 (108,⟨.func,1,8,[.fB],.bo,false⟩),
 (109,⟨.ptr 208,1,8,[.kG],.bo,false⟩),
 (120,⟨.func,1,8,[.fB],.bo,false⟩),
 (128,⟨.slice 3,1,24,[.fg],(.sl (.int .i64)),false⟩),
 (142,⟨.slice 38,1,24,[.fg],(.sl (.sl .u8)),false⟩),
 (153,⟨.func,1,8,[.fB],.bo,false⟩),
 (164,⟨.slice 84,1,24,[.fg],(.sl (.st 10)),false⟩),
 (167,⟨.struct [(3,0,1),(3,1,1),(3,2,1),(31,3,2)],5,40,[.int .i64 0,.int .i64 0,.int .i64 0,.int .i64 0,.int .i64 0],(.st 8),true⟩),
 (169,⟨.struct [(38,0,1),(3,1,1),(31,2,2)],4,48,[.fg,.int .i64 0,.int .i64 0,.int .i64 0],(.st 12),false⟩),
 (170,⟨.struct [(38,0,1),(3,1,1),(31,2,2)],4,48,[.fg,.int .i64 0,.int .i64 0,.int .i64 0],(.st 13),false⟩),
 (172,⟨.struct [(170,0,4)],4,48,[.fg,.int .i64 0,.int .i64 0,.int .i64 0],(.st 14),false⟩),
 (174,⟨.func,1,8,[.fB],.bo,false⟩),
 (177,⟨.map 3 100,1,8,[.Bv],(.mp (.int .i64) (.a8 0)),false⟩),
 (192,⟨.func,1,8,[.fB],.bo,false⟩),
 (198,⟨.func,1,8,[.fB],.bo,false⟩),
 (199,⟨.func,1,8,[.fB],.bo,false⟩),
 (202,⟨.int .u32,1,4,[.int .u32 0],(.int .u32),false⟩),
 (238,⟨.int .u64,1,8,[.int .u64 0],(.int .u64),false⟩),
 (239,⟨.ptr 170,1,8,[.kG],.bo,false⟩),
 (251,⟨.struct [(66,0,2)],2,16,[.int .i64 0,.int .i64 0],(.st 15),true⟩),
 (254,⟨.func,1,8,[.fB],.bo,false⟩),
 (300,⟨.func,1,8,[.fB],.bo,false⟩)]
def tt(t:TypeId):Option (TI Sx):=look t tyL
end E
namespace E
theorem aaQ:∀i,(tb i).fs.all Hf=true
 |0=>rfl
 |1=>rfl
 |2=>rfl
 |3=>rfl
 |4=>rfl
 |5=>rfl
 |6=>rfl
 |7=>rfl
 |8=>rfl
 |9=>rfl
 |10=>rfl
 |11=>rfl
 |12=>rfl
 |13=>rfl
 |14=>rfl
 |15=>rfl
 |_+16=>rfl
theorem max_:∀i,(tb i).fs.all (fun c=>Nat.ble (vy c) i)=true
 |0=>rfl
 |1=>rfl
 |2=>rfl
 |3=>rfl
 |4=>rfl
 |5=>rfl
 |6=>rfl
 |7=>rfl
 |8=>rfl
 |9=>rfl
 |10=>rfl
 |11=>rfl
 |12=>rfl
 |13=>rfl
 |14=>rfl
 |15=>rfl
 |_+16=>by simp[tb,vy]
theorem ne_:∀i,(tb i).fs≠[]
 |0=>(fun h=>by cases h)
 |1=>(fun h=>by cases h)
 |2=>(fun h=>by cases h)
 |3=>(fun h=>by cases h)
 |4=>(fun h=>by cases h)
 |5=>(fun h=>by cases h)
 |6=>(fun h=>by cases h)
 |7=>(fun h=>by cases h)
 |8=>(fun h=>by cases h)
 |9=>(fun h=>by cases h)
 |10=>(fun h=>by cases h)
 |11=>(fun h=>by cases h)
 |12=>(fun h=>by cases h)
 |13=>(fun h=>by cases h)
 |14=>(fun h=>by cases h)
 |15=>(fun h=>by cases h)
 |_+16=>(fun h=>by cases h)
theorem ZV:∀i (h:HL Sx (tb i).fs),(tb i).to ((tb i).of h)=h
 |0,_=>rfl
 |1,_=>rfl
 |2,_=>rfl
 |3,_=>rfl
 |4,_=>rfl
 |5,_=>rfl
 |6,_=>rfl
 |7,_=>rfl
 |8,_=>rfl
 |9,_=>rfl
 |10,_=>rfl
 |11,_=>rfl
 |12,_=>rfl
 |13,_=>rfl
 |14,_=>rfl
 |15,_=>rfl
 |_+16,_=>rfl
noncomputable def KT:ep tb:=acy (ZK Tryz.prog) Bx Bxm aaQ (fun i c hc=>aj (aE.1 (max_ i) c hc)) ne_ ZV
set_option maxRecDepth 100000 in
theorem aaB(x0:Int)(x1:Int)(x2:Bool)(x3:UInt8)(y0:Int)(y1:Int)(y2:Bool)(y3:UInt8)(w:World):(binOp .eql 7 (.agg #[.int .i64 x0,.int .i64 x1,.bool x2,.int .u8 (x3.toNat:Int)]) (.agg #[.int .i64 y0,.int .i64 y1,.bool y2,.int .u8 (y3.toNat:Int)])).run Tryz.prog w=.ok (.bool (decide (x0=y0/\x1=y1/\x2=y2/\(x3.toNat:Int)=(y3.toNat:Int)))) w:=by
 simp[go_sem];repeat' split
 all_goals simp_all
theorem eq_7:Ri KT Tryz.prog 7 ([.int .i64 0,.int .i64 0,.tt false,.u8 0]:List (CV Sx)):=⟨by kernel_rfl,fun g m vs ws p xs ys w hv hw hp h1 h2=>by
 obtain⟨x0,_,rfl,hv1⟩:=cj hv;obtain⟨x1,_,rfl,hv2⟩:=cj hv1;rcases BR hv2 with⟨x2,_,_,_,_,rfl,hv3⟩|⟨x2,_,rfl,hv3⟩
 all_goals
  obtain⟨x3,_,rfl,hv4⟩:=BS hv3
  obtain rfl:=fk hv4
  obtain⟨y0,_,rfl,hw1⟩:=cj hw
  obtain⟨y1,_,rfl,hw2⟩:=cj hw1
  rcases BR hw2 with⟨y2,_,_,_,_,rfl,hw3⟩|⟨y2,_,rfl,hw3⟩
  all_goals
   obtain⟨y3,_,rfl,hw4⟩:=BS hw3
   obtain rfl:=fk hw4
   obtain⟨_,rfl,h1_1⟩:=cE h1
   obtain⟨_,rfl,h1_2⟩:=cE h1_1
   first|obtain⟨_,rfl,h1_3⟩:=GD h1_2|obtain⟨_,rfl,h1_3⟩:=Gz h1_2
   obtain⟨_,rfl,h1_4⟩:=GF h1_3
   simp only[cJ]at h1_4;subst h1_4
   obtain⟨_,rfl,h2_1⟩:=cE h2
   obtain⟨_,rfl,h2_2⟩:=cE h2_1
   first|obtain⟨_,rfl,h2_3⟩:=GD h2_2|obtain⟨_,rfl,h2_3⟩:=Gz h2_2
   obtain⟨_,rfl,h2_4⟩:=GF h2_3
   simp only[cJ]at h2_4;subst h2_4
   simp only[zl,bit,ae,ak,af]at hp
   subst hp
   exact aaB x0 x1 x2 x3 y0 y1 y2 y3 w⟩
set_option maxRecDepth 100000 in
theorem aaC(x0:Int)(x1:Int)(x2:Bool)(x3:UInt8)(y0:Int)(y1:Int)(y2:Bool)(y3:UInt8)(w:World):(binOp .eql 8 (.agg #[.int .i64 x0,.int .i64 x1,.bool x2,.int .u8 (x3.toNat:Int)]) (.agg #[.int .i64 y0,.int .i64 y1,.bool y2,.int .u8 (y3.toNat:Int)])).run Tryz.prog w=.ok (.bool (decide (x0=y0/\x1=y1/\x2=y2/\(x3.toNat:Int)=(y3.toNat:Int)))) w:=by
 simp[go_sem];repeat' split
 all_goals simp_all
theorem eq_8:Ri KT Tryz.prog 8 ([.int .i64 0,.int .i64 0,.tt false,.u8 0]:List (CV Sx)):=⟨by kernel_rfl,fun g m vs ws p xs ys w hv hw hp h1 h2=>by
 obtain⟨x0,_,rfl,hv1⟩:=cj hv;obtain⟨x1,_,rfl,hv2⟩:=cj hv1;rcases BR hv2 with⟨x2,_,_,_,_,rfl,hv3⟩|⟨x2,_,rfl,hv3⟩
 all_goals
  obtain⟨x3,_,rfl,hv4⟩:=BS hv3
  obtain rfl:=fk hv4
  obtain⟨y0,_,rfl,hw1⟩:=cj hw
  obtain⟨y1,_,rfl,hw2⟩:=cj hw1
  rcases BR hw2 with⟨y2,_,_,_,_,rfl,hw3⟩|⟨y2,_,rfl,hw3⟩
  all_goals
   obtain⟨y3,_,rfl,hw4⟩:=BS hw3
   obtain rfl:=fk hw4
   obtain⟨_,rfl,h1_1⟩:=cE h1
   obtain⟨_,rfl,h1_2⟩:=cE h1_1
   first|obtain⟨_,rfl,h1_3⟩:=GD h1_2|obtain⟨_,rfl,h1_3⟩:=Gz h1_2
   obtain⟨_,rfl,h1_4⟩:=GF h1_3
   simp only[cJ]at h1_4;subst h1_4
   obtain⟨_,rfl,h2_1⟩:=cE h2
   obtain⟨_,rfl,h2_2⟩:=cE h2_1
   first|obtain⟨_,rfl,h2_3⟩:=GD h2_2|obtain⟨_,rfl,h2_3⟩:=Gz h2_2
   obtain⟨_,rfl,h2_4⟩:=GF h2_3
   simp only[cJ]at h2_4;subst h2_4
   simp only[zl,bit,ae,ak,af]at hp
   subst hp
   exact aaC x0 x1 x2 x3 y0 y1 y2 y3 w⟩
set_option maxRecDepth 100000 in
theorem YA(x0:Int)(x1:Int)(y0:Int)(y1:Int)(w:World):(binOp .eql 31 (.agg #[.int .i64 x0,.int .i64 x1]) (.agg #[.int .i64 y0,.int .i64 y1])).run Tryz.prog w=.ok (.bool (decide (x0=y0/\x1=y1))) w:=by
 simp[go_sem];repeat' split
 all_goals simp_all
theorem eq_31:Ri KT Tryz.prog 31 ([.int .i64 0,.int .i64 0]:List (CV Sx)):=⟨by kernel_rfl,fun g m vs ws p xs ys w hv hw hp h1 h2=>by
 obtain⟨x0,_,rfl,hv1⟩:=cj hv;obtain⟨x1,_,rfl,hv2⟩:=cj hv1;obtain rfl:=fk hv2;obtain⟨y0,_,rfl,hw1⟩:=cj hw;obtain⟨y1,_,rfl,hw2⟩:=cj hw1;obtain rfl:=fk hw2;obtain⟨_,rfl,h1_1⟩:=cE h1;obtain⟨_,rfl,h1_2⟩:=cE h1_1;simp only[cJ]at h1_2;subst h1_2;obtain⟨_,rfl,h2_1⟩:=cE h2;obtain⟨_,rfl,h2_2⟩:=cE h2_1;simp only[cJ]at h2_2;subst h2_2;simp only[zl,bit,ae,ak,af]at hp;subst hp;exact YA x0 x1 y0 y1 w⟩
theorem eq_34:Ri KT Tryz.prog 34 ([.a8 32 (fun _=>0)]:List (CV Sx)):=⟨by kernel_rfl,fun g m vs ws p xs ys w hv hw hp h1 h2=>by cases vs<;>simp[kindOk]at hv⟩
set_option maxRecDepth 100000 in
theorem YB(x0:Int)(x1:Int)(y0:Int)(y1:Int)(w:World):(binOp .eql 66 (.agg #[.int .i64 x0,.int .i64 x1]) (.agg #[.int .i64 y0,.int .i64 y1])).run Tryz.prog w=.ok (.bool (decide (x0=y0/\x1=y1))) w:=by
 simp[go_sem];repeat' split
 all_goals simp_all
theorem aaD:Ri KT Tryz.prog 66 ([.int .i64 0,.int .i64 0]:List (CV Sx)):=⟨by kernel_rfl,fun g m vs ws p xs ys w hv hw hp h1 h2=>by
 obtain⟨x0,_,rfl,hv1⟩:=cj hv;obtain⟨x1,_,rfl,hv2⟩:=cj hv1;obtain rfl:=fk hv2;obtain⟨y0,_,rfl,hw1⟩:=cj hw;obtain⟨y1,_,rfl,hw2⟩:=cj hw1;obtain rfl:=fk hw2;obtain⟨_,rfl,h1_1⟩:=cE h1;obtain⟨_,rfl,h1_2⟩:=cE h1_1;simp only[cJ]at h1_2;subst h1_2;obtain⟨_,rfl,h2_1⟩:=cE h2;obtain⟨_,rfl,h2_2⟩:=cE h2_1;simp only[cJ]at h2_2;subst h2_2;simp only[zl,bit,ae,ak,af]at hp;subst hp;exact YB x0 x1 y0 y1 w⟩
set_option maxRecDepth 100000 in
theorem YC(x0:Int)(x1:Int)(y0:Int)(y1:Int)(w:World):(binOp .eql 84 (.agg #[.int .i64 x0,.int .u64 x1]) (.agg #[.int .i64 y0,.int .u64 y1])).run Tryz.prog w=.ok (.bool (decide (x0=y0/\x1=y1))) w:=by
 simp[go_sem];repeat' split
 all_goals simp_all
theorem aaE:Ri KT Tryz.prog 84 ([.int .i64 0,.int .u64 0]:List (CV Sx)):=⟨by kernel_rfl,fun g m vs ws p xs ys w hv hw hp h1 h2=>by
 obtain⟨x0,_,rfl,hv1⟩:=cj hv;obtain⟨x1,_,rfl,hv2⟩:=cj hv1;obtain rfl:=fk hv2;obtain⟨y0,_,rfl,hw1⟩:=cj hw;obtain⟨y1,_,rfl,hw2⟩:=cj hw1;obtain rfl:=fk hw2;obtain⟨_,rfl,h1_1⟩:=cE h1;obtain⟨_,rfl,h1_2⟩:=cE h1_1;simp only[cJ]at h1_2;subst h1_2;obtain⟨_,rfl,h2_1⟩:=cE h2;obtain⟨_,rfl,h2_2⟩:=cE h2_1;simp only[cJ]at h2_2;subst h2_2;simp only[zl,bit,ae,ak,af]at hp;subst hp;exact YC x0 x1 y0 y1 w⟩
set_option maxRecDepth 100000 in
theorem YD(x0:Int)(x1:Int)(y0:Int)(y1:Int)(w:World):(binOp .eql 89 (.agg #[.int .u64 x0,.int .i64 x1]) (.agg #[.int .u64 y0,.int .i64 y1])).run Tryz.prog w=.ok (.bool (decide (x0=y0/\x1=y1))) w:=by
 simp[go_sem];repeat' split
 all_goals simp_all
theorem aaF:Ri KT Tryz.prog 89 ([.int .u64 0,.int .i64 0]:List (CV Sx)):=⟨by kernel_rfl,fun g m vs ws p xs ys w hv hw hp h1 h2=>by
 obtain⟨x0,_,rfl,hv1⟩:=cj hv;obtain⟨x1,_,rfl,hv2⟩:=cj hv1;obtain rfl:=fk hv2;obtain⟨y0,_,rfl,hw1⟩:=cj hw;obtain⟨y1,_,rfl,hw2⟩:=cj hw1;obtain rfl:=fk hw2;obtain⟨_,rfl,h1_1⟩:=cE h1;obtain⟨_,rfl,h1_2⟩:=cE h1_1;simp only[cJ]at h1_2;subst h1_2;obtain⟨_,rfl,h2_1⟩:=cE h2;obtain⟨_,rfl,h2_2⟩:=cE h2_1;simp only[cJ]at h2_2;subst h2_2;simp only[zl,bit,ae,ak,af]at hp;subst hp;exact YD x0 x1 y0 y1 w⟩
set_option maxRecDepth 100000 in
theorem VY(x0:Int)(x1:Int)(x2:Int)(x3:Int)(x4:Int)(y0:Int)(y1:Int)(y2:Int)(y3:Int)(y4:Int)(w:World):(binOp .eql 167 (.agg #[.int .i64 x0,.int .i64 x1,.int .i64 x2,.int .i64 x3,.int .i64 x4]) (.agg #[.int .i64 y0,.int .i64 y1,.int .i64 y2,.int .i64 y3,.int .i64 y4])).run Tryz.prog w=.ok (.bool (decide (x0=y0/\x1=y1/\x2=y2/\x3=y3/\x4=y4))) w:=by
 simp[go_sem];repeat' split
 all_goals simp_all
theorem YG:Ri KT Tryz.prog 167 ([.int .i64 0,.int .i64 0,.int .i64 0,.int .i64 0,.int .i64 0]:List (CV Sx)):=⟨by kernel_rfl,fun g m vs ws p xs ys w hv hw hp h1 h2=>by
 obtain⟨x0,_,rfl,hv1⟩:=cj hv;obtain⟨x1,_,rfl,hv2⟩:=cj hv1;obtain⟨x2,_,rfl,hv3⟩:=cj hv2;obtain⟨x3,_,rfl,hv4⟩:=cj hv3;obtain⟨x4,_,rfl,hv5⟩:=cj hv4;obtain rfl:=fk hv5;obtain⟨y0,_,rfl,hw1⟩:=cj hw;obtain⟨y1,_,rfl,hw2⟩:=cj hw1;obtain⟨y2,_,rfl,hw3⟩:=cj hw2;obtain⟨y3,_,rfl,hw4⟩:=cj hw3;obtain⟨y4,_,rfl,hw5⟩:=cj hw4;obtain rfl:=fk hw5;obtain⟨_,rfl,h1_1⟩:=cE h1;obtain⟨_,rfl,h1_2⟩:=cE h1_1;obtain⟨_,rfl,h1_3⟩:=cE h1_2;obtain⟨_,rfl,h1_4⟩:=cE h1_3;obtain⟨_,rfl,h1_5⟩:=cE h1_4;simp only[cJ]at h1_5;subst h1_5;obtain⟨_,rfl,h2_1⟩:=cE h2;obtain⟨_,rfl,h2_2⟩:=cE h2_1;obtain⟨_,rfl,h2_3⟩:=cE h2_2;obtain⟨_,rfl,h2_4⟩:=cE h2_3;obtain⟨_,rfl,h2_5⟩:=cE h2_4;simp only[cJ]at h2_5;subst h2_5;simp only[zl,bit,ae,ak,af]at hp;subst hp;exact VY x0 x1 x2 x3 x4 y0 y1 y2 y3 y4 w⟩
set_option maxRecDepth 100000 in
theorem VZ(x0:Int)(x1:Int)(y0:Int)(y1:Int)(w:World):(binOp .eql 251 (.agg #[.int .i64 x0,.int .i64 x1]) (.agg #[.int .i64 y0,.int .i64 y1])).run Tryz.prog w=.ok (.bool (decide (x0=y0/\x1=y1))) w:=by
 simp[go_sem];repeat' split
 all_goals simp_all
theorem YH:Ri KT Tryz.prog 251 ([.int .i64 0,.int .i64 0]:List (CV Sx)):=⟨by kernel_rfl,fun g m vs ws p xs ys w hv hw hp h1 h2=>by
 obtain⟨x0,_,rfl,hv1⟩:=cj hv;obtain⟨x1,_,rfl,hv2⟩:=cj hv1;obtain rfl:=fk hv2;obtain⟨y0,_,rfl,hw1⟩:=cj hw;obtain⟨y1,_,rfl,hw2⟩:=cj hw1;obtain rfl:=fk hw2;obtain⟨_,rfl,h1_1⟩:=cE h1;obtain⟨_,rfl,h1_2⟩:=cE h1_1;simp only[cJ]at h1_2;subst h1_2;obtain⟨_,rfl,h2_1⟩:=cE h2;obtain⟨_,rfl,h2_2⟩:=cE h2_1;simp only[cJ]at h2_2;subst h2_2;simp only[zl,bit,ae,ak,af]at hp;subst hp;exact VZ x0 x1 y0 y1 w⟩
set_option maxRecDepth 100000 in
theorem ZW:∀p∈tyL,ED Tryz.prog p.1 p.2:=ZX (by kernel_rfl) (by kernel_rfl) (by kernel_rfl)
theorem tyT:dx Tryz.prog KT tt:=acB rfl ZW (by kernel_rfl) (by
 rw[show(tyL.filter fun p=>p.2.eq).map (fun p=>(p.1,p.2.zero))=[(7,[.int .i64 0,.int .i64 0,.tt false,.u8 0]),(8,[.int .i64 0,.int .i64 0,.tt false,.u8 0]),(31,[.int .i64 0,.int .i64 0]),(34,[.a8 32 (fun _=>0)]),(66,[.int .i64 0,.int .i64 0]),(84,[.int .i64 0,.int .u64 0]),(89,[.int .u64 0,.int .i64 0]),(167,[.int .i64 0,.int .i64 0,.int .i64 0,.int .i64 0,.int .i64 0]),(251,[.int .i64 0,.int .i64 0])]by kernel_rfl];exact cH eq_7<|cH eq_8<|cH eq_31<|cH eq_34<|cH aaD<|cH aaE<|cH aaF<|cH YG<|cH YH<|bJ) (by kernel_rfl) (by
 rw[show Ul tyL=[]by kernel_rfl];exact bJ)
theorem aa0:Tryz.prog.follows .mixedOrders=true:=by kernel_rfl
abbrev SX(c:dS Sx):Prop:=Sound Tryz.prog KT c
abbrev NSX(c:NC Sx):Prop:=mS Tryz.prog KT c
set_option maxRecDepth 100000 in
theorem fq(fn:Func)(rs:List ResultVar)(fa:FA Sx)(an:An){Φ:List (dS Sx)}{c:dS Sx}(hΦ:∀c∈Φ,SX c)(hev:∀x,evF tb tt Φ fa c rs (bd fn) an x=c.uU x:=by intro x;kernel_rfl)(h:facts Tryz.prog fn c.f fa.fn c.ins.length=UK fn rs:=by kernel_rfl)(hΨ:∀c∈fa.nd,NSX c:=by intro c hc;cases hc):SX c:=
 acd tyT aa0 (fun _=>rfl) hΦ hev h hΨ
set_option maxRecDepth 100000 in
theorem yq(r n:Nat)(ps:List Nat)(fa:FA Sx)(an:An){Φ:List (dS Sx)}{c:dS Sx}(hΦ:∀c∈Φ,SX c)(hev:∀x,evY tb tt Φ fa c r ps (rgA Tryz.prog r) (rgB Tryz.prog r) an x=c.uU x:=by intro x;kernel_rfl)(h:MQ Tryz.prog r n ps c.f c.ins.length=MR r:=by kernel_rfl)(hrd:fa.rd=true:=by rfl)(hrg:KT.rg r=some ⟨ps,rgA Tryz.prog r,rgB Tryz.prog r,n⟩:=by rfl)(hΨ:∀c∈fa.nd,NSX c:=by intro c hc;cases hc):SX c:=
 y_q tyT aa0 hΦ hev h hrd hrg hΨ
theorem c1{a:dS Sx}{l:List (dS Sx)}(h:SX a)(hl:∀c∈l,SX c):∀c∈a::l,SX c:=cH h hl
end E
end Go.Proofs.YtjfkdglgecgjfaaGreat
