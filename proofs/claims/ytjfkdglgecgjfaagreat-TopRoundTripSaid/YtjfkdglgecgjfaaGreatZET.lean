/- Part of the proof. -/
import Derived.Test.YtjfkdglgecgjfaaGreatZEvD
import Derived.Test.YtjfkdglgecgjfaaGreatProg
namespace Go.Proofs.YtjfkdglgecgjfaaGreat
open Go.RowKit G
def Bx:Mem->Prop:=E.GB 0
theorem YP{m m2:Mem}(h:Bx m)(k:Le m m2):Bx m2:=E.GB.mono h k
namespace E
def Sx:Nat->Type
 |0=>bS
 |1=>ij
 |2=>dG
 |3=>eC
 |4=>kz
 |5=>bK
 |6=>cx
 |7=>sO
 |8=>gW
 |9=>kp
 |10=>lz
 |11=>cg
 |12=>cJ
 |13=>dM
 |14=>bG
 |15=>lB
 |_=>Bool
def tb:Tb Sx
 |0=>{fs:=[(.int .i64),(.int .i64),.bo,.u8],to:=fun(x:bS)=>(x.x,x.y,x.signed,x.code,()),of:=fun h=>(⟨h.1,h.2.1,h.2.2.1,h.2.2.2.1⟩:bS)}
 |1=>{fs:=[(.int .i64),(.int .i64),.bo,.u8],to:=fun(x:ij)=>(x.x,x.y,x.signed,x.code,()),of:=fun h=>(⟨h.1,h.2.1,h.2.2.1,h.2.2.2.1⟩:ij)}
 |2=>{fs:=[.str,(.int .u64)],to:=fun(x:dG)=>(x.msg,x.addr,()),of:=fun h=>(⟨h.1,h.2.1⟩:dG)}
 |3=>{fs:=[.str,(.int .u64)],to:=fun(x:eC)=>(x.msg,x.addr,()),of:=fun h=>(⟨h.1,h.2.1⟩:eC)}
 |4=>{fs:=[(.int .i64),(.int .i64)],to:=fun(x:kz)=>(x.code,x.at_,()),of:=fun h=>(⟨h.1,h.2.1⟩:kz)}
 |5=>{fs:=[(.int .i64),(.int .i64),(.int .i64),(.int .i64),(.sl .u8)],to:=fun(x:bK)=>(x.kind,x.to,x.eR,x.len,x.data,()),of:=fun h=>(⟨h.1,h.2.1,h.2.2.1,h.2.2.2.1,h.2.2.2.2.1⟩:bK)}
 |6=>{fs:=[(.int .i64),(.int .i64),(.a8 32),(.a8 32),(.sl (.st 5))],to:=fun(x:cx)=>(x.dj,x.dw,x.fO,x.fN,x.bD,()),of:=fun h=>(⟨h.1,h.2.1,h.2.2.1,h.2.2.2.1,h.2.2.2.2.1⟩:cx)}
 |7=>{fs:=[(.int .i64),(.int .i64)],to:=fun(x:sO)=>(x.off,x.len,()),of:=fun h=>(⟨h.1,h.2.1⟩:sO)}
 |8=>{fs:=[(.int .i64),(.int .i64),(.int .i64),(.int .i64),(.int .i64)],to:=fun(x:gW)=>(x.state,x.Xh,x.writes,x.fault.code,x.fault.at_,()),of:=fun h=>(⟨h.1,h.2.1,h.2.2.1,(⟨h.2.2.2.1,h.2.2.2.2.1⟩:kz)⟩:gW)}
 |9=>{fs:=[(.sl (.st 8)),.bo,(.int .i64)],to:=fun(x:kp)=>(x.Nf,x.done,x.Yf,()),of:=fun h=>(⟨h.1,h.2.1,h.2.2.1⟩:kp)}
 |10=>{fs:=[(.int .i64),(.int .u64)],to:=fun(x:lz)=>(x.writes,x.ma,()),of:=fun h=>(⟨h.1,h.2.1⟩:lz)}
 |11=>{fs:=[(.int .u64),(.int .i64)],to:=fun(x:cg)=>(x.value,x.size,()),of:=fun h=>(⟨h.1,h.2.1⟩:cg)}
 |12=>{fs:=[(.sl .u8),(.int .i64),(.int .i64),(.int .i64)],to:=fun(x:cJ)=>(x.b,x.at_,x.fault.code,x.fault.at_,()),of:=fun h=>(⟨h.1,h.2.1,(⟨h.2.2.1,h.2.2.2.1⟩:kz)⟩:cJ)}
 |13=>{fs:=[(.sl .u8),(.int .i64),(.int .i64),(.int .i64)],to:=fun(x:dM)=>(x.b,x.at_,x.fault.code,x.fault.at_,()),of:=fun h=>(⟨h.1,h.2.1,(⟨h.2.2.1,h.2.2.2.1⟩:kz)⟩:dM)}
 |14=>{fs:=[(.sl .u8),(.int .i64),(.int .i64),(.int .i64)],to:=fun(x:bG)=>(x.position.b,x.position.at_,x.position.fault.code,x.position.fault.at_,()),of:=fun h=>(⟨(⟨h.1,h.2.1,(⟨h.2.2.1,h.2.2.2.1⟩:kz)⟩:dM)⟩:bG)}
 |15=>{fs:=[(.int .i64),(.int .i64)],to:=fun(x:lB)=>(x.NT.off,x.NT.len,()),of:=fun h=>(⟨(⟨h.1,h.2.1⟩:sO)⟩:lB)}
 |_+16=>{fs:=[.bo],to:=fun(x:Bool)=>(x,()),of:=fun h=>h.1}
def XV:List (Nat×TI Sx):=[(1,⟨.func,1,8,[.ez],.bo,false⟩),
 (2,⟨.int .i64,1,8,[.int .i64 0],(.int .i64),false⟩),
 (3,⟨.int .i64,1,8,[.int .i64 0],(.int .i64),false⟩),
 (4,⟨.bool,1,1,[.tt false],.bo,false⟩),
 (5,⟨.int .u8,1,1,[.u8 0],.u8,false⟩),
 (6,⟨.int .u8,1,1,[.u8 0],.u8,false⟩),
 (7,⟨.struct [(2,0,1),(3,1,1),(4,2,1),(6,3,1)],4,24,[.int .i64 0,.int .i64 0,.tt false,.u8 0],(.st 0),true⟩),
 (8,⟨.struct [(2,0,1),(3,1,1),(4,2,1),(6,3,1)],4,24,[.int .i64 0,.int .i64 0,.tt false,.u8 0],(.st 1),true⟩),
 (9,⟨.str,1,16,[.str []],.str,false⟩),
 (10,⟨.str,1,16,[.str []],.str,false⟩),
 (11,⟨.str,1,16,[.str []],.str,false⟩),
 (12,⟨.int .u64,1,8,[.int .u64 0],(.int .u64),false⟩),
 (13,⟨.struct [(9,0,1),(12,1,1)],2,24,[.str [],.int .u64 0],(.st 2),false⟩),
 (14,⟨.struct [(9,0,1),(12,1,1)],2,24,[.str [],.int .u64 0],(.st 3),false⟩),
 (15,⟨.ptr 395,1,8,[.iV],.bo,false⟩),
 (20,⟨.iface,1,16,[.uM],.bo,false⟩),
 (24,⟨.int .i64,1,8,[.int .i64 0],(.int .i64),false⟩),
 (31,⟨.struct [(24,0,1),(3,1,1)],2,16,[.int .i64 0,.int .i64 0],(.st 4),true⟩),
 (32,⟨.func,1,8,[.ez],.bo,false⟩),
 (34,⟨.array 32 5,32,32,[.a8 32 (fun _=>0)],(.a8 32),true⟩),
 (35,⟨.slice 50,1,24,[.dW],(.sl (.st 5)),false⟩),
 (37,⟨.struct [(3,0,1),(3,1,1),(34,2,32),(34,34,32),(35,66,1)],67,104,[.int .i64 0,.int .i64 0,.a8 32 (fun _=>0),.a8 32 (fun _=>0),.dW],(.st 6),false⟩),
 (38,⟨.slice 5,1,24,[.dW],(.sl .u8),false⟩),
 (40,⟨.func,1,8,[.ez],.bo,false⟩),
 (50,⟨.struct [(3,0,1),(3,1,1),(3,2,1),(3,3,1),(38,4,1)],5,56,[.int .i64 0,.int .i64 0,.int .i64 0,.int .i64 0,.dW],(.st 5),false⟩),
 (64,⟨.func,1,8,[.ez],.bo,false⟩),
 (66,⟨.struct [(3,0,1),(3,1,1)],2,16,[.int .i64 0,.int .i64 0],(.st 7),true⟩),
 (70,⟨.func,1,8,[.ez],.bo,false⟩),
 (77,⟨.slice 167,1,24,[.dW],(.sl (.st 8)),false⟩),
 (79,⟨.struct [(77,0,1),(4,1,1),(3,2,1)],3,40,[.dW,.tt false,.int .i64 0],(.st 9),false⟩),
 (82,⟨.int .u64,1,8,[.int .u64 0],(.int .u64),false⟩),
 (84,⟨.struct [(3,0,1),(82,1,1)],2,16,[.int .i64 0,.int .u64 0],(.st 10),true⟩),
 (89,⟨.struct [(82,0,1),(3,1,1)],2,16,[.int .u64 0,.int .i64 0],(.st 11),true⟩),
 (91,⟨.slice 89,1,24,[.dW],(.sl (.st 11)),false⟩),
 (92,⟨.ptr 172,1,8,[.iV],.bo,false⟩),
 (95,⟨.struct [(92,0,1)],1,8,[.iV],.bo,false⟩),
 (97,⟨.func,1,8,[.ez],.bo,false⟩),
 (98,⟨.func,1,8,[.ez],.bo,false⟩),
 (99,⟨.func,1,8,[.ez],.bo,false⟩),
 (100,⟨.func,1,8,[.ez],.bo,false⟩),
 (101,⟨.func,1,8,[.ez],.bo,false⟩),
 (102,⟨.func,1,8,[.ez],.bo,false⟩),
 (108,⟨.func,1,8,[.ez],.bo,false⟩),
 (109,⟨.ptr 208,1,8,[.iV],.bo,false⟩),
 (120,⟨.func,1,8,[.ez],.bo,false⟩),
 (128,⟨.slice 3,1,24,[.dW],(.sl (.int .i64)),false⟩),
 (142,⟨.slice 38,1,24,[.dW],(.sl (.sl .u8)),false⟩),
 (153,⟨.func,1,8,[.ez],.bo,false⟩),
 (164,⟨.slice 84,1,24,[.dW],(.sl (.st 10)),false⟩),
 (167,⟨.struct [(3,0,1),(3,1,1),(3,2,1),(31,3,2)],5,40,[.int .i64 0,.int .i64 0,.int .i64 0,.int .i64 0,.int .i64 0],(.st 8),true⟩),
 (169,⟨.struct [(38,0,1),(3,1,1),(31,2,2)],4,48,[.dW,.int .i64 0,.int .i64 0,.int .i64 0],(.st 12),false⟩),
 (170,⟨.struct [(38,0,1),(3,1,1),(31,2,2)],4,48,[.dW,.int .i64 0,.int .i64 0,.int .i64 0],(.st 13),false⟩),
 (172,⟨.struct [(170,0,4)],4,48,[.dW,.int .i64 0,.int .i64 0,.int .i64 0],(.st 14),false⟩),
 (174,⟨.func,1,8,[.ez],.bo,false⟩),
 (177,⟨.map 3 100,1,8,[.xN],(.mp (.int .i64) (.a8 0)),false⟩),
 (192,⟨.func,1,8,[.ez],.bo,false⟩),
 (198,⟨.func,1,8,[.ez],.bo,false⟩),
 (199,⟨.func,1,8,[.ez],.bo,false⟩),
 (202,⟨.int .u32,1,4,[.int .u32 0],(.int .u32),false⟩),
 (238,⟨.int .u64,1,8,[.int .u64 0],(.int .u64),false⟩),
 (239,⟨.ptr 170,1,8,[.iV],.bo,false⟩),
 (251,⟨.struct [(66,0,2)],2,16,[.int .i64 0,.int .i64 0],(.st 15),true⟩),
 (254,⟨.func,1,8,[.ez],.bo,false⟩),
 (300,⟨.func,1,8,[.ez],.bo,false⟩)]
def tt(t:TypeId):Option (TI Sx):=look t XV
end E
namespace E
theorem WH:∀i,(tb i).fs.all DA=true
 |0=>rfl
 |1=>rfl
 |2=>rfl
 |3=>rfl
 |4=>rfl
 |5=>rfl
 |6=>rfl
 |7=>rfl
 |8=>rfl
 |9=>rfl
 |10=>rfl
 |11=>rfl
 |12=>rfl
 |13=>rfl
 |14=>rfl
 |15=>rfl
 |_+16=>rfl
theorem max_:∀i,(tb i).fs.all (fun c=>Nat.ble (sE c) i)=true
 |0=>rfl
 |1=>rfl
 |2=>rfl
 |3=>rfl
 |4=>rfl
 |5=>rfl
 |6=>rfl
 |7=>rfl
 |8=>rfl
 |9=>rfl
 |10=>rfl
 |11=>rfl
 |12=>rfl
 |13=>rfl
 |14=>rfl
 |15=>rfl
 |_+16=>by simp[tb,sE]
theorem YX:∀i,(tb i).fs≠[]
 |0=>(fun h=>by cases h)
 |1=>(fun h=>by cases h)
 |2=>(fun h=>by cases h)
 |3=>(fun h=>by cases h)
 |4=>(fun h=>by cases h)
 |5=>(fun h=>by cases h)
 |6=>(fun h=>by cases h)
 |7=>(fun h=>by cases h)
 |8=>(fun h=>by cases h)
 |9=>(fun h=>by cases h)
 |10=>(fun h=>by cases h)
 |11=>(fun h=>by cases h)
 |12=>(fun h=>by cases h)
 |13=>(fun h=>by cases h)
 |14=>(fun h=>by cases h)
 |15=>(fun h=>by cases h)
 |_+16=>(fun h=>by cases h)
theorem VN:∀i (h:HL Sx (tb i).fs),(tb i).to ((tb i).of h)=h
 |0,_=>rfl
 |1,_=>rfl
 |2,_=>rfl
 |3,_=>rfl
 |4,_=>rfl
 |5,_=>rfl
 |6,_=>rfl
 |7,_=>rfl
 |8,_=>rfl
 |9,_=>rfl
 |10,_=>rfl
 |11,_=>rfl
 |12,_=>rfl
 |13,_=>rfl
 |14,_=>rfl
 |15,_=>rfl
 |_+16,_=>rfl
noncomputable def KT:dN tb:=Yo (Xp Tryz.prog) Bx YP WH (fun i c hc=>aj (aE.1 (max_ i) c hc)) YX VN
set_option maxRecDepth 100000 in
theorem Ws(x0:Int)(x1:Int)(x2:Bool)(x3:UInt8)(y0:Int)(y1:Int)(y2:Bool)(y3:UInt8)(w:World):(binOp .eql 7 (.agg #[.int .i64 x0,.int .i64 x1,.bool x2,.int .u8 (x3.toNat:Int)]) (.agg #[.int .i64 y0,.int .i64 y1,.bool y2,.int .u8 (y3.toNat:Int)])).run Tryz.prog w=.ok (.bool (decide (x0=y0/\x1=y1/\x2=y2/\(x3.toNat:Int)=(y3.toNat:Int)))) w:=by
 simp[go_sem];repeat' split
 all_goals simp_all
theorem eq_7:MX KT Tryz.prog 7 ([.int .i64 0,.int .i64 0,.tt false,.u8 0]:List (CV Sx)):=⟨by kernel_rfl,fun g m vs ws p xs ys w hv hw hp h1 h2=>by
 obtain⟨x0,_,rfl,hv1⟩:=bR hv;obtain⟨x1,_,rfl,hv2⟩:=bR hv1;rcases yi hv2 with⟨x2,_,_,_,_,rfl,hv3⟩|⟨x2,_,rfl,hv3⟩
 all_goals
  obtain⟨x3,_,rfl,hv4⟩:=yj hv3
  obtain rfl:=eh hv4
  obtain⟨y0,_,rfl,hw1⟩:=bR hw
  obtain⟨y1,_,rfl,hw2⟩:=bR hw1
  rcases yi hw2 with⟨y2,_,_,_,_,rfl,hw3⟩|⟨y2,_,rfl,hw3⟩
  all_goals
   obtain⟨y3,_,rfl,hw4⟩:=yj hw3
   obtain rfl:=eh hw4
   obtain⟨_,rfl,h1_1⟩:=bX h1
   obtain⟨_,rfl,h1_2⟩:=bX h1_1
   first|obtain⟨_,rfl,h1_3⟩:=C5 h1_2|obtain⟨_,rfl,h1_3⟩:=CX h1_2
   obtain⟨_,rfl,h1_4⟩:=C6 h1_3
   simp only[cb]at h1_4;subst h1_4
   obtain⟨_,rfl,h2_1⟩:=bX h2
   obtain⟨_,rfl,h2_2⟩:=bX h2_1
   first|obtain⟨_,rfl,h2_3⟩:=C5 h2_2|obtain⟨_,rfl,h2_3⟩:=CX h2_2
   obtain⟨_,rfl,h2_4⟩:=C6 h2_3
   simp only[cb]at h2_4;subst h2_4
   simp only[vH,bit,ae,ak,af]at hp
   subst hp
   exact Ws x0 x1 x2 x3 y0 y1 y2 y3 w⟩
set_option maxRecDepth 100000 in
theorem Wt(x0:Int)(x1:Int)(x2:Bool)(x3:UInt8)(y0:Int)(y1:Int)(y2:Bool)(y3:UInt8)(w:World):(binOp .eql 8 (.agg #[.int .i64 x0,.int .i64 x1,.bool x2,.int .u8 (x3.toNat:Int)]) (.agg #[.int .i64 y0,.int .i64 y1,.bool y2,.int .u8 (y3.toNat:Int)])).run Tryz.prog w=.ok (.bool (decide (x0=y0/\x1=y1/\x2=y2/\(x3.toNat:Int)=(y3.toNat:Int)))) w:=by
 simp[go_sem];repeat' split
 all_goals simp_all
theorem eq_8:MX KT Tryz.prog 8 ([.int .i64 0,.int .i64 0,.tt false,.u8 0]:List (CV Sx)):=⟨by kernel_rfl,fun g m vs ws p xs ys w hv hw hp h1 h2=>by
 obtain⟨x0,_,rfl,hv1⟩:=bR hv;obtain⟨x1,_,rfl,hv2⟩:=bR hv1;rcases yi hv2 with⟨x2,_,_,_,_,rfl,hv3⟩|⟨x2,_,rfl,hv3⟩
 all_goals
  obtain⟨x3,_,rfl,hv4⟩:=yj hv3
  obtain rfl:=eh hv4
  obtain⟨y0,_,rfl,hw1⟩:=bR hw
  obtain⟨y1,_,rfl,hw2⟩:=bR hw1
  rcases yi hw2 with⟨y2,_,_,_,_,rfl,hw3⟩|⟨y2,_,rfl,hw3⟩
  all_goals
   obtain⟨y3,_,rfl,hw4⟩:=yj hw3
   obtain rfl:=eh hw4
   obtain⟨_,rfl,h1_1⟩:=bX h1
   obtain⟨_,rfl,h1_2⟩:=bX h1_1
   first|obtain⟨_,rfl,h1_3⟩:=C5 h1_2|obtain⟨_,rfl,h1_3⟩:=CX h1_2
   obtain⟨_,rfl,h1_4⟩:=C6 h1_3
   simp only[cb]at h1_4;subst h1_4
   obtain⟨_,rfl,h2_1⟩:=bX h2
   obtain⟨_,rfl,h2_2⟩:=bX h2_1
   first|obtain⟨_,rfl,h2_3⟩:=C5 h2_2|obtain⟨_,rfl,h2_3⟩:=CX h2_2
   obtain⟨_,rfl,h2_4⟩:=C6 h2_3
   simp only[cb]at h2_4;subst h2_4
   simp only[vH,bit,ae,ak,af]at hp
   subst hp
   exact Wt x0 x1 x2 x3 y0 y1 y2 y3 w⟩
set_option maxRecDepth 100000 in
theorem Uw(x0:Int)(x1:Int)(y0:Int)(y1:Int)(w:World):(binOp .eql 31 (.agg #[.int .i64 x0,.int .i64 x1]) (.agg #[.int .i64 y0,.int .i64 y1])).run Tryz.prog w=.ok (.bool (decide (x0=y0/\x1=y1))) w:=by
 simp[go_sem];repeat' split
 all_goals simp_all
theorem eq_31:MX KT Tryz.prog 31 ([.int .i64 0,.int .i64 0]:List (CV Sx)):=⟨by kernel_rfl,fun g m vs ws p xs ys w hv hw hp h1 h2=>by
 obtain⟨x0,_,rfl,hv1⟩:=bR hv;obtain⟨x1,_,rfl,hv2⟩:=bR hv1;obtain rfl:=eh hv2;obtain⟨y0,_,rfl,hw1⟩:=bR hw;obtain⟨y1,_,rfl,hw2⟩:=bR hw1;obtain rfl:=eh hw2;obtain⟨_,rfl,h1_1⟩:=bX h1;obtain⟨_,rfl,h1_2⟩:=bX h1_1;simp only[cb]at h1_2;subst h1_2;obtain⟨_,rfl,h2_1⟩:=bX h2;obtain⟨_,rfl,h2_2⟩:=bX h2_1;simp only[cb]at h2_2;subst h2_2;simp only[vH,bit,ae,ak,af]at hp;subst hp;exact Uw x0 x1 y0 y1 w⟩
theorem eq_34:MX KT Tryz.prog 34 ([.a8 32 (fun _=>0)]:List (CV Sx)):=⟨by kernel_rfl,fun g m vs ws p xs ys w hv hw hp h1 h2=>by cases vs<;>simp[kindOk]at hv⟩
set_option maxRecDepth 100000 in
theorem Ux(x0:Int)(x1:Int)(y0:Int)(y1:Int)(w:World):(binOp .eql 66 (.agg #[.int .i64 x0,.int .i64 x1]) (.agg #[.int .i64 y0,.int .i64 y1])).run Tryz.prog w=.ok (.bool (decide (x0=y0/\x1=y1))) w:=by
 simp[go_sem];repeat' split
 all_goals simp_all
theorem Wu:MX KT Tryz.prog 66 ([.int .i64 0,.int .i64 0]:List (CV Sx)):=⟨by kernel_rfl,fun g m vs ws p xs ys w hv hw hp h1 h2=>by
 obtain⟨x0,_,rfl,hv1⟩:=bR hv;obtain⟨x1,_,rfl,hv2⟩:=bR hv1;obtain rfl:=eh hv2;obtain⟨y0,_,rfl,hw1⟩:=bR hw;obtain⟨y1,_,rfl,hw2⟩:=bR hw1;obtain rfl:=eh hw2;obtain⟨_,rfl,h1_1⟩:=bX h1;obtain⟨_,rfl,h1_2⟩:=bX h1_1;simp only[cb]at h1_2;subst h1_2;obtain⟨_,rfl,h2_1⟩:=bX h2;obtain⟨_,rfl,h2_2⟩:=bX h2_1;simp only[cb]at h2_2;subst h2_2;simp only[vH,bit,ae,ak,af]at hp;subst hp;exact Ux x0 x1 y0 y1 w⟩
set_option maxRecDepth 100000 in
theorem Uy(x0:Int)(x1:Int)(y0:Int)(y1:Int)(w:World):(binOp .eql 84 (.agg #[.int .i64 x0,.int .u64 x1]) (.agg #[.int .i64 y0,.int .u64 y1])).run Tryz.prog w=.ok (.bool (decide (x0=y0/\x1=y1))) w:=by
 simp[go_sem];repeat' split
 all_goals simp_all
theorem Wv:MX KT Tryz.prog 84 ([.int .i64 0,.int .u64 0]:List (CV Sx)):=⟨by kernel_rfl,fun g m vs ws p xs ys w hv hw hp h1 h2=>by
 obtain⟨x0,_,rfl,hv1⟩:=bR hv;obtain⟨x1,_,rfl,hv2⟩:=bR hv1;obtain rfl:=eh hv2;obtain⟨y0,_,rfl,hw1⟩:=bR hw;obtain⟨y1,_,rfl,hw2⟩:=bR hw1;obtain rfl:=eh hw2;obtain⟨_,rfl,h1_1⟩:=bX h1;obtain⟨_,rfl,h1_2⟩:=bX h1_1;simp only[cb]at h1_2;subst h1_2;obtain⟨_,rfl,h2_1⟩:=bX h2;obtain⟨_,rfl,h2_2⟩:=bX h2_1;simp only[cb]at h2_2;subst h2_2;simp only[vH,bit,ae,ak,af]at hp;subst hp;exact Uy x0 x1 y0 y1 w⟩
set_option maxRecDepth 100000 in
theorem Uz(x0:Int)(x1:Int)(y0:Int)(y1:Int)(w:World):(binOp .eql 89 (.agg #[.int .u64 x0,.int .i64 x1]) (.agg #[.int .u64 y0,.int .i64 y1])).run Tryz.prog w=.ok (.bool (decide (x0=y0/\x1=y1))) w:=by
 simp[go_sem];repeat' split
 all_goals simp_all
theorem Ww:MX KT Tryz.prog 89 ([.int .u64 0,.int .i64 0]:List (CV Sx)):=⟨by kernel_rfl,fun g m vs ws p xs ys w hv hw hp h1 h2=>by
 obtain⟨x0,_,rfl,hv1⟩:=bR hv;obtain⟨x1,_,rfl,hv2⟩:=bR hv1;obtain rfl:=eh hv2;obtain⟨y0,_,rfl,hw1⟩:=bR hw;obtain⟨y1,_,rfl,hw2⟩:=bR hw1;obtain rfl:=eh hw2;obtain⟨_,rfl,h1_1⟩:=bX h1;obtain⟨_,rfl,h1_2⟩:=bX h1_1;simp only[cb]at h1_2;subst h1_2;obtain⟨_,rfl,h2_1⟩:=bX h2;obtain⟨_,rfl,h2_2⟩:=bX h2_1;simp only[cb]at h2_2;subst h2_2;simp only[vH,bit,ae,ak,af]at hp;subst hp;exact Uz x0 x1 y0 y1 w⟩
set_option maxRecDepth 100000 in
theorem RB(x0:Int)(x1:Int)(x2:Int)(x3:Int)(x4:Int)(y0:Int)(y1:Int)(y2:Int)(y3:Int)(y4:Int)(w:World):(binOp .eql 167 (.agg #[.int .i64 x0,.int .i64 x1,.int .i64 x2,.int .i64 x3,.int .i64 x4]) (.agg #[.int .i64 y0,.int .i64 y1,.int .i64 y2,.int .i64 y3,.int .i64 y4])).run Tryz.prog w=.ok (.bool (decide (x0=y0/\x1=y1/\x2=y2/\x3=y3/\x4=y4))) w:=by
 simp[go_sem];repeat' split
 all_goals simp_all
theorem UC:MX KT Tryz.prog 167 ([.int .i64 0,.int .i64 0,.int .i64 0,.int .i64 0,.int .i64 0]:List (CV Sx)):=⟨by kernel_rfl,fun g m vs ws p xs ys w hv hw hp h1 h2=>by
 obtain⟨x0,_,rfl,hv1⟩:=bR hv;obtain⟨x1,_,rfl,hv2⟩:=bR hv1;obtain⟨x2,_,rfl,hv3⟩:=bR hv2;obtain⟨x3,_,rfl,hv4⟩:=bR hv3;obtain⟨x4,_,rfl,hv5⟩:=bR hv4;obtain rfl:=eh hv5;obtain⟨y0,_,rfl,hw1⟩:=bR hw;obtain⟨y1,_,rfl,hw2⟩:=bR hw1;obtain⟨y2,_,rfl,hw3⟩:=bR hw2;obtain⟨y3,_,rfl,hw4⟩:=bR hw3;obtain⟨y4,_,rfl,hw5⟩:=bR hw4;obtain rfl:=eh hw5;obtain⟨_,rfl,h1_1⟩:=bX h1;obtain⟨_,rfl,h1_2⟩:=bX h1_1;obtain⟨_,rfl,h1_3⟩:=bX h1_2;obtain⟨_,rfl,h1_4⟩:=bX h1_3;obtain⟨_,rfl,h1_5⟩:=bX h1_4;simp only[cb]at h1_5;subst h1_5;obtain⟨_,rfl,h2_1⟩:=bX h2;obtain⟨_,rfl,h2_2⟩:=bX h2_1;obtain⟨_,rfl,h2_3⟩:=bX h2_2;obtain⟨_,rfl,h2_4⟩:=bX h2_3;obtain⟨_,rfl,h2_5⟩:=bX h2_4;simp only[cb]at h2_5;subst h2_5;simp only[vH,bit,ae,ak,af]at hp;subst hp;exact RB x0 x1 x2 x3 x4 y0 y1 y2 y3 y4 w⟩
set_option maxRecDepth 100000 in
theorem RD(x0:Int)(x1:Int)(y0:Int)(y1:Int)(w:World):(binOp .eql 251 (.agg #[.int .i64 x0,.int .i64 x1]) (.agg #[.int .i64 y0,.int .i64 y1])).run Tryz.prog w=.ok (.bool (decide (x0=y0/\x1=y1))) w:=by
 simp[go_sem];repeat' split
 all_goals simp_all
theorem UD:MX KT Tryz.prog 251 ([.int .i64 0,.int .i64 0]:List (CV Sx)):=⟨by kernel_rfl,fun g m vs ws p xs ys w hv hw hp h1 h2=>by
 obtain⟨x0,_,rfl,hv1⟩:=bR hv;obtain⟨x1,_,rfl,hv2⟩:=bR hv1;obtain rfl:=eh hv2;obtain⟨y0,_,rfl,hw1⟩:=bR hw;obtain⟨y1,_,rfl,hw2⟩:=bR hw1;obtain rfl:=eh hw2;obtain⟨_,rfl,h1_1⟩:=bX h1;obtain⟨_,rfl,h1_2⟩:=bX h1_1;simp only[cb]at h1_2;subst h1_2;obtain⟨_,rfl,h2_1⟩:=bX h2;obtain⟨_,rfl,h2_2⟩:=bX h2_1;simp only[cb]at h2_2;subst h2_2;simp only[vH,bit,ae,ak,af]at hp;subst hp;exact RD x0 x1 y0 y1 w⟩
set_option maxRecDepth 100000 in
theorem VO:∀p∈XV,Bs Tryz.prog p.1 p.2:=VP (by kernel_rfl) (by kernel_rfl) (by kernel_rfl)
theorem YZ:c9 Tryz.prog KT tt:=Yr rfl VO (by kernel_rfl) (by
 rw[show(XV.filter fun p=>p.2.eq).map (fun p=>(p.1,p.2.zero))=[(7,[.int .i64 0,.int .i64 0,.tt false,.u8 0]),(8,[.int .i64 0,.int .i64 0,.tt false,.u8 0]),(31,[.int .i64 0,.int .i64 0]),(34,[.a8 32 (fun _=>0)]),(66,[.int .i64 0,.int .i64 0]),(84,[.int .i64 0,.int .u64 0]),(89,[.int .u64 0,.int .i64 0]),(167,[.int .i64 0,.int .i64 0,.int .i64 0,.int .i64 0,.int .i64 0]),(251,[.int .i64 0,.int .i64 0])]by kernel_rfl];exact b9 eq_7<|b9 eq_8<|b9 eq_31<|b9 eq_34<|b9 Wu<|b9 Wv<|b9 Ww<|b9 UC<|b9 UD<|bQ) (by kernel_rfl) (by
 rw[show PR XV=[]by kernel_rfl];exact bQ)
theorem X5:Tryz.prog.follows .mixedOrders=true:=by kernel_rfl
abbrev SX(c:gj Sx):Prop:=Sound Tryz.prog KT c
abbrev YQ(c:NC Sx):Prop:=n5 Tryz.prog KT c
set_option maxRecDepth 100000 in
theorem fq(fn:Func)(rs:List ResultVar)(fa:FA Sx)(an:An){Φ:List (gj Sx)}{c:gj Sx}(hΦ:∀c∈Φ,SX c)(hev:∀x,Wx tb tt Φ fa c rs (bd fn) an x=c.D0 x:=by intro x;kernel_rfl)(h:facts Tryz.prog fn c.f fa.fn c.ins.length=Qb fn rs:=by kernel_rfl)(hΨ:∀c∈fa.nd,YQ c:=by intro c hc;cases hc):SX c:=
 X4 YZ X5 (fun _=>rfl) hΦ hev h hΨ
theorem c1{a:gj Sx}{l:List (gj Sx)}(h:SX a)(hl:∀c∈l,SX c):∀c∈a::l,SX c:=b9 h hl
end E
end Go.Proofs.YtjfkdglgecgjfaaGreat
