/- Part of the proof. -/
import Derived.Test.YtjfkdglgecgjfaaGreatZEvD
import Derived.Test.YtjfkdglgecgjfaaGreatProg
namespace Go.Proofs.YtjfkdglgecgjfaaGreat
open Go.RowKit G
def Bx:Mem->Prop:=E.GB 0
theorem QI{m m2:Mem}(h:Bx m)(k:Le m m2):Bx m2:=E.GB.mono h k
namespace E
def Sx:Nat->Type
 |0=>dn
 |1=>sJ
 |2=>jz
 |3=>FO
 |4=>pa
 |5=>j0
 |6=>bM
 |7=>sd
 |_=>Bool
def tb:Tb Sx
 |0=>{fs:=[(.int .i64),(.int .i64)],to:=fun(x:dn)=>(x.code,x.at_,()),of:=fun h=>(⟨h.1,h.2.1⟩:dn)}
 |1=>{fs:=[(.int .i64),(.int .i64)],to:=fun(x:sJ)=>(x.code,x.at_,()),of:=fun h=>(⟨h.1,h.2.1⟩:sJ)}
 |2=>{fs:=[(.int .i64),(.int .i64),(.int .i64),(.int .i64),(.sl .u8)],to:=fun(x:jz)=>(x.kind,x.to,x.GV,x.len,x.data,()),of:=fun h=>(⟨h.1,h.2.1,h.2.2.1,h.2.2.2.1,h.2.2.2.2.1⟩:jz)}
 |3=>{fs:=[(.int .i64),(.int .i64),(.a8 32),(.a8 32),(.sl (.st 2))],to:=fun(x:FO)=>(x.Nf,x.M5,x.Kj,x.J8,x.Gj,()),of:=fun h=>(⟨h.1,h.2.1,h.2.2.1,h.2.2.2.1,h.2.2.2.2.1⟩:FO)}
 |4=>{fs:=[(.int .i64),(.int .i64)],to:=fun(x:pa)=>(x.off,x.len,()),of:=fun h=>(⟨h.1,h.2.1⟩:pa)}
 |5=>{fs:=[(.int .i64),(.int .i64),(.int .i64),(.int .i64),(.int .i64),(.int .i64),(.int .i64)],to:=fun(x:j0)=>(x.size,x.bound,x.file.off,x.file.len,x.DE.off,x.DE.len,x.KF,()),of:=fun h=>(⟨h.1,h.2.1,(⟨h.2.2.1,h.2.2.2.1⟩:pa),(⟨h.2.2.2.2.1,h.2.2.2.2.2.1⟩:pa),h.2.2.2.2.2.2.1⟩:j0)}
 |6=>{fs:=[(.int .i64),(.int .i64),(.int .i64),(.int .i64),(.int .i64),(.int .i64),(.sl .u8)],to:=fun(x:bM)=>(x.index,x.command,x.chunk.kind,x.chunk.to,x.chunk.GV,x.chunk.len,x.chunk.data,()),of:=fun h=>(⟨h.1,h.2.1,(⟨h.2.2.1,h.2.2.2.1,h.2.2.2.2.1,h.2.2.2.2.2.1,h.2.2.2.2.2.2.1⟩:jz)⟩:bM)}
 |7=>{fs:=[(.int .i64),(.int .i64),(.int .i64),(.int .i64),(.int .i64),(.int .i64),(.sl .u8)],to:=fun(x:sd)=>(x.index,x.command,x.chunk.kind,x.chunk.to,x.chunk.GV,x.chunk.len,x.chunk.data,()),of:=fun h=>(⟨h.1,h.2.1,(⟨h.2.2.1,h.2.2.2.1,h.2.2.2.2.1,h.2.2.2.2.2.1,h.2.2.2.2.2.2.1⟩:jz)⟩:sd)}
 |_+8=>{fs:=[.bo],to:=fun(x:Bool)=>(x,()),of:=fun h=>h.1}
def PF:List (Nat×TI Sx):=[(1,⟨.func,1,8,[.dI],.bo,false⟩),
 (2,⟨.int .i64,1,8,[.int .i64 0],(.int .i64),false⟩),
 (3,⟨.int .i64,1,8,[.int .i64 0],(.int .i64),false⟩),
 (4,⟨.bool,1,1,[.tt false],.bo,false⟩),
 (5,⟨.int .u8,1,1,[.u8 0],.u8,false⟩),
 (6,⟨.int .u8,1,1,[.u8 0],.u8,false⟩),
 (9,⟨.str,1,16,[.str []],.str,false⟩),
 (16,⟨.ptr 398,1,8,[.dM],.bo,false⟩),
 (22,⟨.slice 9,1,24,[.dx],(.sl .str),false⟩),
 (23,⟨.ptr 62,1,8,[.dM],.bo,false⟩),
 (24,⟨.int .i64,1,8,[.int .i64 0],(.int .i64),false⟩),
 (29,⟨.func,1,8,[.dI],.bo,false⟩),
 (30,⟨.struct [(24,0,1),(3,1,1)],2,16,[.int .i64 0,.int .i64 0],(.st 0),true⟩),
 (31,⟨.struct [(24,0,1),(3,1,1)],2,16,[.int .i64 0,.int .i64 0],(.st 1),true⟩),
 (32,⟨.func,1,8,[.dI],.bo,false⟩),
 (34,⟨.array 32 5,32,32,[.a8 32 (fun _=>0)],(.a8 32),true⟩),
 (35,⟨.slice 50,1,24,[.dx],(.sl (.st 2)),false⟩),
 (37,⟨.struct [(3,0,1),(3,1,1),(34,2,32),(34,34,32),(35,66,1)],67,104,[.int .i64 0,.int .i64 0,.a8 32 (fun _=>0),.a8 32 (fun _=>0),.dx],(.st 3),false⟩),
 (38,⟨.slice 5,1,24,[.dx],(.sl .u8),false⟩),
 (40,⟨.func,1,8,[.dI],.bo,false⟩),
 (50,⟨.struct [(3,0,1),(3,1,1),(3,2,1),(3,3,1),(38,4,1)],5,56,[.int .i64 0,.int .i64 0,.int .i64 0,.int .i64 0,.dx],(.st 2),false⟩),
 (56,⟨.ptr 163,1,8,[.dM],.bo,false⟩),
 (58,⟨.struct [(56,0,1),(3,1,1),(3,2,1)],3,24,[.dM,.int .i64 0,.int .i64 0],.bo,false⟩),
 (59,⟨.ptr 132,1,8,[.dM],.bo,false⟩),
 (60,⟨.ptr 218,1,8,[.dM],.bo,false⟩),
 (62,⟨.struct [(58,0,3),(37,3,67),(59,70,1),(60,71,1),(3,72,1),(3,73,1),(4,74,1)],75,168,[.dM,.int .i64 0,.int .i64 0,.int .i64 0,.int .i64 0,.a8 32 (fun _=>0),.a8 32 (fun _=>0),.dx,.dM,.dM,.int .i64 0,.int .i64 0,.tt false],.bo,false⟩),
 (66,⟨.struct [(3,0,1),(3,1,1)],2,16,[.int .i64 0,.int .i64 0],(.st 4),true⟩),
 (68,⟨.struct [(3,0,1),(3,1,1),(66,2,2),(66,4,2),(3,6,1)],7,56,[.int .i64 0,.int .i64 0,.int .i64 0,.int .i64 0,.int .i64 0,.int .i64 0,.int .i64 0],(.st 5),false⟩),
 (97,⟨.func,1,8,[.dI],.bo,false⟩),
 (98,⟨.func,1,8,[.dI],.bo,false⟩),
 (99,⟨.func,1,8,[.dI],.bo,false⟩),
 (100,⟨.func,1,8,[.dI],.bo,false⟩),
 (101,⟨.func,1,8,[.dI],.bo,false⟩),
 (102,⟨.func,1,8,[.dI],.bo,false⟩),
 (104,⟨.func,1,8,[.dI],.bo,false⟩),
 (108,⟨.func,1,8,[.dI],.bo,false⟩),
 (109,⟨.ptr 208,1,8,[.dM],.bo,false⟩),
 (110,⟨.func,1,8,[.dI],.bo,false⟩),
 (111,⟨.func,1,8,[.dI],.bo,false⟩),
 (112,⟨.func,1,8,[.dI],.bo,false⟩),
 (114,⟨.struct [(3,0,1),(3,1,1),(50,2,5)],7,72,[.int .i64 0,.int .i64 0,.int .i64 0,.int .i64 0,.int .i64 0,.int .i64 0,.dx],(.st 6),false⟩),
 (115,⟨.struct [(3,0,1),(3,1,1),(50,2,5)],7,72,[.int .i64 0,.int .i64 0,.int .i64 0,.int .i64 0,.int .i64 0,.int .i64 0,.dx],(.st 7),false⟩),
 (117,⟨.func,1,8,[.dI],.bo,false⟩),
 (142,⟨.slice 38,1,24,[.dx],(.sl (.sl .u8)),false⟩),
 (202,⟨.int .u32,1,4,[.int .u32 0],(.int .u32),false⟩),
 (238,⟨.int .u64,1,8,[.int .u64 0],(.int .u64),false⟩)]
def tt(t:TypeId):Option (TI Sx):=look t PF
end E
namespace E
theorem OG:∀i,(tb i).fs.all yk=true
 |0=>rfl
 |1=>rfl
 |2=>rfl
 |3=>rfl
 |4=>rfl
 |5=>rfl
 |6=>rfl
 |7=>rfl
 |_+8=>rfl
theorem max_:∀i,(tb i).fs.all (fun c=>Nat.ble (oW c) i)=true
 |0=>rfl
 |1=>rfl
 |2=>rfl
 |3=>rfl
 |4=>rfl
 |5=>rfl
 |6=>rfl
 |7=>rfl
 |_+8=>by simp[tb,oW]
theorem QS:∀i,(tb i).fs≠[]
 |0=>(fun h=>by cases h)
 |1=>(fun h=>by cases h)
 |2=>(fun h=>by cases h)
 |3=>(fun h=>by cases h)
 |4=>(fun h=>by cases h)
 |5=>(fun h=>by cases h)
 |6=>(fun h=>by cases h)
 |7=>(fun h=>by cases h)
 |_+8=>(fun h=>by cases h)
theorem NH:∀i (h:HL Sx (tb i).fs),(tb i).to ((tb i).of h)=h
 |0,_=>rfl
 |1,_=>rfl
 |2,_=>rfl
 |3,_=>rfl
 |4,_=>rfl
 |5,_=>rfl
 |6,_=>rfl
 |7,_=>rfl
 |_+8,_=>rfl
noncomputable def KT:db tb:=Qj (O5 Tryz.prog) Bx QI OG (fun i c hc=>aj (aF.1 (max_ i) c hc)) QS NH
set_option maxRecDepth 100000 in
theorem My(x0:Int)(x1:Int)(y0:Int)(y1:Int)(w:World):(binOp .eql 30 (.agg #[.int .i64 x0,.int .i64 x1]) (.agg #[.int .i64 y0,.int .i64 y1])).run Tryz.prog w=.ok (.bool (decide (x0=y0/\x1=y1))) w:=by
 simp[go_sem];repeat' split
 all_goals simp_all
theorem eq_30:NS KT Tryz.prog 30 ([.int .i64 0,.int .i64 0]:List (CV Sx)):=⟨by kernel_rfl,fun g m vs ws p xs ys w hv hw hp h1 h2=>by
 obtain⟨x0,_,rfl,hv1⟩:=eG hv;obtain⟨x1,_,rfl,hv2⟩:=eG hv1;obtain rfl:=kI hv2;obtain⟨y0,_,rfl,hw1⟩:=eG hw;obtain⟨y1,_,rfl,hw2⟩:=eG hw1;obtain rfl:=kI hw2;obtain⟨_,rfl,h1_1⟩:=fG h1;obtain⟨_,rfl,h1_2⟩:=fG h1_1;simp only[bT]at h1_2;subst h1_2;obtain⟨_,rfl,h2_1⟩:=fG h2;obtain⟨_,rfl,h2_2⟩:=fG h2_1;simp only[bT]at h2_2;subst h2_2;simp only[zI,bit,ah,ak,ae]at hp;subst hp;exact My x0 x1 y0 y1 w⟩
set_option maxRecDepth 100000 in
theorem Mz(x0:Int)(x1:Int)(y0:Int)(y1:Int)(w:World):(binOp .eql 31 (.agg #[.int .i64 x0,.int .i64 x1]) (.agg #[.int .i64 y0,.int .i64 y1])).run Tryz.prog w=.ok (.bool (decide (x0=y0/\x1=y1))) w:=by
 simp[go_sem];repeat' split
 all_goals simp_all
theorem eq_31:NS KT Tryz.prog 31 ([.int .i64 0,.int .i64 0]:List (CV Sx)):=⟨by kernel_rfl,fun g m vs ws p xs ys w hv hw hp h1 h2=>by
 obtain⟨x0,_,rfl,hv1⟩:=eG hv;obtain⟨x1,_,rfl,hv2⟩:=eG hv1;obtain rfl:=kI hv2;obtain⟨y0,_,rfl,hw1⟩:=eG hw;obtain⟨y1,_,rfl,hw2⟩:=eG hw1;obtain rfl:=kI hw2;obtain⟨_,rfl,h1_1⟩:=fG h1;obtain⟨_,rfl,h1_2⟩:=fG h1_1;simp only[bT]at h1_2;subst h1_2;obtain⟨_,rfl,h2_1⟩:=fG h2;obtain⟨_,rfl,h2_2⟩:=fG h2_1;simp only[bT]at h2_2;subst h2_2;simp only[zI,bit,ah,ak,ae]at hp;subst hp;exact Mz x0 x1 y0 y1 w⟩
theorem eq_34:NS KT Tryz.prog 34 ([.a8 32 (fun _=>0)]:List (CV Sx)):=⟨by kernel_rfl,fun g m vs ws p xs ys w hv hw hp h1 h2=>by cases vs<;>simp[kindOk]at hv⟩
set_option maxRecDepth 100000 in
theorem MA(x0:Int)(x1:Int)(y0:Int)(y1:Int)(w:World):(binOp .eql 66 (.agg #[.int .i64 x0,.int .i64 x1]) (.agg #[.int .i64 y0,.int .i64 y1])).run Tryz.prog w=.ok (.bool (decide (x0=y0/\x1=y1))) w:=by
 simp[go_sem];repeat' split
 all_goals simp_all
theorem Ou:NS KT Tryz.prog 66 ([.int .i64 0,.int .i64 0]:List (CV Sx)):=⟨by kernel_rfl,fun g m vs ws p xs ys w hv hw hp h1 h2=>by
 obtain⟨x0,_,rfl,hv1⟩:=eG hv;obtain⟨x1,_,rfl,hv2⟩:=eG hv1;obtain rfl:=kI hv2;obtain⟨y0,_,rfl,hw1⟩:=eG hw;obtain⟨y1,_,rfl,hw2⟩:=eG hw1;obtain rfl:=kI hw2;obtain⟨_,rfl,h1_1⟩:=fG h1;obtain⟨_,rfl,h1_2⟩:=fG h1_1;simp only[bT]at h1_2;subst h1_2;obtain⟨_,rfl,h2_1⟩:=fG h2;obtain⟨_,rfl,h2_2⟩:=fG h2_1;simp only[bT]at h2_2;subst h2_2;simp only[zI,bit,ah,ak,ae]at hp;subst hp;exact MA x0 x1 y0 y1 w⟩
set_option maxRecDepth 100000 in
theorem NI:∀p∈PF,vZ Tryz.prog p.1 p.2:=NJ (by kernel_rfl) (by kernel_rfl) (by kernel_rfl)
theorem QU:cu Tryz.prog KT tt:=Qm rfl NI (by kernel_rfl) (by
 rw[show(PF.filter fun p=>p.2.eq).map (fun p=>(p.1,p.2.zero))=[(30,[.int .i64 0,.int .i64 0]),(31,[.int .i64 0,.int .i64 0]),(34,[.a8 32 (fun _=>0)]),(66,[.int .i64 0,.int .i64 0])]by kernel_rfl];exact cw eq_30<|cw eq_31<|cw eq_34<|cw Ou<|dT) (by kernel_rfl) (by
 rw[show Il PF=[]by kernel_rfl];exact dT)
theorem PX:Tryz.prog.follows .mixedOrders=true:=by kernel_rfl
abbrev SX(c:jr Sx):Prop:=Sound Tryz.prog KT c
abbrev QK(c:NC Sx):Prop:=kZ Tryz.prog KT c
set_option maxRecDepth 100000 in
theorem fq(fn:Func)(rs:List ResultVar)(fa:FA Sx)(an:An){Φ:List (jr Sx)}{c:jr Sx}(hΦ:∀c∈Φ,SX c)(hev:∀x,Ov tb tt Φ fa c rs (bd fn) an x=c.yO x:=by intro x;kernel_rfl)(h:facts Tryz.prog fn c.f fa.fn c.ins.length=IG fn rs:=by kernel_rfl)(hΨ:∀c∈fa.nd,QK c:=by intro c hc;cases hc):SX c:=
 PQ QU PX (fun _=>rfl) hΦ hev h hΨ
theorem c1{a:jr Sx}{l:List (jr Sx)}(h:SX a)(hl:∀c∈l,SX c):∀c∈a::l,SX c:=cw h hl
end E
end Go.Proofs.YtjfkdglgecgjfaaGreat
